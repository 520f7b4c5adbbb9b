/- Merged by a program of this session (wip/tools/pack.py). -/
import Derived.Test.YtllahlgnjeeliaaKTrieEach1
import Derived.Deep.Slices
import Derived.Deep.Fields
import Derived.ChangeSame
import Derived.OpenShut
import Derived.SizedLaws
section
set_option linter.unusedVariables false
set_option linter.unusedSimpArgs false
namespace Go.Proofs.Ytllahlgnjeeliaa.Ad
open Go.RowKit Go.Proofs.YtllahlgnjeeliaaW.PrintWords Go.Proofs.YtllahlgnjeeliaaW.PrintLast Go.Proofs.YtllahlgnjeeliaaW.PrintMore Go.Proofs.Ytllahlgnjeeliaa.PT

/-- What the closure has told behind some. -/
def ansV (p : Pfx) (an : Int) (vs : List Vrp) : Int := match vs.getLast? with
 | none => 0
 | some v => if hitB p an v then 2 else 1
theorem ansV_snoc (p : Pfx) (an : Int) (vs : List Vrp) (v : Vrp) : ansV p an (vs ++ [v]) = if hitB p an v then 2 else 1 := by simp [ansV]
theorem ans_go (p : Pfx) (an : Int) : ∀ l : List Vrp, ansV p an (goL (fun v => !hitB p an v) l) = answerP l p an
 | [] => rfl
 | v :: r => by
  have ih := ans_go p an r
  rw [goL]
  cases hh : hitB p an v
  ·simp only [Bool.not_false, if_true]
   cases r with
   | nil => simp [goL, ansV, answerP, hh]
   | cons u r =>
    have hne : goL (fun v => !hitB p an v) (u :: r) ≠ [] := by
     rw [goL]; split <;> simp
    have e : ansV p an (v :: goL (fun v => !hitB p an v) (u :: r)) = ansV p an (goL (fun v => !hitB p an v) (u :: r)) := by
     unfold ansV
     rw [List.getLast?_cons]
     cases h : (goL (fun v => !hitB p an v) (u :: r)).getLast? with
     | none => exact absurd (List.getLast?_eq_none_iff.1 h) hne
     | some x => rfl
    rw [e, ih]
    unfold answerP
    rw [show (v :: u :: r).any (hitB p an) = (u :: r).any (hitB p an) by rw [List.any_cons, hh, Bool.false_or]]
    simp
  ·simp only [Bool.not_true, if_false, Bool.false_eq_true]
   unfold answerP
   rw [List.any_cons, hh, Bool.true_or, if_pos rfl]
   simp [ansV, hh]
def JA (W0 : World) (ga gs gp : Nat) (an : Int) (p : Pfx) (vs : List Vrp) (W : World) : Prop :=
 Has W ga #[.int .i64 (ansV p an vs)] 3 ∧ Has W gs #[.int .u32 an] 26 ∧ Has W gp p.arr 25 ∧ Below W0.heap.size W0 W ∧ W0.heap.size ≤ ga

set_option maxHeartbeats 2000000 in
set_option maxRecDepth 100000 in
theorem ans1_walk (W0 : World) (ga gs gp : Nat) (an : Int) (p : Pfx) (vs : List Vrp) (v : Vrp) (W : World) (h : JA W0 ga gs gp an p vs W) :
 Calls Try.prog 28 #[.agg v.arr, .pointer (some ⟨ga, 0, none⟩), .pointer (some ⟨gs, 0, none⟩), .pointer (some ⟨gp, 0, none⟩)] W fun e w' => e = .returned (.bool (!hitB p an v)) ∧ JA W0 ga gs gp an p (vs ++ [v]) w' ∧ ∀ g (q : Pfx), Has W g q.arr 25 → Has w' g q.arr 25 := by
 have HJ := Lib.hid h
 have hW1 : Has (W.alloc (.cells v.arr 39)) W.heap.size v.arr 39 := Has.new _ _ _
 have HA1 := h.1.alloc (.cells v.arr 39)
 have HS1 := h.2.1.alloc (.cells v.arr 39)
 have HP1 := h.2.2.1.alloc (.cells v.arr 39)
 have HB1 := h.2.2.2.1.alloc h.2.2.2.1.size (.cells v.arr 39)
 have hK1 : ∀ g (q : Pfx), Has W g q.arr 25 → Has (W.alloc (.cells v.arr 39)) g q.arr 25 := fun g q hq => hq.alloc _
 clear h
 obtain ⟨z, hz⟩ : ∃ z, z = hitB p an v := ⟨_, rfl⟩
 rw [← hz]
 have hsn : ansV p an (vs ++ [v]) = if z then 2 else 1 := by rw [ansV_snoc, hz]
 have HZ := Lib.hid (And.intro hz hsn)
 clear hz hsn
 go_enter Try.func28, Try.ntmps28
 go_upto_region 1 with (fail)
 generalize W.alloc (.cells v.arr 39) = W1 at hW1 HA1 HS1 HP1 HB1 hK1 ⊢
 have ca := HA1.c 0
 have fa := HA1.f 0
 have ca' : W1.cell? ⟨ga, 0, none⟩ = some (.int .i64 (ansV p an vs)) := ca
 go_upto_region 2 with (fail)
 have n1 : ga ≠ gs := HA1.ne HS1 (by decide)
 have n2 : ga ≠ gp := HA1.ne HP1 (by decide)
 have n3 : ga ≠ W.heap.size := HA1.ne hW1 (by decide)
 have HA2 : Has (W1.setCell ⟨ga, 0, none⟩ (.int .i64 1)) ga #[.int .i64 1] 3 := by unfold Has; rw [heap_setCell_same _ _ _ _ _ _ HA1]; rfl
 have HS2 := HS1.far (p := ⟨ga, 0, none⟩) (fun e => n1 e.symm) (.int .i64 1)
 have HP2 := HP1.far (p := ⟨ga, 0, none⟩) (fun e => n2 e.symm) (.int .i64 1)
 have hW2 := hW1.far (p := ⟨ga, 0, none⟩) (fun e => n3 e.symm) (.int .i64 1)
 have HB2 := Below.setCell HB1 (p := ⟨ga, 0, none⟩) HJ.out.2.2.2.2 (.int .i64 1)
 have hK2 : ∀ g (q : Pfx), Has W g q.arr 25 → Has (W1.setCell ⟨ga, 0, none⟩ (.int .i64 1)) g q.arr 25 := fun g q hq => (hK1 g q hq).far (p := ⟨ga, 0, none⟩) (fun e => (HA1.ne (hK1 g q hq) (by decide)) e.symm) _
 clear ca ca' fa HA1 HS1 HP1 hW1 HB1 hK1 n1 n2 n3
 generalize W1.setCell ⟨ga, 0, none⟩ (.int .i64 1) = W2 at HA2 HS2 HP2 hW2 HB2 hK2 ⊢
 have ca : W2.cell? ⟨ga, 0, none⟩ = some (.int .i64 1) := HA2.c 0
 have fa := HA2.f 0
 have cs_ : W2.cell? ⟨gs, 0, none⟩ = some (.int .u32 an) := HS2.c 0
 have cp := rp_n HP2.rp
 rw [Nat.zero_add] at cp
 have cv := rv_as hW2.rv
 have cm := rv_max hW2.rv
 rw [Nat.zero_add] at cm
 have HH := Lib.hid (And.intro HA2 (And.intro HS2 (And.intro HP2 (And.intro HB2 hK2))))
 clear HA2 HS2 HP2 HB2 hW2 hK2
 by_cases e1 : v.asn = an
 ·have a1 : (v.asn == an) = true := by simpa using e1
  have E1 := Lib.hid e1
  clear e1
  by_cases e3 : an = 0
  ·have b1 : (an == 0) = true := by simpa using e3
   have b2 : (an != 0) = false := by simpa using e3
   have hzf : z = false := by rw [HZ.out.1]; unfold hitB; simp [e3]
   subst hzf
   have E3 := Lib.hid e3
   clear e3
   go_wp2
   go_ret
   exact ⟨rfl, ⟨by rw [HZ.out.2]; exact HH.out.1, HH.out.2.1, HH.out.2.2.1, HH.out.2.2.2.1, HJ.out.2.2.2.2⟩, HH.out.2.2.2.2⟩
  ·have b1 : (an == 0) = false := by simpa using e3
   have b2 : (an != 0) = true := by simpa using e3
   have E3 := Lib.hid e3
   clear e3
   by_cases e2 : p.n ≤ v.max
   ·have a2 : decide (p.n ≤ v.max) = true := decide_eq_true e2
    have hzt : z = true := by rw [HZ.out.1]; unfold hitB; rw [decide_eq_true E1.out, decide_eq_true e2, decide_eq_true E3.out]; rfl
    subst hzt
    go_wp2
    go_ret
    refine ⟨rfl, ⟨?_, ?_, ?_, ?_, HJ.out.2.2.2.2⟩, fun g q hq => ?_⟩
    ·rw [HZ.out.2]; unfold Has; rw [heap_setCell_same _ _ _ _ _ _ HH.out.1]; rfl
    ·exact HH.out.2.1.far (p := ⟨ga, 0, none⟩) (fun e => (HH.out.1.ne HH.out.2.1 (by decide)) e.symm) _
    ·exact HH.out.2.2.1.far (p := ⟨ga, 0, none⟩) (fun e => (HH.out.1.ne HH.out.2.2.1 (by decide)) e.symm) _
    ·exact Below.setCell HH.out.2.2.2.1 (p := ⟨ga, 0, none⟩) HJ.out.2.2.2.2 _
    ·exact (HH.out.2.2.2.2 g q hq).far (p := ⟨ga, 0, none⟩) (fun e => (HH.out.1.ne (HH.out.2.2.2.2 g q hq) (by decide)) e.symm) _
   ·have a2 : decide (p.n ≤ v.max) = false := decide_eq_false e2
    have hzf : z = false := by rw [HZ.out.1]; unfold hitB; rw [decide_eq_false e2]; simp
    subst hzf
    go_wp2
    go_ret
    exact ⟨rfl, ⟨by rw [HZ.out.2]; exact HH.out.1, HH.out.2.1, HH.out.2.2.1, HH.out.2.2.2.1, HJ.out.2.2.2.2⟩, HH.out.2.2.2.2⟩
 ·have a1 : (v.asn == an) = false := by simpa using e1
  have hzf : z = false := by rw [HZ.out.1]; unfold hitB; rw [decide_eq_false e1]; rfl
  subst hzf
  clear e1
  go_wp2
  go_ret
  exact ⟨rfl, ⟨by rw [HZ.out.2]; exact HH.out.1, HH.out.2.1, HH.out.2.2.1, HH.out.2.2.2.1, HJ.out.2.2.2.2⟩, HH.out.2.2.2.2⟩

set_option maxHeartbeats 2000000 in
set_option maxRecDepth 100000 in
theorem answer_walk (base t m : Nat) (N : Path → Option Nat) (H : Path → Value) (acc : List Vrp) (p : Pfx) (an : Int) (w : World) (hT : TN w base t N H m acc) (hlen : acc.length ≤ 140737488355328) :
 Calls Try.prog 12 #[.pointer (some ⟨t, 0, none⟩), .agg p.arr, .int .u32 an] w fun e w' => e = .returned (.int .i64 (answerP (if rightB p then visP acc p else []) p an)) ∧ Below w.heap.size w w' := by
 have HT := Lib.hid hT
 clear hT
 have eg : ∀ args w, (callFunc 28 args).run Try.prog w = .ok (.enter 28 args) w := fun args w => enters_ Try.func28 (by kernel_rfl) rfl args w
 have HE := Lib.hid eg
 clear eg
 have HW : Hid (JA w (w.heap.size + 2) (w.heap.size + 1) w.heap.size an p [] (((w.alloc (.cells p.arr 25)).alloc (.cells #[.int .u32 an] 26)).alloc (.cells #[.int .i64 0] 3))) := by
  refine Lib.hid ⟨?_, ?_, ?_, ?_, by omega⟩
  ·have := Has.new ((w.alloc (.cells p.arr 25)).alloc (.cells #[.int .u32 an] 26)) #[.int .i64 0] 3
   rwa [show ((w.alloc (.cells p.arr 25)).alloc (.cells #[.int .u32 an] 26)).heap.size = w.heap.size + 2 by simp] at this
  ·exact Has.alloc (heap_alloc2_new w _ _) _
  ·exact Has.alloc (heap_alloc2_old w _ _) _
  ·exact (((Below.refl _ _).alloc (Nat.le_refl _) _).alloc (by simp) _).alloc (by simp; omega) _
 obtain ⟨res, hres⟩ : ∃ res, res = answerP (if rightB p then visP acc p else []) p an := ⟨_, rfl⟩
 rw [← hres]
 have HR := Lib.hid hres
 clear hres
 go_enter Try.func12, Try.ntmps12
 go_upto_region 2 with (fail)
 generalize ((w.alloc (.cells p.arr 25)).alloc (.cells #[.int .u32 an] 26)).alloc (.cells #[.int .i64 0] 3) = W at HW ⊢
 go_wp2_with ((with_reducible refine at_dst 9 ?_); refine loadP p w.heap.size 0 rfl HW.out.2.2.1.rp ?_)
 refine (way_walk w base t m N H acc HT.out p 28 #[.pointer (some ⟨w.heap.size + 2, 0, none⟩), .pointer (some ⟨w.heap.size + 1, 0, none⟩), .pointer (some ⟨w.heap.size, 0, none⟩)] HE.out (JA w (w.heap.size + 2) (w.heap.size + 1) w.heap.size an p) (fun vs W W' h hB => ⟨h.1.below hB, h.2.1.below hB, h.2.2.1.below hB, h.2.2.2.1.trans (hB.mono h.2.2.2.1.size), h.2.2.2.2⟩) (fun vs W h => h.2.2.2.1) (fun v => !hitB p an v) (fun vs v r W _ h => ans1_walk w _ _ _ an p vs v W h) hlen W HW.out).mono ?_
 rintro e w1 ⟨rfl, hJ⟩
 have ca : w1.cell? ⟨w.heap.size + 2, 0, none⟩ = _ := hJ.1.c 0
 have ca' : w1.cell? ⟨w.heap.size + 2, 0, none⟩ = some (.int .i64 res) := by
  rw [ca, HR.out]
  show some (Value.int .i64 _) = _
  congr 2
  split
  ·exact ans_go p an _
  ·rfl
 have HB := Lib.hid hJ.2.2.2.1
 clear ca hJ
 go_wp2
 go_ret
 exact ⟨rfl, HB.out⟩

end Go.Proofs.Ytllahlgnjeeliaa.Ad
end

section
set_option linter.unusedVariables false
set_option linter.unusedSimpArgs false
namespace Go.Proofs.Ytllahlgnjeeliaa.Ad
open Go.Sort

theorem accStep_spec (acc : List Vrp) (v : Vrp) (hn : acc.Nodup) : (accStep acc v).Nodup ∧ ∀ u, u ∈ accStep acc v ↔ u ∈ acc ∨ (u = v ∧ oneB v = true) := by
 unfold accStep
 cases h1 : oneB v
 ·simp only [Bool.false_eq_true, if_false, and_false, or_false]
  exact ⟨hn, by simp⟩
 ·simp only [if_true, and_true]
  unfold putP
  split
  ·rename_i hm
   exact ⟨hn, fun u => ⟨.inl, fun h => h.elim id (fun e => e ▸ hm)⟩⟩
  ·rename_i hm
   refine ⟨?_, fun u => by simp⟩
   rw [List.nodup_append]
   exact ⟨hn, by simp, fun a ha b hb e => by
    rw [List.mem_singleton] at hb
    subst hb; subst e
    exact hm ha⟩
theorem acc_fold : ∀ (l acc : List Vrp), acc.Nodup → (l.foldl accStep acc).Nodup ∧ ∀ u, u ∈ l.foldl accStep acc ↔ u ∈ acc ∨ (u ∈ l ∧ oneB u = true)
 | [], acc, h => ⟨h, fun u => by simp⟩
 | v :: l, acc, h => by
  obtain ⟨h1, h2⟩ := accStep_spec acc v h
  obtain ⟨h3, h4⟩ := acc_fold l _ h1
  refine ⟨h3, fun u => ?_⟩
  rw [List.foldl_cons, h4, h2, List.mem_cons]
  constructor
  ·rintro ((h | ⟨rfl, h⟩) | ⟨h, h'⟩)
   ·exact .inl h
   ·exact .inr ⟨.inl rfl, h⟩
   ·exact .inr ⟨.inr h, h'⟩
  ·rintro (h | ⟨rfl | h, h'⟩)
   ·exact .inl (.inl h)
   ·exact .inl (.inr ⟨rfl, h'⟩)
   ·exact .inr ⟨h, h'⟩
theorem acc_nodup (l : List Vrp) : (accP l).Nodup := (acc_fold l [] List.nodup_nil).1
theorem acc_mem (l : List Vrp) (u : Vrp) : u ∈ accP l ↔ u ∈ l ∧ oneB u = true := by
 have := (acc_fold l [] List.nodup_nil).2 u
 simpa [accP] using this
theorem acc_len (l : List Vrp) : (accP l).length ≤ l.length := (acc_nodup l).length_le_of_subset (fun u hu => ((acc_mem l u).1 hu).1)

def Ris (l : List Vrp) : Prop := l.Pairwise (fun a b => cmpV a b < 0)
theorem Ris.nodup {l : List Vrp} (h : Ris l) : l.Nodup := by
 refine List.Pairwise.imp ?_ h
 intro a b hab e
 subst e
 rw [cmpV_eq.2 rfl] at hab
 omega
theorem ris_ext : ∀ {a b : List Vrp}, Ris a → Ris b → (∀ v, v ∈ a ↔ v ∈ b) → a = b
 | [], [], _, _, _ => rfl
 | [], y :: b, _, _, h => by have := (h y).2 (by simp); cases this
 | x :: a, [], _, _, h => by have := (h x).1 (by simp); cases this
 | x :: a, y :: b, ha, hb, h => by
  have ha' := List.pairwise_cons.1 ha
  have hb' := List.pairwise_cons.1 hb
  have hxy : x = y := by
   have h1 := (h x).1 (by simp)
   have h2 := (h y).2 (by simp)
   rcases List.mem_cons.1 h1 with e | h1
   ·exact e
   rcases List.mem_cons.1 h2 with e | h2
   ·exact e.symm
   have a1 := ha'.1 y h2
   have a2 := hb'.1 x h1
   rw [cmpV_neg] at a2
   omega
  subst hxy
  rw [ris_ext ha'.2 hb'.2 (fun v => ?_)]
  have := h v
  rw [List.mem_cons, List.mem_cons] at this
  constructor
  ·intro hv
   rcases this.1 (.inr hv) with e | hv'
   ·subst e
    have := ha'.1 v hv
    rw [cmpV_eq.2 rfl] at this
    omega
   ·exact hv'
  ·intro hv
   rcases this.2 (.inr hv) with e | hv'
   ·subst e
    have := hb'.1 v hv
    rw [cmpV_eq.2 rfl] at this
    omega
   ·exact hv'
theorem tw_take : ∀ (out : List Vrp) (v : Vrp), (∀ u ∈ out.take (posR out v), cmpV u v < 0)
 | [], v => by simp
 | x :: out, v => by
  have ih := tw_take out v
  unfold posR at ih ⊢
  rw [List.takeWhile_cons]
  split
  ·rename_i h
   rw [List.length_cons, List.take_succ_cons]
   intro u hu
   rcases List.mem_cons.1 hu with rfl | hu
   ·exact of_decide_eq_true h
   ·exact ih u hu
  ·simp
theorem tw_next : ∀ (out : List Vrp) (v : Vrp) (h : posR out v < out.length), ¬ cmpV out[posR out v] v < 0
 | [], v, h => by simp at h
 | x :: out, v, h => by
  have ih := tw_next out v
  unfold posR at ih h ⊢
  by_cases hx : decide (cmpV x v < 0) = true
  ·have e : ((x :: out).takeWhile fun u => decide (cmpV u v < 0)).length = (out.takeWhile fun u => decide (cmpV u v < 0)).length + 1 := by rw [List.takeWhile_cons, if_pos hx, List.length_cons]
   have h' : (out.takeWhile fun u => decide (cmpV u v < 0)).length < out.length := by rw [e] at h; simpa using h
   have := ih h'
   simp only [e, List.getElem_cons_succ]
   exact this
  ·have e : ((x :: out).takeWhile fun u => decide (cmpV u v < 0)).length = 0 := by rw [List.takeWhile_cons, if_neg hx]; rfl
   simp only [e, List.getElem_cons_zero]
   simpa using hx
theorem ins_spec (out : List Vrp) (v : Vrp) (h : Ris out) : Ris (insR out v) ∧ ∀ u, u ∈ insR out v ↔ u ∈ out ∨ (u = v ∧ oneB v = true) := by
 unfold insR
 split
 ·rename_i hc
  refine ⟨h, fun u => ⟨.inl, ?_⟩⟩
  rintro (hu | ⟨rfl, ho⟩)
  ·exact hu
  ·rcases hc with hc | hc
   ·rw [hc] at ho; cases ho
   ·exact List.mem_of_getElem? hc
 ·rename_i hc
  have ho : oneB v = true := by
   cases e : oneB v
   ·exact absurd (.inl e) hc
   ·rfl
  have hne : out[posR out v]? ≠ some v := fun e => hc (.inr e)
  obtain ⟨k, hk⟩ : ∃ k, k = posR out v := ⟨_, rfl⟩
  have h1 := tw_take out v
  have h2 := tw_next out v
  rw [← hk] at h1 hne ⊢
  simp only [← hk] at h2
  have hsplit : out = out.take k ++ out.drop k := (List.take_append_drop _ _).symm
  have hR : (out.take k ++ out.drop k).Pairwise (fun a b => cmpV a b < 0) := by rw [← hsplit]; exact h
  obtain ⟨p1, p2, p3⟩ := List.pairwise_append.1 hR
  have hd : ∀ u ∈ out.drop k, cmpV v u < 0 := by
   intro u hu
   by_cases hlt : k < out.length
   ·have hh := h2 hlt
    rw [List.drop_eq_getElem_cons hlt] at hu p2
    have hn : out[k] ≠ v := fun e => hne (by rw [List.getElem?_eq_getElem hlt, e])
    have h0 : cmpV v out[k] < 0 := by
     have := cmpV_neg v out[k]
     have h3 : cmpV out[k] v ≠ 0 := fun e => hn (cmpV_eq.1 e)
     omega
    rcases List.mem_cons.1 hu with rfl | hu
    ·exact h0
    ·exact cmpV_trans h0 ((List.pairwise_cons.1 p2).1 u hu)
   ·rw [List.drop_eq_nil_of_le (by omega)] at hu
    cases hu
  refine ⟨?_, fun u => ?_⟩
  ·unfold Ris
   rw [List.append_assoc]
   refine List.pairwise_append.2 ⟨p1, ?_, fun a ha b hb => ?_⟩
   ·rw [List.singleton_append]
    exact List.pairwise_cons.2 ⟨hd, p2⟩
   ·rw [List.singleton_append] at hb
    rcases List.mem_cons.1 hb with rfl | hb
    ·exact h1 a ha
    ·exact p3 a ha b hb
  ·rw [List.mem_append, List.mem_append, List.mem_singleton]
   have : u ∈ out ↔ u ∈ out.take k ∨ u ∈ out.drop k := by rw [← List.mem_append, List.take_append_drop]
   rw [this]
   constructor
   ·rintro ((h | rfl) | h)
    ·exact .inl (.inl h)
    ·exact .inr ⟨rfl, ho⟩
    ·exact .inl (.inr h)
   ·rintro ((h | h) | ⟨rfl, _⟩)
    ·exact .inl (.inl h)
    ·exact .inr h
    ·exact .inl (.inr rfl)
theorem row_fold : ∀ (l out : List Vrp), Ris out → Ris (l.foldl insR out) ∧ ∀ u, u ∈ l.foldl insR out ↔ u ∈ out ∨ (u ∈ l ∧ oneB u = true)
 | [], out, h => ⟨h, fun u => by simp⟩
 | v :: l, out, h => by
  obtain ⟨h1, h2⟩ := ins_spec out v h
  obtain ⟨h3, h4⟩ := row_fold l _ h1
  refine ⟨h3, fun u => ?_⟩
  rw [List.foldl_cons, h4, h2, List.mem_cons]
  constructor
  ·rintro ((h | ⟨rfl, h⟩) | ⟨h, h'⟩)
   ·exact .inl h
   ·exact .inr ⟨.inl rfl, h⟩
   ·exact .inr ⟨.inr h, h'⟩
  ·rintro (h | ⟨rfl | h, h'⟩)
   ·exact .inl (.inl h)
   ·exact .inl (.inr ⟨rfl, h'⟩)
   ·exact .inr ⟨h, h'⟩
theorem row_ris (l : List Vrp) : Ris (rowP l) := (row_fold l [] List.Pairwise.nil).1
theorem row_mem (l : List Vrp) (u : Vrp) : u ∈ rowP l ↔ u ∈ l ∧ oneB u = true := by
 have := (row_fold l [] List.Pairwise.nil).2 u
 simpa [rowP] using this
theorem acc_row_len (l : List Vrp) : (accP l).length = (rowP l).length :=
 ((List.perm_ext_iff_of_nodup (acc_nodup l) (row_ris l).nodup).2 (fun u => by rw [acc_mem, row_mem])).length_eq

theorem path_eq {p q : Pfx} {i j : Nat} : pathOf p i = pathOf q j ↔ p.v6 = q.v6 ∧ i = j ∧ ∀ k, k < i → p.a.bit k = q.a.bit k := by
 constructor
 ·intro h
  have hl := congrArg List.length h
  rw [pathOf_len, pathOf_len] at hl
  have hij : i = j := by omega
  subst hij
  unfold pathOf at h
  injection h with h1 h2
  refine ⟨h1, rfl, fun k hk => ?_⟩
  have h3 := congrArg (fun l => l[k]?) h2
  simp only [List.getElem?_map, List.getElem?_range hk, Option.map_some, Option.some.injEq] at h3
  rcases p.a.bit_01 k with e1 | e1 <;> rcases q.a.bit_01 k with e2 | e2 <;> rw [e1, e2] at h3 <;> simp at h3 <;> rw [e1, e2]
 ·rintro ⟨h1, rfl, h2⟩
  unfold pathOf
  rw [h1]
  congr 1
  apply List.map_congr_left
  intro k hk
  rw [h2 k (List.mem_range.1 hk)]
theorem one_right {v : Vrp} (h : oneB v = true) : rightB v.p = true := by unfold oneB at h; simp only [Bool.and_eq_true] at h; exact h.1.1
theorem visL_mem (acc : List Vrp) (p : Pfx) (k : Nat) (u : Vrp) : u ∈ visL acc p k ↔ u ∈ acc ∧ ∃ i, i < k ∧ pathV u = pathOf p i := by
 unfold visL hereP
 simp only [List.mem_flatMap, List.mem_range, List.mem_filter, decide_eq_true_iff]
 constructor
 ·rintro ⟨i, hi, hu, e⟩; exact ⟨hu, i, hi, e⟩
 ·rintro ⟨hu, i, hi, e⟩; exact ⟨i, hi, hu, e⟩
theorem visL_nodup {acc : List Vrp} (h : acc.Nodup) (p : Pfx) : ∀ k, (visL acc p k).Nodup
 | 0 => by simp [visL]
 | k + 1 => by
  rw [visL_succ, List.nodup_append]
  refine ⟨visL_nodup h p k, List.Pairwise.filter _ h, fun a ha b hb e => ?_⟩
  subst e
  obtain ⟨_, i, hi, e1⟩ := (visL_mem acc p k a).1 ha
  have e2 : pathV a = pathOf p k := by
   unfold hereP at hb
   exact of_decide_eq_true (List.mem_filter.1 hb).2
  have := congrArg List.length (e1.symm.trans e2)
  rw [pathOf_len, pathOf_len] at this
  omega
/-- What a trie of a list visits for a prefix. -/
def tcov (l : List Vrp) (p : Pfx) : List Vrp := if rightB p then visP (accP l) p else []
theorem tcov_mem (l : List Vrp) (p : Pfx) (u : Vrp) : u ∈ tcov l p ↔ u ∈ l ∧ oneB u = true ∧ coversB u.p p = true := by
 unfold tcov
 split
 ·rename_i hr
  unfold visP
  rw [visL_mem, acc_mem]
  have hp := right_iff.1 hr
  constructor
  ·rintro ⟨⟨h1, h2⟩, i, hi, e⟩
   refine ⟨h1, h2, covers_iff.2 ?_⟩
   unfold pathV at e
   obtain ⟨e1, e2, e3⟩ := path_eq.1 e
   have hu := right_iff.1 (one_right h2)
   exact ⟨one_right h2, hr, e1, by omega, fun j hj => e3 j (by omega)⟩
  ·rintro ⟨h1, h2, h3⟩
   obtain ⟨c1, c2, c3, c4, c5⟩ := covers_iff.1 h3
   have hu := right_iff.1 (one_right h2)
   refine ⟨⟨h1, h2⟩, u.p.n.toNat, by omega, ?_⟩
   exact path_eq.2 ⟨c3, rfl, fun k hk => c5 k (by omega)⟩
 ·rename_i hr
  simp only [List.not_mem_nil, false_iff]
  rintro ⟨_, _, h3⟩
  exact hr (covers_iff.1 h3).2.1
theorem tcov_nodup (l : List Vrp) (p : Pfx) : (tcov l p).Nodup := by
 unfold tcov
 split
 ·exact visL_nodup (acc_nodup l) p _
 ·exact List.nodup_nil
theorem cov_mem (l : List Vrp) (p : Pfx) (u : Vrp) : u ∈ coversP l p ↔ u ∈ l ∧ oneB u = true ∧ coversB u.p p = true := by
 unfold coversP
 rw [List.mem_filter, row_mem, and_assoc]
theorem cov_ris (l : List Vrp) (p : Pfx) : Ris (coversP l p) := List.Pairwise.filter _ (row_ris l)
theorem sortV_ris {l : List Vrp} (h : l.Nodup) : Ris (sortV l) := by
 have hs := List.pairwise_mergeSort (le := fun x y => !(ltOf cmpV) y x) (fun a b c h1 h2 => by
  rw [ltV] at *
  simp at *
  by_cases e : cmpV c a < 0
  ·exfalso
   have a1 := cmpV_neg a b
   have a2 := cmpV_neg b c
   by_cases e1 : cmpV b a = 0
   ·have := cmpV_eq.1 e1; subst this; omega
   by_cases e2 : cmpV c b = 0
   ·have := cmpV_eq.1 e2; subst this; omega
   have a3 := cmpV_trans (a := a) (b := b) (c := c) (by omega) (by omega)
   have a4 := cmpV_neg a c
   omega
  ·omega) (fun a b => by
  rw [ltV, ltV]
  simp
  have := cmpV_neg a b
  omega) l
 have hn : (sortV l).Nodup := (List.mergeSort_perm l _).nodup_iff.2 h
 unfold Ris
 have hs2 : (sortV l).Pairwise (fun a b => (!(ltOf cmpV) b a) = true) := hs
 refine List.Pairwise.imp₂ ?_ hs2 hn
 intro a b h1 h2
 rw [ltV] at h1
 simp at h1
 have := cmpV_neg a b
 have h3 : cmpV a b ≠ 0 := fun e => h2 (cmpV_eq.1 e)
 omega
theorem sortV_mem (l : List Vrp) (u : Vrp) : u ∈ sortV l ↔ u ∈ l := (List.mergeSort_perm l _).mem_iff
theorem sort_tcov (l : List Vrp) (p : Pfx) : sortV (tcov l p) = coversP l p :=
 ris_ext (sortV_ris (tcov_nodup l p)) (cov_ris l p) (fun u => by rw [sortV_mem, tcov_mem, cov_mem])
theorem answer_congr {c c' : List Vrp} (h : ∀ u, u ∈ c ↔ u ∈ c') (p : Pfx) (an : Int) : answerP c p an = answerP c' p an := by
 have h1 : c.any (hitB p an) = c'.any (hitB p an) := by
  rw [Bool.eq_iff_iff, List.any_eq_true, List.any_eq_true]
  exact ⟨fun ⟨u, hu, hh⟩ => ⟨u, (h u).1 hu, hh⟩, fun ⟨u, hu, hh⟩ => ⟨u, (h u).2 hu, hh⟩⟩
 have h2 : 0 < c.length ↔ 0 < c'.length := by
  rw [List.length_pos_iff_exists_mem, List.length_pos_iff_exists_mem]
  exact ⟨fun ⟨u, hu⟩ => ⟨u, (h u).1 hu⟩, fun ⟨u, hu⟩ => ⟨u, (h u).2 hu⟩⟩
 unfold answerP
 rw [h1]
 simp only [h2]
theorem ans_tcov (l : List Vrp) (p : Pfx) (an : Int) : answerP (tcov l p) p an = answerP (coversP l p) p an :=
 answer_congr (fun u => by rw [tcov_mem, cov_mem]) p an
theorem vis_len (l : List Vrp) (p : Pfx) : (visP (accP l) p).length ≤ l.length :=
 Nat.le_trans ((visL_nodup (acc_nodup l) p _).length_le_of_subset (fun u hu => ((visL_mem _ _ _ u).1 hu).1)) (acc_len l)
end Go.Proofs.Ytllahlgnjeeliaa.Ad
end

section
set_option linter.unusedVariables false
set_option linter.unusedSimpArgs false
namespace Go.Proofs.Ytllahlgnjeeliaa.Ad
open Go.RowKit Go.Proofs.YtllahlgnjeeliaaW.PrintWords Go.Proofs.YtllahlgnjeeliaaW.PrintLast Go.Proofs.YtllahlgnjeeliaaW.PrintMore Go.Proofs.Ytllahlgnjeeliaa.PT

def a10 : A16 := ⟨[10, 0, 0, 0, 0, 0, 0, 0, 0, 0, 0, 0, 0, 0, 0, 0], rfl, by decide⟩
def a101 : A16 := ⟨[10, 1, 0, 0, 0, 0, 0, 0, 0, 0, 0, 0, 0, 0, 0, 0], rfl, by decide⟩
def vten (an : Int) : Vrp := ⟨an, ⟨false, a10, 8⟩, 24⟩
def p16 : Pfx := ⟨false, a101, 16⟩
def p0 : Pfx := ⟨false, z16, 0⟩

set_option maxHeartbeats 1000000 in
set_option maxRecDepth 100000 in
theorem ten_walk (an : Int) (w : World) : Calls Try.prog 19 #[.int .u32 an] w fun e w' => e = .returned (.agg (vten an).arr) ∧ Below w.heap.size w w' := by
 go_enter Try.func19, Try.ntmps19
 go_upto_region 1 with (fail)
 change Code.wp _ _ _ _ (w.alloc (.cells zV.arr 39))
 have h0 := Has.new w zV.arr 39
 have hB : Below w.heap.size w (w.alloc (.cells zV.arr 39)) := (Below.refl _ _).alloc (Nat.le_refl _) _
 generalize w.alloc (.cells zV.arr 39) = W at h0 hB ⊢
 refine wp_region_lit ?_
 refine valL rfl (v := .int .u32 an) (w1 := W) (by go_simp; try rfl) ?_
 refine valL rfl (v := .agg a10.arr) (w1 := W) (by kernel_rfl) ?_
 refine valL rfl (v := .agg (⟨false, a10, 8⟩ : Pfx).arr) (w1 := W) (by kernel_rfl) ?_
 refine valL rfl (v := .agg (vten an).arr) (w1 := W) (by kernel_rfl) ?_
 refine wpList_store_row rfl 39 (.tmp 2) (.tmp 6) rfl w.heap.size (vten an).arr rfl rfl 39 zV.arr h0 (by rw [Vrp.arr_size]; exact infoV) (by rw [Vrp.arr_size, Vrp.arr_size]) (Vrp.arr_one _) ?_
 have v0 : Has (W.setRow w.heap.size (vten an).arr) w.heap.size (vten an).arr 39 := setRow_heap W _ _ _ _ _ h0
 have v3 := below_setRow hB (g := w.heap.size) (Nat.le_refl _) (vten an).arr
 generalize W.setRow w.heap.size (vten an).arr = wc at v0 v3 ⊢
 refine wpList_nil ?_
 go_wp2
 refine bodyPost_ret (v := .agg (vten an).arr) ?_ rfl ⟨rfl, v3⟩
 exact results_cell_row (P := Try.prog) (p := 2) (ty := 39) Try.results19 _ _ w.heap.size 39 (vten an).arr (0, 0) _ rfl v0 Try.underlying39 rfl (by rw [Vrp.arr_size]; exact infoV)

/-- A trie of a list. -/
def TrieOf (w : World) (t : Nat) (l : List Vrp) : Prop := ∃ base N H, TN w base t N H (accP l).length (accP l)
theorem TrieOf.below {w w' : World} {t : Nat} {l : List Vrp} (h : TrieOf w t l) (hB : Below w.heap.size w w') : TrieOf w' t l := by
 obtain ⟨b, N, H, hT⟩ := h
 exact ⟨b, N, H, hT.below hB⟩
theorem answerL {w : World} {t : Nat} {l : List Vrp} (h : TrieOf w t l) (hl : l.length ≤ 1000000) (p : Pfx) (an : Int) : Calls Try.prog 12 #[.pointer (some ⟨t, 0, none⟩), .agg p.arr, .int .u32 an] w fun e w' => e = .returned (.int .i64 (answerP (coversP l p) p an)) ∧ Below w.heap.size w w' := by
 obtain ⟨b, N, H, hT⟩ := h
 have := answer_walk b t _ N H (accP l) p an w hT (by have := acc_len l; omega)
 rw [show (if rightB p = true then visP (accP l) p else []) = tcov l p from rfl, ans_tcov] at this
 exact this
theorem coversL {w : World} {t : Nat} {l : List Vrp} (h : TrieOf w t l) (hl : l.length ≤ 1000000) (p : Pfx) : Calls Try.prog 10 #[.pointer (some ⟨t, 0, none⟩), .agg p.arr] w fun e w' => CovR w (coversP l p) e w' := by
 obtain ⟨b, N, H, hT⟩ := h
 have := covers_walk b t _ N H (accP l) p w hT (by have := vis_len l p; omega) (by have := acc_len l; omega)
 rw [show (if rightB p = true then visP (accP l) p else []) = tcov l p from rfl, sort_tcov] at this
 exact this
theorem lenL {w : World} {t : Nat} {l : List Vrp} (h : TrieOf w t l) : Calls Try.prog 14 #[.pointer (some ⟨t, 0, none⟩)] w fun e w' => e = .returned (.int .i64 (rowP l).length) ∧ w' = w := by
 obtain ⟨b, N, H, hT⟩ := h
 have := len_walk hT
 rwa [acc_row_len] at this
def NewL (w : World) (l : List Vrp) (e : Ending) (w' : World) : Prop := ∃ t, e = .returned (.pointer (some ⟨t, 0, none⟩)) ∧ TrieOf w' t l ∧ Below w.heap.size w w'
theorem newL (A : Option Addr) (c : Nat) (l : List Vrp) (w : World) (h : kV.C w A l.length l) (hl : l.length * 48 ≤ 140737488351232) : Calls Try.prog 8 #[.slice A l.length c] w fun e w' => NewL w l e w' :=
 (new_walk A c l w h hl).mono fun _ _ ⟨t, he, ⟨N, H, hT⟩, hB⟩ => ⟨t, he, ⟨_, N, H, hT⟩, hB⟩
/-- A variable that is a prefix: made, and laid. -/
theorem alloc_storeP {ops : Array Oper} {rest : List Oper} {a : Act} {W : World} {Q : Exit → Act → World → Prop} {n x : Tmp} {ty ty' : TypeId} {pos pos' : String} {af af' : Array Edge} (v : Pfx)
 (hx : (a.put (some n) (.pointer (some ⟨W.heap.size, 0, none⟩))).eval (.tmp x) = .agg v.arr) (hn : (a.put (some n) (.pointer (some ⟨W.heap.size, 0, none⟩))).eval (.tmp n) = .pointer (some ⟨W.heap.size, 0, none⟩))
 (h : wpList Try.prog ops Q rest (a.put (some n) (.pointer (some ⟨W.heap.size, 0, none⟩))) (W.alloc (.cells v.arr 25))) :
 wpList Try.prog ops Q (⟨some n, .alloc 25, ty, pos, af, none⟩ :: ⟨none, .store 25 (.tmp n) (.tmp x), ty', pos', af', none⟩ :: rest) a W := by
 refine valL rfl (v := .pointer (some ⟨W.heap.size, 0, none⟩)) (w1 := W.alloc (.cells zP.arr 25)) (by kernel_rfl) ?_
 refine wpList_store_row rfl 25 (.tmp n) (.tmp x) rfl W.heap.size v.arr hn hx 25 zP.arr (Has.new W zP.arr _) (by rw [v.arr_size]; exact infoP) (by rw [v.arr_size, zP.arr_size]) v.arr_one ?_
 rw [setRow_alloc]
 exact h

theorem aw1 : answerP (coversP [vten 7] p16) p16 7 = 2 := by decide +kernel
theorem aw2 : answerP (coversP [vten 7] p16) p16 8 = 1 := by decide +kernel
theorem aw3 : answerP (coversP [vten 7] p0) p0 7 = 0 := by decide +kernel
theorem aw4 : (coversP [vten 7] p16).length = 1 := by decide +kernel

set_option maxHeartbeats 2000000 in
set_option maxRecDepth 100000 in
theorem awake_walk (w : World) : Calls Try.prog 7 #[] w fun e w' => e = .returned (.bool true) ∧ Below w.heap.size w w' := by
 go_enter Try.func7, Try.ntmps7
 go_wp2_with fail
 refine (ten_walk 7 w).mono ?_
 rintro e w1 ⟨rfl, hB1⟩
 have HB1 := Lib.hid hB1
 clear hB1
 have HC := Lib.hid (C_one (Has.new w1 (vten 7).arr 39))
 have HB2 := Lib.hid (HB1.out.alloc HB1.out.size (.cells (vten 7).arr 39))
 go_wp2_with ((with_reducible refine at_dst 4 ?_); refine valL rfl (exec_buildV (vten 7) rfl _) ?_; generalize hg : w1.heap.size = g1 at HC ⊢; generalize hw : w1.alloc (.cells (vten 7).arr 39) = w2 at HC HB2 ⊢; clear hg hw HB1)
 refine (newL (some ⟨g1, 0, none⟩) 1 [vten 7] w2 HC.out (by decide)).mono ?_
 rintro e w3 ⟨t, rfl, hT, hB⟩
 have HB3 := Lib.hid (HB2.out.trans (hB.mono HB2.out.size))
 have HT := Lib.hid hT
 clear hT hB HB2 HC
 have HP0 := Lib.hid (Has.new w3 p16.arr 25)
 have HT0 := Lib.hid (HT.out.below ((Below.refl _ _).alloc (Nat.le_refl _) (.cells p16.arr 25)))
 have HB0 := Lib.hid (HB3.out.alloc HB3.out.size (.cells p16.arr 25))
 go_wp2_with (first
  | ((with_reducible refine at_dst 8 ?_); refine valL rfl (v := .agg a101.arr) (w1 := _) (by kernel_rfl) ?_)
  | ((with_reducible refine at_dst 9 ?_); refine valL rfl (v := .agg p16.arr) (w1 := _) (by kernel_rfl) ?_)
  | ((with_reducible refine at_dst 2 ?_); refine alloc_storeP p16 rfl rfl ?_; generalize hg : w3.heap.size = g at HP0 ⊢; generalize hw : w3.alloc (.cells p16.arr 25) = w4 at HP0 HT0 HB0 ⊢; clear hg hw HB3 HT)
  | ((with_reducible refine at_dst 11 ?_); refine loadP p16 g 0 rfl HP0.out.rp ?_))
 refine (answerL HT0.out (by decide) p16 7).mono ?_
 rintro e w5 ⟨rfl, hB5⟩
 rw [aw1]
 have HP5 := Lib.hid (HP0.out.below hB5)
 have HT5 := Lib.hid (HT0.out.below hB5)
 have HB5 := Lib.hid (HB0.out.trans (hB5.mono HB0.out.size))
 clear hB5 HP0 HT0 HB0
 go_wp2_with ((with_reducible refine at_dst 16 ?_); refine gate_guard (by rfl) ?_; refine loadP p16 g 0 rfl HP5.out.rp ?_)
 refine (answerL HT5.out (by decide) p16 8).mono ?_
 rintro e w6 ⟨rfl, hB6⟩
 rw [aw2]
 have HP6 := Lib.hid (HP5.out.below hB6)
 have HT6 := Lib.hid (HT5.out.below hB6)
 have HB6 := Lib.hid (HB5.out.trans (hB6.mono HB5.out.size))
 clear hB6 HP5 HT5 HB5
 go_wp2_with ((with_reducible refine at_dst 22 ?_); refine gate_guard (by rfl) ?_; refine valL rfl (v := .agg p0.arr) (w1 := _) (by kernel_rfl) ?_)
 refine (answerL HT6.out (by decide) p0 7).mono ?_
 rintro e w7 ⟨rfl, hB7⟩
 rw [aw3]
 have HP7 := Lib.hid (HP6.out.below hB7)
 have HT7 := Lib.hid (HT6.out.below hB7)
 have HB7 := Lib.hid (HB6.out.trans (hB7.mono HB6.out.size))
 clear hB7 HP6 HT6 HB6
 go_wp2_with ((with_reducible refine at_dst 28 ?_); refine gate_guard (by rfl) ?_; refine loadP p16 g 0 rfl HP7.out.rp ?_)
 refine (coversL HT7.out (by decide) p16).mono ?_
 rintro e w8 ⟨A, c, rfl, hc, hC, hB8⟩
 have hl := aw4
 rw [hl]
 have HB8 := Lib.hid (HB7.out.trans (hB8.mono HB7.out.size))
 clear hB8 hC hc hl HB7
 go_wp2
 go_ret
 exact ⟨rfl, HB8.out⟩

end Go.Proofs.Ytllahlgnjeeliaa.Ad
end

section
set_option linter.unusedVariables false
set_option linter.unusedSimpArgs false
namespace Go.Proofs.Ytllahlgnjeeliaa.Ad
open Go.RowKit Go.Proofs.YtllahlgnjeeliaaW.PrintWords Go.Proofs.YtllahlgnjeeliaaW.PrintLast Go.Proofs.YtllahlgnjeeliaaW.PrintMore Go.Proofs.Ytllahlgnjeeliaa.PT

theorem answer_two {c : List Vrp} {p : Pfx} {an : Int} : answerP c p an = 2 ↔ c.any (hitB p an) = true := by
 unfold answerP
 split
 ·rename_i h; simp [h]
 ·rename_i h
  split <;> simp [h]
theorem answer_none {c : List Vrp} {p : Pfx} {an : Int} : answerP c p an = 0 ↔ c = [] := by
 unfold answerP
 constructor
 ·intro h
  split at h
  ·omega
  ·split at h
   ·omega
   ·exact List.eq_nil_of_length_eq_zero (by omega)
 ·rintro rfl
  rfl
/-- What stays once both tries are there. -/
def T2 (w : World) (g t1 t2 : Nat) (l1 l2 : List Vrp) (p : Pfx) (W : World) : Prop := Has W g p.arr 25 ∧ TrieOf W t1 l1 ∧ TrieOf W t2 l2 ∧ Below w.heap.size w W
theorem T2.step {w W W1 : World} {g t1 t2 : Nat} {l1 l2 : List Vrp} {p : Pfx} (h : T2 w g t1 t2 l1 l2 p W) (hB : Below W.heap.size W W1) : T2 w g t1 t2 l1 l2 p W1 :=
 ⟨h.1.below hB, h.2.1.below hB, h.2.2.1.below hB, h.2.2.2.trans (hB.mono h.2.2.2.size)⟩

end Go.Proofs.Ytllahlgnjeeliaa.Ad
end

section
set_option linter.unusedVariables false
set_option linter.unusedSimpArgs false
namespace Go.Proofs.Ytllahlgnjeeliaa.Ad
open Go.RowKit Go.Proofs.YtllahlgnjeeliaaW.PrintWords Go.Proofs.YtllahlgnjeeliaaW.PrintLast Go.Proofs.YtllahlgnjeeliaaW.PrintMore Go.Proofs.Ytllahlgnjeeliaa.PT

theorem cov_self {v : Vrp} (h : oneB v = true) : coversB v.p v.p = true :=
 covers_iff.2 ⟨one_right h, one_right h, rfl, Int.le_refl _, fun _ _ => rfl⟩
theorem cov_own {l : List Vrp} {v : Vrp} (hv : v ∈ l) : v ∈ coversP l v.p ↔ oneB v = true := by
 rw [cov_mem]
 exact ⟨fun h => h.2.1, fun h => ⟨hv, h, cov_self h⟩⟩
theorem own_hit {v : Vrp} (h : oneB v = true) (ha : v.asn ≠ 0) : hitB v.p v.asn v = true := by
 unfold oneB at h
 simp only [Bool.and_eq_true, decide_eq_true_iff] at h
 simp [hitB, h.1.2, ha]
theorem own_two {l : List Vrp} {v : Vrp} (hv : v ∈ l) (h : oneB v = true) (ha : v.asn ≠ 0) : answerP (coversP l v.p) v.p v.asn = 2 := by
 rw [answer_two, List.any_eq_true]
 exact ⟨v, (cov_own hv).2 h, own_hit h ha⟩
theorem own_some {l : List Vrp} {v : Vrp} (hv : v ∈ l) (h : oneB v = true) : answerP (coversP l v.p) v.p v.asn ≠ 0 := by
 rw [Ne, answer_none]
 intro e
 have := (cov_own hv).2 h
 rw [e] at this
 cases this

/-- What stays in TrieEach. -/
def EI (w : World) (t : Nat) (A : Option Addr) (l : List Vrp) (W : World) : Prop := TrieOf W t l ∧ kV.C W A l.length l ∧ Below w.heap.size w W
theorem EI.step {w W W1 : World} {t : Nat} {A : Option Addr} {l : List Vrp} (h : EI w t A l W) (hB : Below W.heap.size W W1) : EI w t A l W1 :=
 ⟨h.1.below hB, Kd.C_below h.2.1 hB, h.2.2.trans (hB.mono h.2.2.size)⟩
/-- With the one that is at hand. -/
def SV (w : World) (t : Nat) (A : Option Addr) (l : List Vrp) (b o : Nat) (v : Vrp) (W : World) : Prop := W.cell? ⟨b, o, none⟩ = some (.int .u32 v.asn) ∧ W.rangeAt b o v.cells ∧ EI w t A l W
theorem SV.step {w W W1 : World} {t : Nat} {A : Option Addr} {l : List Vrp} {b o : Nat} {v : Vrp} (h : SV w t A l b o v W) (hB : Below W.heap.size W W1) : SV w t A l b o v W1 :=
 ⟨rv_as (ra_below h.2.1 hB), ra_below h.2.1 hB, h.2.2.step hB⟩

set_option maxHeartbeats 4000000 in
set_option maxRecDepth 100000 in
theorem each_any (A : Option Addr) (c : Nat) (l : List Vrp) (w : World) (hC : kV.C w A l.length l) (hl : l.length * 48 ≤ 140737488351232) :
 Calls Try.prog 6 #[.slice A l.length c] w fun e w' => e = .returned (.bool true) ∧ Below w.heap.size w w' := by
 have HC0 := Lib.hid hC
 clear hC
 go_enter Try.func6, Try.ntmps6
 go_wp2_with fail
 refine (awake_walk w).mono ?_
 rintro e w1 ⟨rfl, hB1⟩
 have HB1 := Lib.hid hB1
 have HC1 := Lib.hid (Kd.C_below HC0.out hB1)
 clear hB1 HC0
 go_wp2_with fail
 refine (newL A c l w1 HC1.out hl).mono ?_
 rintro e w2 ⟨t, rfl, hT, hB⟩
 have HE2 : Hid (EI w t A l w2) := Lib.hid ⟨hT, Kd.C_below HC1.out hB, HB1.out.trans (hB.mono HB1.out.size)⟩
 clear hB hT HB1 HC1
 by_cases hlen : 100 < l.length
 ·have hd1 : decide (100 < l.length) = true := decide_eq_true hlen
  have hd2 : decide ((100 : Int) < (l.length : Int)) = true := decide_eq_true (by omega)
  go_wp2
  go_ret
  exact ⟨rfl, HE2.out.2.2⟩
 have hd1 : decide (100 < l.length) = false := decide_eq_false hlen
 have hd2 : decide ((100 : Int) < (l.length : Int)) = false := decide_eq_false (by omega)
 go_wp2
 clear hd1 hd2
 go_loopw [5] (fun iv wr => ∃ i : Nat, i ≤ l.length ∧ iv = .int .i64 i ∧ Hid (EI w t A l wr)) (fun iv _ => l.length - (intOf iv).toNat)
 case atStart => exact ⟨0, Nat.zero_le _, rfl, HE2⟩
 case round =>
  obtain ⟨i, hi, rfl, HX⟩ := hrel
  clear HE2
  by_cases hil : i < l.length
  ·obtain ⟨bl, ol, hA, hR0⟩ := C_form HX.out.2.1 (by omega)
   subst hA
   obtain ⟨v, hv⟩ : ∃ v, v = l[i] := ⟨_, rfl⟩
   have hq := hR0 i hil
   rw [← hv] at hq
   have hvm : v ∈ l := by rw [hv]; exact List.getElem_mem hil
   obtain ⟨a, ha⟩ : ∃ a, a = answerP (coversP l v.p) v.p v.asn := ⟨_, rfl⟩
   obtain ⟨cov, hcov⟩ : ∃ q, q = coversP l v.p := ⟨_, rfl⟩
   have HS : Hid (SV w t (some ⟨bl, ol, none⟩) l bl (ol + i * 20) v wr) := Lib.hid ⟨rv_as hq, hq, HX.out⟩
   have HF : Hid ((oneB v = true → a ≠ 0) ∧ (oneB v = true → v.asn ≠ 0 → a = 2) ∧ (v ∈ cov ↔ oneB v = true) ∧ (∀ u, u ∈ cov → coversB u.p v.p = true) ∧ cov.length ≤ 100) :=
    Lib.hid ⟨fun h => by rw [ha]; exact own_some hvm h, fun h h2 => by rw [ha]; exact own_two hvm h h2, by rw [hcov]; exact cov_own hvm, fun u hu => by rw [hcov, cov_mem] at hu; exact hu.2.2, by rw [hcov]; exact Nat.le_trans (List.length_filter_le _ _) (by rw [← acc_row_len]; have := acc_len l; omega)⟩
   have hc100 := HF.out.2.2.2.2
   have HAA := Lib.hid ha
   have HCV := Lib.hid hcov
   clear hv hq hvm ha hcov hR0 HX
   have hi1 := eq_true (show (i : Int) < (l.length : Int) by omega)
   have hi2 : decide ((i : Int) < (l.length : Int)) = true := decide_eq_true (by omega)
   have hi3 : decide (i < l.length) = true := decide_eq_true hil
   go_wp2
   refine start_ (n := 13) (S := SV w t (some ⟨bl, ol, none⟩) l bl (ol + i * 20) v) (ds := []) #[false, false, false, false, false, false, false, false, false, false, false, false, false] (by kernel_rfl) rfl rfl (HS.out.step (show Below wr.heap.size wr wr.drew from (Below.refl _ _).drew)) (fun hHeld => ?_)
   refine pure_ (i := 0) (N := some 32) (v := ?_) (a' := ?_) #[true, false, false, false, false, false, false, false, false, false, false, false, false] rfl rfl (by kernel_rfl) (fun _ _ _ h => h) (Or.inl ⟨by rfl, ?_⟩) ?_ ?_
   rotate_left
   ·intro w'
    go_simp
    with_reducible rfl
   rotate_left
   ·simp only [Act.put, List.setIfInBounds_toArray, List.set_cons_zero, List.set_cons_succ, i64_w, i32_w]
    rfl
   refine pure_ (i := 1) (N := some 33) (v := ?_) (a' := ?_) #[true, true, false, false, false, false, false, false, false, false, false, false, false] rfl rfl (by kernel_rfl) (fun _ _ _ h => h) (Or.inl ⟨by rfl, ?_⟩) ?_ ?_
   rotate_left
   ·intro w'
    go_simp
    with_reducible rfl
   rotate_left
   ·simp only [Act.put, List.setIfInBounds_toArray, List.set_cons_zero, List.set_cons_succ, i64_w, i32_w]
    rfl
   refine pure_ (i := 2) (N := some 34) (v := ?_) (a' := ?_) #[true, true, true, false, false, false, false, false, false, false, false, false, false] rfl rfl (by kernel_rfl) (fun _ _ _ h => h) (Or.inl ⟨by rfl, ?_⟩) ?_ ?_
   rotate_left
   ·intro w'
    go_simp
    with_reducible rfl
   rotate_left
   ·simp only [Act.put, List.setIfInBounds_toArray, List.set_cons_zero, List.set_cons_succ, i64_w, i32_w]
    rfl
   refine pure_ (i := 3) (N := some 35) (v := ?_) (a' := ?_) #[true, true, true, true, false, false, false, false, false, false, false, false, false] rfl rfl (by kernel_rfl) (fun _ _ _ h => h) (Or.inl ⟨by rfl, ?_⟩) ?_ ?_
   rotate_left
   ·intro w'
    go_simp
    with_reducible rfl
   rotate_left
   ·simp only [Act.put, List.setIfInBounds_toArray, List.set_cons_zero, List.set_cons_succ, i64_w, i32_w]
    rfl
   refine pure_ (i := 4) (N := some 36) (v := ?_) (a' := ?_) #[true, true, true, true, true, false, false, false, false, false, false, false, false] rfl rfl (by kernel_rfl) (fun _ _ _ h => h) (Or.inl ⟨by rfl, ?_⟩) ?_ ?_
   rotate_left
   ·intro w'
    go_simp
    with_reducible rfl
   rotate_left
   ·simp only [Act.put, List.setIfInBounds_toArray, List.set_cons_zero, List.set_cons_succ, i64_w, i32_w]
    rfl
   refine take_ (i := 5) (N := some 37) (v := .agg v.p.arr) (a' := ?_) #[true, true, true, true, true, true, false, false, false, false, false, false, false] rfl rfl (by kernel_rfl) (fun _ _ _ h => h) ?_ hHeld ?_ ?_
   ·exact yP (by rfl) rfl v.p bl (ol + i * 20 + 1) rfl (fun W h => rp_of_v h.2.1)
   rotate_left
   ·simp only [Act.put, List.setIfInBounds_toArray, List.set_cons_zero, List.set_cons_succ, i64_w, i32_w]
    rfl
   refine pure_ (i := 6) (N := some 38) (v := ?_) (a' := ?_) #[true, true, true, true, true, true, true, false, false, false, false, false, false] rfl rfl (by kernel_rfl) (fun _ _ _ h => h) (Or.inl ⟨by rfl, ?_⟩) ?_ ?_
   rotate_left
   ·intro w'
    go_simp
    with_reducible rfl
   rotate_left
   ·simp only [Act.put, List.setIfInBounds_toArray, List.set_cons_zero, List.set_cons_succ, i64_w, i32_w]
    rfl
   refine pure_ (i := 7) (N := some 39) (v := ?_) (a' := ?_) #[true, true, true, true, true, true, true, true, false, false, false, false, false] rfl rfl (by kernel_rfl) (fun _ _ _ h => h) (Or.inl ⟨by rfl, ?_⟩) ?_ ?_
   rotate_left
   ·intro w'
    go_simp
    with_reducible rfl
   rotate_left
   ·simp only [Act.put, List.setIfInBounds_toArray, List.set_cons_zero, List.set_cons_succ, i64_w, i32_w]
    rfl
   refine pure_ (i := 8) (N := some 40) (v := ?_) (a' := ?_) #[true, true, true, true, true, true, true, true, true, false, false, false, false] rfl rfl (by kernel_rfl) (fun _ _ _ h => h) (Or.inl ⟨by rfl, ?_⟩) ?_ ?_
   rotate_left
   ·intro w'
    go_simp
    with_reducible rfl
   rotate_left
   ·simp only [Act.put, List.setIfInBounds_toArray, List.set_cons_zero, List.set_cons_succ, i64_w, i32_w]
    rfl
   refine pure_ (i := 9) (N := some 41) (v := ?_) (a' := ?_) #[true, true, true, true, true, true, true, true, true, true, false, false, false] rfl rfl (by kernel_rfl) (fun _ _ _ h => h) (Or.inl ⟨by rfl, ?_⟩) ?_ ?_
   rotate_left
   ·intro w'
    go_simp
    with_reducible rfl
   rotate_left
   ·simp only [Act.put, List.setIfInBounds_toArray, List.set_cons_zero, List.set_cons_succ, i64_w, i32_w]
    rfl
   refine take_ (i := 10) (N := some 42) (v := ?_) (a' := ?_) #[true, true, true, true, true, true, true, true, true, true, true, false, false] rfl rfl (by kernel_rfl) (fun _ _ _ h => h) (Or.inl ⟨by rfl, ?_⟩) hHeld ?_ ?_
   rotate_left
   ·rintro w' ⟨s0, s1⟩
    go_simp
    with_reducible rfl
   rotate_left
   ·simp only [Act.put, List.setIfInBounds_toArray, List.set_cons_zero, List.set_cons_succ, i64_w, i32_w]
    rfl
   refine one_ (i := 11) (N := some 43) #[true, true, true, true, true, true, true, true, true, true, true, true, false] rfl rfl (by kernel_rfl) (by decide) (fun K hK => ?_)
   refine goes_ Try.func12 (by kernel_rfl) rfl #[.pointer (some ⟨t, 0, none⟩), .agg v.p.arr, .int .u32 v.asn] (by rfl) rfl rfl (by (try simp only [List.map_toArray, List.map_cons, List.map_nil]); first | done | rfl) ?_
   refine (answerL hHeld.2.2.1 (by omega) v.p v.asn).mono ?_
   rintro e w3 ⟨rfl, hB⟩
   rw [← HAA.out]
   refine ⟨_, rfl, ?_⟩
   refine hK.out _ _ (SV.step hHeld hB) (fun hHeld => ?_)
   clear hK K
   refine norm_ (a' := ?_) ?_ ?_
   rotate_left
   ·show Act.put _ (some 43) _ = _
    simp only [Act.put, List.setIfInBounds_toArray, List.set_cons_zero, List.set_cons_succ, i64_w, i32_w]
    rfl
   refine pure_ (i := 12) (N := some 6) (v := ?_) (a' := ?_) #[true, true, true, true, true, true, true, true, true, true, true, true, true] rfl rfl (by kernel_rfl) (fun _ _ _ h => h) (Or.inl ⟨by rfl, ?_⟩) ?_ ?_
   rotate_left
   ·intro w'
    go_simp
    with_reducible rfl
   rotate_left
   ·simp only [Act.put, List.setIfInBounds_toArray, List.set_cons_zero, List.set_cons_succ, i64_w, i32_w]
    rfl
   refine done_ (by kernel_rfl) ?_
   have HS3 := Lib.hid hHeld
   clear hHeld HS
   go_wp2_with ((with_reducible refine at_dst 49 ?_); refine loadP v.p bl (ol + i * 20 + 1) rfl (rp_of_v HS3.out.2.1) ?_)
   have hcv := coversL HS3.out.2.2.1 (by omega) v.p
   rw [← HCV.out] at hcv
   refine hcv.mono ?_
   clear hcv
   rintro e w4 ⟨Ac, cc, rfl, hcc, hCc, hB⟩
   have HX4 := Lib.hid (And.intro (HS3.out.step hB) hCc)
   clear hB hCc HS3 hi2 hi3
   go_wp2
   go_loopw [8, 9] (fun bv kv wr => ∃ k : Nat, k ≤ cov.length ∧ kv = .int .i64 k ∧ ∃ b, bv = .bool b ∧ Hid (b = decide (v ∈ cov.take k)) ∧ Hid (SV w t (some ⟨bl, ol, none⟩) l bl (ol + i * 20) v wr ∧ kV.C wr Ac cov.length cov)) (fun bv kv _ => cov.length - (intOf kv).toNat)
   case atStart => exact ⟨0, Nat.zero_le _, rfl, false, rfl, Lib.hid (by simp), HX4⟩
   case round =>
    obtain ⟨k, hk, rfl, b, rfl, HBK, HX⟩ := hrel
    clear HX4
    by_cases hkc : k < cov.length
    ·obtain ⟨bc, oc, hA, hR0⟩ := C_form HX.out.2 (by omega)
     subst hA
     obtain ⟨x, hx⟩ : ∃ x, x = cov[k] := ⟨_, rfl⟩
     have hq := hR0 k hkc
     rw [← hx] at hq
     have hxm : coversB x.p v.p = true := HF.out.2.2.2.1 x (by rw [hx]; exact List.getElem_mem hkc)
     have hcall : ∀ W, Calls Try.prog 17 #[.agg x.p.arr, .agg v.p.arr] W fun e w' => e = .returned (.bool true) ∧ Below W.heap.size W w' := fun W => by have := covers_walk0 x.p v.p W; rwa [hxm] at this
     have HQ := Lib.hid (And.intro hq HX.out)
     have HXX := Lib.hid hx
     have hst : ∀ W W1, (W.rangeAt bc (oc + k * 20) x.cells ∧ SV w t (some ⟨bl, ol, none⟩) l bl (ol + i * 20) v W ∧ kV.C W (some ⟨bc, oc, none⟩) cov.length cov) → Below W.heap.size W W1 → W1.rangeAt bc (oc + k * 20) x.cells ∧ SV w t (some ⟨bl, ol, none⟩) l bl (ol + i * 20) v W1 ∧ kV.C W1 (some ⟨bc, oc, none⟩) cov.length cov :=
      fun _ _ h hB => ⟨ra_below h.1 hB, h.2.1.step hB, Kd.C_below h.2.2 hB⟩
     have HST := Lib.hid hst
     clear hq hx hxm hR0 HX hst
     have hj1 := eq_true (show (k : Int) < (cov.length : Int) by omega)
     have hj2 : decide ((k : Int) < (cov.length : Int)) = true := decide_eq_true (by omega)
     have hj3 : decide (k < cov.length) = true := decide_eq_true hkc
     have hi1 := eq_true (show (i : Int) < (l.length : Int) by omega)
     obtain ⟨z, hz⟩ : ∃ z, z = decide (x = v) := ⟨_, rfl⟩
     have heq : ∀ W, (binOp .eql 39 (.agg x.arr) (.agg v.arr)).run Try.prog W = .ok (.bool z) W := fun W => by rw [hz]; exact eqlV W _ _
     have HZ := Lib.hid hz
     clear hz
     go_wp2
     cases b
     ·skip
      refine start_ (n := 13) (S := fun W => W.rangeAt bc (oc + k * 20) x.cells ∧ SV w t (some ⟨bl, ol, none⟩) l bl (ol + i * 20) v W ∧ kV.C W (some ⟨bc, oc, none⟩) cov.length cov) (ds := []) #[false, false, false, false, false, false, false, false, false, false, false, false, false] (by kernel_rfl) rfl rfl (HST.out _ _ HQ.out (show Below wr.heap.size wr wr.drew from (Below.refl _ _).drew)) (fun hHeld => ?_)
      refine pure_ (i := 0) (N := some 57) (v := ?_) (a' := ?_) #[true, false, false, false, false, false, false, false, false, false, false, false, false] rfl rfl (by kernel_rfl) (fun _ _ _ h => h) (Or.inl ⟨by rfl, ?_⟩) ?_ ?_
      rotate_left
      ·intro w'
       go_simp
       with_reducible rfl
      rotate_left
      ·simp only [Act.put, List.setIfInBounds_toArray, List.set_cons_zero, List.set_cons_succ, i64_w, i32_w]
       rfl
      refine pure_ (i := 1) (N := some 58) (v := ?_) (a' := ?_) #[true, true, false, false, false, false, false, false, false, false, false, false, false] rfl rfl (by kernel_rfl) (fun _ _ _ h => h) (Or.inl ⟨by rfl, ?_⟩) ?_ ?_
      rotate_left
      ·intro w'
       go_simp
       with_reducible rfl
      rotate_left
      ·simp only [Act.put, List.setIfInBounds_toArray, List.set_cons_zero, List.set_cons_succ, i64_w, i32_w]
       rfl
      refine pure_ (i := 2) (N := some 59) (v := ?_) (a' := ?_) #[true, true, true, false, false, false, false, false, false, false, false, false, false] rfl rfl (by kernel_rfl) (fun _ _ _ h => h) (Or.inl ⟨by rfl, ?_⟩) ?_ ?_
      rotate_left
      ·intro w'
       go_simp
       with_reducible rfl
      rotate_left
      ·simp only [Act.put, List.setIfInBounds_toArray, List.set_cons_zero, List.set_cons_succ, i64_w, i32_w]
       rfl
      refine pure_ (i := 3) (N := some 60) (v := ?_) (a' := ?_) #[true, true, true, true, false, false, false, false, false, false, false, false, false] rfl rfl (by kernel_rfl) (fun _ _ _ h => h) (Or.inl ⟨by rfl, ?_⟩) ?_ ?_
      rotate_left
      ·intro w'
       go_simp
       with_reducible rfl
      rotate_left
      ·simp only [Act.put, List.setIfInBounds_toArray, List.set_cons_zero, List.set_cons_succ, i64_w, i32_w]
       rfl
      refine pure_ (i := 4) (N := some 61) (v := ?_) (a' := ?_) #[true, true, true, true, true, false, false, false, false, false, false, false, false] rfl rfl (by kernel_rfl) (fun _ _ _ h => h) (Or.inl ⟨by rfl, ?_⟩) ?_ ?_
      rotate_left
      ·intro w'
       go_simp
       with_reducible rfl
      rotate_left
      ·simp only [Act.put, List.setIfInBounds_toArray, List.set_cons_zero, List.set_cons_succ, i64_w, i32_w]
       rfl
      refine take_ (i := 5) (N := some 62) (v := .agg x.arr) (a' := ?_) #[true, true, true, true, true, true, false, false, false, false, false, false, false] rfl rfl (by kernel_rfl) (fun _ _ _ h => h) ?_ hHeld ?_ ?_
      ·exact yV (by rfl) rfl x bc (oc + k * 20) rfl (fun W h => h.1)
      rotate_left
      ·simp only [Act.put, List.setIfInBounds_toArray, List.set_cons_zero, List.set_cons_succ, i64_w, i32_w]
       rfl
      refine pure_ (i := 6) (N := some 63) (v := ?_) (a' := ?_) #[true, true, true, true, true, true, true, false, false, false, false, false, false] rfl rfl (by kernel_rfl) (fun _ _ _ h => h) (Or.inl ⟨by rfl, ?_⟩) ?_ ?_
      rotate_left
      ·intro w'
       go_simp
       with_reducible rfl
      rotate_left
      ·simp only [Act.put, List.setIfInBounds_toArray, List.set_cons_zero, List.set_cons_succ, i64_w, i32_w]
       rfl
      refine pure_ (i := 7) (N := some 64) (v := ?_) (a' := ?_) #[true, true, true, true, true, true, true, true, false, false, false, false, false] rfl rfl (by kernel_rfl) (fun _ _ _ h => h) (Or.inl ⟨by rfl, ?_⟩) ?_ ?_
      rotate_left
      ·intro w'
       go_simp
       with_reducible rfl
      rotate_left
      ·simp only [Act.put, List.setIfInBounds_toArray, List.set_cons_zero, List.set_cons_succ, i64_w, i32_w]
       rfl
      refine pure_ (i := 8) (N := some 65) (v := ?_) (a' := ?_) #[true, true, true, true, true, true, true, true, true, false, false, false, false] rfl rfl (by kernel_rfl) (fun _ _ _ h => h) (Or.inl ⟨by rfl, ?_⟩) ?_ ?_
      rotate_left
      ·intro w'
       go_simp
       with_reducible rfl
      rotate_left
      ·simp only [Act.put, List.setIfInBounds_toArray, List.set_cons_zero, List.set_cons_succ, i64_w, i32_w]
       rfl
      refine take_ (i := 9) (N := some 66) (v := .agg v.arr) (a' := ?_) #[true, true, true, true, true, true, true, true, true, true, false, false, false] rfl rfl (by kernel_rfl) (fun _ _ _ h => h) ?_ hHeld ?_ ?_
      ·exact yV (by rfl) rfl v bl (ol + i * 20) rfl (fun W h => h.2.1.2.1)
      rotate_left
      ·simp only [Act.put, List.setIfInBounds_toArray, List.set_cons_zero, List.set_cons_succ, i64_w, i32_w]
       rfl
      refine pure_ (i := 10) (N := some 67) (v := ?_) (a' := ?_) #[true, true, true, true, true, true, true, true, true, true, true, false, false] rfl rfl (by kernel_rfl) (fun _ _ _ h => h) (Or.inl ⟨by rfl, ?_⟩) ?_ ?_
      rotate_left
      ·intro w'
       go_simp
       with_reducible rfl
      rotate_left
      ·simp only [Act.put, List.setIfInBounds_toArray, List.set_cons_zero, List.set_cons_succ, i64_w, i32_w]
       rfl
      refine pure_ (i := 11) (N := some 68) (v := ?_) (a' := ?_) #[true, true, true, true, true, true, true, true, true, true, true, true, false] rfl rfl (by kernel_rfl) (fun _ _ _ h => h) (Or.inl ⟨by rfl, ?_⟩) ?_ ?_
      rotate_left
      ·intro w'
       go_simp
       with_reducible rfl
      rotate_left
      ·simp only [Act.put, List.setIfInBounds_toArray, List.set_cons_zero, List.set_cons_succ, i64_w, i32_w]
       rfl
      refine pure_ (i := 12) (N := some 8) (v := ?_) (a' := ?_) #[true, true, true, true, true, true, true, true, true, true, true, true, true] rfl rfl (by kernel_rfl) (fun _ _ _ h => h) (Or.inl ⟨by rfl, ?_⟩) ?_ ?_
      rotate_left
      ·intro w'
       go_simp
       with_reducible rfl
      rotate_left
      ·simp only [Act.put, List.setIfInBounds_toArray, List.set_cons_zero, List.set_cons_succ, i64_w, i32_w]
       rfl
      refine done_ (by kernel_rfl) ?_
      generalize wr.drew = w5 at hHeld ⊢
      have HN := Lib.hid hHeld
      clear hHeld heq
      go_wp2
      refine start_ (n := 12) (S := fun W => W.rangeAt bc (oc + k * 20) x.cells ∧ SV w t (some ⟨bl, ol, none⟩) l bl (ol + i * 20) v W ∧ kV.C W (some ⟨bc, oc, none⟩) cov.length cov) (ds := []) #[false, false, false, false, false, false, false, false, false, false, false, false] (by kernel_rfl) rfl rfl (HST.out _ _ HN.out (show Below w5.heap.size w5 w5.drew from (Below.refl _ _).drew)) (fun hHeld => ?_)
      refine pure_ (i := 0) (N := some 69) (v := ?_) (a' := ?_) #[true, false, false, false, false, false, false, false, false, false, false, false] rfl rfl (by kernel_rfl) (fun _ _ _ h => h) (Or.inl ⟨by rfl, ?_⟩) ?_ ?_
      rotate_left
      ·intro w'
       go_simp
       with_reducible rfl
      rotate_left
      ·simp only [Act.put, List.setIfInBounds_toArray, List.set_cons_zero, List.set_cons_succ, i64_w, i32_w]
       rfl
      refine pure_ (i := 1) (N := some 70) (v := ?_) (a' := ?_) #[true, true, false, false, false, false, false, false, false, false, false, false] rfl rfl (by kernel_rfl) (fun _ _ _ h => h) (Or.inl ⟨by rfl, ?_⟩) ?_ ?_
      rotate_left
      ·intro w'
       go_simp
       with_reducible rfl
      rotate_left
      ·simp only [Act.put, List.setIfInBounds_toArray, List.set_cons_zero, List.set_cons_succ, i64_w, i32_w]
       rfl
      refine pure_ (i := 2) (N := some 71) (v := ?_) (a' := ?_) #[true, true, true, false, false, false, false, false, false, false, false, false] rfl rfl (by kernel_rfl) (fun _ _ _ h => h) (Or.inl ⟨by rfl, ?_⟩) ?_ ?_
      rotate_left
      ·intro w'
       go_simp
       with_reducible rfl
      rotate_left
      ·simp only [Act.put, List.setIfInBounds_toArray, List.set_cons_zero, List.set_cons_succ, i64_w, i32_w]
       rfl
      refine pure_ (i := 3) (N := some 72) (v := ?_) (a' := ?_) #[true, true, true, true, false, false, false, false, false, false, false, false] rfl rfl (by kernel_rfl) (fun _ _ _ h => h) (Or.inl ⟨by rfl, ?_⟩) ?_ ?_
      rotate_left
      ·intro w'
       go_simp
       with_reducible rfl
      rotate_left
      ·simp only [Act.put, List.setIfInBounds_toArray, List.set_cons_zero, List.set_cons_succ, i64_w, i32_w]
       rfl
      refine take_ (i := 4) (N := some 73) (v := .agg x.p.arr) (a' := ?_) #[true, true, true, true, true, false, false, false, false, false, false, false] rfl rfl (by kernel_rfl) (fun _ _ _ h => h) ?_ hHeld ?_ ?_
      ·exact yP (by rfl) rfl x.p bc (oc + k * 20 + 1) rfl (fun W h => rp_of_v h.1)
      rotate_left
      ·simp only [Act.put, List.setIfInBounds_toArray, List.set_cons_zero, List.set_cons_succ, i64_w, i32_w]
       rfl
      refine pure_ (i := 5) (N := some 74) (v := ?_) (a' := ?_) #[true, true, true, true, true, true, false, false, false, false, false, false] rfl rfl (by kernel_rfl) (fun _ _ _ h => h) (Or.inl ⟨by rfl, ?_⟩) ?_ ?_
      rotate_left
      ·intro w'
       go_simp
       with_reducible rfl
      rotate_left
      ·simp only [Act.put, List.setIfInBounds_toArray, List.set_cons_zero, List.set_cons_succ, i64_w, i32_w]
       rfl
      refine pure_ (i := 6) (N := some 75) (v := ?_) (a' := ?_) #[true, true, true, true, true, true, true, false, false, false, false, false] rfl rfl (by kernel_rfl) (fun _ _ _ h => h) (Or.inl ⟨by rfl, ?_⟩) ?_ ?_
      rotate_left
      ·intro w'
       go_simp
       with_reducible rfl
      rotate_left
      ·simp only [Act.put, List.setIfInBounds_toArray, List.set_cons_zero, List.set_cons_succ, i64_w, i32_w]
       rfl
      refine pure_ (i := 7) (N := some 76) (v := ?_) (a' := ?_) #[true, true, true, true, true, true, true, true, false, false, false, false] rfl rfl (by kernel_rfl) (fun _ _ _ h => h) (Or.inl ⟨by rfl, ?_⟩) ?_ ?_
      rotate_left
      ·intro w'
       go_simp
       with_reducible rfl
      rotate_left
      ·simp only [Act.put, List.setIfInBounds_toArray, List.set_cons_zero, List.set_cons_succ, i64_w, i32_w]
       rfl
      refine pure_ (i := 8) (N := some 77) (v := ?_) (a' := ?_) #[true, true, true, true, true, true, true, true, true, false, false, false] rfl rfl (by kernel_rfl) (fun _ _ _ h => h) (Or.inl ⟨by rfl, ?_⟩) ?_ ?_
      rotate_left
      ·intro w'
       go_simp
       with_reducible rfl
      rotate_left
      ·simp only [Act.put, List.setIfInBounds_toArray, List.set_cons_zero, List.set_cons_succ, i64_w, i32_w]
       rfl
      refine take_ (i := 9) (N := some 78) (v := .agg v.p.arr) (a' := ?_) #[true, true, true, true, true, true, true, true, true, true, false, false] rfl rfl (by kernel_rfl) (fun _ _ _ h => h) ?_ hHeld ?_ ?_
      ·exact yP (by rfl) rfl v.p bl (ol + i * 20 + 1) rfl (fun W h => rp_of_v h.2.1.2.1)
      rotate_left
      ·simp only [Act.put, List.setIfInBounds_toArray, List.set_cons_zero, List.set_cons_succ, i64_w, i32_w]
       rfl
      refine one_ (i := 10) (N := some 79) #[true, true, true, true, true, true, true, true, true, true, true, false] rfl rfl (by kernel_rfl) (by decide) (fun K hK => ?_)
      refine goes_ Try.func17 (by kernel_rfl) rfl #[.agg x.p.arr, .agg v.p.arr] (by rfl) rfl rfl (by (try simp only [List.map_toArray, List.map_cons, List.map_nil]); first | done | rfl) ?_
      refine (hcall _).mono ?_
      rintro e w6 ⟨rfl, hB⟩
      refine ⟨_, rfl, ?_⟩
      refine hK.out _ _ (HST.out _ _ hHeld hB) (fun hHeld => ?_)
      clear hK K
      refine norm_ (a' := ?_) ?_ ?_
      rotate_left
      ·show Act.put _ (some 79) _ = _
       simp only [Act.put, List.setIfInBounds_toArray, List.set_cons_zero, List.set_cons_succ, i64_w, i32_w]
       rfl
      refine pure_ (i := 11) (N := some 80) (v := ?_) (a' := ?_) #[true, true, true, true, true, true, true, true, true, true, true, true] rfl rfl (by kernel_rfl) (fun _ _ _ h => h) (Or.inl ⟨by rfl, ?_⟩) ?_ ?_
      rotate_left
      ·intro w'
       go_simp
       with_reducible rfl
      rotate_left
      ·simp only [Act.put, List.setIfInBounds_toArray, List.set_cons_zero, List.set_cons_succ, i64_w, i32_w]
       rfl
      refine done_ (by kernel_rfl) ?_
      have HM := Lib.hid hHeld
      clear hHeld HN hcall
      go_wp2
      go_roundw
      case rel => exact ⟨k + 1, by omega, by go_num, z, rfl, Lib.hid (by
       rw [HZ.out]
       have h1 := HBK.out
       rw [eq_comm, decide_eq_false_iff_not] at h1
       rw [List.take_succ_eq_append_getElem hkc, ← HXX.out]
       simp [h1, eq_comm]), Lib.hid HM.out.2⟩
      case measure => simp [intOf]; omega
     ·skip
      refine start_ (n := 13) (S := fun W => W.rangeAt bc (oc + k * 20) x.cells ∧ SV w t (some ⟨bl, ol, none⟩) l bl (ol + i * 20) v W ∧ kV.C W (some ⟨bc, oc, none⟩) cov.length cov) (ds := []) #[false, false, false, false, false, false, false, false, false, false, false, false, false] (by kernel_rfl) rfl rfl (HST.out _ _ HQ.out (show Below wr.heap.size wr wr.drew from (Below.refl _ _).drew)) (fun hHeld => ?_)
      refine pure_ (i := 0) (N := some 57) (v := ?_) (a' := ?_) #[true, false, false, false, false, false, false, false, false, false, false, false, false] rfl rfl (by kernel_rfl) (fun _ _ _ h => h) (Or.inl ⟨by rfl, ?_⟩) ?_ ?_
      rotate_left
      ·intro w'
       go_simp
       with_reducible rfl
      rotate_left
      ·simp only [Act.put, List.setIfInBounds_toArray, List.set_cons_zero, List.set_cons_succ, i64_w, i32_w]
       rfl
      refine pure_ (i := 1) (N := some 58) (v := ?_) (a' := ?_) #[true, true, false, false, false, false, false, false, false, false, false, false, false] rfl rfl (by kernel_rfl) (fun _ _ _ h => h) (Or.inl ⟨by rfl, ?_⟩) ?_ ?_
      rotate_left
      ·intro w'
       go_simp
       with_reducible rfl
      rotate_left
      ·simp only [Act.put, List.setIfInBounds_toArray, List.set_cons_zero, List.set_cons_succ, i64_w, i32_w]
       rfl
      refine pure_ (i := 2) (N := some 59) (v := undef) (a' := ?_) #[true, true, true, false, false, false, false, false, false, false, false, false, false] rfl rfl (by kernel_rfl) (fun _ _ _ h => h) (Or.inr ⟨by rfl, rfl⟩) ?_ ?_
      rotate_left
      ·simp only [Act.put, List.setIfInBounds_toArray, List.set_cons_zero, List.set_cons_succ, i64_w, i32_w]
       rfl
      refine pure_ (i := 3) (N := some 60) (v := undef) (a' := ?_) #[true, true, true, true, false, false, false, false, false, false, false, false, false] rfl rfl (by kernel_rfl) (fun _ _ _ h => h) (Or.inr ⟨by rfl, rfl⟩) ?_ ?_
      rotate_left
      ·simp only [Act.put, List.setIfInBounds_toArray, List.set_cons_zero, List.set_cons_succ, i64_w, i32_w]
       rfl
      refine pure_ (i := 4) (N := some 61) (v := undef) (a' := ?_) #[true, true, true, true, true, false, false, false, false, false, false, false, false] rfl rfl (by kernel_rfl) (fun _ _ _ h => h) (Or.inr ⟨by rfl, rfl⟩) ?_ ?_
      rotate_left
      ·simp only [Act.put, List.setIfInBounds_toArray, List.set_cons_zero, List.set_cons_succ, i64_w, i32_w]
       rfl
      refine pure_ (i := 5) (N := some 62) (v := undef) (a' := ?_) #[true, true, true, true, true, true, false, false, false, false, false, false, false] rfl rfl (by kernel_rfl) (fun _ _ _ h => h) (Or.inr ⟨by rfl, rfl⟩) ?_ ?_
      rotate_left
      ·simp only [Act.put, List.setIfInBounds_toArray, List.set_cons_zero, List.set_cons_succ, i64_w, i32_w]
       rfl
      refine pure_ (i := 6) (N := some 63) (v := undef) (a' := ?_) #[true, true, true, true, true, true, true, false, false, false, false, false, false] rfl rfl (by kernel_rfl) (fun _ _ _ h => h) (Or.inr ⟨by rfl, rfl⟩) ?_ ?_
      rotate_left
      ·simp only [Act.put, List.setIfInBounds_toArray, List.set_cons_zero, List.set_cons_succ, i64_w, i32_w]
       rfl
      refine pure_ (i := 7) (N := some 64) (v := undef) (a' := ?_) #[true, true, true, true, true, true, true, true, false, false, false, false, false] rfl rfl (by kernel_rfl) (fun _ _ _ h => h) (Or.inr ⟨by rfl, rfl⟩) ?_ ?_
      rotate_left
      ·simp only [Act.put, List.setIfInBounds_toArray, List.set_cons_zero, List.set_cons_succ, i64_w, i32_w]
       rfl
      refine pure_ (i := 8) (N := some 65) (v := undef) (a' := ?_) #[true, true, true, true, true, true, true, true, true, false, false, false, false] rfl rfl (by kernel_rfl) (fun _ _ _ h => h) (Or.inr ⟨by rfl, rfl⟩) ?_ ?_
      rotate_left
      ·simp only [Act.put, List.setIfInBounds_toArray, List.set_cons_zero, List.set_cons_succ, i64_w, i32_w]
       rfl
      refine pure_ (i := 9) (N := some 66) (v := undef) (a' := ?_) #[true, true, true, true, true, true, true, true, true, true, false, false, false] rfl rfl (by kernel_rfl) (fun _ _ _ h => h) (Or.inr ⟨by rfl, rfl⟩) ?_ ?_
      rotate_left
      ·simp only [Act.put, List.setIfInBounds_toArray, List.set_cons_zero, List.set_cons_succ, i64_w, i32_w]
       rfl
      refine pure_ (i := 10) (N := some 67) (v := undef) (a' := ?_) #[true, true, true, true, true, true, true, true, true, true, true, false, false] rfl rfl (by kernel_rfl) (fun _ _ _ h => h) (Or.inr ⟨by rfl, rfl⟩) ?_ ?_
      rotate_left
      ·simp only [Act.put, List.setIfInBounds_toArray, List.set_cons_zero, List.set_cons_succ, i64_w, i32_w]
       rfl
      refine pure_ (i := 11) (N := some 68) (v := ?_) (a' := ?_) #[true, true, true, true, true, true, true, true, true, true, true, true, false] rfl rfl (by kernel_rfl) (fun _ _ _ h => h) (Or.inl ⟨by rfl, ?_⟩) ?_ ?_
      rotate_left
      ·intro w'
       go_simp
       with_reducible rfl
      rotate_left
      ·simp only [Act.put, List.setIfInBounds_toArray, List.set_cons_zero, List.set_cons_succ, i64_w, i32_w]
       rfl
      refine pure_ (i := 12) (N := some 8) (v := ?_) (a' := ?_) #[true, true, true, true, true, true, true, true, true, true, true, true, true] rfl rfl (by kernel_rfl) (fun _ _ _ h => h) (Or.inl ⟨by rfl, ?_⟩) ?_ ?_
      rotate_left
      ·intro w'
       go_simp
       with_reducible rfl
      rotate_left
      ·simp only [Act.put, List.setIfInBounds_toArray, List.set_cons_zero, List.set_cons_succ, i64_w, i32_w]
       rfl
      refine done_ (by kernel_rfl) ?_
      generalize wr.drew = w5 at hHeld ⊢
      have HN := Lib.hid hHeld
      clear hHeld heq
      go_wp2
      refine start_ (n := 12) (S := fun W => W.rangeAt bc (oc + k * 20) x.cells ∧ SV w t (some ⟨bl, ol, none⟩) l bl (ol + i * 20) v W ∧ kV.C W (some ⟨bc, oc, none⟩) cov.length cov) (ds := []) #[false, false, false, false, false, false, false, false, false, false, false, false] (by kernel_rfl) rfl rfl (HST.out _ _ HN.out (show Below w5.heap.size w5 w5.drew from (Below.refl _ _).drew)) (fun hHeld => ?_)
      refine pure_ (i := 0) (N := some 69) (v := ?_) (a' := ?_) #[true, false, false, false, false, false, false, false, false, false, false, false] rfl rfl (by kernel_rfl) (fun _ _ _ h => h) (Or.inl ⟨by rfl, ?_⟩) ?_ ?_
      rotate_left
      ·intro w'
       go_simp
       with_reducible rfl
      rotate_left
      ·simp only [Act.put, List.setIfInBounds_toArray, List.set_cons_zero, List.set_cons_succ, i64_w, i32_w]
       rfl
      refine pure_ (i := 1) (N := some 70) (v := ?_) (a' := ?_) #[true, true, false, false, false, false, false, false, false, false, false, false] rfl rfl (by kernel_rfl) (fun _ _ _ h => h) (Or.inl ⟨by rfl, ?_⟩) ?_ ?_
      rotate_left
      ·intro w'
       go_simp
       with_reducible rfl
      rotate_left
      ·simp only [Act.put, List.setIfInBounds_toArray, List.set_cons_zero, List.set_cons_succ, i64_w, i32_w]
       rfl
      refine pure_ (i := 2) (N := some 71) (v := ?_) (a' := ?_) #[true, true, true, false, false, false, false, false, false, false, false, false] rfl rfl (by kernel_rfl) (fun _ _ _ h => h) (Or.inl ⟨by rfl, ?_⟩) ?_ ?_
      rotate_left
      ·intro w'
       go_simp
       with_reducible rfl
      rotate_left
      ·simp only [Act.put, List.setIfInBounds_toArray, List.set_cons_zero, List.set_cons_succ, i64_w, i32_w]
       rfl
      refine pure_ (i := 3) (N := some 72) (v := ?_) (a' := ?_) #[true, true, true, true, false, false, false, false, false, false, false, false] rfl rfl (by kernel_rfl) (fun _ _ _ h => h) (Or.inl ⟨by rfl, ?_⟩) ?_ ?_
      rotate_left
      ·intro w'
       go_simp
       with_reducible rfl
      rotate_left
      ·simp only [Act.put, List.setIfInBounds_toArray, List.set_cons_zero, List.set_cons_succ, i64_w, i32_w]
       rfl
      refine take_ (i := 4) (N := some 73) (v := .agg x.p.arr) (a' := ?_) #[true, true, true, true, true, false, false, false, false, false, false, false] rfl rfl (by kernel_rfl) (fun _ _ _ h => h) ?_ hHeld ?_ ?_
      ·exact yP (by rfl) rfl x.p bc (oc + k * 20 + 1) rfl (fun W h => rp_of_v h.1)
      rotate_left
      ·simp only [Act.put, List.setIfInBounds_toArray, List.set_cons_zero, List.set_cons_succ, i64_w, i32_w]
       rfl
      refine pure_ (i := 5) (N := some 74) (v := ?_) (a' := ?_) #[true, true, true, true, true, true, false, false, false, false, false, false] rfl rfl (by kernel_rfl) (fun _ _ _ h => h) (Or.inl ⟨by rfl, ?_⟩) ?_ ?_
      rotate_left
      ·intro w'
       go_simp
       with_reducible rfl
      rotate_left
      ·simp only [Act.put, List.setIfInBounds_toArray, List.set_cons_zero, List.set_cons_succ, i64_w, i32_w]
       rfl
      refine pure_ (i := 6) (N := some 75) (v := ?_) (a' := ?_) #[true, true, true, true, true, true, true, false, false, false, false, false] rfl rfl (by kernel_rfl) (fun _ _ _ h => h) (Or.inl ⟨by rfl, ?_⟩) ?_ ?_
      rotate_left
      ·intro w'
       go_simp
       with_reducible rfl
      rotate_left
      ·simp only [Act.put, List.setIfInBounds_toArray, List.set_cons_zero, List.set_cons_succ, i64_w, i32_w]
       rfl
      refine pure_ (i := 7) (N := some 76) (v := ?_) (a' := ?_) #[true, true, true, true, true, true, true, true, false, false, false, false] rfl rfl (by kernel_rfl) (fun _ _ _ h => h) (Or.inl ⟨by rfl, ?_⟩) ?_ ?_
      rotate_left
      ·intro w'
       go_simp
       with_reducible rfl
      rotate_left
      ·simp only [Act.put, List.setIfInBounds_toArray, List.set_cons_zero, List.set_cons_succ, i64_w, i32_w]
       rfl
      refine pure_ (i := 8) (N := some 77) (v := ?_) (a' := ?_) #[true, true, true, true, true, true, true, true, true, false, false, false] rfl rfl (by kernel_rfl) (fun _ _ _ h => h) (Or.inl ⟨by rfl, ?_⟩) ?_ ?_
      rotate_left
      ·intro w'
       go_simp
       with_reducible rfl
      rotate_left
      ·simp only [Act.put, List.setIfInBounds_toArray, List.set_cons_zero, List.set_cons_succ, i64_w, i32_w]
       rfl
      refine take_ (i := 9) (N := some 78) (v := .agg v.p.arr) (a' := ?_) #[true, true, true, true, true, true, true, true, true, true, false, false] rfl rfl (by kernel_rfl) (fun _ _ _ h => h) ?_ hHeld ?_ ?_
      ·exact yP (by rfl) rfl v.p bl (ol + i * 20 + 1) rfl (fun W h => rp_of_v h.2.1.2.1)
      rotate_left
      ·simp only [Act.put, List.setIfInBounds_toArray, List.set_cons_zero, List.set_cons_succ, i64_w, i32_w]
       rfl
      refine one_ (i := 10) (N := some 79) #[true, true, true, true, true, true, true, true, true, true, true, false] rfl rfl (by kernel_rfl) (by decide) (fun K hK => ?_)
      refine goes_ Try.func17 (by kernel_rfl) rfl #[.agg x.p.arr, .agg v.p.arr] (by rfl) rfl rfl (by (try simp only [List.map_toArray, List.map_cons, List.map_nil]); first | done | rfl) ?_
      refine (hcall _).mono ?_
      rintro e w6 ⟨rfl, hB⟩
      refine ⟨_, rfl, ?_⟩
      refine hK.out _ _ (HST.out _ _ hHeld hB) (fun hHeld => ?_)
      clear hK K
      refine norm_ (a' := ?_) ?_ ?_
      rotate_left
      ·show Act.put _ (some 79) _ = _
       simp only [Act.put, List.setIfInBounds_toArray, List.set_cons_zero, List.set_cons_succ, i64_w, i32_w]
       rfl
      refine pure_ (i := 11) (N := some 80) (v := ?_) (a' := ?_) #[true, true, true, true, true, true, true, true, true, true, true, true] rfl rfl (by kernel_rfl) (fun _ _ _ h => h) (Or.inl ⟨by rfl, ?_⟩) ?_ ?_
      rotate_left
      ·intro w'
       go_simp
       with_reducible rfl
      rotate_left
      ·simp only [Act.put, List.setIfInBounds_toArray, List.set_cons_zero, List.set_cons_succ, i64_w, i32_w]
       rfl
      refine done_ (by kernel_rfl) ?_
      have HM := Lib.hid hHeld
      clear hHeld HN hcall
      go_wp2
      go_roundw
      case rel => exact ⟨k + 1, by omega, by go_num, true, rfl, Lib.hid (by
       have h1 := HBK.out
       rw [eq_comm, decide_eq_true_iff] at h1
       exact (decide_eq_true (by rw [List.take_succ_eq_append_getElem hkc]; exact List.mem_append_left _ h1)).symm), Lib.hid HM.out.2⟩
      case measure => simp [intOf]; omega
    ·have hkn : k = cov.length := by omega
     subst hkn
     have HS5 := Lib.hid HX.out.1
     have hb := HBK.out
     rw [List.take_length] at hb
     clear HX HBK
     have hj1 := eq_false (show ¬ (cov.length : Int) < (cov.length : Int) by omega)
     have hj2 : decide ((cov.length : Int) < (cov.length : Int)) = false := decide_eq_false (by omega)
     have hj3 : decide (cov.length < cov.length) = false := decide_eq_false (by omega)
     have hi1 := eq_true (show (i : Int) < (l.length : Int) by omega)
     obtain ⟨o, ho⟩ : ∃ o, o = oneB v := ⟨_, rfl⟩
     have hbo : b = o := by
      have h := HF.out.2.2.1
      cases hob : oneB v
      ·rw [ho, hob, hb]; exact decide_eq_false (fun hm => by have := h.1 hm; rw [hob] at this; cases this)
      ·rw [ho, hob, hb]; exact decide_eq_true (h.2 hob)
     clear hb
     subst hbo
     have ha1 : b = true → a ≠ 0 := fun h => HF.out.1 (ho ▸ h)
     have ha2 : b = true → v.asn ≠ 0 → a = 2 := fun h => HF.out.2.1 (ho ▸ h)
     have hone : ∀ W, Calls Try.prog 18 #[.agg v.arr] W fun e w' => e = .returned (.bool b) ∧ Below W.heap.size W w' := fun W => by have := refOne_walk v W; rwa [← ho] at this
     clear ho HF
     go_wp2_with ((with_reducible refine at_dst 84 ?_); refine loadV v bl (ol + i * 20) rfl HS5.out.2.1 ?_)
     refine (hone _).mono ?_
     rintro e w6 ⟨rfl, hB⟩
     have HS6 := Lib.hid (HS5.out.step hB)
     have c0 := HS6.out.1
     clear hB HS5 hone hj1 hj2 hj3
     cases b
     ·clear ha1 ha2
      go_wp2
      go_roundw
      case rel => exact ⟨i + 1, by omega, by go_num, Lib.hid HS6.out.2.2⟩
      case measure => simp [intOf]; omega
     ·by_cases han : v.asn = 0
      ·have h0 := ha1 rfl
       clear ha1 ha2
       have e1 := eq_false h0
       have e2 : decide (a = 0) = false := decide_eq_false h0
       rw [han] at c0
       go_wp2
       go_roundw
       case rel => exact ⟨i + 1, by omega, by go_num, Lib.hid HS6.out.2.2⟩
       case measure => simp [intOf]; omega
      ·have h2 := ha2 rfl han
       subst h2
       clear ha1 ha2
       have e1 := eq_false han
       have e2 : decide (v.asn = 0) = false := decide_eq_false han
       go_wp2
       go_roundw
       case rel => exact ⟨i + 1, by omega, by go_num, Lib.hid HS6.out.2.2⟩
       case measure => simp [intOf]; omega
  ·have hin : i = l.length := by omega
   subst hin
   obtain ⟨n, hn⟩ : ∃ n, n = (rowP l).length := ⟨_, rfl⟩
   have hnl : n ≤ l.length := by rw [hn, ← acc_row_len]; exact acc_len l
   have HN := Lib.hid hn
   clear hn
   have hi1 := eq_false (show ¬ (l.length : Int) < (l.length : Int) by omega)
   have hi2 : decide ((l.length : Int) < (l.length : Int)) = false := decide_eq_false (by omega)
   have hi3 : decide (l.length < l.length) = false := decide_eq_false (by omega)
   go_wp2_with fail
   refine (lenL HX.out.1).mono ?_
   rintro e w8 ⟨rfl, hw⟩
   subst hw
   rw [← HN.out]
   have hn1 := eq_true (show (n : Int) ≤ (l.length : Int) by omega)
   have hn2 : decide ((n : Int) ≤ (l.length : Int)) = true := decide_eq_true (by omega)
   have hn3 : decide (n ≤ l.length) = true := decide_eq_true hnl
   go_wp2
   go_ret
   exact ⟨rfl, HX.out.2.2⟩

end Go.Proofs.Ytllahlgnjeeliaa.Ad
end

section
set_option linter.unusedVariables false
set_option linter.unusedSimpArgs false
namespace Go.Proofs.Ytllahlgnjeeliaa.Ad
open Go.ChangeShapes Go.WideShapes Go.Deep Go.RowKit Go.Proofs.YtllahlgnjeeliaaW.PrintWords Go.Proofs.YtllahlgnjeeliaaW.PrintLast Go.Proofs.YtllahlgnjeeliaaW.PrintMore Go.Proofs.Ytllahlgnjeeliaa.PT

theorem listedV {α : Type} {Q : Nat → α → Prop} : ∀ (n : Nat), (∀ i, i < n → ∃ x, Q i x) → ∃ l : List α, l.length = n ∧ ∀ i x, l[i]? = some x → Q i x
 | 0, _ => ⟨[], rfl, fun i x h => by simp at h⟩
 | n + 1, h => by
  obtain ⟨l, hl, hq⟩ := listedV n (fun i hi => h i (by omega))
  obtain ⟨x, hx⟩ := h n (by omega)
  refine ⟨l ++ [x], by simp [hl], fun i y hy => ?_⟩
  by_cases hi : i < n
  ·rw [List.getElem?_append_left (by omega)] at hy
   exact hq i y hy
  ·rw [List.getElem?_append_right (by omega)] at hy
   have : i - l.length = 0 := by
    by_cases h0 : i - l.length = 0
    ·exact h0
    ·rw [List.getElem?_eq_none (by simp; omega)] at hy
     cases hy
   rw [this] at hy
   simp at hy
   subst hy
   rw [show i = n by omega]
   exact hx
section
variable {H : Type} {enc : TypeId × Value → H} {w : World} {base : Nat} {held : Bool}
set_option maxRecDepth 100000 in
theorem openA_f {fuel : Nat} {cs : List Value} {x : DataW H × List MemPlace} (h : DataW.trod enc Try.prog w base (fun _ => true) held fuel 23 cs = some x) :
 ∃ a : A16, cs = a.cells := by
 obtain ⟨xs, n, hn, _, hl, hlen, hf⟩ := DataW.trod_array Try.underlying23 h
 have hl : cs.length = 16 := hl
 have c1 : Try.prog.cellsOf 5 = 1 := by kernel_rfl
 rw [c1] at hf
 obtain ⟨l, hll, hq⟩ := listedV (Q := fun i (m : Int) => (cs.drop (i * 1)).take 1 = [.int .u8 m] ∧ (Lit.int .u8 m).wf = true) 16 (fun i hi => by
  have hi' := hf i hi
  rw [List.getElem?_eq_getElem (by omega)] at hi'
  obtain ⟨m, e, _, b⟩ := DataW.trod_int Try.underlying5 hi'
  exact ⟨m, e, b⟩)
 refine ⟨⟨l, hll, fun x hx => ?_⟩, ?_⟩
 ·obtain ⟨j, hj⟩ := List.mem_iff_getElem?.1 hx
  have := (hq j x hj).2
  simp [Lit.wf, IntKind.min, IntKind.max, IntKind.signed, IntKind.bits] at this
  omega
 ·apply List.ext_getElem
  ·rw [hl, A16.cells_len]
  ·intro i h1 h2
   have := (hq i l[i] (List.getElem?_eq_getElem (by omega))).1
   rw [Nat.mul_one, List.drop_eq_getElem_cons h1, List.take_succ_cons, List.take_zero] at this
   injection this with this
   rw [this]
   simp [A16.cells]
set_option maxRecDepth 100000 in
theorem openP_f {fuel : Nat} {cs : List Value} {x : DataW H × List MemPlace} (h : DataW.trod enc Try.prog w base (fun _ => true) held fuel 25 cs = some x) :
 ∃ p : Pfx, cs = p.cells ∧ (Lit.int .i64 p.n).wf = true := by
 obtain ⟨xs, n, hn, _, hl, hlen, hf⟩ := DataW.trod_struct Try.underlying25 h
 have hl : cs.length = 18 := hl
 match xs, hlen with
 | [y0, y1, y2], _ =>
 have h0 := hf 0 _ rfl
 have h1 := hf 1 _ rfl
 have h2 := hf 2 _ rfl
 replace h0 : DataW.trod enc Try.prog w base (fun _ => true) held n 4 (cs.take 1) = some y0 := h0
 replace h1 : DataW.trod enc Try.prog w base (fun _ => true) held n 23 ((cs.drop 1).take 16) = some y1 := h1
 replace h2 : DataW.trod enc Try.prog w base (fun _ => true) held n 3 ((cs.drop 17).take 1) = some y2 := h2
 obtain ⟨b, e0, _⟩ := DataW.trod_bool Try.underlying4 h0
 obtain ⟨a, e1⟩ := openA_f h1
 obtain ⟨m, e2, _, wf⟩ := DataW.trod_int Try.underlying3 h2
 refine ⟨⟨b, a, m⟩, ?_, wf⟩
 have k1 : cs = cs.take 1 ++ ((cs.drop 1).take 16 ++ (cs.drop 17).take 1) := by
  rw [List.take_of_length_le (l := cs.drop 17) (by simp; omega), show cs.drop 17 = (cs.drop 1).drop 16 by rw [List.drop_drop], List.take_append_drop, List.take_append_drop]
 rw [k1, e0, e1, e2]
 rfl
set_option maxRecDepth 100000 in
theorem openW_f {fuel : Nat} {cs : List Value} {x : DataW H × List MemPlace} (h : DataW.trod enc Try.prog w base (fun _ => true) held fuel 39 cs = some x) :
 ∃ v : Vrp, cs = v.cells := by
 obtain ⟨xs, n, hn, _, hl, hlen, hf⟩ := DataW.trod_struct Try.underlying39 h
 have hl : cs.length = 20 := hl
 match xs, hlen with
 | [y0, y1, y2], _ =>
 have h0 := hf 0 _ rfl
 have h1 := hf 1 _ rfl
 have h2 := hf 2 _ rfl
 replace h0 : DataW.trod enc Try.prog w base (fun _ => true) held n 26 (cs.take 1) = some y0 := h0
 replace h1 : DataW.trod enc Try.prog w base (fun _ => true) held n 25 ((cs.drop 1).take 18) = some y1 := h1
 replace h2 : DataW.trod enc Try.prog w base (fun _ => true) held n 3 ((cs.drop 19).take 1) = some y2 := h2
 obtain ⟨b, e0, _, _⟩ := DataW.trod_int Try.underlying26 h0
 obtain ⟨p, e1, _⟩ := openP_f h1
 obtain ⟨m, e2, _, wf⟩ := DataW.trod_int Try.underlying3 h2
 refine ⟨⟨b, p, m⟩, ?_⟩
 have k1 : cs = cs.take 1 ++ ((cs.drop 1).take 18 ++ (cs.drop 19).take 1) := by
  rw [List.take_of_length_le (l := cs.drop 19) (by simp; omega), show cs.drop 19 = (cs.drop 1).drop 18 by rw [List.drop_drop], List.take_append_drop, List.take_append_drop]
 rw [k1, e0, e1, e2]
 rfl
set_option maxRecDepth 100000 in
/-- A row that came in. -/
theorem openV {r : Reach} {b0 : Nat} {v : Value} {d : DataW H} {p : List MemPlace} {ts : List TypeId} {ds : List (DataW H)} {j : Nat}
 (hsz : (DataW.weightsEach Try.prog ts ds).all (· ≤ reachBytes) = true) (ht : ts[j]? = some 22) (hd : ds[j]? = some d)
 (hv : Value.okWide Try.prog w r b0 22 v) (h : DataW.Trod enc Try.prog w base (fun _ => true) held 22 v d p) :
 ∃ (A : Option Addr) (c : Nat) (l : List Vrp), v = .slice A l.length c ∧ kV.C w A l.length l ∧ l.length ≤ c ∧ l.length * 48 ≤ 140737488351232 := by
 obtain ⟨a, len, cap, rfl⟩ := okWide_slice Try.underlying22 hv
 obtain ⟨fuel, hf⟩ := h
 rcases DataW.trod_slice Try.underlying22 hf with ⟨hcs, _⟩ | ⟨a', len', cap', elems, rest, n2, hn2, hcs, hx, _, hle, hm, hel, hget, _, _⟩
 ·simp [Value.cells] at hcs
  obtain ⟨rfl, rfl, rfl⟩ := hcs
  exact ⟨none, 0, [], rfl, ⟨rfl, by simp, fun h => absurd rfl (Nat.ne_of_gt h)⟩, Nat.le_refl _, by simp⟩
 ·simp [Value.cells] at hcs
  obtain ⟨rfl, rfl, rfl⟩ := hcs
  obtain ⟨hx, _⟩ := Prod.mk.inj hx
  subst hx
  have z := sized_slice hsz ht hd Try.underlying22
  have hB : Try.prog.bytesOf 39 = 48 := by kernel_rfl
  rw [hB] at z
  obtain ⟨l, hl, hq⟩ := listedV (Q := fun i (s : Vrp) => w.cells? base (a'.add (i * Try.prog.cellsOf 39)) (Try.prog.cellsOf 39) = some s.cells) len (fun i hil => by
   have hi := hget i hil
   rw [List.getElem?_eq_getElem (by omega)] at hi
   obtain ⟨cs', g1, g2⟩ := Option.bind_eq_some_iff.1 hi
   obtain ⟨s, e⟩ := openW_f g2
   exact ⟨s, e ▸ g1⟩)
  subst hl
  have hC : Try.prog.cellsOf 39 = 20 := by kernel_rfl
  rw [hC] at hq
  refine ⟨some a', cap, l, rfl, ⟨rfl, (by have h9 : maxLen ≤ 9223372036854775807 := (by decide); show l.length ≤ 9223372036854775807; omega), fun _ => ⟨a', rfl, fun j s hj => ?_⟩⟩, hle, ?_⟩
  ·obtain ⟨_, _, hat⟩ := World.cells?_some (hq j s hj)
   refine ⟨s.cells, Vrp.cells_len _, rfl, fun i u hu => ?_⟩
   have hi : i < 20 := by
    by_cases h : i < 20
    ·exact h
    ·rw [List.getElem?_eq_none (by rw [Vrp.cells_len]; omega)] at hu; cases hu
   have := hat i hi
   rw [Go.Deep.add_add] at this
   exact this.trans hu
  ·have h1 : (elems.map (·.1)).length = l.length := by rw [List.length_map, hel]
   have h2 := Nat.le_trans (Nat.mul_le_mul_right 48 (Nat.le_add_right _ _)) z
   rw [h1] at h2
   exact h2
end
end Go.Proofs.Ytllahlgnjeeliaa.Ad
end
