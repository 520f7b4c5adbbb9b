/- Merged by a program of this session (wip/tools/pack.py). -/
import Derived.Test.YtllahlgnjeeliaaKTrieTells1
import Derived.Shelf.SlSortCmp.NoneTotal
import Derived.Deep.Slices
import Derived.Deep.Fields
import Derived.ChangeSame
import Derived.OpenShut
import Derived.SizedLaws
section
set_option linter.unusedVariables false
set_option linter.unusedSimpArgs false
namespace Go.Proofs.Ytllahlgnjeeliaa.Ad
open Go.Shelf Go.RowKit Go.Lib Go.Sort Go.Proofs.YtllahlgnjeeliaaW.PrintWords Go.Proofs.YtllahlgnjeeliaaW.PrintLast Go.Proofs.YtllahlgnjeeliaaW.PrintMore Go.Proofs.Ytllahlgnjeeliaa.PT

instance inhV : Inhabited Vrp := ⟨zV⟩
def JC (W0 : World) (g : Nat) (vs : List Vrp) (W : World) : Prop :=
 ∃ A c, Has W g #[.slice A vs.length c] 22 ∧ kV.R 39 W W0.heap.size (fun _ => True) (.slice A vs.length c) vs ∧ Below W0.heap.size W0 W ∧ W0.heap.size ≤ g

set_option maxHeartbeats 2000000 in
set_option maxRecDepth 100000 in
theorem cov1_walk (W0 : World) (g : Nat) (vs : List Vrp) (v : Vrp) (W : World) (h : JC W0 g vs W) (hl : (vs.length + 1) * 48 ≤ 140737488355328) :
 Calls Try.prog 23 #[.agg v.arr, .pointer (some ⟨g, 0, none⟩)] W fun e w' => e = .returned (.bool true) ∧ JC W0 g (vs ++ [v]) w' ∧ ∀ g' (q : Pfx), Has W g' q.arr 25 → Has w' g' q.arr 25 := by
 obtain ⟨A, c, hg, hR, hB, hge⟩ := h
 have hB0 : Below W.heap.size W (W.alloc (.cells v.arr 39)) := (Below.refl _ _).alloc (Nat.le_refl _) _
 have HV := Lib.hid (Has.new W v.arr 39)
 have HG := Lib.hid (hg.below hB0)
 have HR := Lib.hid (Kd.R_below hR hB0)
 have HB := Lib.hid (hB.trans (hB0.mono hB.size))
 have HK : Hid (∀ g' (q : Pfx), Has W g' q.arr 25 → Has (W.alloc (.cells v.arr 39)) g' q.arr 25) := Lib.hid (fun g' q hq => hq.below hB0)
 clear hg hR hB hB0
 go_enter Try.func23, Try.ntmps23
 go_upto_region 1 with (fail)
 generalize hs : W.heap.size = gs at HV ⊢
 generalize W.alloc (.cells v.arr 39) = W1 at HV HG HR HB HK ⊢
 have cg : W1.cell? ⟨g, 0, none⟩ = some (.slice A vs.length c) := HG.out.c 0
 have hnb : some g ≠ (Value.slice A vs.length c).ownBlock := fun e => by
  obtain ⟨cells, hc⟩ := R_typed HR.out e.symm
  exact Has.ne HG.out hc (by decide) rfl
 have HNB := Lib.hid hnb
 clear hnb hs
 go_wp2_with (first
  | ((with_reducible refine at_dst 5 ?_); refine loadV v gs 0 rfl HV.out.rv ?_)
  | ((with_reducible refine at_dst 6 ?_); refine valL rfl (exec_buildV v rfl _) ?_)
  | ((with_reducible refine at_dst 7 ?_); refine appRowsL (w0 := W0) W0.heap.size rfl (.tmp 4) (.tmp 6) rfl (.slice A vs.length c) vs [v] (some ⟨W1.heap.size, 0, none⟩) 1 1 rfl rfl (Kd.R_below HR.out ((Below.refl _ _).alloc (Nat.le_refl _) _)) (C_one (Has.new W1 v.arr _)) (HB.out.alloc HB.out.size _) (by have := HB.out.size; simp; omega) hl ?_; intro v3 w3 hR3 hB3 hg3 hat3; obtain ⟨A3, c3, e3⟩ := Kd.R_slice hR3; subst e3; have HR3 := Lib.hid hR3; have HB3 := Lib.hid hB3; have HG3 := Lib.hid ((hg3.block g (HG.out.alloc _).lt HNB.out).trans (HG.out.alloc _)); have HK3 : Hid (∀ g' (q : Pfx), Has W g' q.arr 25 → Has w3 g' q.arr 25) := Lib.hid (fun g' q hq => (hg3.block g' ((HK.out g' q hq).alloc _).lt (fun e => by obtain ⟨cells, hc⟩ := R_typed HR.out e.symm; exact Has.ne (HK.out g' q hq) hc (by decide) rfl)).trans ((HK.out g' q hq).alloc _)); clear hR3 hB3 hg3 hat3 cg; have cg3 : w3.cell? ⟨g, 0, none⟩ = some (.slice A vs.length c) := Has.c (cs := #[.slice A vs.length c]) (t := 22) HG3.out 0; have fg3 := Has.f (cs := #[.slice A vs.length c]) (t := 22) HG3.out 0))
 go_ret
 have hG3 : Has w3 g #[.slice A vs.length c] 22 := HG3.out
 refine ⟨rfl, ⟨A3, c3, ?_, ?_, Below.setCell HB3.out (p := ⟨g, 0, none⟩) hge _, hge⟩, fun g' q hq => (HK3.out g' q hq).far (p := ⟨g, 0, none⟩) (fun e => (hG3.ne (HK3.out g' q hq) (by decide)) e.symm) _⟩
 ·unfold Has; rw [heap_setCell_same _ _ _ _ _ _ hG3]; simp
 ·exact R_own_only HR3.out (fun k hk => by
   obtain ⟨cells, hc⟩ := R_typed HR3.out hk
   exact heap_setCell_other _ _ _ _ (fun e => (hG3.ne hc (by decide)) e.symm))

set_option maxHeartbeats 1000000 in
set_option maxRecDepth 100000 in
theorem cov2_walk (x y : Vrp) (w : World) : Calls Try.prog 25 #[.agg x.arr, .agg y.arr] w fun e w' => e = .returned (.int .i64 (cmpV x y)) ∧ Gw w w' := by
 have H0 := G2.new w x.arr y.arr 39
 obtain ⟨r, hr⟩ : ∃ r, r = cmpV x y := ⟨_, rfl⟩
 have hcall : ∀ W, Calls Try.prog 26 #[.agg x.arr, .agg y.arr] W fun e w' => e = .returned (.int .i64 r) ∧ Gw W w' := fun W => by rw [hr]; exact rcmp_walk x y W
 rw [← hr]
 clear hr
 go_enter Try.func25, Try.ntmps25
 go_upto_region 1 with (fail)
 generalize (w.alloc (.cells x.arr 39)).alloc (.cells y.arr 39) = W at H0 ⊢
 go_wp2_with (first | ((with_reducible refine at_dst 5 ?_); refine loadV x w.heap.size 0 rfl H0.1.rv ?_) | ((with_reducible refine at_dst 6 ?_); refine loadV y (w.heap.size + 1) 0 rfl H0.2.1.rv ?_))
 refine (hcall _).mono ?_
 rintro e w1 ⟨rfl, hB⟩
 have H1 := H0.step hB
 clear H0 hB hcall
 go_wp2
 go_ret
 exact ⟨rfl, H1.2.2⟩

theorem ltV (x y : Vrp) : ltOf cmpV x y = decide (cmpV x y < 0) := rfl
theorem swoV : SWO (ltOf cmpV) where
 irrefl x := by rw [ltV, cmpV_eq.2 rfl]; rfl
 trans x y z h1 h2 := by rw [ltV] at *; simp at *; exact cmpV_trans h1 h2
 ntrans x y z h1 h2 := by
  rw [ltV] at *
  simp at *
  have a1 := cmpV_neg x y
  have a2 := cmpV_neg y z
  have a3 := cmpV_neg x z
  by_cases e1 : cmpV x y = 0
  ·rw [cmpV_eq.1 e1]; exact h2
  by_cases e2 : cmpV y z = 0
  ·rw [← cmpV_eq.1 e2]; exact h1
  ·have := cmpV_trans (a := z) (b := y) (c := x) (by omega) (by omega)
   omega
theorem sepV (x y : Vrp) (h1 : ltOf cmpV x y = false) (h2 : ltOf cmpV y x = false) : x = y := by
 rw [ltV] at h1 h2
 simp at h1 h2
 have := cmpV_neg x y
 exact cmpV_eq.1 (by omega)
def sortV (l : List Vrp) : List Vrp := l.mergeSort fun x y => !(ltOf cmpV) y x
theorem sortV_len (l : List Vrp) : (sortV l).length = l.length := (List.mergeSort_perm _ _).length_eq

theorem holdsV {w : World} {base g cap : Nat} {ok : Nat → Prop} {l : List Vrp} (hl : 0 < l.length) (h : Kd.R kV 39 w base ok (.slice (some ⟨g, 0, none⟩) l.length cap) l) :
 HoldsK Vrp.cells 20 w g 0 l.toArray ∧ g < w.heap.size ∧ base ≤ g := by
 obtain ⟨g', c', e, hb, hlt, cells, hc⟩ := Kd.R_form h hl
 injection e with e _ _
 injection e with e
 injection e with e _ _
 subst e
 obtain ⟨A, c, e, _, hC⟩ := Kd.R_reads h
 injection e with e _ _
 subst e
 obtain ⟨b, o, e, hR⟩ := C_form hC hl
 injection e with e
 injection e with e1 e2 _
 subst e1 e2
 refine ⟨fun j hj => ?_, hlt, hb⟩
 rw [size_flatK] at hj
 have hj2 : j / 20 < l.length := by simp at hj; omega
 refine ⟨?_, by simp [World.frozen?, hc]⟩
 rw [get_flatK _ _ _ _ hj]
 have he : (l.toArray[j / 20]! : Vrp) = l[j / 20] := by rw [getElem!_pos _ _ (by simpa using hj2)]; simp
 rw [he]
 have hm : j % 20 < l[j / 20].cells.length := by rw [Vrp.cells_len]; omega
 have := hR (j / 20) hj2 (j % 20) _ (List.getElem?_eq_getElem hm)
 rw [show 0 + j = 0 + j / 20 * 20 + j % 20 by omega, this]
 simp [getElem!_pos, hm]

/-- What the sort leaves. -/
def SortedR (w : World) (g n : Nat) (l : List Vrp) (w1 : World) : Prop := kV.C w1 (some ⟨g, 0, none⟩) n (sortV l) ∧ ∃ f os, w1.heap = (w.heap.modify g f) ++ os ∧ w1.os = w.os ∧ w1.tape = w.tape ∧ w1.output = w.output
theorem sorted_of {w w1 : World} {g n : Nat} {l : List Vrp} {os : Array Obj} (hle : l.length ≤ 140737488355328) (hH : HoldsK Vrp.cells 20 w g 0 l.toArray) (hg : g < w.heap.size)
 (hw : w1 = sortWorldK Vrp.cells 20 w g 0 n (sortV l).toArray os) : SortedR w g l.length l w1 := by
 have hsz := sortV_len l
 have hH1 : HoldsK Vrp.cells 20 w1 g 0 (sortV l).toArray := by rw [hw]; exact holdsK_sortWorldK_c Vrp.cells 20 w g 0 l.toArray (sortV l).toArray n os hH hg (by simpa using hsz)
 refine ⟨⟨hsz, by omega, fun _ => ⟨_, rfl, fun j p hj => ?_⟩⟩, ?_⟩
 ·have hjl : j < (sortV l).toArray.size := by
   have := (List.getElem?_eq_some_iff.1 hj).1
   simpa using this
  have ep : ((sortV l).toArray[j]! : Vrp) = p := by
   rw [getElem!_pos (sortV l).toArray j hjl]
   have := (List.getElem?_eq_some_iff.1 hj).2
   simpa using this
  refine ⟨p.cells, p.cells_len, rfl, fun i u hu => ?_⟩
  have hi : i < 20 := by have := (List.getElem?_eq_some_iff.1 hu).1; rwa [p.cells_len] at this
  have h2 := (HoldsK.cell hH1 hjl hi).1
  rw [ep, getElem!_def, hu] at h2
  rw [Addr.add_mid]
  have e9 : kV.sz = 20 := rfl
  rw [e9]
  simpa using h2
 ·exact ⟨_, os, by rw [hw]; rfl, by rw [hw]; rfl, by rw [hw]; rfl, by rw [hw]; rfl⟩
theorem SortedR.below {w w1 : World} {g n base : Nat} {l : List Vrp} (h : SortedR w g n l w1) (hb : base ≤ g) (hg : g < w.heap.size) : Below base w w1 := by
 obtain ⟨_, f, os, e, e1, e2, e3⟩ := h
 refine ⟨e1, e2, e3, by rw [e]; simp, fun k hk => ?_⟩
 rw [e]
 rw [Array.getElem?_append_left (by simp; omega), Array.getElem?_modify, if_neg (by omega)]

theorem sort_walk (l : List Vrp) (hpos : 0 < l.length) (hl : l.length ≤ 140737488355328) (g cap base : Nat) (w : World) (h : Kd.R kV 39 w base (fun _ => True) (.slice (some ⟨g, 0, none⟩) l.length cap) l) :
 Calls Try.prog 24 #[.slice (some ⟨g, 0, none⟩) l.length cap, .func (.func 25) #[] #[]] w fun e w' => e = .returned (.tuple #[]) ∧ SortedR w g l.length l w' := by
 obtain ⟨hH, hg, hb⟩ := holdsV hpos h
 have eg : ∀ args w, (callFunc 25 args).run Try.prog w = .ok (.enter 25 args) w := enters_of Try.func25 (by kernel_rfl) rfl
 have hcon := AnyQ.slices_SortFunc_total Try.sortR 20 Try.isAgg39 Try.sizeOf39 Vrp.cells Vrp.cells_len Vrp.one cmpV swoV 25 #[] g 0 cap l.toArray w eg (fun _ _ _ _ x y => cov2_walk x y _) hH hg (by simp; omega) sepV
 change Calls Try.prog 24 #[.slice (some ⟨g, 0, none⟩) l.length cap, _] w _ at hcon
 refine hcon.mono ?_
 rintro e w' ⟨rfl, n, os, hw⟩
 exact ⟨rfl, sorted_of hl hH hg hw⟩

def CovR (w : World) (l : List Vrp) (e : Ending) (w' : World) : Prop := ∃ A c, e = .returned (.slice A l.length c) ∧ l.length ≤ c ∧ kV.C w' A l.length l ∧ Below w.heap.size w w'
set_option maxHeartbeats 2000000 in
set_option maxRecDepth 100000 in
theorem covers_walk (base t m : Nat) (N : Path → Option Nat) (H : Path → Value) (acc : List Vrp) (p : Pfx) (w : World) (hT : TN w base t N H m acc) (hlen : (visP acc p).length * 48 ≤ 140737488355328) (hlen2 : acc.length ≤ 140737488355328) :
 Calls Try.prog 10 #[.pointer (some ⟨t, 0, none⟩), .agg p.arr] w fun e w' => CovR w (sortV (if rightB p then visP acc p else [])) e w' := by
 have HT := Lib.hid hT
 clear hT
 have eg : ∀ args w, (callFunc 23 args).run Try.prog w = .ok (.enter 23 args) w := enters_of Try.func23 (by kernel_rfl) rfl
 have HE := Lib.hid eg
 clear eg
 have HP : Hid (Has ((w.alloc (.cells p.arr 25)).alloc (.cells #[.slice none 0 0] 22)) w.heap.size p.arr 25) := Lib.hid (heap_alloc2_old w _ _)
 have HW : Hid (JC w (w.heap.size + 1) [] ((w.alloc (.cells p.arr 25)).alloc (.cells #[.slice none 0 0] 22))) := by
  refine Lib.hid ⟨none, 0, heap_alloc2_new w _ _, Kd.R_nil _ _ _ _ _, ((Below.refl _ _).alloc (Nat.le_refl _) _).alloc (by simp) _, by omega⟩
 obtain ⟨res, hres⟩ : ∃ res, res = (if rightB p then visP acc p else []) := ⟨_, rfl⟩
 rw [← hres]
 have hrl : res.length * 48 ≤ 140737488355328 := by rw [hres]; split; exact hlen; simp
 have hgo : (if rightB p then goL (fun _ => true) (visP acc p) else []) = res := by rw [hres]; split; exact goL_all (fun _ _ => rfl); rfl
 have HR := Lib.hid (And.intro hres hgo)
 clear hres hgo
 go_enter Try.func10, Try.ntmps10
 go_upto_region 2 with (fail)
 generalize (w.alloc (.cells p.arr 25)).alloc (.cells #[.slice none 0 0] 22) = W at HW HP ⊢
 go_wp2_with ((with_reducible refine at_dst 7 ?_); refine loadP p w.heap.size 0 rfl HP.out.rp ?_)
 refine (way_walk w base t m N H acc HT.out p 23 #[.pointer (some ⟨w.heap.size + 1, 0, none⟩)] HE.out (JC w (w.heap.size + 1)) (fun vs W W' ⟨A, c, h1, h2, h3, h4⟩ hB => ⟨A, c, h1.below hB, Kd.R_below h2 hB, h3.trans (hB.mono h3.size), h4⟩) (fun vs W ⟨_, _, _, _, h, _⟩ => h) (fun _ => true) (fun vs v r W hv h => cov1_walk w _ vs v W h (by have := congrArg List.length hv; simp at this; omega)) hlen2 W HW.out).mono ?_
 rintro e w1 ⟨rfl, hJ⟩
 rw [HR.out.2] at hJ
 obtain ⟨A, c, hg, hRo, hB, hge⟩ := hJ
 have cg : w1.cell? ⟨w.heap.size + 1, 0, none⟩ = some (.slice A res.length c) := hg.c 0
 obtain ⟨A', c', e1, hc', hC⟩ := Kd.R_reads hRo
 injection e1 with e1 _ e2
 subst e1 e2
 have HJ := Lib.hid (And.intro hg (And.intro hRo (And.intro hB (And.intro hc' hC))))
 clear hg hRo hB hge hc' hC
 by_cases hz : res.length = 0
 ·have hs : ∀ p c W, Calls Try.prog 24 #[.slice p 0 c, .func (.func 25) #[] #[]] W fun e w' => e = .returned (.tuple #[]) ∧ w' = W := fun p c W => AnyF.slices_SortFunc_none Try.sortR p c _ W
  rw [hz] at cg
  have HZ := Lib.hid hz
  clear hz
  go_wp2_with fail
  refine (hs _ _ _).mono ?_
  rintro e w2 ⟨rfl, hw2⟩
  subst hw2
  go_wp2
  go_ret
  have hnil : res = [] := List.eq_nil_of_length_eq_zero HZ.out
  refine ⟨A, c, ?_, ?_, ?_, HJ.out.2.2.1⟩
  ·rw [hnil, sortV_len]; rfl
  ·rw [hnil, sortV_len]; exact Nat.zero_le _
  ·have := HJ.out.2.2.2.2
   rw [hnil] at this ⊢
   rw [show sortV [] = [] by simp [sortV]]
   exact this
 ·obtain ⟨gg, cc, e1, hb, hlt, cells, hcc⟩ := Kd.R_form HJ.out.2.1 (by omega)
  injection e1 with e1 _ e2
  subst e1 e2
  have hsort := sort_walk res (by omega) (by omega) gg c w.heap.size w1 HJ.out.2.1
  have HB2 := Lib.hid (And.intro hb hlt)
  have hcell : Hid (∀ w2, SortedR w1 gg res.length res w2 → w2.cell? ⟨w.heap.size + 1, 0, none⟩ = some (.slice (some ⟨gg, 0, none⟩) res.length c)) := Lib.hid (fun w2 h => by
   obtain ⟨_, f, os, e, _⟩ := h
   have hne := Has.ne HJ.out.1 hcc (by decide)
   have hl := HJ.out.1.lt
   unfold World.cell?
   have : w2.heap[w.heap.size + 1]? = w1.heap[w.heap.size + 1]? := by
    rw [e, Array.getElem?_append_left (by simpa using hl), Array.getElem?_modify, if_neg (fun e => hne e.symm)]
   rw [this]
   have := HJ.out.1
   unfold Has at this
   rw [this]
   rfl)
  clear hb hlt hcc hz
  go_wp2_with fail
  refine hsort.mono ?_
  rintro e w2 ⟨rfl, hS⟩
  have cg2 := hcell.out _ hS
  have HS := Lib.hid hS
  clear hS cg hsort
  go_wp2
  go_ret
  refine ⟨some ⟨gg, 0, none⟩, c, by rw [sortV_len]; rfl, by rw [sortV_len]; exact HJ.out.2.2.2.1, by rw [sortV_len]; exact HS.out.1, HJ.out.2.2.1.trans (HS.out.below HB2.out.1 HB2.out.2)⟩

end Go.Proofs.Ytllahlgnjeeliaa.Ad
end

section
set_option linter.unusedVariables false
set_option linter.unusedSimpArgs false
namespace Go.Proofs.Ytllahlgnjeeliaa.Ad
open Go.RowKit Go.Proofs.YtllahlgnjeeliaaW.PrintWords Go.Proofs.YtllahlgnjeeliaaW.PrintLast Go.Proofs.YtllahlgnjeeliaaW.PrintMore Go.Proofs.Ytllahlgnjeeliaa.PT

/-- What holds at the head of a round of Row. -/
def RowI (w : World) (l : List Vrp) (k : Nat) (ov : Value) (W : World) : Prop :=
 kV.R 39 W w.heap.size (fun _ => True) ov (rowP (l.take k)) ∧ Below w.heap.size w W ∧ (rowP (l.take k)).length ≤ k

set_option maxHeartbeats 8000000 in
set_option maxRecDepth 100000 in
theorem row_walk (A : Option Addr) (c : Nat) (l : List Vrp) (w : World) (h : kV.C w A l.length l) (hl : l.length ≤ 400000) :
 Calls Try.prog 15 #[.slice A l.length c] w fun e w' => ∃ v, e = .returned v ∧ kV.R 39 w' w.heap.size (fun _ => True) v (rowP l) ∧ Below w.heap.size w w' := by
 have HC := Lib.hid h
 clear h
 go_enter Try.func15, Try.ntmps15
 go_wp2
 go_loopw [3, 4] (fun ov iv wr => ∃ k : Nat, k ≤ l.length ∧ iv = .int .i64 k ∧ Hid (RowI w l k ov wr)) (fun _ iv _ => l.length - (intOf iv).toNat)
 case atStart => exact ⟨0, Nat.zero_le _, rfl, Lib.hid ⟨Kd.R_nil _ _ _ _ _, Below.refl _ _, Nat.le_refl _⟩⟩
 case round =>
  obtain ⟨k, hk, rfl, HX⟩ := hrel
  obtain ⟨wo, rfl⟩ : ∃ wo : World, wo = wr := ⟨_, rfl⟩
  by_cases hkl : k < l.length
  ·obtain ⟨Ao, co, hov, hco, hCO⟩ := Kd.R_reads HX.out.1
   subst hov
   obtain ⟨bl, ol, hA, hR0⟩ := C_form (Kd.C_below HC.out HX.out.2.1) (by omega)
   subst hA
   have hrow := row_snoc l k hkl
   have hlen := HX.out.2.2
   unfold RowI at HX
   generalize hout : rowP (l.take k) = out at HX hco hCO hrow hlen ⊢
   obtain ⟨v, hv⟩ : ∃ v, v = l[k] := ⟨_, rfl⟩
   rw [← hv] at hrow
   have Q0 := Lib.hid (hR0 k hkl)
   rw [← hv] at Q0
   have HCO := Lib.hid hCO
   have HV := Lib.hid hv
   have HOUT := Lib.hid hout
   have HROW := Lib.hid hrow
   clear hv hout hR0 hCO hrow
   have hd1 := eq_true (show (k : Int) < (l.length : Int) by omega)
   have hd2 : decide ((k : Int) < (l.length : Int)) = true := decide_eq_true (by omega)
   have hd3 : decide (k < l.length) = true := decide_eq_true hkl
   go_wp2
   clear hd1 hd2 hd3
   go_loopw [5] (fun jv wr => ∃ j : Nat, j ≤ out.length ∧ jv = .int .i64 j ∧ Hid (∀ i (h : i < out.length), i < j → cmpV out[i] v < 0) ∧ Hid (Gw wo wr)) (fun jv _ => out.length - (intOf jv).toNat)
   case atStart => exact ⟨0, Nat.zero_le _, rfl, Lib.hid (fun i h h2 => by omega), Lib.hid (Gw.refl _)⟩
   case round =>
    obtain ⟨j, hj, rfl, HT, HG⟩ := hrel
    by_cases hlt : j < out.length
    ·obtain ⟨bo, oo, hA, hR1⟩ := C_form HCO.out (by omega)
     subst hA
     obtain ⟨x, hx⟩ : ∃ x, x = out[j] := ⟨_, rfl⟩
     have Q1 := Lib.hid (hR1 j hlt)
     rw [← hx] at Q1
     have HXX := Lib.hid hx
     clear hx hR1
     have hd1 := eq_true (show (j : Int) < (out.length : Int) by omega)
     have hd2 : decide ((j : Int) < (out.length : Int)) = true := decide_eq_true (by omega)
     have hd3 : decide (j < out.length) = true := decide_eq_true hlt
     have hi1 := eq_true (show (k : Int) < (l.length : Int) by omega)
     have q0 : wr.drew.rangeAt bl (ol + k * 20) v.cells := ra_below Q0.out HG.out.drew.below
     have q1 : wr.drew.rangeAt bo (oo + j * 20) x.cells := ra_below Q1.out HG.out.drew.below
     obtain ⟨cc, hcc⟩ : ∃ cc, cc = cmpV x v := ⟨_, rfl⟩
     have hcm : ∀ W, Calls Try.prog 29 #[.agg x.arr, .agg v.arr] W fun e w' => e = .returned (.int .i64 cc) ∧ Gw W w' := fun W => by rw [hcc]; exact refCmpV_walk x v W
     have HCC := Lib.hid hcc
     clear hcc
     by_cases hneg : cc < 0
     ·have hn1 : decide (cc < 0) = true := decide_eq_true hneg
      go_wp2
      refine start_ (n := 16) (S := fun W => W.rangeAt bo (oo + j * 20) x.cells ∧ W.rangeAt bl (ol + k * 20) v.cells ∧ Gw wo W) (ds := []) #[false, false, false, false, false, false, false, false, false, false, false, false, false, false, false, false] (by kernel_rfl) rfl rfl ⟨q1, q0, HG.out.drew⟩ (fun hHeld => ?_)
      refine pure_ (i := 0) (N := some 12) (v := ?_) (a' := ?_) #[true, false, false, false, false, false, false, false, false, false, false, false, false, false, false, false] rfl rfl (by kernel_rfl) (fun _ _ _ h => h) (Or.inl ⟨by rfl, ?_⟩) ?_ ?_
      rotate_left
      ·intro w'
       go_simp
       with_reducible rfl
      rotate_left
      ·simp only [Act.put, List.setIfInBounds_toArray, List.set_cons_zero, List.set_cons_succ, i64_w, i32_w]
       rfl
      refine pure_ (i := 1) (N := some 13) (v := ?_) (a' := ?_) #[true, true, false, false, false, false, false, false, false, false, false, false, false, false, false, false] rfl rfl (by kernel_rfl) (fun _ _ _ h => h) (Or.inl ⟨by rfl, ?_⟩) ?_ ?_
      rotate_left
      ·intro w'
       go_simp
       with_reducible rfl
      rotate_left
      ·simp only [Act.put, List.setIfInBounds_toArray, List.set_cons_zero, List.set_cons_succ, i64_w, i32_w]
       rfl
      refine pure_ (i := 2) (N := some 14) (v := ?_) (a' := ?_) #[true, true, true, false, false, false, false, false, false, false, false, false, false, false, false, false] rfl rfl (by kernel_rfl) (fun _ _ _ h => h) (Or.inl ⟨by rfl, ?_⟩) ?_ ?_
      rotate_left
      ·intro w'
       go_simp
       with_reducible rfl
      rotate_left
      ·simp only [Act.put, List.setIfInBounds_toArray, List.set_cons_zero, List.set_cons_succ, i64_w, i32_w]
       rfl
      refine pure_ (i := 3) (N := some 15) (v := ?_) (a' := ?_) #[true, true, true, true, false, false, false, false, false, false, false, false, false, false, false, false] rfl rfl (by kernel_rfl) (fun _ _ _ h => h) (Or.inl ⟨by rfl, ?_⟩) ?_ ?_
      rotate_left
      ·intro w'
       go_simp
       with_reducible rfl
      rotate_left
      ·simp only [Act.put, List.setIfInBounds_toArray, List.set_cons_zero, List.set_cons_succ, i64_w, i32_w]
       rfl
      refine pure_ (i := 4) (N := some 16) (v := ?_) (a' := ?_) #[true, true, true, true, true, false, false, false, false, false, false, false, false, false, false, false] rfl rfl (by kernel_rfl) (fun _ _ _ h => h) (Or.inl ⟨by rfl, ?_⟩) ?_ ?_
      rotate_left
      ·intro w'
       go_simp
       with_reducible rfl
      rotate_left
      ·simp only [Act.put, List.setIfInBounds_toArray, List.set_cons_zero, List.set_cons_succ, i64_w, i32_w]
       rfl
      refine pure_ (i := 5) (N := some 17) (v := ?_) (a' := ?_) #[true, true, true, true, true, true, false, false, false, false, false, false, false, false, false, false] rfl rfl (by kernel_rfl) (fun _ _ _ h => h) (Or.inl ⟨by rfl, ?_⟩) ?_ ?_
      rotate_left
      ·intro w'
       go_simp
       with_reducible rfl
      rotate_left
      ·simp only [Act.put, List.setIfInBounds_toArray, List.set_cons_zero, List.set_cons_succ, i64_w, i32_w]
       rfl
      refine pure_ (i := 6) (N := some 18) (v := ?_) (a' := ?_) #[true, true, true, true, true, true, true, false, false, false, false, false, false, false, false, false] rfl rfl (by kernel_rfl) (fun _ _ _ h => h) (Or.inl ⟨by rfl, ?_⟩) ?_ ?_
      rotate_left
      ·intro w'
       go_simp
       with_reducible rfl
      rotate_left
      ·simp only [Act.put, List.setIfInBounds_toArray, List.set_cons_zero, List.set_cons_succ, i64_w, i32_w]
       rfl
      refine pure_ (i := 7) (N := some 19) (v := ?_) (a' := ?_) #[true, true, true, true, true, true, true, true, false, false, false, false, false, false, false, false] rfl rfl (by kernel_rfl) (fun _ _ _ h => h) (Or.inl ⟨by rfl, ?_⟩) ?_ ?_
      rotate_left
      ·intro w'
       go_simp
       with_reducible rfl
      rotate_left
      ·simp only [Act.put, List.setIfInBounds_toArray, List.set_cons_zero, List.set_cons_succ, i64_w, i32_w]
       rfl
      refine pure_ (i := 9) (N := some 21) (v := ?_) (a' := ?_) #[true, true, true, true, true, true, true, true, false, true, false, false, false, false, false, false] rfl rfl (by kernel_rfl) (fun _ _ _ h => h) (Or.inl ⟨by rfl, ?_⟩) ?_ ?_
      rotate_left
      ·intro w'
       go_simp
       with_reducible rfl
      rotate_left
      ·simp only [Act.put, List.setIfInBounds_toArray, List.set_cons_zero, List.set_cons_succ, i64_w, i32_w]
       rfl
      refine pure_ (i := 10) (N := some 22) (v := ?_) (a' := ?_) #[true, true, true, true, true, true, true, true, false, true, true, false, false, false, false, false] rfl rfl (by kernel_rfl) (fun _ _ _ h => h) (Or.inl ⟨by rfl, ?_⟩) ?_ ?_
      rotate_left
      ·intro w'
       go_simp
       with_reducible rfl
      rotate_left
      ·simp only [Act.put, List.setIfInBounds_toArray, List.set_cons_zero, List.set_cons_succ, i64_w, i32_w]
       rfl
      refine pure_ (i := 11) (N := some 23) (v := ?_) (a' := ?_) #[true, true, true, true, true, true, true, true, false, true, true, true, false, false, false, false] rfl rfl (by kernel_rfl) (fun _ _ _ h => h) (Or.inl ⟨by rfl, ?_⟩) ?_ ?_
      rotate_left
      ·intro w'
       go_simp
       with_reducible rfl
      rotate_left
      ·simp only [Act.put, List.setIfInBounds_toArray, List.set_cons_zero, List.set_cons_succ, i64_w, i32_w]
       rfl
      refine take_ (i := 8) (N := some 20) (v := .agg x.arr) (a' := ?_) #[true, true, true, true, true, true, true, true, true, true, true, true, false, false, false, false] rfl rfl (by kernel_rfl) (fun _ _ _ h => h) ?_ hHeld ?_ ?_
      ·exact yV (by rfl) rfl x bo (oo + j * 20) rfl (fun W h => h.1)
      rotate_left
      ·simp only [Act.put, List.setIfInBounds_toArray, List.set_cons_zero, List.set_cons_succ, i64_w, i32_w]
       rfl
      refine take_ (i := 12) (N := some 24) (v := .agg v.arr) (a' := ?_) #[true, true, true, true, true, true, true, true, true, true, true, true, true, false, false, false] rfl rfl (by kernel_rfl) (fun _ _ _ h => h) ?_ hHeld ?_ ?_
      ·exact yV (by rfl) rfl v bl (ol + k * 20) rfl (fun W h => h.2.1)
      rotate_left
      ·simp only [Act.put, List.setIfInBounds_toArray, List.set_cons_zero, List.set_cons_succ, i64_w, i32_w]
       rfl
      refine one_ (i := 13) (N := some 25) #[true, true, true, true, true, true, true, true, true, true, true, true, true, true, false, false] rfl rfl (by kernel_rfl) (by decide) (fun K hK => ?_)
      refine goes_ Try.func29 (by kernel_rfl) rfl #[.agg x.arr, .agg v.arr] (by rfl) rfl rfl (by (try simp only [List.map_toArray, List.map_cons, List.map_nil]); first | done | rfl) ?_
      refine (hcm _).mono ?_
      rintro e w1 ⟨rfl, hB⟩
      refine ⟨_, rfl, ?_⟩
      refine hK.out _ _ ⟨ra_below hHeld.1 hB.below, ra_below hHeld.2.1 hB.below, hHeld.2.2.trans hB⟩ (fun hHeld => ?_)
      clear hK K
      refine norm_ (a' := ?_) ?_ ?_
      rotate_left
      ·show Act.put _ (some 25) _ = _
       simp only [Act.put, List.setIfInBounds_toArray, List.set_cons_zero, List.set_cons_succ, i64_w, i32_w]
       rfl
      refine pure_ (i := 14) (N := some 26) (v := ?_) (a' := ?_) #[true, true, true, true, true, true, true, true, true, true, true, true, true, true, true, false] rfl rfl (by kernel_rfl) (fun _ _ _ h => h) (Or.inl ⟨by rfl, ?_⟩) ?_ ?_
      rotate_left
      ·intro w'
       go_simp
       with_reducible rfl
      rotate_left
      ·simp only [Act.put, List.setIfInBounds_toArray, List.set_cons_zero, List.set_cons_succ, i64_w, i32_w]
       rfl
      refine pure_ (i := 15) (N := some 27) (v := ?_) (a' := ?_) #[true, true, true, true, true, true, true, true, true, true, true, true, true, true, true, true] rfl rfl (by kernel_rfl) (fun _ _ _ h => h) (Or.inl ⟨by rfl, ?_⟩) ?_ ?_
      rotate_left
      ·intro w'
       go_simp
       with_reducible rfl
      rotate_left
      ·simp only [Act.put, List.setIfInBounds_toArray, List.set_cons_zero, List.set_cons_succ, i64_w, i32_w]
       rfl
      refine done_ (by kernel_rfl) ?_
      have HN := Lib.hid hHeld.2.2
      clear hHeld q0 q1 hcm
      go_wp2
      go_roundw
      case rel => exact ⟨j + 1, by omega, by go_num, Lib.hid (fun i h hi => by
       by_cases hij : i = j
       ·subst hij; rw [← HXX.out, ← HCC.out]; exact hneg
       ·exact HT.out i h (by omega)), HN⟩
      case measure => simp [intOf]; omega
     ·have hn1 : decide (cc < 0) = false := decide_eq_false hneg
      go_wp2
      refine start_ (n := 16) (S := fun W => W.rangeAt bo (oo + j * 20) x.cells ∧ W.rangeAt bl (ol + k * 20) v.cells ∧ Gw wo W) (ds := []) #[false, false, false, false, false, false, false, false, false, false, false, false, false, false, false, false] (by kernel_rfl) rfl rfl ⟨q1, q0, HG.out.drew⟩ (fun hHeld => ?_)
      refine pure_ (i := 0) (N := some 12) (v := ?_) (a' := ?_) #[true, false, false, false, false, false, false, false, false, false, false, false, false, false, false, false] rfl rfl (by kernel_rfl) (fun _ _ _ h => h) (Or.inl ⟨by rfl, ?_⟩) ?_ ?_
      rotate_left
      ·intro w'
       go_simp
       with_reducible rfl
      rotate_left
      ·simp only [Act.put, List.setIfInBounds_toArray, List.set_cons_zero, List.set_cons_succ, i64_w, i32_w]
       rfl
      refine pure_ (i := 1) (N := some 13) (v := ?_) (a' := ?_) #[true, true, false, false, false, false, false, false, false, false, false, false, false, false, false, false] rfl rfl (by kernel_rfl) (fun _ _ _ h => h) (Or.inl ⟨by rfl, ?_⟩) ?_ ?_
      rotate_left
      ·intro w'
       go_simp
       with_reducible rfl
      rotate_left
      ·simp only [Act.put, List.setIfInBounds_toArray, List.set_cons_zero, List.set_cons_succ, i64_w, i32_w]
       rfl
      refine pure_ (i := 2) (N := some 14) (v := ?_) (a' := ?_) #[true, true, true, false, false, false, false, false, false, false, false, false, false, false, false, false] rfl rfl (by kernel_rfl) (fun _ _ _ h => h) (Or.inl ⟨by rfl, ?_⟩) ?_ ?_
      rotate_left
      ·intro w'
       go_simp
       with_reducible rfl
      rotate_left
      ·simp only [Act.put, List.setIfInBounds_toArray, List.set_cons_zero, List.set_cons_succ, i64_w, i32_w]
       rfl
      refine pure_ (i := 3) (N := some 15) (v := ?_) (a' := ?_) #[true, true, true, true, false, false, false, false, false, false, false, false, false, false, false, false] rfl rfl (by kernel_rfl) (fun _ _ _ h => h) (Or.inl ⟨by rfl, ?_⟩) ?_ ?_
      rotate_left
      ·intro w'
       go_simp
       with_reducible rfl
      rotate_left
      ·simp only [Act.put, List.setIfInBounds_toArray, List.set_cons_zero, List.set_cons_succ, i64_w, i32_w]
       rfl
      refine pure_ (i := 4) (N := some 16) (v := ?_) (a' := ?_) #[true, true, true, true, true, false, false, false, false, false, false, false, false, false, false, false] rfl rfl (by kernel_rfl) (fun _ _ _ h => h) (Or.inl ⟨by rfl, ?_⟩) ?_ ?_
      rotate_left
      ·intro w'
       go_simp
       with_reducible rfl
      rotate_left
      ·simp only [Act.put, List.setIfInBounds_toArray, List.set_cons_zero, List.set_cons_succ, i64_w, i32_w]
       rfl
      refine pure_ (i := 5) (N := some 17) (v := ?_) (a' := ?_) #[true, true, true, true, true, true, false, false, false, false, false, false, false, false, false, false] rfl rfl (by kernel_rfl) (fun _ _ _ h => h) (Or.inl ⟨by rfl, ?_⟩) ?_ ?_
      rotate_left
      ·intro w'
       go_simp
       with_reducible rfl
      rotate_left
      ·simp only [Act.put, List.setIfInBounds_toArray, List.set_cons_zero, List.set_cons_succ, i64_w, i32_w]
       rfl
      refine pure_ (i := 6) (N := some 18) (v := ?_) (a' := ?_) #[true, true, true, true, true, true, true, false, false, false, false, false, false, false, false, false] rfl rfl (by kernel_rfl) (fun _ _ _ h => h) (Or.inl ⟨by rfl, ?_⟩) ?_ ?_
      rotate_left
      ·intro w'
       go_simp
       with_reducible rfl
      rotate_left
      ·simp only [Act.put, List.setIfInBounds_toArray, List.set_cons_zero, List.set_cons_succ, i64_w, i32_w]
       rfl
      refine pure_ (i := 7) (N := some 19) (v := ?_) (a' := ?_) #[true, true, true, true, true, true, true, true, false, false, false, false, false, false, false, false] rfl rfl (by kernel_rfl) (fun _ _ _ h => h) (Or.inl ⟨by rfl, ?_⟩) ?_ ?_
      rotate_left
      ·intro w'
       go_simp
       with_reducible rfl
      rotate_left
      ·simp only [Act.put, List.setIfInBounds_toArray, List.set_cons_zero, List.set_cons_succ, i64_w, i32_w]
       rfl
      refine pure_ (i := 9) (N := some 21) (v := ?_) (a' := ?_) #[true, true, true, true, true, true, true, true, false, true, false, false, false, false, false, false] rfl rfl (by kernel_rfl) (fun _ _ _ h => h) (Or.inl ⟨by rfl, ?_⟩) ?_ ?_
      rotate_left
      ·intro w'
       go_simp
       with_reducible rfl
      rotate_left
      ·simp only [Act.put, List.setIfInBounds_toArray, List.set_cons_zero, List.set_cons_succ, i64_w, i32_w]
       rfl
      refine pure_ (i := 10) (N := some 22) (v := ?_) (a' := ?_) #[true, true, true, true, true, true, true, true, false, true, true, false, false, false, false, false] rfl rfl (by kernel_rfl) (fun _ _ _ h => h) (Or.inl ⟨by rfl, ?_⟩) ?_ ?_
      rotate_left
      ·intro w'
       go_simp
       with_reducible rfl
      rotate_left
      ·simp only [Act.put, List.setIfInBounds_toArray, List.set_cons_zero, List.set_cons_succ, i64_w, i32_w]
       rfl
      refine pure_ (i := 11) (N := some 23) (v := ?_) (a' := ?_) #[true, true, true, true, true, true, true, true, false, true, true, true, false, false, false, false] rfl rfl (by kernel_rfl) (fun _ _ _ h => h) (Or.inl ⟨by rfl, ?_⟩) ?_ ?_
      rotate_left
      ·intro w'
       go_simp
       with_reducible rfl
      rotate_left
      ·simp only [Act.put, List.setIfInBounds_toArray, List.set_cons_zero, List.set_cons_succ, i64_w, i32_w]
       rfl
      refine take_ (i := 8) (N := some 20) (v := .agg x.arr) (a' := ?_) #[true, true, true, true, true, true, true, true, true, true, true, true, false, false, false, false] rfl rfl (by kernel_rfl) (fun _ _ _ h => h) ?_ hHeld ?_ ?_
      ·exact yV (by rfl) rfl x bo (oo + j * 20) rfl (fun W h => h.1)
      rotate_left
      ·simp only [Act.put, List.setIfInBounds_toArray, List.set_cons_zero, List.set_cons_succ, i64_w, i32_w]
       rfl
      refine take_ (i := 12) (N := some 24) (v := .agg v.arr) (a' := ?_) #[true, true, true, true, true, true, true, true, true, true, true, true, true, false, false, false] rfl rfl (by kernel_rfl) (fun _ _ _ h => h) ?_ hHeld ?_ ?_
      ·exact yV (by rfl) rfl v bl (ol + k * 20) rfl (fun W h => h.2.1)
      rotate_left
      ·simp only [Act.put, List.setIfInBounds_toArray, List.set_cons_zero, List.set_cons_succ, i64_w, i32_w]
       rfl
      refine one_ (i := 13) (N := some 25) #[true, true, true, true, true, true, true, true, true, true, true, true, true, true, false, false] rfl rfl (by kernel_rfl) (by decide) (fun K hK => ?_)
      refine goes_ Try.func29 (by kernel_rfl) rfl #[.agg x.arr, .agg v.arr] (by rfl) rfl rfl (by (try simp only [List.map_toArray, List.map_cons, List.map_nil]); first | done | rfl) ?_
      refine (hcm _).mono ?_
      rintro e w1 ⟨rfl, hB⟩
      refine ⟨_, rfl, ?_⟩
      refine hK.out _ _ ⟨ra_below hHeld.1 hB.below, ra_below hHeld.2.1 hB.below, hHeld.2.2.trans hB⟩ (fun hHeld => ?_)
      clear hK K
      refine norm_ (a' := ?_) ?_ ?_
      rotate_left
      ·show Act.put _ (some 25) _ = _
       simp only [Act.put, List.setIfInBounds_toArray, List.set_cons_zero, List.set_cons_succ, i64_w, i32_w]
       rfl
      refine pure_ (i := 14) (N := some 26) (v := ?_) (a' := ?_) #[true, true, true, true, true, true, true, true, true, true, true, true, true, true, true, false] rfl rfl (by kernel_rfl) (fun _ _ _ h => h) (Or.inl ⟨by rfl, ?_⟩) ?_ ?_
      rotate_left
      ·intro w'
       go_simp
       with_reducible rfl
      rotate_left
      ·simp only [Act.put, List.setIfInBounds_toArray, List.set_cons_zero, List.set_cons_succ, i64_w, i32_w]
       rfl
      refine pure_ (i := 15) (N := some 27) (v := ?_) (a' := ?_) #[true, true, true, true, true, true, true, true, true, true, true, true, true, true, true, true] rfl rfl (by kernel_rfl) (fun _ _ _ h => h) (Or.inl ⟨by rfl, ?_⟩) ?_ ?_
      rotate_left
      ·intro w'
       go_simp
       with_reducible rfl
      rotate_left
      ·simp only [Act.put, List.setIfInBounds_toArray, List.set_cons_zero, List.set_cons_succ, i64_w, i32_w]
       rfl
      refine done_ (by kernel_rfl) ?_
      have HN := Lib.hid hHeld.2.2
      clear hHeld q0 q1 hcm
      have hpos : Hid (posR out v = j) := Lib.hid (pos_eq hj HT.out (fun h => by rw [← HXX.out, ← HCC.out]; omega))
      have hrow := HROW.out
      clear HG
      have q0 : w1.drew.rangeAt bl (ol + k * 20) v.cells := ra_below Q0.out HN.out.drew.below
      have q1 : w1.drew.rangeAt bo (oo + j * 20) x.cells := ra_below Q1.out HN.out.drew.below
      have hi1 := eq_true (show (k : Int) < (l.length : Int) by omega)
      go_wp2
      by_cases ho : oneB v = true
      ·have hone : ∀ W, Calls Try.prog 18 #[.agg v.arr] W fun e w' => e = .returned (.bool true) ∧ Below W.heap.size W w' := fun W => by have := refOne_walk v W; rwa [ho] at this
       have HO := Lib.hid ho
       clear ho
       obtain ⟨z, hz⟩ : ∃ z, z = decide (x = v) := ⟨_, rfl⟩
       have heq : ∀ W, (binOp .eql 39 (.agg x.arr) (.agg v.arr)).run Try.prog W = .ok (.bool z) W := fun W => by rw [hz]; exact eqlV W _ _
       have HZ := Lib.hid hz
       clear hz
       have hdj : decide ((j : Int) < (out.length : Int)) = true := decide_eq_true (by omega)
       have hdk : decide (j < out.length) = true := decide_eq_true (by omega)
       refine start_ (n := 23) (S := fun W => W.rangeAt bo (oo + j * 20) x.cells ∧ W.rangeAt bl (ol + k * 20) v.cells ∧ Below wo.heap.size wo W) (ds := []) #[false, false, false, false, false, false, false, false, false, false, false, false, false, false, false, false, false, false, false, false, false, false, false] (by kernel_rfl) rfl rfl ⟨q1, q0, HN.out.drew.below⟩ (fun hHeld => ?_)
       refine pure_ (i := 0) (N := some 30) (v := ?_) (a' := ?_) #[true, false, false, false, false, false, false, false, false, false, false, false, false, false, false, false, false, false, false, false, false, false, false] rfl rfl (by kernel_rfl) (fun _ _ _ h => h) (Or.inl ⟨by rfl, ?_⟩) ?_ ?_
       rotate_left
       ·intro w'
        go_simp
        with_reducible rfl
       rotate_left
       ·simp only [Act.put, List.setIfInBounds_toArray, List.set_cons_zero, List.set_cons_succ, i64_w, i32_w]
        rfl
       refine pure_ (i := 1) (N := some 31) (v := ?_) (a' := ?_) #[true, true, false, false, false, false, false, false, false, false, false, false, false, false, false, false, false, false, false, false, false, false, false] rfl rfl (by kernel_rfl) (fun _ _ _ h => h) (Or.inl ⟨by rfl, ?_⟩) ?_ ?_
       rotate_left
       ·intro w'
        go_simp
        with_reducible rfl
       rotate_left
       ·simp only [Act.put, List.setIfInBounds_toArray, List.set_cons_zero, List.set_cons_succ, i64_w, i32_w]
        rfl
       refine pure_ (i := 2) (N := some 32) (v := ?_) (a' := ?_) #[true, true, true, false, false, false, false, false, false, false, false, false, false, false, false, false, false, false, false, false, false, false, false] rfl rfl (by kernel_rfl) (fun _ _ _ h => h) (Or.inl ⟨by rfl, ?_⟩) ?_ ?_
       rotate_left
       ·intro w'
        go_simp
        with_reducible rfl
       rotate_left
       ·simp only [Act.put, List.setIfInBounds_toArray, List.set_cons_zero, List.set_cons_succ, i64_w, i32_w]
        rfl
       refine take_ (i := 3) (N := some 33) (v := .agg v.arr) (a' := ?_) #[true, true, true, true, false, false, false, false, false, false, false, false, false, false, false, false, false, false, false, false, false, false, false] rfl rfl (by kernel_rfl) (fun _ _ _ h => h) ?_ hHeld ?_ ?_
       ·exact yV (by rfl) rfl v bl (ol + k * 20) rfl (fun W h => h.2.1)
       rotate_left
       ·simp only [Act.put, List.setIfInBounds_toArray, List.set_cons_zero, List.set_cons_succ, i64_w, i32_w]
        rfl
       refine one_ (i := 4) (N := some 34) #[true, true, true, true, true, false, false, false, false, false, false, false, false, false, false, false, false, false, false, false, false, false, false] rfl rfl (by kernel_rfl) (by decide) (fun K hK => ?_)
       refine goes_ Try.func18 (by kernel_rfl) rfl #[.agg v.arr] (by rfl) rfl rfl (by (try simp only [List.map_toArray, List.map_cons, List.map_nil]); first | done | rfl) ?_
       refine (hone _).mono ?_
       rintro e w2 ⟨rfl, hB⟩
       refine ⟨_, rfl, ?_⟩
       refine hK.out _ _ ⟨ra_below hHeld.1 hB, ra_below hHeld.2.1 hB, hHeld.2.2.trans (hB.mono hHeld.2.2.size)⟩ (fun hHeld => ?_)
       clear hK K
       refine norm_ (a' := ?_) ?_ ?_
       rotate_left
       ·show Act.put _ (some 34) _ = _
        simp only [Act.put, List.setIfInBounds_toArray, List.set_cons_zero, List.set_cons_succ, i64_w, i32_w]
        rfl
       refine pure_ (i := 5) (N := some 35) (v := ?_) (a' := ?_) #[true, true, true, true, true, true, false, false, false, false, false, false, false, false, false, false, false, false, false, false, false, false, false] rfl rfl (by kernel_rfl) (fun _ _ _ h => h) (Or.inl ⟨by rfl, ?_⟩) ?_ ?_
       rotate_left
       ·intro w'
        go_simp
        with_reducible rfl
       rotate_left
       ·simp only [Act.put, List.setIfInBounds_toArray, List.set_cons_zero, List.set_cons_succ, i64_w, i32_w]
        rfl
       refine pure_ (i := 6) (N := some 36) (v := ?_) (a' := ?_) #[true, true, true, true, true, true, true, false, false, false, false, false, false, false, false, false, false, false, false, false, false, false, false] rfl rfl (by kernel_rfl) (fun _ _ _ h => h) (Or.inl ⟨by rfl, ?_⟩) ?_ ?_
       rotate_left
       ·intro w'
        go_simp
        with_reducible rfl
       rotate_left
       ·simp only [Act.put, List.setIfInBounds_toArray, List.set_cons_zero, List.set_cons_succ, i64_w, i32_w]
        rfl
       refine pure_ (i := 7) (N := some 37) (v := ?_) (a' := ?_) #[true, true, true, true, true, true, true, true, false, false, false, false, false, false, false, false, false, false, false, false, false, false, false] rfl rfl (by kernel_rfl) (fun _ _ _ h => h) (Or.inl ⟨by rfl, ?_⟩) ?_ ?_
       rotate_left
       ·intro w'
        go_simp
        with_reducible rfl
       rotate_left
       ·simp only [Act.put, List.setIfInBounds_toArray, List.set_cons_zero, List.set_cons_succ, i64_w, i32_w]
        rfl
       refine pure_ (i := 8) (N := some 38) (v := ?_) (a' := ?_) #[true, true, true, true, true, true, true, true, true, false, false, false, false, false, false, false, false, false, false, false, false, false, false] rfl rfl (by kernel_rfl) (fun _ _ _ h => h) (Or.inl ⟨by rfl, ?_⟩) ?_ ?_
       rotate_left
       ·intro w'
        go_simp
        with_reducible rfl
       rotate_left
       ·simp only [Act.put, List.setIfInBounds_toArray, List.set_cons_zero, List.set_cons_succ, i64_w, i32_w]
        rfl
       refine pure_ (i := 9) (N := some 39) (v := ?_) (a' := ?_) #[true, true, true, true, true, true, true, true, true, true, false, false, false, false, false, false, false, false, false, false, false, false, false] rfl rfl (by kernel_rfl) (fun _ _ _ h => h) (Or.inl ⟨by rfl, ?_⟩) ?_ ?_
       rotate_left
       ·intro w'
        go_simp
        with_reducible rfl
       rotate_left
       ·simp only [Act.put, List.setIfInBounds_toArray, List.set_cons_zero, List.set_cons_succ, i64_w, i32_w]
        rfl
       refine pure_ (i := 10) (N := some 40) (v := ?_) (a' := ?_) #[true, true, true, true, true, true, true, true, true, true, true, false, false, false, false, false, false, false, false, false, false, false, false] rfl rfl (by kernel_rfl) (fun _ _ _ h => h) (Or.inl ⟨by rfl, ?_⟩) ?_ ?_
       rotate_left
       ·intro w'
        go_simp
        with_reducible rfl
       rotate_left
       ·simp only [Act.put, List.setIfInBounds_toArray, List.set_cons_zero, List.set_cons_succ, i64_w, i32_w]
        rfl
       refine pure_ (i := 11) (N := some 41) (v := ?_) (a' := ?_) #[true, true, true, true, true, true, true, true, true, true, true, true, false, false, false, false, false, false, false, false, false, false, false] rfl rfl (by kernel_rfl) (fun _ _ _ h => h) (Or.inl ⟨by rfl, ?_⟩) ?_ ?_
       rotate_left
       ·intro w'
        go_simp
        with_reducible rfl
       rotate_left
       ·simp only [Act.put, List.setIfInBounds_toArray, List.set_cons_zero, List.set_cons_succ, i64_w, i32_w]
        rfl
       refine pure_ (i := 12) (N := some 42) (v := ?_) (a' := ?_) #[true, true, true, true, true, true, true, true, true, true, true, true, true, false, false, false, false, false, false, false, false, false, false] rfl rfl (by kernel_rfl) (fun _ _ _ h => h) (Or.inl ⟨by rfl, ?_⟩) ?_ ?_
       rotate_left
       ·intro w'
        go_simp
        with_reducible rfl
       rotate_left
       ·simp only [Act.put, List.setIfInBounds_toArray, List.set_cons_zero, List.set_cons_succ, i64_w, i32_w]
        rfl
       refine pure_ (i := 13) (N := some 43) (v := ?_) (a' := ?_) #[true, true, true, true, true, true, true, true, true, true, true, true, true, true, false, false, false, false, false, false, false, false, false] rfl rfl (by kernel_rfl) (fun _ _ _ h => h) (Or.inl ⟨by rfl, ?_⟩) ?_ ?_
       rotate_left
       ·intro w'
        go_simp
        with_reducible rfl
       rotate_left
       ·simp only [Act.put, List.setIfInBounds_toArray, List.set_cons_zero, List.set_cons_succ, i64_w, i32_w]
        rfl
       refine pure_ (i := 14) (N := some 44) (v := ?_) (a' := ?_) #[true, true, true, true, true, true, true, true, true, true, true, true, true, true, true, false, false, false, false, false, false, false, false] rfl rfl (by kernel_rfl) (fun _ _ _ h => h) (Or.inl ⟨by rfl, ?_⟩) ?_ ?_
       rotate_left
       ·intro w'
        go_simp
        with_reducible rfl
       rotate_left
       ·simp only [Act.put, List.setIfInBounds_toArray, List.set_cons_zero, List.set_cons_succ, i64_w, i32_w]
        rfl
       refine take_ (i := 15) (N := some 45) (v := .agg x.arr) (a' := ?_) #[true, true, true, true, true, true, true, true, true, true, true, true, true, true, true, true, false, false, false, false, false, false, false] rfl rfl (by kernel_rfl) (fun _ _ _ h => h) ?_ hHeld ?_ ?_
       ·exact yV (by rfl) rfl x bo (oo + j * 20) rfl (fun W h => h.1)
       rotate_left
       ·simp only [Act.put, List.setIfInBounds_toArray, List.set_cons_zero, List.set_cons_succ, i64_w, i32_w]
        rfl
       refine pure_ (i := 16) (N := some 46) (v := ?_) (a' := ?_) #[true, true, true, true, true, true, true, true, true, true, true, true, true, true, true, true, true, false, false, false, false, false, false] rfl rfl (by kernel_rfl) (fun _ _ _ h => h) (Or.inl ⟨by rfl, ?_⟩) ?_ ?_
       rotate_left
       ·intro w'
        go_simp
        with_reducible rfl
       rotate_left
       ·simp only [Act.put, List.setIfInBounds_toArray, List.set_cons_zero, List.set_cons_succ, i64_w, i32_w]
        rfl
       refine pure_ (i := 17) (N := some 47) (v := ?_) (a' := ?_) #[true, true, true, true, true, true, true, true, true, true, true, true, true, true, true, true, true, true, false, false, false, false, false] rfl rfl (by kernel_rfl) (fun _ _ _ h => h) (Or.inl ⟨by rfl, ?_⟩) ?_ ?_
       rotate_left
       ·intro w'
        go_simp
        with_reducible rfl
       rotate_left
       ·simp only [Act.put, List.setIfInBounds_toArray, List.set_cons_zero, List.set_cons_succ, i64_w, i32_w]
        rfl
       refine pure_ (i := 18) (N := some 48) (v := ?_) (a' := ?_) #[true, true, true, true, true, true, true, true, true, true, true, true, true, true, true, true, true, true, true, false, false, false, false] rfl rfl (by kernel_rfl) (fun _ _ _ h => h) (Or.inl ⟨by rfl, ?_⟩) ?_ ?_
       rotate_left
       ·intro w'
        go_simp
        with_reducible rfl
       rotate_left
       ·simp only [Act.put, List.setIfInBounds_toArray, List.set_cons_zero, List.set_cons_succ, i64_w, i32_w]
        rfl
       refine take_ (i := 19) (N := some 49) (v := .agg v.arr) (a' := ?_) #[true, true, true, true, true, true, true, true, true, true, true, true, true, true, true, true, true, true, true, true, false, false, false] rfl rfl (by kernel_rfl) (fun _ _ _ h => h) ?_ hHeld ?_ ?_
       ·exact yV (by rfl) rfl v bl (ol + k * 20) rfl (fun W h => h.2.1)
       rotate_left
       ·simp only [Act.put, List.setIfInBounds_toArray, List.set_cons_zero, List.set_cons_succ, i64_w, i32_w]
        rfl
       refine pure_ (i := 20) (N := some 50) (v := ?_) (a' := ?_) #[true, true, true, true, true, true, true, true, true, true, true, true, true, true, true, true, true, true, true, true, true, false, false] rfl rfl (by kernel_rfl) (fun _ _ _ h => h) (Or.inl ⟨by rfl, ?_⟩) ?_ ?_
       rotate_left
       ·intro w'
        go_simp
        with_reducible rfl
       rotate_left
       ·simp only [Act.put, List.setIfInBounds_toArray, List.set_cons_zero, List.set_cons_succ, i64_w, i32_w]
        rfl
       refine pure_ (i := 21) (N := some 51) (v := ?_) (a' := ?_) #[true, true, true, true, true, true, true, true, true, true, true, true, true, true, true, true, true, true, true, true, true, true, false] rfl rfl (by kernel_rfl) (fun _ _ _ h => h) (Or.inl ⟨by rfl, ?_⟩) ?_ ?_
       rotate_left
       ·intro w'
        go_simp
        with_reducible rfl
       rotate_left
       ·simp only [Act.put, List.setIfInBounds_toArray, List.set_cons_zero, List.set_cons_succ, i64_w, i32_w]
        rfl
       refine pure_ (i := 22) (N := some 52) (v := ?_) (a' := ?_) #[true, true, true, true, true, true, true, true, true, true, true, true, true, true, true, true, true, true, true, true, true, true, true] rfl rfl (by kernel_rfl) (fun _ _ _ h => h) (Or.inl ⟨by rfl, ?_⟩) ?_ ?_
       rotate_left
       ·intro w'
        go_simp
        with_reducible rfl
       rotate_left
       ·simp only [Act.put, List.setIfInBounds_toArray, List.set_cons_zero, List.set_cons_succ, i64_w, i32_w]
        rfl
       refine done_ (by kernel_rfl) ?_
       clear hone heq
       have HB8 := hHeld.2.2
       have q8 := hHeld.2.1
       clear hHeld q0 q1
       cases z
       ·have hro : rowP (l.take (k + 1)) = out.take j ++ [v] ++ out.drop j := by
         rw [hrow, insR, hpos.out, if_neg (by rw [HO.out, List.getElem?_eq_getElem hlt, ← HXX.out]; have := HZ.out; simp at this; simp; exact this)]
        go_wp2
        obtain ⟨Ad, cd, hdr, hCd⟩ := dropV (some ⟨bo, oo, none⟩) co out j (by omega) hco
        have htk := takeV (some ⟨bo, oo, none⟩) co out j (by omega) hco
        have HCo : Hid (kV.C wo (some ⟨bo, oo, none⟩) j (out.take j) ∧ kV.C wo Ad (out.length - j) (out.drop j)) := Lib.hid ⟨by have := Kd.C_take HCO.out (m := j) (by omega); rwa [List.length_take, Nat.min_eq_left (by omega)] at this, hCd wo HCO.out⟩
        clear hCd
        have q8 : w2.drew.rangeAt bl (ol + k * 20) v.cells := q8
        refine start_ (n := 16) (S := fun W => W.rangeAt bl (ol + k * 20) v.cells ∧ Below wo.heap.size wo W) (ds := []) #[false, false, false, false, false, false, false, false, false, false, false, false, false, false, false, false] (by kernel_rfl) rfl rfl ⟨q8, HB8.drew⟩ (fun hHeld => ?_)
        refine pure_ (i := 1) (N := some 54) (v := ?_) (a' := ?_) #[false, true, false, false, false, false, false, false, false, false, false, false, false, false, false, false] rfl rfl (by kernel_rfl) (fun _ _ _ h => h) (Or.inl ⟨by rfl, ?_⟩) ?_ ?_
        rotate_left
        ·intro w'
         go_simp
         with_reducible rfl
        rotate_left
        ·simp only [Act.put, List.setIfInBounds_toArray, List.set_cons_zero, List.set_cons_succ, i64_w, i32_w]
         rfl
        refine pure_ (i := 2) (N := some 55) (v := ?_) (a' := ?_) #[false, true, true, false, false, false, false, false, false, false, false, false, false, false, false, false] rfl rfl (by kernel_rfl) (fun _ _ _ h => h) (Or.inl ⟨by rfl, ?_⟩) ?_ ?_
        rotate_left
        ·intro w'
         go_simp
         with_reducible rfl
        rotate_left
        ·simp only [Act.put, List.setIfInBounds_toArray, List.set_cons_zero, List.set_cons_succ, i64_w, i32_w]
         rfl
        refine pure_ (i := 3) (N := some 56) (v := ?_) (a' := ?_) #[false, true, true, true, false, false, false, false, false, false, false, false, false, false, false, false] rfl rfl (by kernel_rfl) (fun _ _ _ h => h) (Or.inl ⟨by rfl, ?_⟩) ?_ ?_
        rotate_left
        ·intro w'
         go_simp
         with_reducible rfl
        rotate_left
        ·simp only [Act.put, List.setIfInBounds_toArray, List.set_cons_zero, List.set_cons_succ, i64_w, i32_w]
         rfl
        refine pure_ (i := 5) (N := some 58) (v := ?_) (a' := ?_) #[false, true, true, true, false, true, false, false, false, false, false, false, false, false, false, false] rfl rfl (by kernel_rfl) (fun _ _ _ h => h) (Or.inl ⟨by rfl, ?_⟩) ?_ ?_
        rotate_left
        ·intro w'
         go_simp
         with_reducible rfl
        rotate_left
        ·simp only [Act.put, List.setIfInBounds_toArray, List.set_cons_zero, List.set_cons_succ, i64_w, i32_w]
         rfl
        refine pure_ (i := 6) (N := some 59) (v := ?_) (a' := ?_) #[false, true, true, true, false, true, true, false, false, false, false, false, false, false, false, false] rfl rfl (by kernel_rfl) (fun _ _ _ h => h) (Or.inl ⟨by rfl, ?_⟩) ?_ ?_
        rotate_left
        ·intro w'
         go_simp
         with_reducible rfl
        rotate_left
        ·simp only [Act.put, List.setIfInBounds_toArray, List.set_cons_zero, List.set_cons_succ, i64_w, i32_w]
         rfl
        refine pure_ (i := 7) (N := some 60) (v := ?_) (a' := ?_) #[false, true, true, true, false, true, true, true, false, false, false, false, false, false, false, false] rfl rfl (by kernel_rfl) (fun _ _ _ h => h) (Or.inl ⟨by rfl, ?_⟩) ?_ ?_
        rotate_left
        ·intro w'
         go_simp
         with_reducible rfl
        rotate_left
        ·simp only [Act.put, List.setIfInBounds_toArray, List.set_cons_zero, List.set_cons_succ, i64_w, i32_w]
         rfl
        refine pure_ (i := 11) (N := some 64) (v := ?_) (a' := ?_) #[false, true, true, true, false, true, true, true, false, false, false, true, false, false, false, false] rfl rfl (by kernel_rfl) (fun _ _ _ h => h) (Or.inl ⟨by rfl, ?_⟩) ?_ ?_
        rotate_left
        ·intro w'
         go_simp
         with_reducible rfl
        rotate_left
        ·simp only [Act.put, List.setIfInBounds_toArray, List.set_cons_zero, List.set_cons_succ, i64_w, i32_w]
         rfl
        refine pure_ (i := 12) (N := some 65) (v := ?_) (a' := ?_) #[false, true, true, true, false, true, true, true, false, false, false, true, true, false, false, false] rfl rfl (by kernel_rfl) (fun _ _ _ h => h) (Or.inl ⟨by rfl, ?_⟩) ?_ ?_
        rotate_left
        ·intro w'
         go_simp
         with_reducible rfl
        rotate_left
        ·simp only [Act.put, List.setIfInBounds_toArray, List.set_cons_zero, List.set_cons_succ, i64_w, i32_w]
         rfl
        refine pure_ (i := 13) (N := some 66) (v := ?_) (a' := ?_) #[false, true, true, true, false, true, true, true, false, false, false, true, true, true, false, false] rfl rfl (by kernel_rfl) (fun _ _ _ h => h) (Or.inl ⟨by rfl, ?_⟩) ?_ ?_
        rotate_left
        ·intro w'
         go_simp
         with_reducible rfl
        rotate_left
        ·simp only [Act.put, List.setIfInBounds_toArray, List.set_cons_zero, List.set_cons_succ, i64_w, i32_w]
         rfl
        refine take_ (i := 8) (N := some 61) (v := .agg v.arr) (a' := ?_) #[false, true, true, true, false, true, true, true, true, false, false, true, true, true, false, false] rfl rfl (by kernel_rfl) (fun _ _ _ h => h) ?_ hHeld ?_ ?_
        ·exact yV (by rfl) rfl v bl (ol + k * 20) rfl (fun W h => h.1)
        rotate_left
        ·simp only [Act.put, List.setIfInBounds_toArray, List.set_cons_zero, List.set_cons_succ, i64_w, i32_w]
         rfl
        generalize w2.drew = wz at hHeld ⊢
        refine two_ (i := 0) (j := 9) (Ni := some 53) (Nj := some 62) #[true, true, true, true, false, true, true, true, true, false, false, true, true, true, false, false] #[false, true, true, true, false, true, true, true, true, true, false, true, true, true, false, false] rfl rfl rfl rfl (by kernel_rfl) (by decide) (by decide) (fun K hK => ?_) (fun K hK => ?_)
        ·refine event_step (by rfl) (v := .slice (some ⟨wz.heap.size, 0, none⟩) 0 0) (w1 := wz.alloc (.cells #[] 39)) (by go_simp; try rfl) ?_
         have hR53 := R_none wz wo.heap.size hHeld.2.size
         have hs53 : wz.heap.size < (wz.alloc (.cells #[] 39)).heap.size := by simp
         refine hK.out _ _ ⟨ra_below hHeld.1 (show Below wz.heap.size wz (wz.alloc (.cells #[] 39)) from ((Below.refl _ _).alloc (Nat.le_refl _) _)), hHeld.2.trans ((show Below wz.heap.size wz (wz.alloc (.cells #[] 39)) from ((Below.refl _ _).alloc (Nat.le_refl _) _)).mono hHeld.2.size)⟩ (fun hHeld => ?_)
         clear hK K
         refine norm_ (a' := ?_) ?_ ?_
         rotate_left
         ·show Act.put _ (some 53) _ = _
          simp only [Act.put, List.setIfInBounds_toArray, List.set_cons_zero, List.set_cons_succ, i64_w, i32_w]
          rfl
         generalize wz.alloc (.cells #[] 39) = wa53 at hHeld hR53 hs53 ⊢
         refine two_ (i := 4) (j := 9) (Ni := some 57) (Nj := some 62) #[true, true, true, true, true, true, true, true, true, false, false, true, true, true, false, false] #[true, true, true, true, false, true, true, true, true, true, false, true, true, true, false, false] rfl rfl rfl rfl (by kernel_rfl) (by decide) (by decide) (fun K hK => ?_) (fun K hK => ?_)
         ·refine appRows (w0 := wo) wo.heap.size (by rfl) (.tmp 53) (.tmp 56) rfl (.slice (some ⟨wz.heap.size, 0, none⟩) 0 0) [] (out.take j) (some ⟨bo, oo, none⟩) j co rfl rfl hR53 (Kd.C_below HCo.out.1 hHeld.2) hHeld.2 hHeld.2.size (by simp; omega) ?_
          intro v57 wb57 hR57 hB57 hg57 hat57
          rw [List.nil_append] at hR57
          refine hK.out _ _ ⟨ra_below Q0.out hB57, hB57⟩ (fun hHeld => ?_)
          clear hK K
          refine norm_ (a' := ?_) ?_ ?_
          rotate_left
          ·show Act.put _ (some 57) _ = _
           simp only [Act.put, List.setIfInBounds_toArray, List.set_cons_zero, List.set_cons_succ, i64_w, i32_w]
           rfl
          refine one_ (i := 9) (N := some 62) #[true, true, true, true, true, true, true, true, true, true, false, true, true, true, false, false] rfl rfl (by kernel_rfl) (by decide) (fun K hK => ?_)
          refine event_step (by rfl) (v := .slice (some ⟨wb57.heap.size, 0, none⟩) 1 1) (w1 := wb57.alloc (.cells v.arr 39)) (exec_buildV v rfl _) ?_
          replace hR57 := Kd.R_below hR57 (show Below wb57.heap.size wb57 (wb57.alloc (.cells v.arr 39)) from ((Below.refl _ _).alloc (Nat.le_refl _) _))
          have hV62 := Has.new wb57 v.arr 39
          have hs62 : wb57.heap.size < (wb57.alloc (.cells v.arr 39)).heap.size := by simp
          refine hK.out _ _ ⟨ra_below hHeld.1 (show Below wb57.heap.size wb57 (wb57.alloc (.cells v.arr 39)) from ((Below.refl _ _).alloc (Nat.le_refl _) _)), hHeld.2.trans ((show Below wb57.heap.size wb57 (wb57.alloc (.cells v.arr 39)) from ((Below.refl _ _).alloc (Nat.le_refl _) _)).mono hHeld.2.size)⟩ (fun hHeld => ?_)
          clear hK K
          refine norm_ (a' := ?_) ?_ ?_
          rotate_left
          ·show Act.put _ (some 62) _ = _
           simp only [Act.put, List.setIfInBounds_toArray, List.set_cons_zero, List.set_cons_succ, i64_w, i32_w]
           rfl
          generalize wb57.alloc (.cells v.arr 39) = wc62 at hHeld hR57 hV62 hs62 ⊢
          refine one_ (i := 10) (N := some 63) #[true, true, true, true, true, true, true, true, true, true, true, true, true, true, false, false] rfl rfl (by kernel_rfl) (by decide) (fun K hK => ?_)
          refine appRows (w0 := wo) wo.heap.size (by rfl) (.tmp 57) (.tmp 62) rfl (v57) (out.take j) [v] (some ⟨wb57.heap.size, 0, none⟩) 1 1 rfl rfl hR57 (C_one hV62) hHeld.2 hHeld.2.size (by simp; omega) ?_
          intro v63 wd63 hR63 hB63 hg63 hat63
          refine hK.out _ _ ⟨ra_below Q0.out hB63, hB63⟩ (fun hHeld => ?_)
          clear hK K
          refine norm_ (a' := ?_) ?_ ?_
          rotate_left
          ·show Act.put _ (some 63) _ = _
           simp only [Act.put, List.setIfInBounds_toArray, List.set_cons_zero, List.set_cons_succ, i64_w, i32_w]
           rfl
          refine one_ (i := 14) (N := some 67) #[true, true, true, true, true, true, true, true, true, true, true, true, true, true, true, false] rfl rfl (by kernel_rfl) (by decide) (fun K hK => ?_)
          refine appRows (w0 := wo) wo.heap.size (by rfl) (.tmp 63) (.tmp 66) rfl (v63) (out.take j ++ [v]) (out.drop j) Ad (out.length - j) cd rfl rfl hR63 (Kd.C_below HCo.out.2 hHeld.2) hHeld.2 hHeld.2.size (by simp; omega) ?_
          intro v67 we67 hR67 hB67 hg67 hat67
          refine hK.out _ _ ⟨ra_below Q0.out hB67, hB67⟩ (fun hHeld => ?_)
          clear hK K
          refine norm_ (a' := ?_) ?_ ?_
          rotate_left
          ·show Act.put _ (some 67) _ = _
           simp only [Act.put, List.setIfInBounds_toArray, List.set_cons_zero, List.set_cons_succ, i64_w, i32_w]
           rfl
          refine pure_ (i := 15) (N := some 3) (v := ?_) (a' := ?_) #[true, true, true, true, true, true, true, true, true, true, true, true, true, true, true, true] rfl rfl (by kernel_rfl) (fun _ _ _ h => h) (Or.inl ⟨by rfl, ?_⟩) ?_ ?_
          rotate_left
          ·intro w'
           go_simp
           with_reducible rfl
          rotate_left
          ·simp only [Act.put, List.setIfInBounds_toArray, List.set_cons_zero, List.set_cons_succ, i64_w, i32_w]
           rfl
          refine done_ (by kernel_rfl) ?_
          go_wp2
          go_roundw
          case rel => exact ⟨k + 1, by omega, by go_num, Lib.hid ⟨by rw [hro]; exact Kd.R_lower hR67 HX.out.2.1.size, HX.out.2.1.trans (hB67.mono HX.out.2.1.size), by rw [hro]; have := HX.out.2.2; simp; omega⟩⟩
          case measure => simp [intOf]; omega
         ·refine event_step (by rfl) (v := .slice (some ⟨wa53.heap.size, 0, none⟩) 1 1) (w1 := wa53.alloc (.cells v.arr 39)) (exec_buildV v rfl _) ?_
          replace hR53 := Kd.R_below hR53 (show Below wa53.heap.size wa53 (wa53.alloc (.cells v.arr 39)) from ((Below.refl _ _).alloc (Nat.le_refl _) _))
          have hV62 := Has.new wa53 v.arr 39
          have hs62 : wa53.heap.size < (wa53.alloc (.cells v.arr 39)).heap.size := by simp
          refine hK.out _ _ ⟨ra_below hHeld.1 (show Below wa53.heap.size wa53 (wa53.alloc (.cells v.arr 39)) from ((Below.refl _ _).alloc (Nat.le_refl _) _)), hHeld.2.trans ((show Below wa53.heap.size wa53 (wa53.alloc (.cells v.arr 39)) from ((Below.refl _ _).alloc (Nat.le_refl _) _)).mono hHeld.2.size)⟩ (fun hHeld => ?_)
          clear hK K
          refine norm_ (a' := ?_) ?_ ?_
          rotate_left
          ·show Act.put _ (some 62) _ = _
           simp only [Act.put, List.setIfInBounds_toArray, List.set_cons_zero, List.set_cons_succ, i64_w, i32_w]
           rfl
          generalize wa53.alloc (.cells v.arr 39) = wb62 at hHeld hR53 hV62 hs62 ⊢
          refine one_ (i := 4) (N := some 57) #[true, true, true, true, true, true, true, true, true, true, false, true, true, true, false, false] rfl rfl (by kernel_rfl) (by decide) (fun K hK => ?_)
          refine appRows (w0 := wo) wo.heap.size (by rfl) (.tmp 53) (.tmp 56) rfl (.slice (some ⟨wz.heap.size, 0, none⟩) 0 0) [] (out.take j) (some ⟨bo, oo, none⟩) j co rfl rfl hR53 (Kd.C_below HCo.out.1 hHeld.2) hHeld.2 hHeld.2.size (by simp; omega) ?_
          intro v57 wc57 hR57 hB57 hg57 hat57
          rw [List.nil_append] at hR57
          replace hV62 : Has wc57 wa53.heap.size v.arr 39 := (hg57.block _ hV62.lt (by simp [Value.ownBlock]; omega)).trans hV62
          refine hK.out _ _ ⟨ra_below Q0.out hB57, hB57⟩ (fun hHeld => ?_)
          clear hK K
          refine norm_ (a' := ?_) ?_ ?_
          rotate_left
          ·show Act.put _ (some 57) _ = _
           simp only [Act.put, List.setIfInBounds_toArray, List.set_cons_zero, List.set_cons_succ, i64_w, i32_w]
           rfl
          refine one_ (i := 10) (N := some 63) #[true, true, true, true, true, true, true, true, true, true, true, true, true, true, false, false] rfl rfl (by kernel_rfl) (by decide) (fun K hK => ?_)
          refine appRows (w0 := wo) wo.heap.size (by rfl) (.tmp 57) (.tmp 62) rfl (v57) (out.take j) [v] (some ⟨wa53.heap.size, 0, none⟩) 1 1 rfl rfl hR57 (C_one hV62) hHeld.2 hHeld.2.size (by simp; omega) ?_
          intro v63 wd63 hR63 hB63 hg63 hat63
          refine hK.out _ _ ⟨ra_below Q0.out hB63, hB63⟩ (fun hHeld => ?_)
          clear hK K
          refine norm_ (a' := ?_) ?_ ?_
          rotate_left
          ·show Act.put _ (some 63) _ = _
           simp only [Act.put, List.setIfInBounds_toArray, List.set_cons_zero, List.set_cons_succ, i64_w, i32_w]
           rfl
          refine one_ (i := 14) (N := some 67) #[true, true, true, true, true, true, true, true, true, true, true, true, true, true, true, false] rfl rfl (by kernel_rfl) (by decide) (fun K hK => ?_)
          refine appRows (w0 := wo) wo.heap.size (by rfl) (.tmp 63) (.tmp 66) rfl (v63) (out.take j ++ [v]) (out.drop j) Ad (out.length - j) cd rfl rfl hR63 (Kd.C_below HCo.out.2 hHeld.2) hHeld.2 hHeld.2.size (by simp; omega) ?_
          intro v67 we67 hR67 hB67 hg67 hat67
          refine hK.out _ _ ⟨ra_below Q0.out hB67, hB67⟩ (fun hHeld => ?_)
          clear hK K
          refine norm_ (a' := ?_) ?_ ?_
          rotate_left
          ·show Act.put _ (some 67) _ = _
           simp only [Act.put, List.setIfInBounds_toArray, List.set_cons_zero, List.set_cons_succ, i64_w, i32_w]
           rfl
          refine pure_ (i := 15) (N := some 3) (v := ?_) (a' := ?_) #[true, true, true, true, true, true, true, true, true, true, true, true, true, true, true, true] rfl rfl (by kernel_rfl) (fun _ _ _ h => h) (Or.inl ⟨by rfl, ?_⟩) ?_ ?_
          rotate_left
          ·intro w'
           go_simp
           with_reducible rfl
          rotate_left
          ·simp only [Act.put, List.setIfInBounds_toArray, List.set_cons_zero, List.set_cons_succ, i64_w, i32_w]
           rfl
          refine done_ (by kernel_rfl) ?_
          go_wp2
          go_roundw
          case rel => exact ⟨k + 1, by omega, by go_num, Lib.hid ⟨by rw [hro]; exact Kd.R_lower hR67 HX.out.2.1.size, HX.out.2.1.trans (hB67.mono HX.out.2.1.size), by rw [hro]; have := HX.out.2.2; simp; omega⟩⟩
          case measure => simp [intOf]; omega
        ·refine event_step (by rfl) (v := .slice (some ⟨wz.heap.size, 0, none⟩) 1 1) (w1 := wz.alloc (.cells v.arr 39)) (exec_buildV v rfl _) ?_
         have hV62 := Has.new wz v.arr 39
         have hs62 : wz.heap.size < (wz.alloc (.cells v.arr 39)).heap.size := by simp
         refine hK.out _ _ ⟨ra_below hHeld.1 (show Below wz.heap.size wz (wz.alloc (.cells v.arr 39)) from ((Below.refl _ _).alloc (Nat.le_refl _) _)), hHeld.2.trans ((show Below wz.heap.size wz (wz.alloc (.cells v.arr 39)) from ((Below.refl _ _).alloc (Nat.le_refl _) _)).mono hHeld.2.size)⟩ (fun hHeld => ?_)
         clear hK K
         refine norm_ (a' := ?_) ?_ ?_
         rotate_left
         ·show Act.put _ (some 62) _ = _
          simp only [Act.put, List.setIfInBounds_toArray, List.set_cons_zero, List.set_cons_succ, i64_w, i32_w]
          rfl
         generalize wz.alloc (.cells v.arr 39) = wa62 at hHeld hV62 hs62 ⊢
         refine one_ (i := 0) (N := some 53) #[true, true, true, true, false, true, true, true, true, true, false, true, true, true, false, false] rfl rfl (by kernel_rfl) (by decide) (fun K hK => ?_)
         refine event_step (by rfl) (v := .slice (some ⟨wa62.heap.size, 0, none⟩) 0 0) (w1 := wa62.alloc (.cells #[] 39)) (by go_simp; try rfl) ?_
         replace hV62 := hV62.alloc (.cells #[] 39)
         have hlt62 := hV62.lt
         have hR53 := R_none wa62 wo.heap.size hHeld.2.size
         have hs53 : wa62.heap.size < (wa62.alloc (.cells #[] 39)).heap.size := by simp
         refine hK.out _ _ ⟨ra_below hHeld.1 (show Below wa62.heap.size wa62 (wa62.alloc (.cells #[] 39)) from ((Below.refl _ _).alloc (Nat.le_refl _) _)), hHeld.2.trans ((show Below wa62.heap.size wa62 (wa62.alloc (.cells #[] 39)) from ((Below.refl _ _).alloc (Nat.le_refl _) _)).mono hHeld.2.size)⟩ (fun hHeld => ?_)
         clear hK K
         refine norm_ (a' := ?_) ?_ ?_
         rotate_left
         ·show Act.put _ (some 53) _ = _
          simp only [Act.put, List.setIfInBounds_toArray, List.set_cons_zero, List.set_cons_succ, i64_w, i32_w]
          rfl
         generalize wa62.alloc (.cells #[] 39) = wb53 at hHeld hR53 hV62 hs53 ⊢
         refine one_ (i := 4) (N := some 57) #[true, true, true, true, true, true, true, true, true, true, false, true, true, true, false, false] rfl rfl (by kernel_rfl) (by decide) (fun K hK => ?_)
         refine appRows (w0 := wo) wo.heap.size (by rfl) (.tmp 53) (.tmp 56) rfl (.slice (some ⟨wa62.heap.size, 0, none⟩) 0 0) [] (out.take j) (some ⟨bo, oo, none⟩) j co rfl rfl hR53 (Kd.C_below HCo.out.1 hHeld.2) hHeld.2 hHeld.2.size (by simp; omega) ?_
         intro v57 wc57 hR57 hB57 hg57 hat57
         rw [List.nil_append] at hR57
         replace hV62 : Has wc57 wz.heap.size v.arr 39 := (hg57.block _ hV62.lt (by simp [Value.ownBlock]; omega)).trans hV62
         refine hK.out _ _ ⟨ra_below Q0.out hB57, hB57⟩ (fun hHeld => ?_)
         clear hK K
         refine norm_ (a' := ?_) ?_ ?_
         rotate_left
         ·show Act.put _ (some 57) _ = _
          simp only [Act.put, List.setIfInBounds_toArray, List.set_cons_zero, List.set_cons_succ, i64_w, i32_w]
          rfl
         refine one_ (i := 10) (N := some 63) #[true, true, true, true, true, true, true, true, true, true, true, true, true, true, false, false] rfl rfl (by kernel_rfl) (by decide) (fun K hK => ?_)
         refine appRows (w0 := wo) wo.heap.size (by rfl) (.tmp 57) (.tmp 62) rfl (v57) (out.take j) [v] (some ⟨wz.heap.size, 0, none⟩) 1 1 rfl rfl hR57 (C_one hV62) hHeld.2 hHeld.2.size (by simp; omega) ?_
         intro v63 wd63 hR63 hB63 hg63 hat63
         refine hK.out _ _ ⟨ra_below Q0.out hB63, hB63⟩ (fun hHeld => ?_)
         clear hK K
         refine norm_ (a' := ?_) ?_ ?_
         rotate_left
         ·show Act.put _ (some 63) _ = _
          simp only [Act.put, List.setIfInBounds_toArray, List.set_cons_zero, List.set_cons_succ, i64_w, i32_w]
          rfl
         refine one_ (i := 14) (N := some 67) #[true, true, true, true, true, true, true, true, true, true, true, true, true, true, true, false] rfl rfl (by kernel_rfl) (by decide) (fun K hK => ?_)
         refine appRows (w0 := wo) wo.heap.size (by rfl) (.tmp 63) (.tmp 66) rfl (v63) (out.take j ++ [v]) (out.drop j) Ad (out.length - j) cd rfl rfl hR63 (Kd.C_below HCo.out.2 hHeld.2) hHeld.2 hHeld.2.size (by simp; omega) ?_
         intro v67 we67 hR67 hB67 hg67 hat67
         refine hK.out _ _ ⟨ra_below Q0.out hB67, hB67⟩ (fun hHeld => ?_)
         clear hK K
         refine norm_ (a' := ?_) ?_ ?_
         rotate_left
         ·show Act.put _ (some 67) _ = _
          simp only [Act.put, List.setIfInBounds_toArray, List.set_cons_zero, List.set_cons_succ, i64_w, i32_w]
          rfl
         refine pure_ (i := 15) (N := some 3) (v := ?_) (a' := ?_) #[true, true, true, true, true, true, true, true, true, true, true, true, true, true, true, true] rfl rfl (by kernel_rfl) (fun _ _ _ h => h) (Or.inl ⟨by rfl, ?_⟩) ?_ ?_
         rotate_left
         ·intro w'
          go_simp
          with_reducible rfl
         rotate_left
         ·simp only [Act.put, List.setIfInBounds_toArray, List.set_cons_zero, List.set_cons_succ, i64_w, i32_w]
          rfl
         refine done_ (by kernel_rfl) ?_
         go_wp2
         go_roundw
         case rel => exact ⟨k + 1, by omega, by go_num, Lib.hid ⟨by rw [hro]; exact Kd.R_lower hR67 HX.out.2.1.size, HX.out.2.1.trans (hB67.mono HX.out.2.1.size), by rw [hro]; have := HX.out.2.2; simp; omega⟩⟩
         case measure => simp [intOf]; omega
       ·have hro : rowP (l.take (k + 1)) = out := by
         rw [hrow, insR, hpos.out, if_pos (.inr (by rw [List.getElem?_eq_getElem hlt, ← HXX.out]; have := HZ.out; simp at this; rw [this]))]
        go_wp2
        go_roundw
        case rel => exact ⟨k + 1, by omega, by go_num, Lib.hid ⟨by rw [hro]; exact Kd.R_below HX.out.1 HB8, HX.out.2.1.trans (HB8.mono HX.out.2.1.size), by rw [hro]; have := HX.out.2.2; omega⟩⟩
        case measure => simp [intOf]; omega
      ·have hof := Bool.eq_false_iff.2 ho
       have hone : ∀ W, Calls Try.prog 18 #[.agg v.arr] W fun e w' => e = .returned (.bool false) ∧ Below W.heap.size W w' := fun W => by have := refOne_walk v W; rwa [hof] at this
       have HO := Lib.hid hof
       clear hof ho
       refine start_ (n := 23) (S := fun W => W.rangeAt bl (ol + k * 20) v.cells ∧ Below wo.heap.size wo W) (ds := []) #[false, false, false, false, false, false, false, false, false, false, false, false, false, false, false, false, false, false, false, false, false, false, false] (by kernel_rfl) rfl rfl ⟨q0, HN.out.drew.below⟩ (fun hHeld => ?_)
       refine pure_ (i := 0) (N := some 30) (v := ?_) (a' := ?_) #[true, false, false, false, false, false, false, false, false, false, false, false, false, false, false, false, false, false, false, false, false, false, false] rfl rfl (by kernel_rfl) (fun _ _ _ h => h) (Or.inl ⟨by rfl, ?_⟩) ?_ ?_
       rotate_left
       ·intro w'
        go_simp
        with_reducible rfl
       rotate_left
       ·simp only [Act.put, List.setIfInBounds_toArray, List.set_cons_zero, List.set_cons_succ, i64_w, i32_w]
        rfl
       refine pure_ (i := 1) (N := some 31) (v := ?_) (a' := ?_) #[true, true, false, false, false, false, false, false, false, false, false, false, false, false, false, false, false, false, false, false, false, false, false] rfl rfl (by kernel_rfl) (fun _ _ _ h => h) (Or.inl ⟨by rfl, ?_⟩) ?_ ?_
       rotate_left
       ·intro w'
        go_simp
        with_reducible rfl
       rotate_left
       ·simp only [Act.put, List.setIfInBounds_toArray, List.set_cons_zero, List.set_cons_succ, i64_w, i32_w]
        rfl
       refine pure_ (i := 2) (N := some 32) (v := ?_) (a' := ?_) #[true, true, true, false, false, false, false, false, false, false, false, false, false, false, false, false, false, false, false, false, false, false, false] rfl rfl (by kernel_rfl) (fun _ _ _ h => h) (Or.inl ⟨by rfl, ?_⟩) ?_ ?_
       rotate_left
       ·intro w'
        go_simp
        with_reducible rfl
       rotate_left
       ·simp only [Act.put, List.setIfInBounds_toArray, List.set_cons_zero, List.set_cons_succ, i64_w, i32_w]
        rfl
       refine take_ (i := 3) (N := some 33) (v := .agg v.arr) (a' := ?_) #[true, true, true, true, false, false, false, false, false, false, false, false, false, false, false, false, false, false, false, false, false, false, false] rfl rfl (by kernel_rfl) (fun _ _ _ h => h) ?_ hHeld ?_ ?_
       ·exact yV (by rfl) rfl v bl (ol + k * 20) rfl (fun W h => h.1)
       rotate_left
       ·simp only [Act.put, List.setIfInBounds_toArray, List.set_cons_zero, List.set_cons_succ, i64_w, i32_w]
        rfl
       refine one_ (i := 4) (N := some 34) #[true, true, true, true, true, false, false, false, false, false, false, false, false, false, false, false, false, false, false, false, false, false, false] rfl rfl (by kernel_rfl) (by decide) (fun K hK => ?_)
       refine goes_ Try.func18 (by kernel_rfl) rfl #[.agg v.arr] (by rfl) rfl rfl (by (try simp only [List.map_toArray, List.map_cons, List.map_nil]); first | done | rfl) ?_
       refine (hone _).mono ?_
       rintro e w2 ⟨rfl, hB⟩
       refine ⟨_, rfl, ?_⟩
       refine hK.out _ _ ⟨ra_below hHeld.1 hB, hHeld.2.trans (hB.mono hHeld.2.size)⟩ (fun hHeld => ?_)
       clear hK K
       refine norm_ (a' := ?_) ?_ ?_
       rotate_left
       ·show Act.put _ (some 34) _ = _
        simp only [Act.put, List.setIfInBounds_toArray, List.set_cons_zero, List.set_cons_succ, i64_w, i32_w]
        rfl
       refine pure_ (i := 5) (N := some 35) (v := ?_) (a' := ?_) #[true, true, true, true, true, true, false, false, false, false, false, false, false, false, false, false, false, false, false, false, false, false, false] rfl rfl (by kernel_rfl) (fun _ _ _ h => h) (Or.inl ⟨by rfl, ?_⟩) ?_ ?_
       rotate_left
       ·intro w'
        go_simp
        with_reducible rfl
       rotate_left
       ·simp only [Act.put, List.setIfInBounds_toArray, List.set_cons_zero, List.set_cons_succ, i64_w, i32_w]
        rfl
       refine pure_ (i := 6) (N := some 36) (v := ?_) (a' := ?_) #[true, true, true, true, true, true, true, false, false, false, false, false, false, false, false, false, false, false, false, false, false, false, false] rfl rfl (by kernel_rfl) (fun _ _ _ h => h) (Or.inl ⟨by rfl, ?_⟩) ?_ ?_
       rotate_left
       ·intro w'
        go_simp
        with_reducible rfl
       rotate_left
       ·simp only [Act.put, List.setIfInBounds_toArray, List.set_cons_zero, List.set_cons_succ, i64_w, i32_w]
        rfl
       refine pure_ (i := 7) (N := some 37) (v := undef) (a' := ?_) #[true, true, true, true, true, true, true, true, false, false, false, false, false, false, false, false, false, false, false, false, false, false, false] rfl rfl (by kernel_rfl) (fun _ _ _ h => h) (Or.inr ⟨by rfl, rfl⟩) ?_ ?_
       rotate_left
       ·simp only [Act.put, List.setIfInBounds_toArray, List.set_cons_zero, List.set_cons_succ, i64_w, i32_w]
        rfl
       refine pure_ (i := 8) (N := some 38) (v := undef) (a' := ?_) #[true, true, true, true, true, true, true, true, true, false, false, false, false, false, false, false, false, false, false, false, false, false, false] rfl rfl (by kernel_rfl) (fun _ _ _ h => h) (Or.inr ⟨by rfl, rfl⟩) ?_ ?_
       rotate_left
       ·simp only [Act.put, List.setIfInBounds_toArray, List.set_cons_zero, List.set_cons_succ, i64_w, i32_w]
        rfl
       refine pure_ (i := 9) (N := some 39) (v := undef) (a' := ?_) #[true, true, true, true, true, true, true, true, true, true, false, false, false, false, false, false, false, false, false, false, false, false, false] rfl rfl (by kernel_rfl) (fun _ _ _ h => h) (Or.inr ⟨by rfl, rfl⟩) ?_ ?_
       rotate_left
       ·simp only [Act.put, List.setIfInBounds_toArray, List.set_cons_zero, List.set_cons_succ, i64_w, i32_w]
        rfl
       refine pure_ (i := 10) (N := some 40) (v := undef) (a' := ?_) #[true, true, true, true, true, true, true, true, true, true, true, false, false, false, false, false, false, false, false, false, false, false, false] rfl rfl (by kernel_rfl) (fun _ _ _ h => h) (Or.inr ⟨by rfl, rfl⟩) ?_ ?_
       rotate_left
       ·simp only [Act.put, List.setIfInBounds_toArray, List.set_cons_zero, List.set_cons_succ, i64_w, i32_w]
        rfl
       refine pure_ (i := 11) (N := some 41) (v := undef) (a' := ?_) #[true, true, true, true, true, true, true, true, true, true, true, true, false, false, false, false, false, false, false, false, false, false, false] rfl rfl (by kernel_rfl) (fun _ _ _ h => h) (Or.inr ⟨by rfl, rfl⟩) ?_ ?_
       rotate_left
       ·simp only [Act.put, List.setIfInBounds_toArray, List.set_cons_zero, List.set_cons_succ, i64_w, i32_w]
        rfl
       refine pure_ (i := 12) (N := some 42) (v := undef) (a' := ?_) #[true, true, true, true, true, true, true, true, true, true, true, true, true, false, false, false, false, false, false, false, false, false, false] rfl rfl (by kernel_rfl) (fun _ _ _ h => h) (Or.inr ⟨by rfl, rfl⟩) ?_ ?_
       rotate_left
       ·simp only [Act.put, List.setIfInBounds_toArray, List.set_cons_zero, List.set_cons_succ, i64_w, i32_w]
        rfl
       refine pure_ (i := 13) (N := some 43) (v := undef) (a' := ?_) #[true, true, true, true, true, true, true, true, true, true, true, true, true, true, false, false, false, false, false, false, false, false, false] rfl rfl (by kernel_rfl) (fun _ _ _ h => h) (Or.inr ⟨by rfl, rfl⟩) ?_ ?_
       rotate_left
       ·simp only [Act.put, List.setIfInBounds_toArray, List.set_cons_zero, List.set_cons_succ, i64_w, i32_w]
        rfl
       refine pure_ (i := 14) (N := some 44) (v := undef) (a' := ?_) #[true, true, true, true, true, true, true, true, true, true, true, true, true, true, true, false, false, false, false, false, false, false, false] rfl rfl (by kernel_rfl) (fun _ _ _ h => h) (Or.inr ⟨by rfl, rfl⟩) ?_ ?_
       rotate_left
       ·simp only [Act.put, List.setIfInBounds_toArray, List.set_cons_zero, List.set_cons_succ, i64_w, i32_w]
        rfl
       refine pure_ (i := 15) (N := some 45) (v := undef) (a' := ?_) #[true, true, true, true, true, true, true, true, true, true, true, true, true, true, true, true, false, false, false, false, false, false, false] rfl rfl (by kernel_rfl) (fun _ _ _ h => h) (Or.inr ⟨by rfl, rfl⟩) ?_ ?_
       rotate_left
       ·simp only [Act.put, List.setIfInBounds_toArray, List.set_cons_zero, List.set_cons_succ, i64_w, i32_w]
        rfl
       refine pure_ (i := 16) (N := some 46) (v := undef) (a' := ?_) #[true, true, true, true, true, true, true, true, true, true, true, true, true, true, true, true, true, false, false, false, false, false, false] rfl rfl (by kernel_rfl) (fun _ _ _ h => h) (Or.inr ⟨by rfl, rfl⟩) ?_ ?_
       rotate_left
       ·simp only [Act.put, List.setIfInBounds_toArray, List.set_cons_zero, List.set_cons_succ, i64_w, i32_w]
        rfl
       refine pure_ (i := 17) (N := some 47) (v := undef) (a' := ?_) #[true, true, true, true, true, true, true, true, true, true, true, true, true, true, true, true, true, true, false, false, false, false, false] rfl rfl (by kernel_rfl) (fun _ _ _ h => h) (Or.inr ⟨by rfl, rfl⟩) ?_ ?_
       rotate_left
       ·simp only [Act.put, List.setIfInBounds_toArray, List.set_cons_zero, List.set_cons_succ, i64_w, i32_w]
        rfl
       refine pure_ (i := 18) (N := some 48) (v := undef) (a' := ?_) #[true, true, true, true, true, true, true, true, true, true, true, true, true, true, true, true, true, true, true, false, false, false, false] rfl rfl (by kernel_rfl) (fun _ _ _ h => h) (Or.inr ⟨by rfl, rfl⟩) ?_ ?_
       rotate_left
       ·simp only [Act.put, List.setIfInBounds_toArray, List.set_cons_zero, List.set_cons_succ, i64_w, i32_w]
        rfl
       refine pure_ (i := 19) (N := some 49) (v := undef) (a' := ?_) #[true, true, true, true, true, true, true, true, true, true, true, true, true, true, true, true, true, true, true, true, false, false, false] rfl rfl (by kernel_rfl) (fun _ _ _ h => h) (Or.inr ⟨by rfl, rfl⟩) ?_ ?_
       rotate_left
       ·simp only [Act.put, List.setIfInBounds_toArray, List.set_cons_zero, List.set_cons_succ, i64_w, i32_w]
        rfl
       refine pure_ (i := 20) (N := some 50) (v := undef) (a' := ?_) #[true, true, true, true, true, true, true, true, true, true, true, true, true, true, true, true, true, true, true, true, true, false, false] rfl rfl (by kernel_rfl) (fun _ _ _ h => h) (Or.inr ⟨by rfl, rfl⟩) ?_ ?_
       rotate_left
       ·simp only [Act.put, List.setIfInBounds_toArray, List.set_cons_zero, List.set_cons_succ, i64_w, i32_w]
        rfl
       refine pure_ (i := 21) (N := some 51) (v := undef) (a' := ?_) #[true, true, true, true, true, true, true, true, true, true, true, true, true, true, true, true, true, true, true, true, true, true, false] rfl rfl (by kernel_rfl) (fun _ _ _ h => h) (Or.inr ⟨by rfl, rfl⟩) ?_ ?_
       rotate_left
       ·simp only [Act.put, List.setIfInBounds_toArray, List.set_cons_zero, List.set_cons_succ, i64_w, i32_w]
        rfl
       refine pure_ (i := 22) (N := some 52) (v := ?_) (a' := ?_) #[true, true, true, true, true, true, true, true, true, true, true, true, true, true, true, true, true, true, true, true, true, true, true] rfl rfl (by kernel_rfl) (fun _ _ _ h => h) (Or.inl ⟨by rfl, ?_⟩) ?_ ?_
       rotate_left
       ·intro w'
        go_simp
        with_reducible rfl
       rotate_left
       ·simp only [Act.put, List.setIfInBounds_toArray, List.set_cons_zero, List.set_cons_succ, i64_w, i32_w]
        rfl
       refine done_ (by kernel_rfl) ?_
       clear hone
       have HB8 := hHeld.2
       clear hHeld
       have hro : rowP (l.take (k + 1)) = out := by
        rw [hrow, insR, if_pos (.inl HO.out)]
       go_wp2
       go_roundw
       case rel => exact ⟨k + 1, by omega, by go_num, Lib.hid ⟨by rw [hro]; exact Kd.R_below HX.out.1 HB8, HX.out.2.1.trans (HB8.mono HX.out.2.1.size), by rw [hro]; have := HX.out.2.2; omega⟩⟩
       case measure => simp [intOf]; omega
    ·have hd1 := eq_false (show ¬ (j : Int) < (out.length : Int) by omega)
     have hd2 : decide ((j : Int) < (out.length : Int)) = false := decide_eq_false (by omega)
     have hd3 : decide (j < out.length) = false := decide_eq_false hlt
     go_wp2
     refine start_ (n := 16) (S := fun W => Gw wo W) (ds := []) #[false, false, false, false, false, false, false, false, false, false, false, false, false, false, false, false] (by kernel_rfl) rfl rfl HG.out.drew (fun hHeld => ?_)
     refine pure_ (i := 0) (N := some 12) (v := ?_) (a' := ?_) #[true, false, false, false, false, false, false, false, false, false, false, false, false, false, false, false] rfl rfl (by kernel_rfl) (fun _ _ _ h => h) (Or.inl ⟨by rfl, ?_⟩) ?_ ?_
     rotate_left
     ·intro w'
      go_simp
      with_reducible rfl
     rotate_left
     ·simp only [Act.put, List.setIfInBounds_toArray, List.set_cons_zero, List.set_cons_succ, i64_w, i32_w]
      rfl
     refine pure_ (i := 1) (N := some 13) (v := ?_) (a' := ?_) #[true, true, false, false, false, false, false, false, false, false, false, false, false, false, false, false] rfl rfl (by kernel_rfl) (fun _ _ _ h => h) (Or.inl ⟨by rfl, ?_⟩) ?_ ?_
     rotate_left
     ·intro w'
      go_simp
      with_reducible rfl
     rotate_left
     ·simp only [Act.put, List.setIfInBounds_toArray, List.set_cons_zero, List.set_cons_succ, i64_w, i32_w]
      rfl
     refine pure_ (i := 2) (N := some 14) (v := ?_) (a' := ?_) #[true, true, true, false, false, false, false, false, false, false, false, false, false, false, false, false] rfl rfl (by kernel_rfl) (fun _ _ _ h => h) (Or.inl ⟨by rfl, ?_⟩) ?_ ?_
     rotate_left
     ·intro w'
      go_simp
      with_reducible rfl
     rotate_left
     ·simp only [Act.put, List.setIfInBounds_toArray, List.set_cons_zero, List.set_cons_succ, i64_w, i32_w]
      rfl
     refine pure_ (i := 3) (N := some 15) (v := ?_) (a' := ?_) #[true, true, true, true, false, false, false, false, false, false, false, false, false, false, false, false] rfl rfl (by kernel_rfl) (fun _ _ _ h => h) (Or.inl ⟨by rfl, ?_⟩) ?_ ?_
     rotate_left
     ·intro w'
      go_simp
      with_reducible rfl
     rotate_left
     ·simp only [Act.put, List.setIfInBounds_toArray, List.set_cons_zero, List.set_cons_succ, i64_w, i32_w]
      rfl
     refine pure_ (i := 4) (N := some 16) (v := ?_) (a' := ?_) #[true, true, true, true, true, false, false, false, false, false, false, false, false, false, false, false] rfl rfl (by kernel_rfl) (fun _ _ _ h => h) (Or.inl ⟨by rfl, ?_⟩) ?_ ?_
     rotate_left
     ·intro w'
      go_simp
      with_reducible rfl
     rotate_left
     ·simp only [Act.put, List.setIfInBounds_toArray, List.set_cons_zero, List.set_cons_succ, i64_w, i32_w]
      rfl
     refine pure_ (i := 5) (N := some 17) (v := undef) (a' := ?_) #[true, true, true, true, true, true, false, false, false, false, false, false, false, false, false, false] rfl rfl (by kernel_rfl) (fun _ _ _ h => h) (Or.inr ⟨by rfl, rfl⟩) ?_ ?_
     rotate_left
     ·simp only [Act.put, List.setIfInBounds_toArray, List.set_cons_zero, List.set_cons_succ, i64_w, i32_w]
      rfl
     refine pure_ (i := 6) (N := some 18) (v := undef) (a' := ?_) #[true, true, true, true, true, true, true, false, false, false, false, false, false, false, false, false] rfl rfl (by kernel_rfl) (fun _ _ _ h => h) (Or.inr ⟨by rfl, rfl⟩) ?_ ?_
     rotate_left
     ·simp only [Act.put, List.setIfInBounds_toArray, List.set_cons_zero, List.set_cons_succ, i64_w, i32_w]
      rfl
     refine pure_ (i := 7) (N := some 19) (v := undef) (a' := ?_) #[true, true, true, true, true, true, true, true, false, false, false, false, false, false, false, false] rfl rfl (by kernel_rfl) (fun _ _ _ h => h) (Or.inr ⟨by rfl, rfl⟩) ?_ ?_
     rotate_left
     ·simp only [Act.put, List.setIfInBounds_toArray, List.set_cons_zero, List.set_cons_succ, i64_w, i32_w]
      rfl
     refine pure_ (i := 8) (N := some 20) (v := undef) (a' := ?_) #[true, true, true, true, true, true, true, true, true, false, false, false, false, false, false, false] rfl rfl (by kernel_rfl) (fun _ _ _ h => h) (Or.inr ⟨by rfl, rfl⟩) ?_ ?_
     rotate_left
     ·simp only [Act.put, List.setIfInBounds_toArray, List.set_cons_zero, List.set_cons_succ, i64_w, i32_w]
      rfl
     refine pure_ (i := 9) (N := some 21) (v := undef) (a' := ?_) #[true, true, true, true, true, true, true, true, true, true, false, false, false, false, false, false] rfl rfl (by kernel_rfl) (fun _ _ _ h => h) (Or.inr ⟨by rfl, rfl⟩) ?_ ?_
     rotate_left
     ·simp only [Act.put, List.setIfInBounds_toArray, List.set_cons_zero, List.set_cons_succ, i64_w, i32_w]
      rfl
     refine pure_ (i := 10) (N := some 22) (v := undef) (a' := ?_) #[true, true, true, true, true, true, true, true, true, true, true, false, false, false, false, false] rfl rfl (by kernel_rfl) (fun _ _ _ h => h) (Or.inr ⟨by rfl, rfl⟩) ?_ ?_
     rotate_left
     ·simp only [Act.put, List.setIfInBounds_toArray, List.set_cons_zero, List.set_cons_succ, i64_w, i32_w]
      rfl
     refine pure_ (i := 11) (N := some 23) (v := undef) (a' := ?_) #[true, true, true, true, true, true, true, true, true, true, true, true, false, false, false, false] rfl rfl (by kernel_rfl) (fun _ _ _ h => h) (Or.inr ⟨by rfl, rfl⟩) ?_ ?_
     rotate_left
     ·simp only [Act.put, List.setIfInBounds_toArray, List.set_cons_zero, List.set_cons_succ, i64_w, i32_w]
      rfl
     refine pure_ (i := 12) (N := some 24) (v := undef) (a' := ?_) #[true, true, true, true, true, true, true, true, true, true, true, true, true, false, false, false] rfl rfl (by kernel_rfl) (fun _ _ _ h => h) (Or.inr ⟨by rfl, rfl⟩) ?_ ?_
     rotate_left
     ·simp only [Act.put, List.setIfInBounds_toArray, List.set_cons_zero, List.set_cons_succ, i64_w, i32_w]
      rfl
     refine pure_ (i := 13) (N := some 25) (v := undef) (a' := ?_) #[true, true, true, true, true, true, true, true, true, true, true, true, true, true, false, false] rfl rfl (by kernel_rfl) (fun _ _ _ h => h) (Or.inr ⟨by rfl, rfl⟩) ?_ ?_
     rotate_left
     ·simp only [Act.put, List.setIfInBounds_toArray, List.set_cons_zero, List.set_cons_succ, i64_w, i32_w]
      rfl
     refine pure_ (i := 14) (N := some 26) (v := undef) (a' := ?_) #[true, true, true, true, true, true, true, true, true, true, true, true, true, true, true, false] rfl rfl (by kernel_rfl) (fun _ _ _ h => h) (Or.inr ⟨by rfl, rfl⟩) ?_ ?_
     rotate_left
     ·simp only [Act.put, List.setIfInBounds_toArray, List.set_cons_zero, List.set_cons_succ, i64_w, i32_w]
      rfl
     refine pure_ (i := 15) (N := some 27) (v := ?_) (a' := ?_) #[true, true, true, true, true, true, true, true, true, true, true, true, true, true, true, true] rfl rfl (by kernel_rfl) (fun _ _ _ h => h) (Or.inl ⟨by rfl, ?_⟩) ?_ ?_
     rotate_left
     ·intro w'
      go_simp
      with_reducible rfl
     rotate_left
     ·simp only [Act.put, List.setIfInBounds_toArray, List.set_cons_zero, List.set_cons_succ, i64_w, i32_w]
      rfl
     refine done_ (by kernel_rfl) ?_
     generalize wr.drew = w1 at hHeld ⊢
     have HN := Lib.hid hHeld
     clear hHeld
     have hpos : Hid (posR out v = j) := Lib.hid (pos_eq hj HT.out (fun h => absurd h hlt))
     have hrow := HROW.out
     clear HG
     have q0 : w1.drew.rangeAt bl (ol + k * 20) v.cells := ra_below Q0.out HN.out.drew.below
     have hi1 := eq_true (show (k : Int) < (l.length : Int) by omega)
     go_wp2
     by_cases ho : oneB v = true
     ·have hone : ∀ W, Calls Try.prog 18 #[.agg v.arr] W fun e w' => e = .returned (.bool true) ∧ Below W.heap.size W w' := fun W => by have := refOne_walk v W; rwa [ho] at this
      have HO := Lib.hid ho
      clear ho
      have hdj : decide ((j : Int) < (out.length : Int)) = false := decide_eq_false (by omega)
      have hdk : decide (j < out.length) = false := decide_eq_false (by omega)
      refine start_ (n := 23) (S := fun W => W.rangeAt bl (ol + k * 20) v.cells ∧ Below wo.heap.size wo W) (ds := []) #[false, false, false, false, false, false, false, false, false, false, false, false, false, false, false, false, false, false, false, false, false, false, false] (by kernel_rfl) rfl rfl ⟨q0, HN.out.drew.below⟩ (fun hHeld => ?_)
      refine pure_ (i := 0) (N := some 30) (v := ?_) (a' := ?_) #[true, false, false, false, false, false, false, false, false, false, false, false, false, false, false, false, false, false, false, false, false, false, false] rfl rfl (by kernel_rfl) (fun _ _ _ h => h) (Or.inl ⟨by rfl, ?_⟩) ?_ ?_
      rotate_left
      ·intro w'
       go_simp
       with_reducible rfl
      rotate_left
      ·simp only [Act.put, List.setIfInBounds_toArray, List.set_cons_zero, List.set_cons_succ, i64_w, i32_w]
       rfl
      refine pure_ (i := 1) (N := some 31) (v := ?_) (a' := ?_) #[true, true, false, false, false, false, false, false, false, false, false, false, false, false, false, false, false, false, false, false, false, false, false] rfl rfl (by kernel_rfl) (fun _ _ _ h => h) (Or.inl ⟨by rfl, ?_⟩) ?_ ?_
      rotate_left
      ·intro w'
       go_simp
       with_reducible rfl
      rotate_left
      ·simp only [Act.put, List.setIfInBounds_toArray, List.set_cons_zero, List.set_cons_succ, i64_w, i32_w]
       rfl
      refine pure_ (i := 2) (N := some 32) (v := ?_) (a' := ?_) #[true, true, true, false, false, false, false, false, false, false, false, false, false, false, false, false, false, false, false, false, false, false, false] rfl rfl (by kernel_rfl) (fun _ _ _ h => h) (Or.inl ⟨by rfl, ?_⟩) ?_ ?_
      rotate_left
      ·intro w'
       go_simp
       with_reducible rfl
      rotate_left
      ·simp only [Act.put, List.setIfInBounds_toArray, List.set_cons_zero, List.set_cons_succ, i64_w, i32_w]
       rfl
      refine take_ (i := 3) (N := some 33) (v := .agg v.arr) (a' := ?_) #[true, true, true, true, false, false, false, false, false, false, false, false, false, false, false, false, false, false, false, false, false, false, false] rfl rfl (by kernel_rfl) (fun _ _ _ h => h) ?_ hHeld ?_ ?_
      ·exact yV (by rfl) rfl v bl (ol + k * 20) rfl (fun W h => h.1)
      rotate_left
      ·simp only [Act.put, List.setIfInBounds_toArray, List.set_cons_zero, List.set_cons_succ, i64_w, i32_w]
       rfl
      refine one_ (i := 4) (N := some 34) #[true, true, true, true, true, false, false, false, false, false, false, false, false, false, false, false, false, false, false, false, false, false, false] rfl rfl (by kernel_rfl) (by decide) (fun K hK => ?_)
      refine goes_ Try.func18 (by kernel_rfl) rfl #[.agg v.arr] (by rfl) rfl rfl (by (try simp only [List.map_toArray, List.map_cons, List.map_nil]); first | done | rfl) ?_
      refine (hone _).mono ?_
      rintro e w2 ⟨rfl, hB⟩
      refine ⟨_, rfl, ?_⟩
      refine hK.out _ _ ⟨ra_below hHeld.1 hB, hHeld.2.trans (hB.mono hHeld.2.size)⟩ (fun hHeld => ?_)
      clear hK K
      refine norm_ (a' := ?_) ?_ ?_
      rotate_left
      ·show Act.put _ (some 34) _ = _
       simp only [Act.put, List.setIfInBounds_toArray, List.set_cons_zero, List.set_cons_succ, i64_w, i32_w]
       rfl
      refine pure_ (i := 5) (N := some 35) (v := ?_) (a' := ?_) #[true, true, true, true, true, true, false, false, false, false, false, false, false, false, false, false, false, false, false, false, false, false, false] rfl rfl (by kernel_rfl) (fun _ _ _ h => h) (Or.inl ⟨by rfl, ?_⟩) ?_ ?_
      rotate_left
      ·intro w'
       go_simp
       with_reducible rfl
      rotate_left
      ·simp only [Act.put, List.setIfInBounds_toArray, List.set_cons_zero, List.set_cons_succ, i64_w, i32_w]
       rfl
      refine pure_ (i := 6) (N := some 36) (v := ?_) (a' := ?_) #[true, true, true, true, true, true, true, false, false, false, false, false, false, false, false, false, false, false, false, false, false, false, false] rfl rfl (by kernel_rfl) (fun _ _ _ h => h) (Or.inl ⟨by rfl, ?_⟩) ?_ ?_
      rotate_left
      ·intro w'
       go_simp
       with_reducible rfl
      rotate_left
      ·simp only [Act.put, List.setIfInBounds_toArray, List.set_cons_zero, List.set_cons_succ, i64_w, i32_w]
       rfl
      refine pure_ (i := 7) (N := some 37) (v := ?_) (a' := ?_) #[true, true, true, true, true, true, true, true, false, false, false, false, false, false, false, false, false, false, false, false, false, false, false] rfl rfl (by kernel_rfl) (fun _ _ _ h => h) (Or.inl ⟨by rfl, ?_⟩) ?_ ?_
      rotate_left
      ·intro w'
       go_simp
       with_reducible rfl
      rotate_left
      ·simp only [Act.put, List.setIfInBounds_toArray, List.set_cons_zero, List.set_cons_succ, i64_w, i32_w]
       rfl
      refine pure_ (i := 8) (N := some 38) (v := ?_) (a' := ?_) #[true, true, true, true, true, true, true, true, true, false, false, false, false, false, false, false, false, false, false, false, false, false, false] rfl rfl (by kernel_rfl) (fun _ _ _ h => h) (Or.inl ⟨by rfl, ?_⟩) ?_ ?_
      rotate_left
      ·intro w'
       go_simp
       with_reducible rfl
      rotate_left
      ·simp only [Act.put, List.setIfInBounds_toArray, List.set_cons_zero, List.set_cons_succ, i64_w, i32_w]
       rfl
      refine pure_ (i := 9) (N := some 39) (v := ?_) (a' := ?_) #[true, true, true, true, true, true, true, true, true, true, false, false, false, false, false, false, false, false, false, false, false, false, false] rfl rfl (by kernel_rfl) (fun _ _ _ h => h) (Or.inl ⟨by rfl, ?_⟩) ?_ ?_
      rotate_left
      ·intro w'
       go_simp
       with_reducible rfl
      rotate_left
      ·simp only [Act.put, List.setIfInBounds_toArray, List.set_cons_zero, List.set_cons_succ, i64_w, i32_w]
       rfl
      refine pure_ (i := 10) (N := some 40) (v := ?_) (a' := ?_) #[true, true, true, true, true, true, true, true, true, true, true, false, false, false, false, false, false, false, false, false, false, false, false] rfl rfl (by kernel_rfl) (fun _ _ _ h => h) (Or.inl ⟨by rfl, ?_⟩) ?_ ?_
      rotate_left
      ·intro w'
       go_simp
       with_reducible rfl
      rotate_left
      ·simp only [Act.put, List.setIfInBounds_toArray, List.set_cons_zero, List.set_cons_succ, i64_w, i32_w]
       rfl
      refine pure_ (i := 11) (N := some 41) (v := ?_) (a' := ?_) #[true, true, true, true, true, true, true, true, true, true, true, true, false, false, false, false, false, false, false, false, false, false, false] rfl rfl (by kernel_rfl) (fun _ _ _ h => h) (Or.inl ⟨by rfl, ?_⟩) ?_ ?_
      rotate_left
      ·intro w'
       go_simp
       with_reducible rfl
      rotate_left
      ·simp only [Act.put, List.setIfInBounds_toArray, List.set_cons_zero, List.set_cons_succ, i64_w, i32_w]
       rfl
      refine pure_ (i := 12) (N := some 42) (v := undef) (a' := ?_) #[true, true, true, true, true, true, true, true, true, true, true, true, true, false, false, false, false, false, false, false, false, false, false] rfl rfl (by kernel_rfl) (fun _ _ _ h => h) (Or.inr ⟨by rfl, rfl⟩) ?_ ?_
      rotate_left
      ·simp only [Act.put, List.setIfInBounds_toArray, List.set_cons_zero, List.set_cons_succ, i64_w, i32_w]
       rfl
      refine pure_ (i := 13) (N := some 43) (v := undef) (a' := ?_) #[true, true, true, true, true, true, true, true, true, true, true, true, true, true, false, false, false, false, false, false, false, false, false] rfl rfl (by kernel_rfl) (fun _ _ _ h => h) (Or.inr ⟨by rfl, rfl⟩) ?_ ?_
      rotate_left
      ·simp only [Act.put, List.setIfInBounds_toArray, List.set_cons_zero, List.set_cons_succ, i64_w, i32_w]
       rfl
      refine pure_ (i := 14) (N := some 44) (v := undef) (a' := ?_) #[true, true, true, true, true, true, true, true, true, true, true, true, true, true, true, false, false, false, false, false, false, false, false] rfl rfl (by kernel_rfl) (fun _ _ _ h => h) (Or.inr ⟨by rfl, rfl⟩) ?_ ?_
      rotate_left
      ·simp only [Act.put, List.setIfInBounds_toArray, List.set_cons_zero, List.set_cons_succ, i64_w, i32_w]
       rfl
      refine pure_ (i := 15) (N := some 45) (v := undef) (a' := ?_) #[true, true, true, true, true, true, true, true, true, true, true, true, true, true, true, true, false, false, false, false, false, false, false] rfl rfl (by kernel_rfl) (fun _ _ _ h => h) (Or.inr ⟨by rfl, rfl⟩) ?_ ?_
      rotate_left
      ·simp only [Act.put, List.setIfInBounds_toArray, List.set_cons_zero, List.set_cons_succ, i64_w, i32_w]
       rfl
      refine pure_ (i := 16) (N := some 46) (v := undef) (a' := ?_) #[true, true, true, true, true, true, true, true, true, true, true, true, true, true, true, true, true, false, false, false, false, false, false] rfl rfl (by kernel_rfl) (fun _ _ _ h => h) (Or.inr ⟨by rfl, rfl⟩) ?_ ?_
      rotate_left
      ·simp only [Act.put, List.setIfInBounds_toArray, List.set_cons_zero, List.set_cons_succ, i64_w, i32_w]
       rfl
      refine pure_ (i := 17) (N := some 47) (v := undef) (a' := ?_) #[true, true, true, true, true, true, true, true, true, true, true, true, true, true, true, true, true, true, false, false, false, false, false] rfl rfl (by kernel_rfl) (fun _ _ _ h => h) (Or.inr ⟨by rfl, rfl⟩) ?_ ?_
      rotate_left
      ·simp only [Act.put, List.setIfInBounds_toArray, List.set_cons_zero, List.set_cons_succ, i64_w, i32_w]
       rfl
      refine pure_ (i := 18) (N := some 48) (v := undef) (a' := ?_) #[true, true, true, true, true, true, true, true, true, true, true, true, true, true, true, true, true, true, true, false, false, false, false] rfl rfl (by kernel_rfl) (fun _ _ _ h => h) (Or.inr ⟨by rfl, rfl⟩) ?_ ?_
      rotate_left
      ·simp only [Act.put, List.setIfInBounds_toArray, List.set_cons_zero, List.set_cons_succ, i64_w, i32_w]
       rfl
      refine pure_ (i := 19) (N := some 49) (v := undef) (a' := ?_) #[true, true, true, true, true, true, true, true, true, true, true, true, true, true, true, true, true, true, true, true, false, false, false] rfl rfl (by kernel_rfl) (fun _ _ _ h => h) (Or.inr ⟨by rfl, rfl⟩) ?_ ?_
      rotate_left
      ·simp only [Act.put, List.setIfInBounds_toArray, List.set_cons_zero, List.set_cons_succ, i64_w, i32_w]
       rfl
      refine pure_ (i := 20) (N := some 50) (v := undef) (a' := ?_) #[true, true, true, true, true, true, true, true, true, true, true, true, true, true, true, true, true, true, true, true, true, false, false] rfl rfl (by kernel_rfl) (fun _ _ _ h => h) (Or.inr ⟨by rfl, rfl⟩) ?_ ?_
      rotate_left
      ·simp only [Act.put, List.setIfInBounds_toArray, List.set_cons_zero, List.set_cons_succ, i64_w, i32_w]
       rfl
      refine pure_ (i := 21) (N := some 51) (v := ?_) (a' := ?_) #[true, true, true, true, true, true, true, true, true, true, true, true, true, true, true, true, true, true, true, true, true, true, false] rfl rfl (by kernel_rfl) (fun _ _ _ h => h) (Or.inl ⟨by rfl, ?_⟩) ?_ ?_
      rotate_left
      ·intro w'
       go_simp
       with_reducible rfl
      rotate_left
      ·simp only [Act.put, List.setIfInBounds_toArray, List.set_cons_zero, List.set_cons_succ, i64_w, i32_w]
       rfl
      refine pure_ (i := 22) (N := some 52) (v := ?_) (a' := ?_) #[true, true, true, true, true, true, true, true, true, true, true, true, true, true, true, true, true, true, true, true, true, true, true] rfl rfl (by kernel_rfl) (fun _ _ _ h => h) (Or.inl ⟨by rfl, ?_⟩) ?_ ?_
      rotate_left
      ·intro w'
       go_simp
       with_reducible rfl
      rotate_left
      ·simp only [Act.put, List.setIfInBounds_toArray, List.set_cons_zero, List.set_cons_succ, i64_w, i32_w]
       rfl
      refine done_ (by kernel_rfl) ?_
      clear hone
      have HB8 := hHeld.2
      have q8 := hHeld.1
      clear hHeld q0
      have hro : rowP (l.take (k + 1)) = out.take j ++ [v] ++ out.drop j := by
       rw [hrow, insR, hpos.out, if_neg (by rw [HO.out]; rw [List.getElem?_eq_none (by omega)]; simp)]
      go_wp2
      obtain ⟨Ad, cd, hdr, hCd⟩ := dropV Ao co out j (by omega) hco
      have htk := takeV Ao co out j (by omega) hco
      have HCo : Hid (kV.C wo Ao j (out.take j) ∧ kV.C wo Ad (out.length - j) (out.drop j)) := Lib.hid ⟨by have := Kd.C_take HCO.out (m := j) (by omega); rwa [List.length_take, Nat.min_eq_left (by omega)] at this, hCd wo HCO.out⟩
      clear hCd
      have q8 : w2.drew.rangeAt bl (ol + k * 20) v.cells := q8
      refine start_ (n := 16) (S := fun W => W.rangeAt bl (ol + k * 20) v.cells ∧ Below wo.heap.size wo W) (ds := []) #[false, false, false, false, false, false, false, false, false, false, false, false, false, false, false, false] (by kernel_rfl) rfl rfl ⟨q8, HB8.drew⟩ (fun hHeld => ?_)
      refine pure_ (i := 1) (N := some 54) (v := ?_) (a' := ?_) #[false, true, false, false, false, false, false, false, false, false, false, false, false, false, false, false] rfl rfl (by kernel_rfl) (fun _ _ _ h => h) (Or.inl ⟨by rfl, ?_⟩) ?_ ?_
      rotate_left
      ·intro w'
       go_simp
       with_reducible rfl
      rotate_left
      ·simp only [Act.put, List.setIfInBounds_toArray, List.set_cons_zero, List.set_cons_succ, i64_w, i32_w]
       rfl
      refine pure_ (i := 2) (N := some 55) (v := ?_) (a' := ?_) #[false, true, true, false, false, false, false, false, false, false, false, false, false, false, false, false] rfl rfl (by kernel_rfl) (fun _ _ _ h => h) (Or.inl ⟨by rfl, ?_⟩) ?_ ?_
      rotate_left
      ·intro w'
       go_simp
       with_reducible rfl
      rotate_left
      ·simp only [Act.put, List.setIfInBounds_toArray, List.set_cons_zero, List.set_cons_succ, i64_w, i32_w]
       rfl
      refine pure_ (i := 3) (N := some 56) (v := ?_) (a' := ?_) #[false, true, true, true, false, false, false, false, false, false, false, false, false, false, false, false] rfl rfl (by kernel_rfl) (fun _ _ _ h => h) (Or.inl ⟨by rfl, ?_⟩) ?_ ?_
      rotate_left
      ·intro w'
       go_simp
       with_reducible rfl
      rotate_left
      ·simp only [Act.put, List.setIfInBounds_toArray, List.set_cons_zero, List.set_cons_succ, i64_w, i32_w]
       rfl
      refine pure_ (i := 5) (N := some 58) (v := ?_) (a' := ?_) #[false, true, true, true, false, true, false, false, false, false, false, false, false, false, false, false] rfl rfl (by kernel_rfl) (fun _ _ _ h => h) (Or.inl ⟨by rfl, ?_⟩) ?_ ?_
      rotate_left
      ·intro w'
       go_simp
       with_reducible rfl
      rotate_left
      ·simp only [Act.put, List.setIfInBounds_toArray, List.set_cons_zero, List.set_cons_succ, i64_w, i32_w]
       rfl
      refine pure_ (i := 6) (N := some 59) (v := ?_) (a' := ?_) #[false, true, true, true, false, true, true, false, false, false, false, false, false, false, false, false] rfl rfl (by kernel_rfl) (fun _ _ _ h => h) (Or.inl ⟨by rfl, ?_⟩) ?_ ?_
      rotate_left
      ·intro w'
       go_simp
       with_reducible rfl
      rotate_left
      ·simp only [Act.put, List.setIfInBounds_toArray, List.set_cons_zero, List.set_cons_succ, i64_w, i32_w]
       rfl
      refine pure_ (i := 7) (N := some 60) (v := ?_) (a' := ?_) #[false, true, true, true, false, true, true, true, false, false, false, false, false, false, false, false] rfl rfl (by kernel_rfl) (fun _ _ _ h => h) (Or.inl ⟨by rfl, ?_⟩) ?_ ?_
      rotate_left
      ·intro w'
       go_simp
       with_reducible rfl
      rotate_left
      ·simp only [Act.put, List.setIfInBounds_toArray, List.set_cons_zero, List.set_cons_succ, i64_w, i32_w]
       rfl
      refine pure_ (i := 11) (N := some 64) (v := ?_) (a' := ?_) #[false, true, true, true, false, true, true, true, false, false, false, true, false, false, false, false] rfl rfl (by kernel_rfl) (fun _ _ _ h => h) (Or.inl ⟨by rfl, ?_⟩) ?_ ?_
      rotate_left
      ·intro w'
       go_simp
       with_reducible rfl
      rotate_left
      ·simp only [Act.put, List.setIfInBounds_toArray, List.set_cons_zero, List.set_cons_succ, i64_w, i32_w]
       rfl
      refine pure_ (i := 12) (N := some 65) (v := ?_) (a' := ?_) #[false, true, true, true, false, true, true, true, false, false, false, true, true, false, false, false] rfl rfl (by kernel_rfl) (fun _ _ _ h => h) (Or.inl ⟨by rfl, ?_⟩) ?_ ?_
      rotate_left
      ·intro w'
       go_simp
       with_reducible rfl
      rotate_left
      ·simp only [Act.put, List.setIfInBounds_toArray, List.set_cons_zero, List.set_cons_succ, i64_w, i32_w]
       rfl
      refine pure_ (i := 13) (N := some 66) (v := ?_) (a' := ?_) #[false, true, true, true, false, true, true, true, false, false, false, true, true, true, false, false] rfl rfl (by kernel_rfl) (fun _ _ _ h => h) (Or.inl ⟨by rfl, ?_⟩) ?_ ?_
      rotate_left
      ·intro w'
       go_simp
       with_reducible rfl
      rotate_left
      ·simp only [Act.put, List.setIfInBounds_toArray, List.set_cons_zero, List.set_cons_succ, i64_w, i32_w]
       rfl
      refine take_ (i := 8) (N := some 61) (v := .agg v.arr) (a' := ?_) #[false, true, true, true, false, true, true, true, true, false, false, true, true, true, false, false] rfl rfl (by kernel_rfl) (fun _ _ _ h => h) ?_ hHeld ?_ ?_
      ·exact yV (by rfl) rfl v bl (ol + k * 20) rfl (fun W h => h.1)
      rotate_left
      ·simp only [Act.put, List.setIfInBounds_toArray, List.set_cons_zero, List.set_cons_succ, i64_w, i32_w]
       rfl
      generalize w2.drew = wz at hHeld ⊢
      refine two_ (i := 0) (j := 9) (Ni := some 53) (Nj := some 62) #[true, true, true, true, false, true, true, true, true, false, false, true, true, true, false, false] #[false, true, true, true, false, true, true, true, true, true, false, true, true, true, false, false] rfl rfl rfl rfl (by kernel_rfl) (by decide) (by decide) (fun K hK => ?_) (fun K hK => ?_)
      ·refine event_step (by rfl) (v := .slice (some ⟨wz.heap.size, 0, none⟩) 0 0) (w1 := wz.alloc (.cells #[] 39)) (by go_simp; try rfl) ?_
       have hR53 := R_none wz wo.heap.size hHeld.2.size
       have hs53 : wz.heap.size < (wz.alloc (.cells #[] 39)).heap.size := by simp
       refine hK.out _ _ ⟨ra_below hHeld.1 (show Below wz.heap.size wz (wz.alloc (.cells #[] 39)) from ((Below.refl _ _).alloc (Nat.le_refl _) _)), hHeld.2.trans ((show Below wz.heap.size wz (wz.alloc (.cells #[] 39)) from ((Below.refl _ _).alloc (Nat.le_refl _) _)).mono hHeld.2.size)⟩ (fun hHeld => ?_)
       clear hK K
       refine norm_ (a' := ?_) ?_ ?_
       rotate_left
       ·show Act.put _ (some 53) _ = _
        simp only [Act.put, List.setIfInBounds_toArray, List.set_cons_zero, List.set_cons_succ, i64_w, i32_w]
        rfl
       generalize wz.alloc (.cells #[] 39) = wa53 at hHeld hR53 hs53 ⊢
       refine two_ (i := 4) (j := 9) (Ni := some 57) (Nj := some 62) #[true, true, true, true, true, true, true, true, true, false, false, true, true, true, false, false] #[true, true, true, true, false, true, true, true, true, true, false, true, true, true, false, false] rfl rfl rfl rfl (by kernel_rfl) (by decide) (by decide) (fun K hK => ?_) (fun K hK => ?_)
       ·refine appRows (w0 := wo) wo.heap.size (by rfl) (.tmp 53) (.tmp 56) rfl (.slice (some ⟨wz.heap.size, 0, none⟩) 0 0) [] (out.take j) Ao j co rfl rfl hR53 (Kd.C_below HCo.out.1 hHeld.2) hHeld.2 hHeld.2.size (by simp; omega) ?_
        intro v57 wb57 hR57 hB57 hg57 hat57
        rw [List.nil_append] at hR57
        refine hK.out _ _ ⟨ra_below Q0.out hB57, hB57⟩ (fun hHeld => ?_)
        clear hK K
        refine norm_ (a' := ?_) ?_ ?_
        rotate_left
        ·show Act.put _ (some 57) _ = _
         simp only [Act.put, List.setIfInBounds_toArray, List.set_cons_zero, List.set_cons_succ, i64_w, i32_w]
         rfl
        refine one_ (i := 9) (N := some 62) #[true, true, true, true, true, true, true, true, true, true, false, true, true, true, false, false] rfl rfl (by kernel_rfl) (by decide) (fun K hK => ?_)
        refine event_step (by rfl) (v := .slice (some ⟨wb57.heap.size, 0, none⟩) 1 1) (w1 := wb57.alloc (.cells v.arr 39)) (exec_buildV v rfl _) ?_
        replace hR57 := Kd.R_below hR57 (show Below wb57.heap.size wb57 (wb57.alloc (.cells v.arr 39)) from ((Below.refl _ _).alloc (Nat.le_refl _) _))
        have hV62 := Has.new wb57 v.arr 39
        have hs62 : wb57.heap.size < (wb57.alloc (.cells v.arr 39)).heap.size := by simp
        refine hK.out _ _ ⟨ra_below hHeld.1 (show Below wb57.heap.size wb57 (wb57.alloc (.cells v.arr 39)) from ((Below.refl _ _).alloc (Nat.le_refl _) _)), hHeld.2.trans ((show Below wb57.heap.size wb57 (wb57.alloc (.cells v.arr 39)) from ((Below.refl _ _).alloc (Nat.le_refl _) _)).mono hHeld.2.size)⟩ (fun hHeld => ?_)
        clear hK K
        refine norm_ (a' := ?_) ?_ ?_
        rotate_left
        ·show Act.put _ (some 62) _ = _
         simp only [Act.put, List.setIfInBounds_toArray, List.set_cons_zero, List.set_cons_succ, i64_w, i32_w]
         rfl
        generalize wb57.alloc (.cells v.arr 39) = wc62 at hHeld hR57 hV62 hs62 ⊢
        refine one_ (i := 10) (N := some 63) #[true, true, true, true, true, true, true, true, true, true, true, true, true, true, false, false] rfl rfl (by kernel_rfl) (by decide) (fun K hK => ?_)
        refine appRows (w0 := wo) wo.heap.size (by rfl) (.tmp 57) (.tmp 62) rfl (v57) (out.take j) [v] (some ⟨wb57.heap.size, 0, none⟩) 1 1 rfl rfl hR57 (C_one hV62) hHeld.2 hHeld.2.size (by simp; omega) ?_
        intro v63 wd63 hR63 hB63 hg63 hat63
        refine hK.out _ _ ⟨ra_below Q0.out hB63, hB63⟩ (fun hHeld => ?_)
        clear hK K
        refine norm_ (a' := ?_) ?_ ?_
        rotate_left
        ·show Act.put _ (some 63) _ = _
         simp only [Act.put, List.setIfInBounds_toArray, List.set_cons_zero, List.set_cons_succ, i64_w, i32_w]
         rfl
        refine one_ (i := 14) (N := some 67) #[true, true, true, true, true, true, true, true, true, true, true, true, true, true, true, false] rfl rfl (by kernel_rfl) (by decide) (fun K hK => ?_)
        refine appRows (w0 := wo) wo.heap.size (by rfl) (.tmp 63) (.tmp 66) rfl (v63) (out.take j ++ [v]) (out.drop j) Ad (out.length - j) cd rfl rfl hR63 (Kd.C_below HCo.out.2 hHeld.2) hHeld.2 hHeld.2.size (by simp; omega) ?_
        intro v67 we67 hR67 hB67 hg67 hat67
        refine hK.out _ _ ⟨ra_below Q0.out hB67, hB67⟩ (fun hHeld => ?_)
        clear hK K
        refine norm_ (a' := ?_) ?_ ?_
        rotate_left
        ·show Act.put _ (some 67) _ = _
         simp only [Act.put, List.setIfInBounds_toArray, List.set_cons_zero, List.set_cons_succ, i64_w, i32_w]
         rfl
        refine pure_ (i := 15) (N := some 3) (v := ?_) (a' := ?_) #[true, true, true, true, true, true, true, true, true, true, true, true, true, true, true, true] rfl rfl (by kernel_rfl) (fun _ _ _ h => h) (Or.inl ⟨by rfl, ?_⟩) ?_ ?_
        rotate_left
        ·intro w'
         go_simp
         with_reducible rfl
        rotate_left
        ·simp only [Act.put, List.setIfInBounds_toArray, List.set_cons_zero, List.set_cons_succ, i64_w, i32_w]
         rfl
        refine done_ (by kernel_rfl) ?_
        go_wp2
        go_roundw
        case rel => exact ⟨k + 1, by omega, by go_num, Lib.hid ⟨by rw [hro]; exact Kd.R_lower hR67 HX.out.2.1.size, HX.out.2.1.trans (hB67.mono HX.out.2.1.size), by rw [hro]; have := HX.out.2.2; simp; omega⟩⟩
        case measure => simp [intOf]; omega
       ·refine event_step (by rfl) (v := .slice (some ⟨wa53.heap.size, 0, none⟩) 1 1) (w1 := wa53.alloc (.cells v.arr 39)) (exec_buildV v rfl _) ?_
        replace hR53 := Kd.R_below hR53 (show Below wa53.heap.size wa53 (wa53.alloc (.cells v.arr 39)) from ((Below.refl _ _).alloc (Nat.le_refl _) _))
        have hV62 := Has.new wa53 v.arr 39
        have hs62 : wa53.heap.size < (wa53.alloc (.cells v.arr 39)).heap.size := by simp
        refine hK.out _ _ ⟨ra_below hHeld.1 (show Below wa53.heap.size wa53 (wa53.alloc (.cells v.arr 39)) from ((Below.refl _ _).alloc (Nat.le_refl _) _)), hHeld.2.trans ((show Below wa53.heap.size wa53 (wa53.alloc (.cells v.arr 39)) from ((Below.refl _ _).alloc (Nat.le_refl _) _)).mono hHeld.2.size)⟩ (fun hHeld => ?_)
        clear hK K
        refine norm_ (a' := ?_) ?_ ?_
        rotate_left
        ·show Act.put _ (some 62) _ = _
         simp only [Act.put, List.setIfInBounds_toArray, List.set_cons_zero, List.set_cons_succ, i64_w, i32_w]
         rfl
        generalize wa53.alloc (.cells v.arr 39) = wb62 at hHeld hR53 hV62 hs62 ⊢
        refine one_ (i := 4) (N := some 57) #[true, true, true, true, true, true, true, true, true, true, false, true, true, true, false, false] rfl rfl (by kernel_rfl) (by decide) (fun K hK => ?_)
        refine appRows (w0 := wo) wo.heap.size (by rfl) (.tmp 53) (.tmp 56) rfl (.slice (some ⟨wz.heap.size, 0, none⟩) 0 0) [] (out.take j) Ao j co rfl rfl hR53 (Kd.C_below HCo.out.1 hHeld.2) hHeld.2 hHeld.2.size (by simp; omega) ?_
        intro v57 wc57 hR57 hB57 hg57 hat57
        rw [List.nil_append] at hR57
        replace hV62 : Has wc57 wa53.heap.size v.arr 39 := (hg57.block _ hV62.lt (by simp [Value.ownBlock]; omega)).trans hV62
        refine hK.out _ _ ⟨ra_below Q0.out hB57, hB57⟩ (fun hHeld => ?_)
        clear hK K
        refine norm_ (a' := ?_) ?_ ?_
        rotate_left
        ·show Act.put _ (some 57) _ = _
         simp only [Act.put, List.setIfInBounds_toArray, List.set_cons_zero, List.set_cons_succ, i64_w, i32_w]
         rfl
        refine one_ (i := 10) (N := some 63) #[true, true, true, true, true, true, true, true, true, true, true, true, true, true, false, false] rfl rfl (by kernel_rfl) (by decide) (fun K hK => ?_)
        refine appRows (w0 := wo) wo.heap.size (by rfl) (.tmp 57) (.tmp 62) rfl (v57) (out.take j) [v] (some ⟨wa53.heap.size, 0, none⟩) 1 1 rfl rfl hR57 (C_one hV62) hHeld.2 hHeld.2.size (by simp; omega) ?_
        intro v63 wd63 hR63 hB63 hg63 hat63
        refine hK.out _ _ ⟨ra_below Q0.out hB63, hB63⟩ (fun hHeld => ?_)
        clear hK K
        refine norm_ (a' := ?_) ?_ ?_
        rotate_left
        ·show Act.put _ (some 63) _ = _
         simp only [Act.put, List.setIfInBounds_toArray, List.set_cons_zero, List.set_cons_succ, i64_w, i32_w]
         rfl
        refine one_ (i := 14) (N := some 67) #[true, true, true, true, true, true, true, true, true, true, true, true, true, true, true, false] rfl rfl (by kernel_rfl) (by decide) (fun K hK => ?_)
        refine appRows (w0 := wo) wo.heap.size (by rfl) (.tmp 63) (.tmp 66) rfl (v63) (out.take j ++ [v]) (out.drop j) Ad (out.length - j) cd rfl rfl hR63 (Kd.C_below HCo.out.2 hHeld.2) hHeld.2 hHeld.2.size (by simp; omega) ?_
        intro v67 we67 hR67 hB67 hg67 hat67
        refine hK.out _ _ ⟨ra_below Q0.out hB67, hB67⟩ (fun hHeld => ?_)
        clear hK K
        refine norm_ (a' := ?_) ?_ ?_
        rotate_left
        ·show Act.put _ (some 67) _ = _
         simp only [Act.put, List.setIfInBounds_toArray, List.set_cons_zero, List.set_cons_succ, i64_w, i32_w]
         rfl
        refine pure_ (i := 15) (N := some 3) (v := ?_) (a' := ?_) #[true, true, true, true, true, true, true, true, true, true, true, true, true, true, true, true] rfl rfl (by kernel_rfl) (fun _ _ _ h => h) (Or.inl ⟨by rfl, ?_⟩) ?_ ?_
        rotate_left
        ·intro w'
         go_simp
         with_reducible rfl
        rotate_left
        ·simp only [Act.put, List.setIfInBounds_toArray, List.set_cons_zero, List.set_cons_succ, i64_w, i32_w]
         rfl
        refine done_ (by kernel_rfl) ?_
        go_wp2
        go_roundw
        case rel => exact ⟨k + 1, by omega, by go_num, Lib.hid ⟨by rw [hro]; exact Kd.R_lower hR67 HX.out.2.1.size, HX.out.2.1.trans (hB67.mono HX.out.2.1.size), by rw [hro]; have := HX.out.2.2; simp; omega⟩⟩
        case measure => simp [intOf]; omega
      ·refine event_step (by rfl) (v := .slice (some ⟨wz.heap.size, 0, none⟩) 1 1) (w1 := wz.alloc (.cells v.arr 39)) (exec_buildV v rfl _) ?_
       have hV62 := Has.new wz v.arr 39
       have hs62 : wz.heap.size < (wz.alloc (.cells v.arr 39)).heap.size := by simp
       refine hK.out _ _ ⟨ra_below hHeld.1 (show Below wz.heap.size wz (wz.alloc (.cells v.arr 39)) from ((Below.refl _ _).alloc (Nat.le_refl _) _)), hHeld.2.trans ((show Below wz.heap.size wz (wz.alloc (.cells v.arr 39)) from ((Below.refl _ _).alloc (Nat.le_refl _) _)).mono hHeld.2.size)⟩ (fun hHeld => ?_)
       clear hK K
       refine norm_ (a' := ?_) ?_ ?_
       rotate_left
       ·show Act.put _ (some 62) _ = _
        simp only [Act.put, List.setIfInBounds_toArray, List.set_cons_zero, List.set_cons_succ, i64_w, i32_w]
        rfl
       generalize wz.alloc (.cells v.arr 39) = wa62 at hHeld hV62 hs62 ⊢
       refine one_ (i := 0) (N := some 53) #[true, true, true, true, false, true, true, true, true, true, false, true, true, true, false, false] rfl rfl (by kernel_rfl) (by decide) (fun K hK => ?_)
       refine event_step (by rfl) (v := .slice (some ⟨wa62.heap.size, 0, none⟩) 0 0) (w1 := wa62.alloc (.cells #[] 39)) (by go_simp; try rfl) ?_
       replace hV62 := hV62.alloc (.cells #[] 39)
       have hlt62 := hV62.lt
       have hR53 := R_none wa62 wo.heap.size hHeld.2.size
       have hs53 : wa62.heap.size < (wa62.alloc (.cells #[] 39)).heap.size := by simp
       refine hK.out _ _ ⟨ra_below hHeld.1 (show Below wa62.heap.size wa62 (wa62.alloc (.cells #[] 39)) from ((Below.refl _ _).alloc (Nat.le_refl _) _)), hHeld.2.trans ((show Below wa62.heap.size wa62 (wa62.alloc (.cells #[] 39)) from ((Below.refl _ _).alloc (Nat.le_refl _) _)).mono hHeld.2.size)⟩ (fun hHeld => ?_)
       clear hK K
       refine norm_ (a' := ?_) ?_ ?_
       rotate_left
       ·show Act.put _ (some 53) _ = _
        simp only [Act.put, List.setIfInBounds_toArray, List.set_cons_zero, List.set_cons_succ, i64_w, i32_w]
        rfl
       generalize wa62.alloc (.cells #[] 39) = wb53 at hHeld hR53 hV62 hs53 ⊢
       refine one_ (i := 4) (N := some 57) #[true, true, true, true, true, true, true, true, true, true, false, true, true, true, false, false] rfl rfl (by kernel_rfl) (by decide) (fun K hK => ?_)
       refine appRows (w0 := wo) wo.heap.size (by rfl) (.tmp 53) (.tmp 56) rfl (.slice (some ⟨wa62.heap.size, 0, none⟩) 0 0) [] (out.take j) Ao j co rfl rfl hR53 (Kd.C_below HCo.out.1 hHeld.2) hHeld.2 hHeld.2.size (by simp; omega) ?_
       intro v57 wc57 hR57 hB57 hg57 hat57
       rw [List.nil_append] at hR57
       replace hV62 : Has wc57 wz.heap.size v.arr 39 := (hg57.block _ hV62.lt (by simp [Value.ownBlock]; omega)).trans hV62
       refine hK.out _ _ ⟨ra_below Q0.out hB57, hB57⟩ (fun hHeld => ?_)
       clear hK K
       refine norm_ (a' := ?_) ?_ ?_
       rotate_left
       ·show Act.put _ (some 57) _ = _
        simp only [Act.put, List.setIfInBounds_toArray, List.set_cons_zero, List.set_cons_succ, i64_w, i32_w]
        rfl
       refine one_ (i := 10) (N := some 63) #[true, true, true, true, true, true, true, true, true, true, true, true, true, true, false, false] rfl rfl (by kernel_rfl) (by decide) (fun K hK => ?_)
       refine appRows (w0 := wo) wo.heap.size (by rfl) (.tmp 57) (.tmp 62) rfl (v57) (out.take j) [v] (some ⟨wz.heap.size, 0, none⟩) 1 1 rfl rfl hR57 (C_one hV62) hHeld.2 hHeld.2.size (by simp; omega) ?_
       intro v63 wd63 hR63 hB63 hg63 hat63
       refine hK.out _ _ ⟨ra_below Q0.out hB63, hB63⟩ (fun hHeld => ?_)
       clear hK K
       refine norm_ (a' := ?_) ?_ ?_
       rotate_left
       ·show Act.put _ (some 63) _ = _
        simp only [Act.put, List.setIfInBounds_toArray, List.set_cons_zero, List.set_cons_succ, i64_w, i32_w]
        rfl
       refine one_ (i := 14) (N := some 67) #[true, true, true, true, true, true, true, true, true, true, true, true, true, true, true, false] rfl rfl (by kernel_rfl) (by decide) (fun K hK => ?_)
       refine appRows (w0 := wo) wo.heap.size (by rfl) (.tmp 63) (.tmp 66) rfl (v63) (out.take j ++ [v]) (out.drop j) Ad (out.length - j) cd rfl rfl hR63 (Kd.C_below HCo.out.2 hHeld.2) hHeld.2 hHeld.2.size (by simp; omega) ?_
       intro v67 we67 hR67 hB67 hg67 hat67
       refine hK.out _ _ ⟨ra_below Q0.out hB67, hB67⟩ (fun hHeld => ?_)
       clear hK K
       refine norm_ (a' := ?_) ?_ ?_
       rotate_left
       ·show Act.put _ (some 67) _ = _
        simp only [Act.put, List.setIfInBounds_toArray, List.set_cons_zero, List.set_cons_succ, i64_w, i32_w]
        rfl
       refine pure_ (i := 15) (N := some 3) (v := ?_) (a' := ?_) #[true, true, true, true, true, true, true, true, true, true, true, true, true, true, true, true] rfl rfl (by kernel_rfl) (fun _ _ _ h => h) (Or.inl ⟨by rfl, ?_⟩) ?_ ?_
       rotate_left
       ·intro w'
        go_simp
        with_reducible rfl
       rotate_left
       ·simp only [Act.put, List.setIfInBounds_toArray, List.set_cons_zero, List.set_cons_succ, i64_w, i32_w]
        rfl
       refine done_ (by kernel_rfl) ?_
       go_wp2
       go_roundw
       case rel => exact ⟨k + 1, by omega, by go_num, Lib.hid ⟨by rw [hro]; exact Kd.R_lower hR67 HX.out.2.1.size, HX.out.2.1.trans (hB67.mono HX.out.2.1.size), by rw [hro]; have := HX.out.2.2; simp; omega⟩⟩
       case measure => simp [intOf]; omega
     ·have hof := Bool.eq_false_iff.2 ho
      have hone : ∀ W, Calls Try.prog 18 #[.agg v.arr] W fun e w' => e = .returned (.bool false) ∧ Below W.heap.size W w' := fun W => by have := refOne_walk v W; rwa [hof] at this
      have HO := Lib.hid hof
      clear hof ho
      refine start_ (n := 23) (S := fun W => W.rangeAt bl (ol + k * 20) v.cells ∧ Below wo.heap.size wo W) (ds := []) #[false, false, false, false, false, false, false, false, false, false, false, false, false, false, false, false, false, false, false, false, false, false, false] (by kernel_rfl) rfl rfl ⟨q0, HN.out.drew.below⟩ (fun hHeld => ?_)
      refine pure_ (i := 0) (N := some 30) (v := ?_) (a' := ?_) #[true, false, false, false, false, false, false, false, false, false, false, false, false, false, false, false, false, false, false, false, false, false, false] rfl rfl (by kernel_rfl) (fun _ _ _ h => h) (Or.inl ⟨by rfl, ?_⟩) ?_ ?_
      rotate_left
      ·intro w'
       go_simp
       with_reducible rfl
      rotate_left
      ·simp only [Act.put, List.setIfInBounds_toArray, List.set_cons_zero, List.set_cons_succ, i64_w, i32_w]
       rfl
      refine pure_ (i := 1) (N := some 31) (v := ?_) (a' := ?_) #[true, true, false, false, false, false, false, false, false, false, false, false, false, false, false, false, false, false, false, false, false, false, false] rfl rfl (by kernel_rfl) (fun _ _ _ h => h) (Or.inl ⟨by rfl, ?_⟩) ?_ ?_
      rotate_left
      ·intro w'
       go_simp
       with_reducible rfl
      rotate_left
      ·simp only [Act.put, List.setIfInBounds_toArray, List.set_cons_zero, List.set_cons_succ, i64_w, i32_w]
       rfl
      refine pure_ (i := 2) (N := some 32) (v := ?_) (a' := ?_) #[true, true, true, false, false, false, false, false, false, false, false, false, false, false, false, false, false, false, false, false, false, false, false] rfl rfl (by kernel_rfl) (fun _ _ _ h => h) (Or.inl ⟨by rfl, ?_⟩) ?_ ?_
      rotate_left
      ·intro w'
       go_simp
       with_reducible rfl
      rotate_left
      ·simp only [Act.put, List.setIfInBounds_toArray, List.set_cons_zero, List.set_cons_succ, i64_w, i32_w]
       rfl
      refine take_ (i := 3) (N := some 33) (v := .agg v.arr) (a' := ?_) #[true, true, true, true, false, false, false, false, false, false, false, false, false, false, false, false, false, false, false, false, false, false, false] rfl rfl (by kernel_rfl) (fun _ _ _ h => h) ?_ hHeld ?_ ?_
      ·exact yV (by rfl) rfl v bl (ol + k * 20) rfl (fun W h => h.1)
      rotate_left
      ·simp only [Act.put, List.setIfInBounds_toArray, List.set_cons_zero, List.set_cons_succ, i64_w, i32_w]
       rfl
      refine one_ (i := 4) (N := some 34) #[true, true, true, true, true, false, false, false, false, false, false, false, false, false, false, false, false, false, false, false, false, false, false] rfl rfl (by kernel_rfl) (by decide) (fun K hK => ?_)
      refine goes_ Try.func18 (by kernel_rfl) rfl #[.agg v.arr] (by rfl) rfl rfl (by (try simp only [List.map_toArray, List.map_cons, List.map_nil]); first | done | rfl) ?_
      refine (hone _).mono ?_
      rintro e w2 ⟨rfl, hB⟩
      refine ⟨_, rfl, ?_⟩
      refine hK.out _ _ ⟨ra_below hHeld.1 hB, hHeld.2.trans (hB.mono hHeld.2.size)⟩ (fun hHeld => ?_)
      clear hK K
      refine norm_ (a' := ?_) ?_ ?_
      rotate_left
      ·show Act.put _ (some 34) _ = _
       simp only [Act.put, List.setIfInBounds_toArray, List.set_cons_zero, List.set_cons_succ, i64_w, i32_w]
       rfl
      refine pure_ (i := 5) (N := some 35) (v := ?_) (a' := ?_) #[true, true, true, true, true, true, false, false, false, false, false, false, false, false, false, false, false, false, false, false, false, false, false] rfl rfl (by kernel_rfl) (fun _ _ _ h => h) (Or.inl ⟨by rfl, ?_⟩) ?_ ?_
      rotate_left
      ·intro w'
       go_simp
       with_reducible rfl
      rotate_left
      ·simp only [Act.put, List.setIfInBounds_toArray, List.set_cons_zero, List.set_cons_succ, i64_w, i32_w]
       rfl
      refine pure_ (i := 6) (N := some 36) (v := ?_) (a' := ?_) #[true, true, true, true, true, true, true, false, false, false, false, false, false, false, false, false, false, false, false, false, false, false, false] rfl rfl (by kernel_rfl) (fun _ _ _ h => h) (Or.inl ⟨by rfl, ?_⟩) ?_ ?_
      rotate_left
      ·intro w'
       go_simp
       with_reducible rfl
      rotate_left
      ·simp only [Act.put, List.setIfInBounds_toArray, List.set_cons_zero, List.set_cons_succ, i64_w, i32_w]
       rfl
      refine pure_ (i := 7) (N := some 37) (v := undef) (a' := ?_) #[true, true, true, true, true, true, true, true, false, false, false, false, false, false, false, false, false, false, false, false, false, false, false] rfl rfl (by kernel_rfl) (fun _ _ _ h => h) (Or.inr ⟨by rfl, rfl⟩) ?_ ?_
      rotate_left
      ·simp only [Act.put, List.setIfInBounds_toArray, List.set_cons_zero, List.set_cons_succ, i64_w, i32_w]
       rfl
      refine pure_ (i := 8) (N := some 38) (v := undef) (a' := ?_) #[true, true, true, true, true, true, true, true, true, false, false, false, false, false, false, false, false, false, false, false, false, false, false] rfl rfl (by kernel_rfl) (fun _ _ _ h => h) (Or.inr ⟨by rfl, rfl⟩) ?_ ?_
      rotate_left
      ·simp only [Act.put, List.setIfInBounds_toArray, List.set_cons_zero, List.set_cons_succ, i64_w, i32_w]
       rfl
      refine pure_ (i := 9) (N := some 39) (v := undef) (a' := ?_) #[true, true, true, true, true, true, true, true, true, true, false, false, false, false, false, false, false, false, false, false, false, false, false] rfl rfl (by kernel_rfl) (fun _ _ _ h => h) (Or.inr ⟨by rfl, rfl⟩) ?_ ?_
      rotate_left
      ·simp only [Act.put, List.setIfInBounds_toArray, List.set_cons_zero, List.set_cons_succ, i64_w, i32_w]
       rfl
      refine pure_ (i := 10) (N := some 40) (v := undef) (a' := ?_) #[true, true, true, true, true, true, true, true, true, true, true, false, false, false, false, false, false, false, false, false, false, false, false] rfl rfl (by kernel_rfl) (fun _ _ _ h => h) (Or.inr ⟨by rfl, rfl⟩) ?_ ?_
      rotate_left
      ·simp only [Act.put, List.setIfInBounds_toArray, List.set_cons_zero, List.set_cons_succ, i64_w, i32_w]
       rfl
      refine pure_ (i := 11) (N := some 41) (v := undef) (a' := ?_) #[true, true, true, true, true, true, true, true, true, true, true, true, false, false, false, false, false, false, false, false, false, false, false] rfl rfl (by kernel_rfl) (fun _ _ _ h => h) (Or.inr ⟨by rfl, rfl⟩) ?_ ?_
      rotate_left
      ·simp only [Act.put, List.setIfInBounds_toArray, List.set_cons_zero, List.set_cons_succ, i64_w, i32_w]
       rfl
      refine pure_ (i := 12) (N := some 42) (v := undef) (a' := ?_) #[true, true, true, true, true, true, true, true, true, true, true, true, true, false, false, false, false, false, false, false, false, false, false] rfl rfl (by kernel_rfl) (fun _ _ _ h => h) (Or.inr ⟨by rfl, rfl⟩) ?_ ?_
      rotate_left
      ·simp only [Act.put, List.setIfInBounds_toArray, List.set_cons_zero, List.set_cons_succ, i64_w, i32_w]
       rfl
      refine pure_ (i := 13) (N := some 43) (v := undef) (a' := ?_) #[true, true, true, true, true, true, true, true, true, true, true, true, true, true, false, false, false, false, false, false, false, false, false] rfl rfl (by kernel_rfl) (fun _ _ _ h => h) (Or.inr ⟨by rfl, rfl⟩) ?_ ?_
      rotate_left
      ·simp only [Act.put, List.setIfInBounds_toArray, List.set_cons_zero, List.set_cons_succ, i64_w, i32_w]
       rfl
      refine pure_ (i := 14) (N := some 44) (v := undef) (a' := ?_) #[true, true, true, true, true, true, true, true, true, true, true, true, true, true, true, false, false, false, false, false, false, false, false] rfl rfl (by kernel_rfl) (fun _ _ _ h => h) (Or.inr ⟨by rfl, rfl⟩) ?_ ?_
      rotate_left
      ·simp only [Act.put, List.setIfInBounds_toArray, List.set_cons_zero, List.set_cons_succ, i64_w, i32_w]
       rfl
      refine pure_ (i := 15) (N := some 45) (v := undef) (a' := ?_) #[true, true, true, true, true, true, true, true, true, true, true, true, true, true, true, true, false, false, false, false, false, false, false] rfl rfl (by kernel_rfl) (fun _ _ _ h => h) (Or.inr ⟨by rfl, rfl⟩) ?_ ?_
      rotate_left
      ·simp only [Act.put, List.setIfInBounds_toArray, List.set_cons_zero, List.set_cons_succ, i64_w, i32_w]
       rfl
      refine pure_ (i := 16) (N := some 46) (v := undef) (a' := ?_) #[true, true, true, true, true, true, true, true, true, true, true, true, true, true, true, true, true, false, false, false, false, false, false] rfl rfl (by kernel_rfl) (fun _ _ _ h => h) (Or.inr ⟨by rfl, rfl⟩) ?_ ?_
      rotate_left
      ·simp only [Act.put, List.setIfInBounds_toArray, List.set_cons_zero, List.set_cons_succ, i64_w, i32_w]
       rfl
      refine pure_ (i := 17) (N := some 47) (v := undef) (a' := ?_) #[true, true, true, true, true, true, true, true, true, true, true, true, true, true, true, true, true, true, false, false, false, false, false] rfl rfl (by kernel_rfl) (fun _ _ _ h => h) (Or.inr ⟨by rfl, rfl⟩) ?_ ?_
      rotate_left
      ·simp only [Act.put, List.setIfInBounds_toArray, List.set_cons_zero, List.set_cons_succ, i64_w, i32_w]
       rfl
      refine pure_ (i := 18) (N := some 48) (v := undef) (a' := ?_) #[true, true, true, true, true, true, true, true, true, true, true, true, true, true, true, true, true, true, true, false, false, false, false] rfl rfl (by kernel_rfl) (fun _ _ _ h => h) (Or.inr ⟨by rfl, rfl⟩) ?_ ?_
      rotate_left
      ·simp only [Act.put, List.setIfInBounds_toArray, List.set_cons_zero, List.set_cons_succ, i64_w, i32_w]
       rfl
      refine pure_ (i := 19) (N := some 49) (v := undef) (a' := ?_) #[true, true, true, true, true, true, true, true, true, true, true, true, true, true, true, true, true, true, true, true, false, false, false] rfl rfl (by kernel_rfl) (fun _ _ _ h => h) (Or.inr ⟨by rfl, rfl⟩) ?_ ?_
      rotate_left
      ·simp only [Act.put, List.setIfInBounds_toArray, List.set_cons_zero, List.set_cons_succ, i64_w, i32_w]
       rfl
      refine pure_ (i := 20) (N := some 50) (v := undef) (a' := ?_) #[true, true, true, true, true, true, true, true, true, true, true, true, true, true, true, true, true, true, true, true, true, false, false] rfl rfl (by kernel_rfl) (fun _ _ _ h => h) (Or.inr ⟨by rfl, rfl⟩) ?_ ?_
      rotate_left
      ·simp only [Act.put, List.setIfInBounds_toArray, List.set_cons_zero, List.set_cons_succ, i64_w, i32_w]
       rfl
      refine pure_ (i := 21) (N := some 51) (v := undef) (a' := ?_) #[true, true, true, true, true, true, true, true, true, true, true, true, true, true, true, true, true, true, true, true, true, true, false] rfl rfl (by kernel_rfl) (fun _ _ _ h => h) (Or.inr ⟨by rfl, rfl⟩) ?_ ?_
      rotate_left
      ·simp only [Act.put, List.setIfInBounds_toArray, List.set_cons_zero, List.set_cons_succ, i64_w, i32_w]
       rfl
      refine pure_ (i := 22) (N := some 52) (v := ?_) (a' := ?_) #[true, true, true, true, true, true, true, true, true, true, true, true, true, true, true, true, true, true, true, true, true, true, true] rfl rfl (by kernel_rfl) (fun _ _ _ h => h) (Or.inl ⟨by rfl, ?_⟩) ?_ ?_
      rotate_left
      ·intro w'
       go_simp
       with_reducible rfl
      rotate_left
      ·simp only [Act.put, List.setIfInBounds_toArray, List.set_cons_zero, List.set_cons_succ, i64_w, i32_w]
       rfl
      refine done_ (by kernel_rfl) ?_
      clear hone
      have HB8 := hHeld.2
      clear hHeld
      have hro : rowP (l.take (k + 1)) = out := by
       rw [hrow, insR, if_pos (.inl HO.out)]
      go_wp2
      go_roundw
      case rel => exact ⟨k + 1, by omega, by go_num, Lib.hid ⟨by rw [hro]; exact Kd.R_below HX.out.1 HB8, HX.out.2.1.trans (HB8.mono HX.out.2.1.size), by rw [hro]; have := HX.out.2.2; omega⟩⟩
      case measure => simp [intOf]; omega
  ·have hkn : k = l.length := by omega
   subst hkn
   have hd1 := eq_false (show ¬ (l.length : Int) < (l.length : Int) by omega)
   have hd2 : decide ((l.length : Int) < (l.length : Int)) = false := decide_eq_false (by omega)
   have hd3 : decide (l.length < l.length) = false := decide_eq_false (by omega)
   go_wp2
   go_ret
   refine ⟨_, rfl, ?_, HX.out.2.1⟩
   have := HX.out.1
   rw [List.take_length] at this
   exact this

end Go.Proofs.Ytllahlgnjeeliaa.Ad
end

section
set_option linter.unusedVariables false
set_option linter.unusedSimpArgs false
namespace Go.Proofs.Ytllahlgnjeeliaa.Ad
open Go.RowKit Go.Proofs.YtllahlgnjeeliaaW.PrintWords Go.Proofs.YtllahlgnjeeliaaW.PrintLast Go.Proofs.YtllahlgnjeeliaaW.PrintMore Go.Proofs.Ytllahlgnjeeliaa.PT

set_option maxHeartbeats 2000000 in
set_option maxRecDepth 100000 in
theorem refCovers_walk (p q : Pfx) (w : World) :
 Calls Try.prog 27 #[.agg p.arr, .agg q.arr] w fun e w' => e = .returned (.bool (coversB p q)) ∧ Below w.heap.size w w' := by
 have H0 := H2.new w p.arr q.arr 25
 by_cases hp : rightB p = true
 ·by_cases hq : rightB q = true
  ·by_cases h6 : p.v6 = q.v6
   ·by_cases hn : p.n ≤ q.n
    ·obtain ⟨n, hn0⟩ := Int.eq_ofNat_of_zero_le (right_iff.1 hp).1
     have hm := mostP_b p.v6
     have hpm := (right_iff.1 hp).2.1
     have hd2 : decide (q.n < p.n) = false := decide_eq_false (by omega)
     have hd3 : decide (p.n ≤ q.n) = true := decide_eq_true hn
     have hn128 : n ≤ 128 := by omega
     have HX := Lib.hid (And.intro hp (And.intro hq (And.intro h6 (And.intro hn hn0))))
     clear hp hq h6 hn hn0 hpm hm
     obtain ⟨r, hr⟩ : ∃ r, r = coversB p q := ⟨_, rfl⟩
     rw [← hr]
     have HR := Lib.hid hr
     clear hr
     go_enter Try.func27, Try.ntmps27
     go_upto_region 1 with (fail)
     generalize (w.alloc (.cells p.arr 25)).alloc (.cells q.arr 25) = W at H0 ⊢
     go_wp2_with ((with_reducible refine at_dst 6 ?_); refine loadP p w.heap.size 0 rfl H0.1.rp ?_)
     refine (refRight_walk p true HX.out.1 W).mono ?_
     rintro e w1 ⟨rfl, hB1⟩
     have H1 := H0.step hB1
     clear H0
     go_wp2_with ((with_reducible refine at_dst 10 ?_); refine gate_guard (by rfl) ?_; refine loadP q (w.heap.size + 1) 0 rfl H1.2.1.rp ?_)
     refine (refRight_walk q true HX.out.2.1 w1).mono ?_
     rintro e w2 ⟨rfl, hB2⟩
     have H2' := H1.step hB2
     clear H1 hB1 hB2
     have c0 := rp_v6 H2'.1.rp
     have c1 := rp_v6 H2'.2.1.rp
     rw [← HX.out.2.2.1] at c1
     have c2 := rp_n H2'.1.rp
     have c3 := rp_n H2'.2.1.rp
     rw [Nat.zero_add] at c2 c3
     go_wp2
     have HW := Lib.hid H2'
     clear c0 c1 c2 c3 H2' hd2 hd3
     go_loopw [5] (fun iv wr => ∃ k : Nat, k ≤ n ∧ iv = .int .i64 k ∧ Hid ((∀ j : Nat, j < k → p.a.bit j = q.a.bit j) ∧ H2 w p.arr q.arr 25 wr)) (fun iv _ => n - (intOf iv).toNat)
     case atStart => exact ⟨0, Nat.zero_le _, rfl, Lib.hid ⟨fun j h => by omega, HW.out⟩⟩
     case round =>
      obtain ⟨k, hk, rfl, H⟩ := hrel
      have c2 := rp_n H.out.2.1.rp
      rw [Nat.zero_add, HX.out.2.2.2.2] at c2
      by_cases hlt : k < n
      ·have hd1 := eq_true (show (k : Int) < (n : Int) by omega)
       have hd2 : decide ((k : Int) < (n : Int)) = true := decide_eq_true (by omega)
       have hd3 : decide (k < n) = true := decide_eq_true hlt
       go_wp2
       clear c2
       have HD := H.out.2.drew
       refine start_ (n := 9) (S := H2 w p.arr q.arr 25) (ds := []) #[false, false, false, false, false, false, false, false, false] (by kernel_rfl) rfl rfl HD (fun hHeld => ?_)
       refine pure_ (i := 0) (N := some 34) (v := ?_) (a' := ?_) #[true, false, false, false, false, false, false, false, false] rfl rfl (by kernel_rfl) (fun _ _ _ h => h) (Or.inl ⟨by rfl, ?_⟩) ?_ ?_
       rotate_left
       ·intro w'
        go_simp
        with_reducible rfl
       rotate_left
       ·simp only [Act.put, List.setIfInBounds_toArray, List.set_cons_zero, List.set_cons_succ, i64_w, i32_w]
        rfl
       refine pure_ (i := 2) (N := some 36) (v := ?_) (a' := ?_) #[true, false, true, false, false, false, false, false, false] rfl rfl (by kernel_rfl) (fun _ _ _ h => h) (Or.inl ⟨by rfl, ?_⟩) ?_ ?_
       rotate_left
       ·intro w'
        go_simp
        with_reducible rfl
       rotate_left
       ·simp only [Act.put, List.setIfInBounds_toArray, List.set_cons_zero, List.set_cons_succ, i64_w, i32_w]
        rfl
       refine pure_ (i := 4) (N := some 38) (v := ?_) (a' := ?_) #[true, false, true, false, true, false, false, false, false] rfl rfl (by kernel_rfl) (fun _ _ _ h => h) (Or.inl ⟨by rfl, ?_⟩) ?_ ?_
       rotate_left
       ·intro w'
        go_simp
        with_reducible rfl
       rotate_left
       ·simp only [Act.put, List.setIfInBounds_toArray, List.set_cons_zero, List.set_cons_succ, i64_w, i32_w]
        rfl
       refine pure_ (i := 6) (N := some 40) (v := ?_) (a' := ?_) #[true, false, true, false, true, false, true, false, false] rfl rfl (by kernel_rfl) (fun _ _ _ h => h) (Or.inl ⟨by rfl, ?_⟩) ?_ ?_
       rotate_left
       ·intro w'
        go_simp
        with_reducible rfl
       rotate_left
       ·simp only [Act.put, List.setIfInBounds_toArray, List.set_cons_zero, List.set_cons_succ, i64_w, i32_w]
        rfl
       refine take_ (i := 1) (N := some 35) (v := .agg p.a.arr) (a' := ?_) #[true, true, true, false, true, false, true, false, false] rfl rfl (by kernel_rfl) (fun _ _ _ h => h) ?_ hHeld ?_ ?_
       ·exact yA (by rfl) rfl p.a w.heap.size 1 rfl (fun W h => ra_of_p h.1.rp)
       rotate_left
       ·simp only [Act.put, List.setIfInBounds_toArray, List.set_cons_zero, List.set_cons_succ, i64_w, i32_w]
        rfl
       refine take_ (i := 5) (N := some 39) (v := .agg q.a.arr) (a' := ?_) #[true, true, true, false, true, true, true, false, false] rfl rfl (by kernel_rfl) (fun _ _ _ h => h) ?_ hHeld ?_ ?_
       ·exact yA (by rfl) rfl q.a (w.heap.size + 1) 1 rfl (fun W h => ra_of_p h.2.1.rp)
       rotate_left
       ·simp only [Act.put, List.setIfInBounds_toArray, List.set_cons_zero, List.set_cons_succ, i64_w, i32_w]
        rfl
       refine one_ (i := 3) (N := some 37) #[true, true, true, true, true, true, true, false, false] rfl rfl (by kernel_rfl) (by decide) (fun K hK => ?_)
       refine goes_ Try.func43 (by kernel_rfl) rfl #[.agg p.a.arr, .int .i64 k] (by rfl) rfl rfl (by (try simp only [List.map_toArray, List.map_cons, List.map_nil]); first | done | rfl) ?_
       refine (refBit_walk p.a k _ (by omega)).mono ?_
       rintro e w1 ⟨rfl, hB⟩
       refine ⟨_, rfl, ?_⟩
       refine hK.out _ _ (H2.step hHeld hB) (fun hHeld => ?_)
       clear hK K
       refine norm_ (a' := ?_) ?_ ?_
       rotate_left
       ·show Act.put _ (some 37) _ = _
        simp only [Act.put, List.setIfInBounds_toArray, List.set_cons_zero, List.set_cons_succ, i64_w, i32_w]
        rfl
       refine one_ (i := 7) (N := some 41) #[true, true, true, true, true, true, true, true, false] rfl rfl (by kernel_rfl) (by decide) (fun K hK => ?_)
       refine goes_ Try.func43 (by kernel_rfl) rfl #[.agg q.a.arr, .int .i64 k] (by rfl) rfl rfl (by (try simp only [List.map_toArray, List.map_cons, List.map_nil]); first | done | rfl) ?_
       refine (refBit_walk q.a k _ (by omega)).mono ?_
       rintro e w2 ⟨rfl, hB⟩
       refine ⟨_, rfl, ?_⟩
       refine hK.out _ _ (H2.step hHeld hB) (fun hHeld => ?_)
       clear hK K
       refine norm_ (a' := ?_) ?_ ?_
       rotate_left
       ·show Act.put _ (some 41) _ = _
        simp only [Act.put, List.setIfInBounds_toArray, List.set_cons_zero, List.set_cons_succ, i64_w, i32_w]
        rfl
       refine pure_ (i := 8) (N := some 42) (v := ?_) (a' := ?_) #[true, true, true, true, true, true, true, true, true] rfl rfl (by kernel_rfl) (fun _ _ _ h => h) (Or.inl ⟨by rfl, ?_⟩) ?_ ?_
       rotate_left
       ·intro w'
        go_simp
        with_reducible rfl
       rotate_left
       ·simp only [Act.put, List.setIfInBounds_toArray, List.set_cons_zero, List.set_cons_succ, i64_w, i32_w]
        rfl
       refine done_ (by kernel_rfl) ?_
       have HN := Lib.hid hHeld
       have Hj := Lib.hid H.out.1
       clear H HD hHeld
       by_cases hbit : p.a.bit k = q.a.bit k
       ·have hb1 : (p.a.bit k != q.a.bit k) = false := by rw [hbit]; simp
        have hb2 : (p.a.bit k == q.a.bit k) = true := by rw [hbit]; simp
        have HBt := Lib.hid hbit
        clear hbit
        go_wp2
        go_roundw
        case rel => exact ⟨k + 1, by omega, by go_num, Lib.hid ⟨fun j hj => by
         by_cases hjk : j = k
         ·subst hjk; exact HBt.out
         ·exact Hj.out j (by omega), HN.out⟩⟩
        case measure => simp [intOf]; omega
       ·have hres : r = false := by rw [HR.out, Bool.eq_false_iff]; intro h; exact hbit ((covers_iff.1 h).2.2.2.2 k (by rw [HX.out.2.2.2.2]; omega))
        subst hres
        have hb1 : (p.a.bit k != q.a.bit k) = true := by simpa using hbit
        have hb2 : (p.a.bit k == q.a.bit k) = false := by simpa using hbit
        go_wp2
        go_ret
        exact ⟨rfl, HN.out.2.2⟩
      ·have hkn : k = n := by omega
       have hd2 : decide ((k : Int) < (n : Int)) = false := decide_eq_false (by omega)
       have hd3 : decide (k < n) = false := decide_eq_false hlt
       have hd1 := eq_false (show ¬ (k : Int) < (n : Int) by omega)
       have hres : r = true := by
        rw [HR.out]
        exact covers_iff.2 ⟨HX.out.1, HX.out.2.1, HX.out.2.2.1, HX.out.2.2.2.1, fun i hi => H.out.1 i (by have := HX.out.2.2.2.2; omega)⟩
       subst hres
       go_wp2
       go_ret
       exact ⟨rfl, H.out.2.2.2⟩
    ·have hr : coversB p q = false := by rw [Bool.eq_false_iff]; intro h; exact hn (covers_iff.1 h).2.2.2.1
     rw [hr]
     have hd2 : decide (q.n < p.n) = true := decide_eq_true (by omega)
     have hd3 : decide (p.n ≤ q.n) = false := decide_eq_false hn
     have HX := Lib.hid (And.intro hp (And.intro hq (And.intro h6 hn)))
     clear hp hq h6 hn hr
     go_enter Try.func27, Try.ntmps27
     go_upto_region 1 with (fail)
     generalize (w.alloc (.cells p.arr 25)).alloc (.cells q.arr 25) = W at H0 ⊢
     go_wp2_with ((with_reducible refine at_dst 6 ?_); refine loadP p w.heap.size 0 rfl H0.1.rp ?_)
     refine (refRight_walk p true HX.out.1 W).mono ?_
     rintro e w1 ⟨rfl, hB1⟩
     have H1 := H0.step hB1
     clear H0
     go_wp2_with ((with_reducible refine at_dst 10 ?_); refine gate_guard (by rfl) ?_; refine loadP q (w.heap.size + 1) 0 rfl H1.2.1.rp ?_)
     refine (refRight_walk q true HX.out.2.1 w1).mono ?_
     rintro e w2 ⟨rfl, hB2⟩
     have H2' := H1.step hB2
     clear H1 hB1 hB2
     have c0 := rp_v6 H2'.1.rp
     have c1 := rp_v6 H2'.2.1.rp
     rw [← HX.out.2.2.1] at c1
     have c2 := rp_n H2'.1.rp
     have c3 := rp_n H2'.2.1.rp
     rw [Nat.zero_add] at c2 c3
     go_wp2
     go_ret
     exact ⟨rfl, H2'.2.2⟩
   ·have hr : coversB p q = false := by rw [Bool.eq_false_iff]; intro h; exact h6 (covers_iff.1 h).2.2.1
    rw [hr]
    have h7 : q.v6 = !p.v6 := by cases hx : p.v6 <;> cases hy : q.v6 <;> simp_all
    have HX := Lib.hid (And.intro hp (And.intro hq h7))
    clear hp hq h6 h7 hr
    go_enter Try.func27, Try.ntmps27
    go_upto_region 1 with (fail)
    generalize (w.alloc (.cells p.arr 25)).alloc (.cells q.arr 25) = W at H0 ⊢
    go_wp2_with ((with_reducible refine at_dst 6 ?_); refine loadP p w.heap.size 0 rfl H0.1.rp ?_)
    refine (refRight_walk p true HX.out.1 W).mono ?_
    rintro e w1 ⟨rfl, hB1⟩
    have H1 := H0.step hB1
    clear H0
    go_wp2_with ((with_reducible refine at_dst 10 ?_); refine gate_guard (by rfl) ?_; refine loadP q (w.heap.size + 1) 0 rfl H1.2.1.rp ?_)
    refine (refRight_walk q true HX.out.2.1 w1).mono ?_
    rintro e w2 ⟨rfl, hB2⟩
    have H2' := H1.step hB2
    clear H1 hB1 hB2
    have c0 := rp_v6 H2'.1.rp
    have c1 := rp_v6 H2'.2.1.rp
    rw [HX.out.2.2] at c1
    generalize p.v6 = b at c0 c1
    cases b
    all_goals
     go_wp2
     go_ret
     exact ⟨rfl, H2'.2.2⟩
  ·have hr : coversB p q = false := by rw [Bool.eq_false_iff]; intro h; exact hq (covers_iff.1 h).2.1
   rw [hr]
   have hqf : rightB q = false := by simpa using hq
   have HX := Lib.hid (And.intro hp hqf)
   clear hp hq hqf hr
   go_enter Try.func27, Try.ntmps27
   go_upto_region 1 with (fail)
   generalize (w.alloc (.cells p.arr 25)).alloc (.cells q.arr 25) = W at H0 ⊢
   go_wp2_with ((with_reducible refine at_dst 6 ?_); refine loadP p w.heap.size 0 rfl H0.1.rp ?_)
   refine (refRight_walk p true HX.out.1 W).mono ?_
   rintro e w1 ⟨rfl, hB1⟩
   have H1 := H0.step hB1
   clear H0
   go_wp2_with ((with_reducible refine at_dst 10 ?_); refine gate_guard (by rfl) ?_; refine loadP q (w.heap.size + 1) 0 rfl H1.2.1.rp ?_)
   refine (refRight_walk q false HX.out.2 w1).mono ?_
   rintro e w2 ⟨rfl, hB2⟩
   have H2' := H1.step hB2
   clear H1 hB1 hB2
   go_wp2
   go_ret
   exact ⟨rfl, H2'.2.2⟩
 ·have hr : coversB p q = false := by rw [Bool.eq_false_iff]; intro h; exact hp (covers_iff.1 h).1
  rw [hr]
  have hpf : rightB p = false := by simpa using hp
  have HX := Lib.hid hpf
  clear hp hpf hr
  go_enter Try.func27, Try.ntmps27
  go_upto_region 1 with (fail)
  generalize (w.alloc (.cells p.arr 25)).alloc (.cells q.arr 25) = W at H0 ⊢
  go_wp2_with ((with_reducible refine at_dst 6 ?_); refine loadP p w.heap.size 0 rfl H0.1.rp ?_)
  refine (refRight_walk p false HX.out W).mono ?_
  rintro e w1 ⟨rfl, hB1⟩
  have H1 := H0.step hB1
  clear H0
  go_wp2
  go_ret
  exact ⟨rfl, H1.2.2⟩

end Go.Proofs.Ytllahlgnjeeliaa.Ad
end

section
set_option linter.unusedVariables false
set_option linter.unusedSimpArgs false
namespace Go.Proofs.Ytllahlgnjeeliaa.Ad
open Go.RowKit Go.Proofs.YtllahlgnjeeliaaW.PrintWords Go.Proofs.YtllahlgnjeeliaaW.PrintLast Go.Proofs.YtllahlgnjeeliaaW.PrintMore Go.Proofs.Ytllahlgnjeeliaa.PT

def coversP (l : List Vrp) (p : Pfx) : List Vrp := (rowP l).filter (fun v => coversB v.p p)
/-- What holds at the head of a round: out is what has been taken of the first k of row. -/
def CovI (w : World) (p : Pfx) (row : List Vrp) (k : Nat) (ov : Value) (base g : Nat) (W : World) : Prop :=
 kV.R 39 W base (fun _ => True) ov ((row.take k).filter (fun v => coversB v.p p)) ∧ Below base w W ∧ Has W g p.arr 25

set_option maxHeartbeats 4000000 in
set_option maxRecDepth 100000 in
theorem refCoversL_walk (A : Option Addr) (c : Nat) (l : List Vrp) (p : Pfx) (w : World) (h : kV.C w A l.length l) (hl : l.length ≤ 400000) :
 Calls Try.prog 11 #[.slice A l.length c, .agg p.arr] w fun e w' => ∃ v, e = .returned v ∧ kV.R 39 w' w.heap.size (fun _ => True) v (coversP l p) ∧ Below w.heap.size w w' := by
 have H0 := HB.new w p.arr 25
 have HC := Lib.hid (Kd.C_below h ((Below.refl _ _).alloc (Nat.le_refl _) (.cells p.arr 25)))
 clear h
 obtain ⟨row, hrow⟩ : ∃ row, row = rowP l := ⟨_, rfl⟩
 have hrl : row.length ≤ l.length := by rw [hrow]; have := row_len l []; simpa [rowP] using this
 have HRW := Lib.hid hrow
 have hres : coversP l p = row.filter (fun v => coversB v.p p) := by rw [hrow]; rfl
 rw [hres]
 clear hrow hres
 go_enter Try.func11, Try.ntmps11
 go_upto_region 1 with (fail)
 generalize w.alloc (.cells p.arr 25) = W at H0 HC ⊢
 go_wp2_with fail
 refine (row_walk A c l W HC.out hl).mono ?_
 rintro e w1 ⟨rv, rfl, hR, hB⟩
 rw [← HRW.out] at hR
 obtain ⟨Ar, cr, hrv, hcr, hCR⟩ := Kd.R_reads hR
 subst hrv
 have HCR := Lib.hid hCR
 have HW1 := Lib.hid (H0.step hB (Nat.le_refl _))
 clear hR hCR H0 hB
 go_wp2
 go_loopw [6, 7] (fun ov iv wr => ∃ k : Nat, k ≤ row.length ∧ iv = .int .i64 k ∧ Hid (CovI w1 p row k ov w1.heap.size w.heap.size wr)) (fun _ iv _ => row.length - (intOf iv).toNat)
 case atStart => exact ⟨0, Nat.zero_le _, rfl, Lib.hid ⟨Kd.R_nil _ _ _ _ _, Below.refl _ _, HW1.out.1⟩⟩
 case round =>
  obtain ⟨k, hk, rfl, HX⟩ := hrel
  by_cases hlt : k < row.length
  ·obtain ⟨b, o, hA, hR⟩ := C_form (Kd.C_below HCR.out HX.out.2.1) (by omega)
   subst hA
   obtain ⟨x, hx⟩ : ∃ x, x = row[k] := ⟨_, rfl⟩
   have Q0 := Lib.hid (hR k hlt)
   rw [← hx] at Q0
   have HXX := Lib.hid hx
   clear hx hR
   have hd1 := eq_true (show (k : Int) < (row.length : Int) by omega)
   have hd2 : decide ((k : Int) < (row.length : Int)) = true := decide_eq_true (by omega)
   have hd3 : decide (k < row.length) = true := decide_eq_true hlt
   obtain ⟨z, hz⟩ : ∃ z, z = coversB x.p p := ⟨_, rfl⟩
   have hcall : ∀ W, Calls Try.prog 27 #[.agg x.p.arr, .agg p.arr] W fun e w' => e = .returned (.bool z) ∧ Below W.heap.size W w' := fun W => by rw [hz]; exact refCovers_walk x.p p W
   have HZ := Lib.hid hz
   clear hz
   have q0 : wr.drew.rangeAt b (o + k * 20) x.cells := Q0.out
   have qp : Has wr.drew w.heap.size p.arr 25 := HX.out.2.2
   have qb : Below wr.heap.size wr wr.drew := (Below.refl _ _).drew
   go_wp2
   refine start_ (n := 7) (S := fun W => W.rangeAt b (o + k * 20) x.cells ∧ Has W w.heap.size p.arr 25 ∧ Below wr.heap.size wr W) (ds := []) #[false, false, false, false, false, false, false] (by kernel_rfl) rfl rfl ⟨q0, qp, qb⟩ (fun hHeld => ?_)
   refine pure_ (i := 0) (N := some 16) (v := ?_) (a' := ?_) #[true, false, false, false, false, false, false] rfl rfl (by kernel_rfl) (fun _ _ _ h => h) (Or.inl ⟨by rfl, ?_⟩) ?_ ?_
   rotate_left
   ·intro w'
    go_simp
    with_reducible rfl
   rotate_left
   ·simp only [Act.put, List.setIfInBounds_toArray, List.set_cons_zero, List.set_cons_succ, i64_w, i32_w]
    rfl
   refine pure_ (i := 1) (N := some 17) (v := ?_) (a' := ?_) #[true, true, false, false, false, false, false] rfl rfl (by kernel_rfl) (fun _ _ _ h => h) (Or.inl ⟨by rfl, ?_⟩) ?_ ?_
   rotate_left
   ·intro w'
    go_simp
    with_reducible rfl
   rotate_left
   ·simp only [Act.put, List.setIfInBounds_toArray, List.set_cons_zero, List.set_cons_succ, i64_w, i32_w]
    rfl
   refine pure_ (i := 2) (N := some 18) (v := ?_) (a' := ?_) #[true, true, true, false, false, false, false] rfl rfl (by kernel_rfl) (fun _ _ _ h => h) (Or.inl ⟨by rfl, ?_⟩) ?_ ?_
   rotate_left
   ·intro w'
    go_simp
    with_reducible rfl
   rotate_left
   ·simp only [Act.put, List.setIfInBounds_toArray, List.set_cons_zero, List.set_cons_succ, i64_w, i32_w]
    rfl
   refine pure_ (i := 3) (N := some 19) (v := ?_) (a' := ?_) #[true, true, true, true, false, false, false] rfl rfl (by kernel_rfl) (fun _ _ _ h => h) (Or.inl ⟨by rfl, ?_⟩) ?_ ?_
   rotate_left
   ·intro w'
    go_simp
    with_reducible rfl
   rotate_left
   ·simp only [Act.put, List.setIfInBounds_toArray, List.set_cons_zero, List.set_cons_succ, i64_w, i32_w]
    rfl
   refine take_ (i := 4) (N := some 20) (v := .agg x.p.arr) (a' := ?_) #[true, true, true, true, true, false, false] rfl rfl (by kernel_rfl) (fun _ _ _ h => h) ?_ hHeld ?_ ?_
   ·exact yP (by rfl) rfl x.p b (o + k * 20 + 1) rfl (fun W h => rp_of_v h.1)
   rotate_left
   ·simp only [Act.put, List.setIfInBounds_toArray, List.set_cons_zero, List.set_cons_succ, i64_w, i32_w]
    rfl
   refine take_ (i := 5) (N := some 21) (v := .agg p.arr) (a' := ?_) #[true, true, true, true, true, true, false] rfl rfl (by kernel_rfl) (fun _ _ _ h => h) ?_ hHeld ?_ ?_
   ·exact yP (by rfl) rfl p w.heap.size 0 rfl (fun W h => h.2.1.rp)
   rotate_left
   ·simp only [Act.put, List.setIfInBounds_toArray, List.set_cons_zero, List.set_cons_succ, i64_w, i32_w]
    rfl
   refine one_ (i := 6) (N := some 22) #[true, true, true, true, true, true, true] rfl rfl (by kernel_rfl) (by decide) (fun K hK => ?_)
   refine goes_ Try.func27 (by kernel_rfl) rfl #[.agg x.p.arr, .agg p.arr] (by rfl) rfl rfl (by (try simp only [List.map_toArray, List.map_cons, List.map_nil]); first | done | rfl) ?_
   refine (hcall _).mono ?_
   rintro e w2 ⟨rfl, hB⟩
   refine ⟨_, rfl, ?_⟩
   refine hK.out _ _ ⟨ra_below hHeld.1 hB, hHeld.2.1.below hB, hHeld.2.2.trans (hB.mono hHeld.2.2.size)⟩ (fun hHeld => ?_)
   clear hK K
   refine norm_ (a' := ?_) ?_ ?_
   rotate_left
   ·show Act.put _ (some 22) _ = _
    simp only [Act.put, List.setIfInBounds_toArray, List.set_cons_zero, List.set_cons_succ, i64_w, i32_w]
    rfl
   refine done_ (by kernel_rfl) ?_
   have HN := Lib.hid hHeld
   clear hHeld q0 qp qb hcall
   have hsnoc : (row.take (k + 1)).filter (fun v => coversB v.p p) = (row.take k).filter (fun v => coversB v.p p) ++ (if z = true then [x] else []) := by
    rw [List.take_succ_eq_append_getElem hlt, List.filter_append, ← HXX.out]
    congr 1
    rw [List.filter_cons, HZ.out]
    rfl
   have HS := Lib.hid hsnoc
   clear hsnoc
   cases z
   ·go_wp2
    go_roundw
    case rel => exact ⟨k + 1, by omega, by go_num, Lib.hid ⟨by rw [HS.out]; simp; exact Kd.R_below HX.out.1 HN.out.2.2, HX.out.2.1.trans (HN.out.2.2.mono HX.out.2.1.size), HN.out.2.1⟩⟩
    case measure => simp [intOf]; omega
   ·have HR3 := Lib.hid (Kd.R_below HX.out.1 HN.out.2.2)
    have HB3 : Hid (Below w1.heap.size w1 w2) := Lib.hid (HX.out.2.1.trans (HN.out.2.2.mono HX.out.2.1.size))
    have hfl : ((row.take k).filter (fun v => coversB v.p p)).length ≤ k := Nat.le_trans (List.length_filter_le _ _) (by simp; omega)
    have hi1 := eq_true (show (k : Int) < (row.length : Int) by omega)
    have HQ := Lib.hid HX.out.2.2
    clear HX
    go_wp2_with (first
     | ((with_reducible refine at_dst 27 ?_); refine loadV x b (o + k * 20) rfl HN.out.1 ?_)
     | ((with_reducible refine at_dst 28 ?_); refine valL rfl (exec_buildV x rfl _) ?_)
     | ((with_reducible refine at_dst 29 ?_); refine appRowsL (w0 := w1) w1.heap.size rfl (.tmp 23) (.tmp 28) rfl _ ((row.take k).filter (fun v => coversB v.p p)) [x] (some ⟨w2.heap.size, 0, none⟩) 1 1 rfl rfl (Kd.R_below HR3.out ((Below.refl _ _).alloc (Nat.le_refl _) _)) (C_one (Has.new w2 x.arr _)) (HB3.out.alloc HB3.out.size _) (by have := HB3.out.size; simp; omega) (by omega) ?_; intro v3 w3 hR4 hB4 hg4 hat4; have HR4 := Lib.hid hR4; have HB4 := Lib.hid hB4; have HG4 := Lib.hid hg4; clear hR4 hB4 hg4 hat4))
    go_roundw
    case rel => exact ⟨k + 1, by omega, by go_num, Lib.hid ⟨by rw [HS.out, if_pos rfl]; exact HR4.out, HB4.out, (HB4.out.block _ HW1.out.1.lt).trans HW1.out.1⟩⟩
    case measure => simp [intOf]; omega
  ·have hkn : k = row.length := by omega
   subst hkn
   have hd1 := eq_false (show ¬ (row.length : Int) < (row.length : Int) by omega)
   have hd2 : decide ((row.length : Int) < (row.length : Int)) = false := decide_eq_false (by omega)
   have hd3 : decide (row.length < row.length) = false := decide_eq_false (by omega)
   go_wp2
   go_ret
   refine ⟨_, rfl, ?_, HW1.out.2.trans (HX.out.2.1.mono HW1.out.2.size)⟩
   have := HX.out.1
   rw [List.take_length] at this
   exact Kd.R_lower this HW1.out.2.size

def hitB (p : Pfx) (an : Int) (v : Vrp) : Bool := decide (v.asn = an) && decide (p.n ≤ v.max) && decide (an ≠ 0)
def answerP (cov : List Vrp) (p : Pfx) (an : Int) : Int := if cov.any (hitB p an) then 2 else if 0 < cov.length then 1 else 0
theorem any_first {cov : List Vrp} {p : Pfx} {an : Int} {k : Nat} (h : k < cov.length) (hh : hitB p an cov[k] = true) : answerP cov p an = 2 := by
 unfold answerP
 rw [if_pos (List.any_eq_true.2 ⟨_, List.getElem_mem h, hh⟩)]

set_option maxHeartbeats 4000000 in
set_option maxRecDepth 100000 in
theorem refAnswer_walk (A : Option Addr) (c : Nat) (l : List Vrp) (p : Pfx) (an : Int) (w : World) (h : kV.C w A l.length l) (hl : l.length ≤ 400000) :
 Calls Try.prog 13 #[.slice A l.length c, .agg p.arr, .int .u32 an] w fun e w' => e = .returned (.int .i64 (answerP (coversP l p) p an)) ∧ Below w.heap.size w w' := by
 have H0 := HB.new w p.arr 25
 have HC := Lib.hid (Kd.C_below h ((Below.refl _ _).alloc (Nat.le_refl _) (.cells p.arr 25)))
 clear h
 obtain ⟨row, hrow⟩ : ∃ row, row = coversP l p := ⟨_, rfl⟩
 have hrl : row.length ≤ l.length := by rw [hrow]; unfold coversP; refine Nat.le_trans (List.length_filter_le _ _) ?_; have := row_len l []; simpa [rowP] using this
 have HRW := Lib.hid hrow
 rw [← hrow]
 clear hrow
 obtain ⟨r, hr⟩ : ∃ r, r = answerP row p an := ⟨_, rfl⟩
 rw [← hr]
 have HR := Lib.hid hr
 clear hr
 go_enter Try.func13, Try.ntmps13
 go_upto_region 1 with (fail)
 generalize w.alloc (.cells p.arr 25) = W at H0 HC ⊢
 go_wp2_with ((with_reducible refine at_dst 10 ?_); refine loadP p w.heap.size 0 rfl H0.1.rp ?_)
 refine (refCoversL_walk A c l p W HC.out hl).mono ?_
 rintro e w1 ⟨rv, rfl, hRr, hB⟩
 rw [← HRW.out] at hRr
 obtain ⟨Ar, cr, hrv, hcr, hCR⟩ := Kd.R_reads hRr
 subst hrv
 have HCR := Lib.hid hCR
 have HW1 := Lib.hid (H0.step hB (Nat.le_refl _))
 clear hRr hCR H0 hB
 go_wp2
 go_loopw [8] (fun iv wr => ∃ k : Nat, k ≤ row.length ∧ iv = .int .i64 k ∧ Hid ((∀ j (h : j < row.length), j < k → hitB p an row[j] = false) ∧ Below w1.heap.size w1 wr)) (fun iv _ => row.length - (intOf iv).toNat)
 case atStart => exact ⟨0, Nat.zero_le _, rfl, Lib.hid ⟨fun j h h2 => by omega, Below.refl _ _⟩⟩
 case round =>
  obtain ⟨k, hk, rfl, HX⟩ := hrel
  by_cases hlt : k < row.length
  ·obtain ⟨b, o, hA, hR⟩ := C_form (Kd.C_below HCR.out HX.out.2) (by omega)
   subst hA
   obtain ⟨x, hx⟩ : ∃ x, x = row[k] := ⟨_, rfl⟩
   have Q0 := hR k hlt
   rw [← hx] at Q0
   have HXX := Lib.hid hx
   clear hx hR
   have c0 := rv_as Q0
   have c1 := rv_max Q0
   have c2 : wr.cell? ⟨w.heap.size, 17, none⟩ = some (.int .i64 p.n) := by have := rp_n ((HW1.out.1.below HX.out.2).rp); rwa [Nat.zero_add] at this
   clear Q0
   have hd1 := eq_true (show (k : Int) < (row.length : Int) by omega)
   have hd2 : decide ((k : Int) < (row.length : Int)) = true := decide_eq_true (by omega)
   have hd3 : decide (k < row.length) = true := decide_eq_true hlt
   by_cases e1 : x.asn = an
   ·have a1 : (x.asn == an) = true := by simpa using e1
    have E1 := Lib.hid e1
    clear e1
    by_cases e2 : p.n ≤ x.max
    ·have a2 : decide (p.n ≤ x.max) = true := decide_eq_true e2
     have a3 : decide (x.max < p.n) = false := decide_eq_false (by omega)
     have E2 := Lib.hid e2
     clear e2
     by_cases e3 : an = 0
     ·have b1 : (an == 0) = true := by simpa using e3
      have b2 : (an != 0) = false := by simpa using e3
      have HH : Hid (hitB p an x = false) := Lib.hid (by unfold hitB; simp [e3])
      clear e3
      go_wp2
      go_quiet (fail)
      go_wp2
      go_roundw
      case rel => exact ⟨k + 1, by omega, by go_num, Lib.hid ⟨fun j h hj => by
       by_cases hjk : j = k
       ·subst hjk; rw [← HXX.out]; exact HH.out
       ·exact HX.out.1 j h (by omega), Go.below_drewN HX.out.2 _⟩⟩
      case measure => simp [intOf]; omega
     ·have b1 : (an == 0) = false := by simpa using e3
      have b2 : (an != 0) = true := by simpa using e3
      have hres : r = 2 := by rw [HR.out]; exact any_first hlt (by rw [← HXX.out]; unfold hitB; rw [decide_eq_true E1.out, decide_eq_true E2.out, decide_eq_true e3]; rfl)
      subst hres
      clear e3
      go_wp2
      go_quiet (fail)
      go_wp2
      go_ret
      exact ⟨rfl, HW1.out.2.trans ((Go.below_drewN HX.out.2 _).mono HW1.out.2.size)⟩
    ·have a2 : decide (p.n ≤ x.max) = false := decide_eq_false e2
     have a3 : decide (x.max < p.n) = true := decide_eq_true (by omega)
     have HH : Hid (hitB p an x = false) := Lib.hid (by unfold hitB; rw [decide_eq_false e2]; simp)
     clear e2
     go_wp2
     go_quiet (fail)
     go_wp2
     go_roundw
     case rel => exact ⟨k + 1, by omega, by go_num, Lib.hid ⟨fun j h hj => by
      by_cases hjk : j = k
      ·subst hjk; rw [← HXX.out]; exact HH.out
      ·exact HX.out.1 j h (by omega), Go.below_drewN HX.out.2 _⟩⟩
     case measure => simp [intOf]; omega
   ·have a1 : (x.asn == an) = false := by simpa using e1
    have HH : Hid (hitB p an x = false) := Lib.hid (by unfold hitB; rw [decide_eq_false e1]; rfl)
    clear e1
    go_wp2
    go_quiet (fail)
    go_wp2
    go_roundw
    case rel => exact ⟨k + 1, by omega, by go_num, Lib.hid ⟨fun j h hj => by
     by_cases hjk : j = k
     ·subst hjk; rw [← HXX.out]; exact HH.out
     ·exact HX.out.1 j h (by omega), Go.below_drewN HX.out.2 _⟩⟩
    case measure => simp [intOf]; omega
  ·have hkn : k = row.length := by omega
   subst hkn
   have hd1 := eq_false (show ¬ (row.length : Int) < (row.length : Int) by omega)
   have hd2 : decide ((row.length : Int) < (row.length : Int)) = false := decide_eq_false (by omega)
   have hd3 : decide (row.length < row.length) = false := decide_eq_false (by omega)
   have hno : row.any (hitB p an) = false := by
    rw [List.any_eq_false]
    intro v hv
    obtain ⟨j, hj, rfl⟩ := List.mem_iff_getElem.1 hv
    rw [HX.out.1 j hj hj]; simp
   have hv := HR.out
   unfold answerP at hv
   rw [hno, if_neg (by simp)] at hv
   have HV := Lib.hid hv
   clear hv hno
   by_cases hz : 0 < row.length
   ·have hv := HV.out
    rw [if_pos hz] at hv
    subst hv
    have g1 : decide (0 < row.length) = true := decide_eq_true hz
    have g2 : decide ((0 : Int) < (row.length : Int)) = true := decide_eq_true (by omega)
    go_wp2
    go_ret
    exact ⟨rfl, HW1.out.2.trans (HX.out.2.mono HW1.out.2.size)⟩
   ·have hv := HV.out
    rw [if_neg hz] at hv
    subst hv
    have hz0 : row.length = 0 := by omega
    have g1 : decide (0 < row.length) = false := decide_eq_false hz
    have g2 : decide ((0 : Int) < (row.length : Int)) = false := decide_eq_false (by omega)
    have HZ := Lib.hid hz0
    clear hz0
    go_wp2
    go_ret
    exact ⟨rfl, HW1.out.2.trans (HX.out.2.mono HW1.out.2.size)⟩

end Go.Proofs.Ytllahlgnjeeliaa.Ad
end

section
set_option linter.unusedVariables false
set_option linter.unusedSimpArgs false
namespace Go.Proofs.Ytllahlgnjeeliaa.Ad
open Go.RowKit Go.Proofs.YtllahlgnjeeliaaW.PrintWords Go.Proofs.YtllahlgnjeeliaaW.PrintLast Go.Proofs.YtllahlgnjeeliaaW.PrintMore Go.Proofs.Ytllahlgnjeeliaa.PT

/-- What the closure has told behind some. -/
def ansV (p : Pfx) (an : Int) (vs : List Vrp) : Int := match vs.getLast? with
 | none => 0
 | some v => if hitB p an v then 2 else 1
theorem ansV_snoc (p : Pfx) (an : Int) (vs : List Vrp) (v : Vrp) : ansV p an (vs ++ [v]) = if hitB p an v then 2 else 1 := by simp [ansV]
theorem ans_go (p : Pfx) (an : Int) : ∀ l : List Vrp, ansV p an (goL (fun v => !hitB p an v) l) = answerP l p an
 | [] => rfl
 | v :: r => by
  have ih := ans_go p an r
  rw [goL]
  cases hh : hitB p an v
  ·simp only [Bool.not_false, if_true]
   cases r with
   | nil => simp [goL, ansV, answerP, hh]
   | cons u r =>
    have hne : goL (fun v => !hitB p an v) (u :: r) ≠ [] := by
     rw [goL]; split <;> simp
    have e : ansV p an (v :: goL (fun v => !hitB p an v) (u :: r)) = ansV p an (goL (fun v => !hitB p an v) (u :: r)) := by
     unfold ansV
     rw [List.getLast?_cons]
     cases h : (goL (fun v => !hitB p an v) (u :: r)).getLast? with
     | none => exact absurd (List.getLast?_eq_none_iff.1 h) hne
     | some x => rfl
    rw [e, ih]
    unfold answerP
    rw [show (v :: u :: r).any (hitB p an) = (u :: r).any (hitB p an) by rw [List.any_cons, hh, Bool.false_or]]
    simp
  ·simp only [Bool.not_true, if_false, Bool.false_eq_true]
   unfold answerP
   rw [List.any_cons, hh, Bool.true_or, if_pos rfl]
   simp [ansV, hh]
def JA (W0 : World) (ga gs gp : Nat) (an : Int) (p : Pfx) (vs : List Vrp) (W : World) : Prop :=
 Has W ga #[.int .i64 (ansV p an vs)] 3 ∧ Has W gs #[.int .u32 an] 26 ∧ Has W gp p.arr 25 ∧ Below W0.heap.size W0 W ∧ W0.heap.size ≤ ga

set_option maxHeartbeats 2000000 in
set_option maxRecDepth 100000 in
theorem ans1_walk (W0 : World) (ga gs gp : Nat) (an : Int) (p : Pfx) (vs : List Vrp) (v : Vrp) (W : World) (h : JA W0 ga gs gp an p vs W) :
 Calls Try.prog 28 #[.agg v.arr, .pointer (some ⟨ga, 0, none⟩), .pointer (some ⟨gs, 0, none⟩), .pointer (some ⟨gp, 0, none⟩)] W fun e w' => e = .returned (.bool (!hitB p an v)) ∧ JA W0 ga gs gp an p (vs ++ [v]) w' ∧ ∀ g (q : Pfx), Has W g q.arr 25 → Has w' g q.arr 25 := by
 have HJ := Lib.hid h
 have hW1 : Has (W.alloc (.cells v.arr 39)) W.heap.size v.arr 39 := Has.new _ _ _
 have HA1 := h.1.alloc (.cells v.arr 39)
 have HS1 := h.2.1.alloc (.cells v.arr 39)
 have HP1 := h.2.2.1.alloc (.cells v.arr 39)
 have HB1 := h.2.2.2.1.alloc h.2.2.2.1.size (.cells v.arr 39)
 have hK1 : ∀ g (q : Pfx), Has W g q.arr 25 → Has (W.alloc (.cells v.arr 39)) g q.arr 25 := fun g q hq => hq.alloc _
 clear h
 obtain ⟨z, hz⟩ : ∃ z, z = hitB p an v := ⟨_, rfl⟩
 rw [← hz]
 have hsn : ansV p an (vs ++ [v]) = if z then 2 else 1 := by rw [ansV_snoc, hz]
 have HZ := Lib.hid (And.intro hz hsn)
 clear hz hsn
 go_enter Try.func28, Try.ntmps28
 go_upto_region 1 with (fail)
 generalize W.alloc (.cells v.arr 39) = W1 at hW1 HA1 HS1 HP1 HB1 hK1 ⊢
 have ca := HA1.c 0
 have fa := HA1.f 0
 have ca' : W1.cell? ⟨ga, 0, none⟩ = some (.int .i64 (ansV p an vs)) := ca
 go_upto_region 2 with (fail)
 have n1 : ga ≠ gs := HA1.ne HS1 (by decide)
 have n2 : ga ≠ gp := HA1.ne HP1 (by decide)
 have n3 : ga ≠ W.heap.size := HA1.ne hW1 (by decide)
 have HA2 : Has (W1.setCell ⟨ga, 0, none⟩ (.int .i64 1)) ga #[.int .i64 1] 3 := by unfold Has; rw [heap_setCell_same _ _ _ _ _ _ HA1]; rfl
 have HS2 := HS1.far (p := ⟨ga, 0, none⟩) (fun e => n1 e.symm) (.int .i64 1)
 have HP2 := HP1.far (p := ⟨ga, 0, none⟩) (fun e => n2 e.symm) (.int .i64 1)
 have hW2 := hW1.far (p := ⟨ga, 0, none⟩) (fun e => n3 e.symm) (.int .i64 1)
 have HB2 := Below.setCell HB1 (p := ⟨ga, 0, none⟩) HJ.out.2.2.2.2 (.int .i64 1)
 have hK2 : ∀ g (q : Pfx), Has W g q.arr 25 → Has (W1.setCell ⟨ga, 0, none⟩ (.int .i64 1)) g q.arr 25 := fun g q hq => (hK1 g q hq).far (p := ⟨ga, 0, none⟩) (fun e => (HA1.ne (hK1 g q hq) (by decide)) e.symm) _
 clear ca ca' fa HA1 HS1 HP1 hW1 HB1 hK1 n1 n2 n3
 generalize W1.setCell ⟨ga, 0, none⟩ (.int .i64 1) = W2 at HA2 HS2 HP2 hW2 HB2 hK2 ⊢
 have ca : W2.cell? ⟨ga, 0, none⟩ = some (.int .i64 1) := HA2.c 0
 have fa := HA2.f 0
 have cs_ : W2.cell? ⟨gs, 0, none⟩ = some (.int .u32 an) := HS2.c 0
 have cp := rp_n HP2.rp
 rw [Nat.zero_add] at cp
 have cv := rv_as hW2.rv
 have cm := rv_max hW2.rv
 rw [Nat.zero_add] at cm
 have HH := Lib.hid (And.intro HA2 (And.intro HS2 (And.intro HP2 (And.intro HB2 hK2))))
 clear HA2 HS2 HP2 HB2 hW2 hK2
 by_cases e1 : v.asn = an
 ·have a1 : (v.asn == an) = true := by simpa using e1
  have E1 := Lib.hid e1
  clear e1
  by_cases e3 : an = 0
  ·have b1 : (an == 0) = true := by simpa using e3
   have b2 : (an != 0) = false := by simpa using e3
   have hzf : z = false := by rw [HZ.out.1]; unfold hitB; simp [e3]
   subst hzf
   have E3 := Lib.hid e3
   clear e3
   go_wp2
   go_ret
   exact ⟨rfl, ⟨by rw [HZ.out.2]; exact HH.out.1, HH.out.2.1, HH.out.2.2.1, HH.out.2.2.2.1, HJ.out.2.2.2.2⟩, HH.out.2.2.2.2⟩
  ·have b1 : (an == 0) = false := by simpa using e3
   have b2 : (an != 0) = true := by simpa using e3
   have E3 := Lib.hid e3
   clear e3
   by_cases e2 : p.n ≤ v.max
   ·have a2 : decide (p.n ≤ v.max) = true := decide_eq_true e2
    have hzt : z = true := by rw [HZ.out.1]; unfold hitB; rw [decide_eq_true E1.out, decide_eq_true e2, decide_eq_true E3.out]; rfl
    subst hzt
    go_wp2
    go_ret
    refine ⟨rfl, ⟨?_, ?_, ?_, ?_, HJ.out.2.2.2.2⟩, fun g q hq => ?_⟩
    ·rw [HZ.out.2]; unfold Has; rw [heap_setCell_same _ _ _ _ _ _ HH.out.1]; rfl
    ·exact HH.out.2.1.far (p := ⟨ga, 0, none⟩) (fun e => (HH.out.1.ne HH.out.2.1 (by decide)) e.symm) _
    ·exact HH.out.2.2.1.far (p := ⟨ga, 0, none⟩) (fun e => (HH.out.1.ne HH.out.2.2.1 (by decide)) e.symm) _
    ·exact Below.setCell HH.out.2.2.2.1 (p := ⟨ga, 0, none⟩) HJ.out.2.2.2.2 _
    ·exact (HH.out.2.2.2.2 g q hq).far (p := ⟨ga, 0, none⟩) (fun e => (HH.out.1.ne (HH.out.2.2.2.2 g q hq) (by decide)) e.symm) _
   ·have a2 : decide (p.n ≤ v.max) = false := decide_eq_false e2
    have hzf : z = false := by rw [HZ.out.1]; unfold hitB; rw [decide_eq_false e2]; simp
    subst hzf
    go_wp2
    go_ret
    exact ⟨rfl, ⟨by rw [HZ.out.2]; exact HH.out.1, HH.out.2.1, HH.out.2.2.1, HH.out.2.2.2.1, HJ.out.2.2.2.2⟩, HH.out.2.2.2.2⟩
 ·have a1 : (v.asn == an) = false := by simpa using e1
  have hzf : z = false := by rw [HZ.out.1]; unfold hitB; rw [decide_eq_false e1]; rfl
  subst hzf
  clear e1
  go_wp2
  go_ret
  exact ⟨rfl, ⟨by rw [HZ.out.2]; exact HH.out.1, HH.out.2.1, HH.out.2.2.1, HH.out.2.2.2.1, HJ.out.2.2.2.2⟩, HH.out.2.2.2.2⟩

set_option maxHeartbeats 2000000 in
set_option maxRecDepth 100000 in
theorem answer_walk (base t m : Nat) (N : Path → Option Nat) (H : Path → Value) (acc : List Vrp) (p : Pfx) (an : Int) (w : World) (hT : TN w base t N H m acc) (hlen : acc.length ≤ 140737488355328) :
 Calls Try.prog 12 #[.pointer (some ⟨t, 0, none⟩), .agg p.arr, .int .u32 an] w fun e w' => e = .returned (.int .i64 (answerP (if rightB p then visP acc p else []) p an)) ∧ Below w.heap.size w w' := by
 have HT := Lib.hid hT
 clear hT
 have eg : ∀ args w, (callFunc 28 args).run Try.prog w = .ok (.enter 28 args) w := fun args w => enters_ Try.func28 (by kernel_rfl) rfl args w
 have HE := Lib.hid eg
 clear eg
 have HW : Hid (JA w (w.heap.size + 2) (w.heap.size + 1) w.heap.size an p [] (((w.alloc (.cells p.arr 25)).alloc (.cells #[.int .u32 an] 26)).alloc (.cells #[.int .i64 0] 3))) := by
  refine Lib.hid ⟨?_, ?_, ?_, ?_, by omega⟩
  ·have := Has.new ((w.alloc (.cells p.arr 25)).alloc (.cells #[.int .u32 an] 26)) #[.int .i64 0] 3
   rwa [show ((w.alloc (.cells p.arr 25)).alloc (.cells #[.int .u32 an] 26)).heap.size = w.heap.size + 2 by simp] at this
  ·exact Has.alloc (heap_alloc2_new w _ _) _
  ·exact Has.alloc (heap_alloc2_old w _ _) _
  ·exact (((Below.refl _ _).alloc (Nat.le_refl _) _).alloc (by simp) _).alloc (by simp; omega) _
 obtain ⟨res, hres⟩ : ∃ res, res = answerP (if rightB p then visP acc p else []) p an := ⟨_, rfl⟩
 rw [← hres]
 have HR := Lib.hid hres
 clear hres
 go_enter Try.func12, Try.ntmps12
 go_upto_region 2 with (fail)
 generalize ((w.alloc (.cells p.arr 25)).alloc (.cells #[.int .u32 an] 26)).alloc (.cells #[.int .i64 0] 3) = W at HW ⊢
 go_wp2_with ((with_reducible refine at_dst 9 ?_); refine loadP p w.heap.size 0 rfl HW.out.2.2.1.rp ?_)
 refine (way_walk w base t m N H acc HT.out p 28 #[.pointer (some ⟨w.heap.size + 2, 0, none⟩), .pointer (some ⟨w.heap.size + 1, 0, none⟩), .pointer (some ⟨w.heap.size, 0, none⟩)] HE.out (JA w (w.heap.size + 2) (w.heap.size + 1) w.heap.size an p) (fun vs W W' h hB => ⟨h.1.below hB, h.2.1.below hB, h.2.2.1.below hB, h.2.2.2.1.trans (hB.mono h.2.2.2.1.size), h.2.2.2.2⟩) (fun vs W h => h.2.2.2.1) (fun v => !hitB p an v) (fun vs v r W _ h => ans1_walk w _ _ _ an p vs v W h) hlen W HW.out).mono ?_
 rintro e w1 ⟨rfl, hJ⟩
 have ca : w1.cell? ⟨w.heap.size + 2, 0, none⟩ = _ := hJ.1.c 0
 have ca' : w1.cell? ⟨w.heap.size + 2, 0, none⟩ = some (.int .i64 res) := by
  rw [ca, HR.out]
  show some (Value.int .i64 _) = _
  congr 2
  split
  ·exact ans_go p an _
  ·rfl
 have HB := Lib.hid hJ.2.2.2.1
 clear ca hJ
 go_wp2
 go_ret
 exact ⟨rfl, HB.out⟩

end Go.Proofs.Ytllahlgnjeeliaa.Ad
end

section
set_option linter.unusedVariables false
set_option linter.unusedSimpArgs false
namespace Go.Proofs.Ytllahlgnjeeliaa.Ad
open Go.Sort

theorem accStep_spec (acc : List Vrp) (v : Vrp) (hn : acc.Nodup) : (accStep acc v).Nodup ∧ ∀ u, u ∈ accStep acc v ↔ u ∈ acc ∨ (u = v ∧ oneB v = true) := by
 unfold accStep
 cases h1 : oneB v
 ·simp only [Bool.false_eq_true, if_false, and_false, or_false]
  exact ⟨hn, by simp⟩
 ·simp only [if_true, and_true]
  unfold putP
  split
  ·rename_i hm
   exact ⟨hn, fun u => ⟨.inl, fun h => h.elim id (fun e => e ▸ hm)⟩⟩
  ·rename_i hm
   refine ⟨?_, fun u => by simp⟩
   rw [List.nodup_append]
   exact ⟨hn, by simp, fun a ha b hb e => by
    rw [List.mem_singleton] at hb
    subst hb; subst e
    exact hm ha⟩
theorem acc_fold : ∀ (l acc : List Vrp), acc.Nodup → (l.foldl accStep acc).Nodup ∧ ∀ u, u ∈ l.foldl accStep acc ↔ u ∈ acc ∨ (u ∈ l ∧ oneB u = true)
 | [], acc, h => ⟨h, fun u => by simp⟩
 | v :: l, acc, h => by
  obtain ⟨h1, h2⟩ := accStep_spec acc v h
  obtain ⟨h3, h4⟩ := acc_fold l _ h1
  refine ⟨h3, fun u => ?_⟩
  rw [List.foldl_cons, h4, h2, List.mem_cons]
  constructor
  ·rintro ((h | ⟨rfl, h⟩) | ⟨h, h'⟩)
   ·exact .inl h
   ·exact .inr ⟨.inl rfl, h⟩
   ·exact .inr ⟨.inr h, h'⟩
  ·rintro (h | ⟨rfl | h, h'⟩)
   ·exact .inl (.inl h)
   ·exact .inl (.inr ⟨rfl, h'⟩)
   ·exact .inr ⟨h, h'⟩
theorem acc_nodup (l : List Vrp) : (accP l).Nodup := (acc_fold l [] List.nodup_nil).1
theorem acc_mem (l : List Vrp) (u : Vrp) : u ∈ accP l ↔ u ∈ l ∧ oneB u = true := by
 have := (acc_fold l [] List.nodup_nil).2 u
 simpa [accP] using this
theorem acc_len (l : List Vrp) : (accP l).length ≤ l.length := (acc_nodup l).length_le_of_subset (fun u hu => ((acc_mem l u).1 hu).1)

def Ris (l : List Vrp) : Prop := l.Pairwise (fun a b => cmpV a b < 0)
theorem Ris.nodup {l : List Vrp} (h : Ris l) : l.Nodup := by
 refine List.Pairwise.imp ?_ h
 intro a b hab e
 subst e
 rw [cmpV_eq.2 rfl] at hab
 omega
theorem ris_ext : ∀ {a b : List Vrp}, Ris a → Ris b → (∀ v, v ∈ a ↔ v ∈ b) → a = b
 | [], [], _, _, _ => rfl
 | [], y :: b, _, _, h => by have := (h y).2 (by simp); cases this
 | x :: a, [], _, _, h => by have := (h x).1 (by simp); cases this
 | x :: a, y :: b, ha, hb, h => by
  have ha' := List.pairwise_cons.1 ha
  have hb' := List.pairwise_cons.1 hb
  have hxy : x = y := by
   have h1 := (h x).1 (by simp)
   have h2 := (h y).2 (by simp)
   rcases List.mem_cons.1 h1 with e | h1
   ·exact e
   rcases List.mem_cons.1 h2 with e | h2
   ·exact e.symm
   have a1 := ha'.1 y h2
   have a2 := hb'.1 x h1
   rw [cmpV_neg] at a2
   omega
  subst hxy
  rw [ris_ext ha'.2 hb'.2 (fun v => ?_)]
  have := h v
  rw [List.mem_cons, List.mem_cons] at this
  constructor
  ·intro hv
   rcases this.1 (.inr hv) with e | hv'
   ·subst e
    have := ha'.1 v hv
    rw [cmpV_eq.2 rfl] at this
    omega
   ·exact hv'
  ·intro hv
   rcases this.2 (.inr hv) with e | hv'
   ·subst e
    have := hb'.1 v hv
    rw [cmpV_eq.2 rfl] at this
    omega
   ·exact hv'
theorem tw_take : ∀ (out : List Vrp) (v : Vrp), (∀ u ∈ out.take (posR out v), cmpV u v < 0)
 | [], v => by simp
 | x :: out, v => by
  have ih := tw_take out v
  unfold posR at ih ⊢
  rw [List.takeWhile_cons]
  split
  ·rename_i h
   rw [List.length_cons, List.take_succ_cons]
   intro u hu
   rcases List.mem_cons.1 hu with rfl | hu
   ·exact of_decide_eq_true h
   ·exact ih u hu
  ·simp
theorem tw_next : ∀ (out : List Vrp) (v : Vrp) (h : posR out v < out.length), ¬ cmpV out[posR out v] v < 0
 | [], v, h => by simp at h
 | x :: out, v, h => by
  have ih := tw_next out v
  unfold posR at ih h ⊢
  by_cases hx : decide (cmpV x v < 0) = true
  ·have e : ((x :: out).takeWhile fun u => decide (cmpV u v < 0)).length = (out.takeWhile fun u => decide (cmpV u v < 0)).length + 1 := by rw [List.takeWhile_cons, if_pos hx, List.length_cons]
   have h' : (out.takeWhile fun u => decide (cmpV u v < 0)).length < out.length := by rw [e] at h; simpa using h
   have := ih h'
   simp only [e, List.getElem_cons_succ]
   exact this
  ·have e : ((x :: out).takeWhile fun u => decide (cmpV u v < 0)).length = 0 := by rw [List.takeWhile_cons, if_neg hx]; rfl
   simp only [e, List.getElem_cons_zero]
   simpa using hx
theorem ins_spec (out : List Vrp) (v : Vrp) (h : Ris out) : Ris (insR out v) ∧ ∀ u, u ∈ insR out v ↔ u ∈ out ∨ (u = v ∧ oneB v = true) := by
 unfold insR
 split
 ·rename_i hc
  refine ⟨h, fun u => ⟨.inl, ?_⟩⟩
  rintro (hu | ⟨rfl, ho⟩)
  ·exact hu
  ·rcases hc with hc | hc
   ·rw [hc] at ho; cases ho
   ·exact List.mem_of_getElem? hc
 ·rename_i hc
  have ho : oneB v = true := by
   cases e : oneB v
   ·exact absurd (.inl e) hc
   ·rfl
  have hne : out[posR out v]? ≠ some v := fun e => hc (.inr e)
  obtain ⟨k, hk⟩ : ∃ k, k = posR out v := ⟨_, rfl⟩
  have h1 := tw_take out v
  have h2 := tw_next out v
  rw [← hk] at h1 hne ⊢
  simp only [← hk] at h2
  have hsplit : out = out.take k ++ out.drop k := (List.take_append_drop _ _).symm
  have hR : (out.take k ++ out.drop k).Pairwise (fun a b => cmpV a b < 0) := by rw [← hsplit]; exact h
  obtain ⟨p1, p2, p3⟩ := List.pairwise_append.1 hR
  have hd : ∀ u ∈ out.drop k, cmpV v u < 0 := by
   intro u hu
   by_cases hlt : k < out.length
   ·have hh := h2 hlt
    rw [List.drop_eq_getElem_cons hlt] at hu p2
    have hn : out[k] ≠ v := fun e => hne (by rw [List.getElem?_eq_getElem hlt, e])
    have h0 : cmpV v out[k] < 0 := by
     have := cmpV_neg v out[k]
     have h3 : cmpV out[k] v ≠ 0 := fun e => hn (cmpV_eq.1 e)
     omega
    rcases List.mem_cons.1 hu with rfl | hu
    ·exact h0
    ·exact cmpV_trans h0 ((List.pairwise_cons.1 p2).1 u hu)
   ·rw [List.drop_eq_nil_of_le (by omega)] at hu
    cases hu
  refine ⟨?_, fun u => ?_⟩
  ·unfold Ris
   rw [List.append_assoc]
   refine List.pairwise_append.2 ⟨p1, ?_, fun a ha b hb => ?_⟩
   ·rw [List.singleton_append]
    exact List.pairwise_cons.2 ⟨hd, p2⟩
   ·rw [List.singleton_append] at hb
    rcases List.mem_cons.1 hb with rfl | hb
    ·exact h1 a ha
    ·exact p3 a ha b hb
  ·rw [List.mem_append, List.mem_append, List.mem_singleton]
   have : u ∈ out ↔ u ∈ out.take k ∨ u ∈ out.drop k := by rw [← List.mem_append, List.take_append_drop]
   rw [this]
   constructor
   ·rintro ((h | rfl) | h)
    ·exact .inl (.inl h)
    ·exact .inr ⟨rfl, ho⟩
    ·exact .inl (.inr h)
   ·rintro ((h | h) | ⟨rfl, _⟩)
    ·exact .inl (.inl h)
    ·exact .inr h
    ·exact .inl (.inr rfl)
theorem row_fold : ∀ (l out : List Vrp), Ris out → Ris (l.foldl insR out) ∧ ∀ u, u ∈ l.foldl insR out ↔ u ∈ out ∨ (u ∈ l ∧ oneB u = true)
 | [], out, h => ⟨h, fun u => by simp⟩
 | v :: l, out, h => by
  obtain ⟨h1, h2⟩ := ins_spec out v h
  obtain ⟨h3, h4⟩ := row_fold l _ h1
  refine ⟨h3, fun u => ?_⟩
  rw [List.foldl_cons, h4, h2, List.mem_cons]
  constructor
  ·rintro ((h | ⟨rfl, h⟩) | ⟨h, h'⟩)
   ·exact .inl h
   ·exact .inr ⟨.inl rfl, h⟩
   ·exact .inr ⟨.inr h, h'⟩
  ·rintro (h | ⟨rfl | h, h'⟩)
   ·exact .inl (.inl h)
   ·exact .inl (.inr ⟨rfl, h'⟩)
   ·exact .inr ⟨h, h'⟩
theorem row_ris (l : List Vrp) : Ris (rowP l) := (row_fold l [] List.Pairwise.nil).1
theorem row_mem (l : List Vrp) (u : Vrp) : u ∈ rowP l ↔ u ∈ l ∧ oneB u = true := by
 have := (row_fold l [] List.Pairwise.nil).2 u
 simpa [rowP] using this
theorem acc_row_len (l : List Vrp) : (accP l).length = (rowP l).length :=
 ((List.perm_ext_iff_of_nodup (acc_nodup l) (row_ris l).nodup).2 (fun u => by rw [acc_mem, row_mem])).length_eq

theorem path_eq {p q : Pfx} {i j : Nat} : pathOf p i = pathOf q j ↔ p.v6 = q.v6 ∧ i = j ∧ ∀ k, k < i → p.a.bit k = q.a.bit k := by
 constructor
 ·intro h
  have hl := congrArg List.length h
  rw [pathOf_len, pathOf_len] at hl
  have hij : i = j := by omega
  subst hij
  unfold pathOf at h
  injection h with h1 h2
  refine ⟨h1, rfl, fun k hk => ?_⟩
  have h3 := congrArg (fun l => l[k]?) h2
  simp only [List.getElem?_map, List.getElem?_range hk, Option.map_some, Option.some.injEq] at h3
  rcases p.a.bit_01 k with e1 | e1 <;> rcases q.a.bit_01 k with e2 | e2 <;> rw [e1, e2] at h3 <;> simp at h3 <;> rw [e1, e2]
 ·rintro ⟨h1, rfl, h2⟩
  unfold pathOf
  rw [h1]
  congr 1
  apply List.map_congr_left
  intro k hk
  rw [h2 k (List.mem_range.1 hk)]
theorem one_right {v : Vrp} (h : oneB v = true) : rightB v.p = true := by unfold oneB at h; simp only [Bool.and_eq_true] at h; exact h.1.1
theorem visL_mem (acc : List Vrp) (p : Pfx) (k : Nat) (u : Vrp) : u ∈ visL acc p k ↔ u ∈ acc ∧ ∃ i, i < k ∧ pathV u = pathOf p i := by
 unfold visL hereP
 simp only [List.mem_flatMap, List.mem_range, List.mem_filter, decide_eq_true_iff]
 constructor
 ·rintro ⟨i, hi, hu, e⟩; exact ⟨hu, i, hi, e⟩
 ·rintro ⟨hu, i, hi, e⟩; exact ⟨i, hi, hu, e⟩
theorem visL_nodup {acc : List Vrp} (h : acc.Nodup) (p : Pfx) : ∀ k, (visL acc p k).Nodup
 | 0 => by simp [visL]
 | k + 1 => by
  rw [visL_succ, List.nodup_append]
  refine ⟨visL_nodup h p k, List.Pairwise.filter _ h, fun a ha b hb e => ?_⟩
  subst e
  obtain ⟨_, i, hi, e1⟩ := (visL_mem acc p k a).1 ha
  have e2 : pathV a = pathOf p k := by
   unfold hereP at hb
   exact of_decide_eq_true (List.mem_filter.1 hb).2
  have := congrArg List.length (e1.symm.trans e2)
  rw [pathOf_len, pathOf_len] at this
  omega
/-- What a trie of a list visits for a prefix. -/
def tcov (l : List Vrp) (p : Pfx) : List Vrp := if rightB p then visP (accP l) p else []
theorem tcov_mem (l : List Vrp) (p : Pfx) (u : Vrp) : u ∈ tcov l p ↔ u ∈ l ∧ oneB u = true ∧ coversB u.p p = true := by
 unfold tcov
 split
 ·rename_i hr
  unfold visP
  rw [visL_mem, acc_mem]
  have hp := right_iff.1 hr
  constructor
  ·rintro ⟨⟨h1, h2⟩, i, hi, e⟩
   refine ⟨h1, h2, covers_iff.2 ?_⟩
   unfold pathV at e
   obtain ⟨e1, e2, e3⟩ := path_eq.1 e
   have hu := right_iff.1 (one_right h2)
   exact ⟨one_right h2, hr, e1, by omega, fun j hj => e3 j (by omega)⟩
  ·rintro ⟨h1, h2, h3⟩
   obtain ⟨c1, c2, c3, c4, c5⟩ := covers_iff.1 h3
   have hu := right_iff.1 (one_right h2)
   refine ⟨⟨h1, h2⟩, u.p.n.toNat, by omega, ?_⟩
   exact path_eq.2 ⟨c3, rfl, fun k hk => c5 k (by omega)⟩
 ·rename_i hr
  simp only [List.not_mem_nil, false_iff]
  rintro ⟨_, _, h3⟩
  exact hr (covers_iff.1 h3).2.1
theorem tcov_nodup (l : List Vrp) (p : Pfx) : (tcov l p).Nodup := by
 unfold tcov
 split
 ·exact visL_nodup (acc_nodup l) p _
 ·exact List.nodup_nil
theorem cov_mem (l : List Vrp) (p : Pfx) (u : Vrp) : u ∈ coversP l p ↔ u ∈ l ∧ oneB u = true ∧ coversB u.p p = true := by
 unfold coversP
 rw [List.mem_filter, row_mem, and_assoc]
theorem cov_ris (l : List Vrp) (p : Pfx) : Ris (coversP l p) := List.Pairwise.filter _ (row_ris l)
theorem sortV_ris {l : List Vrp} (h : l.Nodup) : Ris (sortV l) := by
 have hs := List.pairwise_mergeSort (le := fun x y => !(ltOf cmpV) y x) (fun a b c h1 h2 => by
  rw [ltV] at *
  simp at *
  by_cases e : cmpV c a < 0
  ·exfalso
   have a1 := cmpV_neg a b
   have a2 := cmpV_neg b c
   by_cases e1 : cmpV b a = 0
   ·have := cmpV_eq.1 e1; subst this; omega
   by_cases e2 : cmpV c b = 0
   ·have := cmpV_eq.1 e2; subst this; omega
   have a3 := cmpV_trans (a := a) (b := b) (c := c) (by omega) (by omega)
   have a4 := cmpV_neg a c
   omega
  ·omega) (fun a b => by
  rw [ltV, ltV]
  simp
  have := cmpV_neg a b
  omega) l
 have hn : (sortV l).Nodup := (List.mergeSort_perm l _).nodup_iff.2 h
 unfold Ris
 have hs2 : (sortV l).Pairwise (fun a b => (!(ltOf cmpV) b a) = true) := hs
 refine List.Pairwise.imp₂ ?_ hs2 hn
 intro a b h1 h2
 rw [ltV] at h1
 simp at h1
 have := cmpV_neg a b
 have h3 : cmpV a b ≠ 0 := fun e => h2 (cmpV_eq.1 e)
 omega
theorem sortV_mem (l : List Vrp) (u : Vrp) : u ∈ sortV l ↔ u ∈ l := (List.mergeSort_perm l _).mem_iff
theorem sort_tcov (l : List Vrp) (p : Pfx) : sortV (tcov l p) = coversP l p :=
 ris_ext (sortV_ris (tcov_nodup l p)) (cov_ris l p) (fun u => by rw [sortV_mem, tcov_mem, cov_mem])
theorem answer_congr {c c' : List Vrp} (h : ∀ u, u ∈ c ↔ u ∈ c') (p : Pfx) (an : Int) : answerP c p an = answerP c' p an := by
 have h1 : c.any (hitB p an) = c'.any (hitB p an) := by
  rw [Bool.eq_iff_iff, List.any_eq_true, List.any_eq_true]
  exact ⟨fun ⟨u, hu, hh⟩ => ⟨u, (h u).1 hu, hh⟩, fun ⟨u, hu, hh⟩ => ⟨u, (h u).2 hu, hh⟩⟩
 have h2 : 0 < c.length ↔ 0 < c'.length := by
  rw [List.length_pos_iff_exists_mem, List.length_pos_iff_exists_mem]
  exact ⟨fun ⟨u, hu⟩ => ⟨u, (h u).1 hu⟩, fun ⟨u, hu⟩ => ⟨u, (h u).2 hu⟩⟩
 unfold answerP
 rw [h1]
 simp only [h2]
theorem ans_tcov (l : List Vrp) (p : Pfx) (an : Int) : answerP (tcov l p) p an = answerP (coversP l p) p an :=
 answer_congr (fun u => by rw [tcov_mem, cov_mem]) p an
theorem vis_len (l : List Vrp) (p : Pfx) : (visP (accP l) p).length ≤ l.length :=
 Nat.le_trans ((visL_nodup (acc_nodup l) p _).length_le_of_subset (fun u hu => ((visL_mem _ _ _ u).1 hu).1)) (acc_len l)
end Go.Proofs.Ytllahlgnjeeliaa.Ad
end

section
set_option linter.unusedVariables false
set_option linter.unusedSimpArgs false
namespace Go.Proofs.Ytllahlgnjeeliaa.Ad
open Go.RowKit Go.Proofs.YtllahlgnjeeliaaW.PrintWords Go.Proofs.YtllahlgnjeeliaaW.PrintLast Go.Proofs.YtllahlgnjeeliaaW.PrintMore Go.Proofs.Ytllahlgnjeeliaa.PT

def a10 : A16 := ⟨[10, 0, 0, 0, 0, 0, 0, 0, 0, 0, 0, 0, 0, 0, 0, 0], rfl, by decide⟩
def a101 : A16 := ⟨[10, 1, 0, 0, 0, 0, 0, 0, 0, 0, 0, 0, 0, 0, 0, 0], rfl, by decide⟩
def vten (an : Int) : Vrp := ⟨an, ⟨false, a10, 8⟩, 24⟩
def p16 : Pfx := ⟨false, a101, 16⟩
def p0 : Pfx := ⟨false, z16, 0⟩

set_option maxHeartbeats 1000000 in
set_option maxRecDepth 100000 in
theorem ten_walk (an : Int) (w : World) : Calls Try.prog 19 #[.int .u32 an] w fun e w' => e = .returned (.agg (vten an).arr) ∧ Below w.heap.size w w' := by
 go_enter Try.func19, Try.ntmps19
 go_upto_region 1 with (fail)
 change Code.wp _ _ _ _ (w.alloc (.cells zV.arr 39))
 have h0 := Has.new w zV.arr 39
 have hB : Below w.heap.size w (w.alloc (.cells zV.arr 39)) := (Below.refl _ _).alloc (Nat.le_refl _) _
 generalize w.alloc (.cells zV.arr 39) = W at h0 hB ⊢
 refine wp_region_lit ?_
 refine valL rfl (v := .int .u32 an) (w1 := W) (by go_simp; try rfl) ?_
 refine valL rfl (v := .agg a10.arr) (w1 := W) (by kernel_rfl) ?_
 refine valL rfl (v := .agg (⟨false, a10, 8⟩ : Pfx).arr) (w1 := W) (by kernel_rfl) ?_
 refine valL rfl (v := .agg (vten an).arr) (w1 := W) (by kernel_rfl) ?_
 refine wpList_store_row rfl 39 (.tmp 2) (.tmp 6) rfl w.heap.size (vten an).arr rfl rfl 39 zV.arr h0 (by rw [Vrp.arr_size]; exact infoV) (by rw [Vrp.arr_size, Vrp.arr_size]) (Vrp.arr_one _) ?_
 have v0 : Has (W.setRow w.heap.size (vten an).arr) w.heap.size (vten an).arr 39 := setRow_heap W _ _ _ _ _ h0
 have v3 := below_setRow hB (g := w.heap.size) (Nat.le_refl _) (vten an).arr
 generalize W.setRow w.heap.size (vten an).arr = wc at v0 v3 ⊢
 refine wpList_nil ?_
 go_wp2
 refine bodyPost_ret (v := .agg (vten an).arr) ?_ rfl ⟨rfl, v3⟩
 exact results_cell_row (P := Try.prog) (p := 2) (ty := 39) Try.results19 _ _ w.heap.size 39 (vten an).arr (0, 0) _ rfl v0 Try.underlying39 rfl (by rw [Vrp.arr_size]; exact infoV)

/-- A trie of a list. -/
def TrieOf (w : World) (t : Nat) (l : List Vrp) : Prop := ∃ base N H, TN w base t N H (accP l).length (accP l)
theorem TrieOf.below {w w' : World} {t : Nat} {l : List Vrp} (h : TrieOf w t l) (hB : Below w.heap.size w w') : TrieOf w' t l := by
 obtain ⟨b, N, H, hT⟩ := h
 exact ⟨b, N, H, hT.below hB⟩
theorem answerL {w : World} {t : Nat} {l : List Vrp} (h : TrieOf w t l) (hl : l.length ≤ 1000000) (p : Pfx) (an : Int) : Calls Try.prog 12 #[.pointer (some ⟨t, 0, none⟩), .agg p.arr, .int .u32 an] w fun e w' => e = .returned (.int .i64 (answerP (coversP l p) p an)) ∧ Below w.heap.size w w' := by
 obtain ⟨b, N, H, hT⟩ := h
 have := answer_walk b t _ N H (accP l) p an w hT (by have := acc_len l; omega)
 rw [show (if rightB p = true then visP (accP l) p else []) = tcov l p from rfl, ans_tcov] at this
 exact this
theorem coversL {w : World} {t : Nat} {l : List Vrp} (h : TrieOf w t l) (hl : l.length ≤ 1000000) (p : Pfx) : Calls Try.prog 10 #[.pointer (some ⟨t, 0, none⟩), .agg p.arr] w fun e w' => CovR w (coversP l p) e w' := by
 obtain ⟨b, N, H, hT⟩ := h
 have := covers_walk b t _ N H (accP l) p w hT (by have := vis_len l p; omega) (by have := acc_len l; omega)
 rw [show (if rightB p = true then visP (accP l) p else []) = tcov l p from rfl, sort_tcov] at this
 exact this
theorem lenL {w : World} {t : Nat} {l : List Vrp} (h : TrieOf w t l) : Calls Try.prog 14 #[.pointer (some ⟨t, 0, none⟩)] w fun e w' => e = .returned (.int .i64 (rowP l).length) ∧ w' = w := by
 obtain ⟨b, N, H, hT⟩ := h
 have := len_walk hT
 rwa [acc_row_len] at this
def NewL (w : World) (l : List Vrp) (e : Ending) (w' : World) : Prop := ∃ t, e = .returned (.pointer (some ⟨t, 0, none⟩)) ∧ TrieOf w' t l ∧ Below w.heap.size w w'
theorem newL (A : Option Addr) (c : Nat) (l : List Vrp) (w : World) (h : kV.C w A l.length l) (hl : l.length * 48 ≤ 140737488351232) : Calls Try.prog 8 #[.slice A l.length c] w fun e w' => NewL w l e w' :=
 (new_walk A c l w h hl).mono fun _ _ ⟨t, he, ⟨N, H, hT⟩, hB⟩ => ⟨t, he, ⟨_, N, H, hT⟩, hB⟩
/-- A variable that is a prefix: made, and laid. -/
theorem alloc_storeP {ops : Array Oper} {rest : List Oper} {a : Act} {W : World} {Q : Exit → Act → World → Prop} {n x : Tmp} {ty ty' : TypeId} {pos pos' : String} {af af' : Array Edge} (v : Pfx)
 (hx : (a.put (some n) (.pointer (some ⟨W.heap.size, 0, none⟩))).eval (.tmp x) = .agg v.arr) (hn : (a.put (some n) (.pointer (some ⟨W.heap.size, 0, none⟩))).eval (.tmp n) = .pointer (some ⟨W.heap.size, 0, none⟩))
 (h : wpList Try.prog ops Q rest (a.put (some n) (.pointer (some ⟨W.heap.size, 0, none⟩))) (W.alloc (.cells v.arr 25))) :
 wpList Try.prog ops Q (⟨some n, .alloc 25, ty, pos, af, none⟩ :: ⟨none, .store 25 (.tmp n) (.tmp x), ty', pos', af', none⟩ :: rest) a W := by
 refine valL rfl (v := .pointer (some ⟨W.heap.size, 0, none⟩)) (w1 := W.alloc (.cells zP.arr 25)) (by kernel_rfl) ?_
 refine wpList_store_row rfl 25 (.tmp n) (.tmp x) rfl W.heap.size v.arr hn hx 25 zP.arr (Has.new W zP.arr _) (by rw [v.arr_size]; exact infoP) (by rw [v.arr_size, zP.arr_size]) v.arr_one ?_
 rw [setRow_alloc]
 exact h

theorem aw1 : answerP (coversP [vten 7] p16) p16 7 = 2 := by decide +kernel
theorem aw2 : answerP (coversP [vten 7] p16) p16 8 = 1 := by decide +kernel
theorem aw3 : answerP (coversP [vten 7] p0) p0 7 = 0 := by decide +kernel
theorem aw4 : (coversP [vten 7] p16).length = 1 := by decide +kernel

set_option maxHeartbeats 2000000 in
set_option maxRecDepth 100000 in
theorem awake_walk (w : World) : Calls Try.prog 7 #[] w fun e w' => e = .returned (.bool true) ∧ Below w.heap.size w w' := by
 go_enter Try.func7, Try.ntmps7
 go_wp2_with fail
 refine (ten_walk 7 w).mono ?_
 rintro e w1 ⟨rfl, hB1⟩
 have HB1 := Lib.hid hB1
 clear hB1
 have HC := Lib.hid (C_one (Has.new w1 (vten 7).arr 39))
 have HB2 := Lib.hid (HB1.out.alloc HB1.out.size (.cells (vten 7).arr 39))
 go_wp2_with ((with_reducible refine at_dst 4 ?_); refine valL rfl (exec_buildV (vten 7) rfl _) ?_; generalize hg : w1.heap.size = g1 at HC ⊢; generalize hw : w1.alloc (.cells (vten 7).arr 39) = w2 at HC HB2 ⊢; clear hg hw HB1)
 refine (newL (some ⟨g1, 0, none⟩) 1 [vten 7] w2 HC.out (by decide)).mono ?_
 rintro e w3 ⟨t, rfl, hT, hB⟩
 have HB3 := Lib.hid (HB2.out.trans (hB.mono HB2.out.size))
 have HT := Lib.hid hT
 clear hT hB HB2 HC
 have HP0 := Lib.hid (Has.new w3 p16.arr 25)
 have HT0 := Lib.hid (HT.out.below ((Below.refl _ _).alloc (Nat.le_refl _) (.cells p16.arr 25)))
 have HB0 := Lib.hid (HB3.out.alloc HB3.out.size (.cells p16.arr 25))
 go_wp2_with (first
  | ((with_reducible refine at_dst 8 ?_); refine valL rfl (v := .agg a101.arr) (w1 := _) (by kernel_rfl) ?_)
  | ((with_reducible refine at_dst 9 ?_); refine valL rfl (v := .agg p16.arr) (w1 := _) (by kernel_rfl) ?_)
  | ((with_reducible refine at_dst 2 ?_); refine alloc_storeP p16 rfl rfl ?_; generalize hg : w3.heap.size = g at HP0 ⊢; generalize hw : w3.alloc (.cells p16.arr 25) = w4 at HP0 HT0 HB0 ⊢; clear hg hw HB3 HT)
  | ((with_reducible refine at_dst 11 ?_); refine loadP p16 g 0 rfl HP0.out.rp ?_))
 refine (answerL HT0.out (by decide) p16 7).mono ?_
 rintro e w5 ⟨rfl, hB5⟩
 rw [aw1]
 have HP5 := Lib.hid (HP0.out.below hB5)
 have HT5 := Lib.hid (HT0.out.below hB5)
 have HB5 := Lib.hid (HB0.out.trans (hB5.mono HB0.out.size))
 clear hB5 HP0 HT0 HB0
 go_wp2_with ((with_reducible refine at_dst 16 ?_); refine gate_guard (by rfl) ?_; refine loadP p16 g 0 rfl HP5.out.rp ?_)
 refine (answerL HT5.out (by decide) p16 8).mono ?_
 rintro e w6 ⟨rfl, hB6⟩
 rw [aw2]
 have HP6 := Lib.hid (HP5.out.below hB6)
 have HT6 := Lib.hid (HT5.out.below hB6)
 have HB6 := Lib.hid (HB5.out.trans (hB6.mono HB5.out.size))
 clear hB6 HP5 HT5 HB5
 go_wp2_with ((with_reducible refine at_dst 22 ?_); refine gate_guard (by rfl) ?_; refine valL rfl (v := .agg p0.arr) (w1 := _) (by kernel_rfl) ?_)
 refine (answerL HT6.out (by decide) p0 7).mono ?_
 rintro e w7 ⟨rfl, hB7⟩
 rw [aw3]
 have HP7 := Lib.hid (HP6.out.below hB7)
 have HT7 := Lib.hid (HT6.out.below hB7)
 have HB7 := Lib.hid (HB6.out.trans (hB7.mono HB6.out.size))
 clear hB7 HP6 HT6 HB6
 go_wp2_with ((with_reducible refine at_dst 28 ?_); refine gate_guard (by rfl) ?_; refine loadP p16 g 0 rfl HP7.out.rp ?_)
 refine (coversL HT7.out (by decide) p16).mono ?_
 rintro e w8 ⟨A, c, rfl, hc, hC, hB8⟩
 have hl := aw4
 rw [hl]
 have HB8 := Lib.hid (HB7.out.trans (hB8.mono HB7.out.size))
 clear hB8 hC hc hl HB7
 go_wp2
 go_ret
 exact ⟨rfl, HB8.out⟩

end Go.Proofs.Ytllahlgnjeeliaa.Ad
end

section
set_option linter.unusedVariables false
set_option linter.unusedSimpArgs false
namespace Go.Proofs.Ytllahlgnjeeliaa.Ad
open Go.RowKit Go.Proofs.YtllahlgnjeeliaaW.PrintWords Go.Proofs.YtllahlgnjeeliaaW.PrintLast Go.Proofs.YtllahlgnjeeliaaW.PrintMore Go.Proofs.Ytllahlgnjeeliaa.PT

/-- What stays in a law: the prefix's block, a trie, the list that came in. -/
def TS (w : World) (g t : Nat) (A : Option Addr) (l : List Vrp) (p : Pfx) (W : World) : Prop := Has W g p.arr 25 ∧ TrieOf W t l ∧ kV.C W A l.length l ∧ Below w.heap.size w W
theorem TS.step {w W W1 : World} {g t : Nat} {A : Option Addr} {l : List Vrp} {p : Pfx} (h : TS w g t A l p W) (hB : Below W.heap.size W W1) : TS w g t A l p W1 :=
 ⟨h.1.below hB, h.2.1.below hB, Kd.C_below h.2.2.1 hB, h.2.2.2.trans (hB.mono h.2.2.2.size)⟩

set_option maxHeartbeats 4000000 in
set_option maxRecDepth 100000 in
theorem tells_any (A : Option Addr) (c : Nat) (l : List Vrp) (p : Pfx) (an : Int) (w : World) (hC : kV.C w A l.length l) (hl : l.length * 48 ≤ 140737488351232) :
 Calls Try.prog 3 #[.slice A l.length c, .agg p.arr, .int .u32 an] w fun e w' => e = .returned (.bool true) ∧ Below w.heap.size w w' := by
 have H0 := HB.new w p.arr 25
 have HC0 := Lib.hid (Kd.C_below hC ((Below.refl _ _).alloc (Nat.le_refl _) (.cells p.arr 25)))
 clear hC
 go_enter Try.func3, Try.ntmps3
 go_upto_region 1 with (fail)
 generalize w.alloc (.cells p.arr 25) = W at H0 HC0 ⊢
 have HH := Lib.hid H0
 clear H0
 go_wp2_with fail
 refine (awake_walk W).mono ?_
 rintro e w1 ⟨rfl, hB1⟩
 have HC1 := Lib.hid (Kd.C_below HC0.out hB1)
 have HH1 := Lib.hid (HH.out.step hB1 (Nat.le_refl _))
 clear hB1 HC0 HH
 go_wp2_with fail
 refine (newL A c l w1 HC1.out hl).mono ?_
 rintro e w2 ⟨t, rfl, hT, hB2⟩
 have HT2 : Hid (TS w w.heap.size t A l p w2) := Lib.hid ⟨HH1.out.1.below hB2, hT, Kd.C_below HC1.out hB2, HH1.out.2.trans (hB2.mono HH1.out.2.size)⟩
 clear hB2 hT HC1 HH1
 by_cases hlen : 200 < l.length
 ·have hd1 : decide (200 < l.length) = true := decide_eq_true hlen
  have hd2 : decide ((200 : Int) < (l.length : Int)) = true := decide_eq_true (by omega)
  go_wp2
  go_ret
  exact ⟨rfl, HT2.out.2.2.2⟩
 have hd1 : decide (200 < l.length) = false := decide_eq_false hlen
 have hd2 : decide ((200 : Int) < (l.length : Int)) = false := decide_eq_false (by omega)
 go_wp2
 clear hd1 hd2
 have hs := Lib.hid (HT2.out.step (show Below w2.heap.size w2 w2.drew from (Below.refl _ _).drew))
 have hl6 : l.length ≤ 400000 := by omega
 refine start_ (n := 8) (S := TS w w.heap.size t A l p) (ds := []) #[false, false, false, false, false, false, false, false] (by kernel_rfl) rfl rfl hs.out (fun hHeld => ?_)
 refine pure_ (i := 0) (N := some 25) (v := ?_) (a' := ?_) #[true, false, false, false, false, false, false, false] rfl rfl (by kernel_rfl) (fun _ _ _ h => h) (Or.inl ⟨by rfl, ?_⟩) ?_ ?_
 rotate_left
 ·intro w'
  go_simp
  with_reducible rfl
 rotate_left
 ·simp only [Act.put, List.setIfInBounds_toArray, List.set_cons_zero, List.set_cons_succ, i64_w, i32_w]
  rfl
 refine pure_ (i := 3) (N := some 28) (v := ?_) (a' := ?_) #[true, false, false, true, false, false, false, false] rfl rfl (by kernel_rfl) (fun _ _ _ h => h) (Or.inl ⟨by rfl, ?_⟩) ?_ ?_
 rotate_left
 ·intro w'
  go_simp
  with_reducible rfl
 rotate_left
 ·simp only [Act.put, List.setIfInBounds_toArray, List.set_cons_zero, List.set_cons_succ, i64_w, i32_w]
  rfl
 refine take_ (i := 1) (N := some 26) (v := .agg p.arr) (a' := ?_) #[true, true, false, true, false, false, false, false] rfl rfl (by kernel_rfl) (fun _ _ _ h => h) ?_ hHeld ?_ ?_
 ·exact yP (by rfl) rfl p w.heap.size 0 rfl (fun W h => h.1.rp)
 rotate_left
 ·simp only [Act.put, List.setIfInBounds_toArray, List.set_cons_zero, List.set_cons_succ, i64_w, i32_w]
  rfl
 refine take_ (i := 4) (N := some 29) (v := .agg p.arr) (a' := ?_) #[true, true, false, true, true, false, false, false] rfl rfl (by kernel_rfl) (fun _ _ _ h => h) ?_ hHeld ?_ ?_
 ·exact yP (by rfl) rfl p w.heap.size 0 rfl (fun W h => h.1.rp)
 rotate_left
 ·simp only [Act.put, List.setIfInBounds_toArray, List.set_cons_zero, List.set_cons_succ, i64_w, i32_w]
  rfl
 refine one_ (i := 2) (N := some 27) #[true, true, true, true, true, false, false, false] rfl rfl (by kernel_rfl) (by decide) (fun K hK => ?_)
 refine goes_ Try.func10 (by kernel_rfl) rfl #[.pointer (some ⟨t, 0, none⟩), .agg p.arr] (by rfl) rfl rfl (by (try simp only [List.map_toArray, List.map_cons, List.map_nil]); first | done | rfl) ?_
 refine (coversL hHeld.2.1 (by omega) p).mono ?_
 rintro e w3 ⟨A1, c1, rfl, hc1, hC1, hB⟩
 refine ⟨_, rfl, ?_⟩
 have HC1 := Lib.hid hC1
 clear hc1 hC1
 refine hK.out _ _ (TS.step hHeld hB) (fun hHeld => ?_)
 clear hK K
 refine norm_ (a' := ?_) ?_ ?_
 rotate_left
 ·show Act.put _ (some 27) _ = _
  simp only [Act.put, List.setIfInBounds_toArray, List.set_cons_zero, List.set_cons_succ, i64_w, i32_w]
  rfl
 refine one_ (i := 5) (N := some 30) #[true, true, true, true, true, true, false, false] rfl rfl (by kernel_rfl) (by decide) (fun K hK => ?_)
 refine goes_ Try.func11 (by kernel_rfl) rfl #[.slice A l.length c, .agg p.arr] (by rfl) rfl rfl (by (try simp only [List.map_toArray, List.map_cons, List.map_nil]); first | done | rfl) ?_
 refine (refCoversL_walk A c l p _ hHeld.2.2.1 hl6).mono ?_
 rintro e w4 ⟨v4, rfl, hR4, hB4⟩
 obtain ⟨A2, c2, e2, hc2, hC2⟩ := Kd.R_reads hR4
 subst e2
 refine ⟨_, rfl, ?_⟩
 have HS2 := Lib.hid (And.intro hC2 (Kd.C_below HC1.out hB4))
 clear hR4 hc2 hC2
 refine hK.out _ _ (TS.step hHeld hB4) (fun hHeld => ?_)
 clear hK K
 refine norm_ (a' := ?_) ?_ ?_
 rotate_left
 ·show Act.put _ (some 30) _ = _
  simp only [Act.put, List.setIfInBounds_toArray, List.set_cons_zero, List.set_cons_succ, i64_w, i32_w]
  rfl
 refine one_ (i := 6) (N := some 31) #[true, true, true, true, true, true, true, false] rfl rfl (by kernel_rfl) (by decide) (fun K hK => ?_)
 refine goes_ Try.func9 (by kernel_rfl) rfl #[.slice A1 (coversP l p).length c1, .slice A2 (coversP l p).length c2] (by rfl) rfl rfl (by (try simp only [List.map_toArray, List.map_cons, List.map_nil]); first | done | rfl) ?_
 refine (same_walk A1 c1 (coversP l p) A2 c2 (coversP l p) _ HS2.out.2 HS2.out.1 (by have : (coversP l p).length ≤ (rowP l).length := List.length_filter_le _ _; have := row_len l []; simp [rowP] at *; omega) (by have : (coversP l p).length ≤ (rowP l).length := List.length_filter_le _ _; have := row_len l []; simp [rowP] at *; omega)).mono ?_
 rintro e w5 ⟨rfl, hG5⟩
 rw [show sameL (coversP l p) (coversP l p) = true from decide_eq_true rfl]
 refine ⟨_, rfl, ?_⟩
 refine hK.out _ _ (TS.step hHeld hG5.below) (fun hHeld => ?_)
 clear hK K
 refine norm_ (a' := ?_) ?_ ?_
 rotate_left
 ·show Act.put _ (some 31) _ = _
  simp only [Act.put, List.setIfInBounds_toArray, List.set_cons_zero, List.set_cons_succ, i64_w, i32_w]
  rfl
 refine pure_ (i := 7) (N := some 9) (v := ?_) (a' := ?_) #[true, true, true, true, true, true, true, true] rfl rfl (by kernel_rfl) (fun _ _ _ h => h) (Or.inl ⟨by rfl, ?_⟩) ?_ ?_
 rotate_left
 ·intro w'
  go_simp
  with_reducible rfl
 rotate_left
 ·simp only [Act.put, List.setIfInBounds_toArray, List.set_cons_zero, List.set_cons_succ, i64_w, i32_w]
  rfl
 refine done_ (by kernel_rfl) ?_
 have HT5 := Lib.hid hHeld
 clear hHeld hs HT2 HS2 HC1
 go_wp2
 have hs := Lib.hid (HT5.out.step (show Below w5.heap.size w5 w5.drew from (Below.refl _ _).drew))
 obtain ⟨r, hr⟩ : ∃ r, r = answerP (coversP l p) p an := ⟨_, rfl⟩
 have HR := Lib.hid hr
 clear hr
 refine start_ (n := 24) (S := TS w w.heap.size t A l p) (ds := []) #[false, false, false, false, false, false, false, false, false, false, false, false, false, false, false, false, false, false, false, false, false, false, false, false] (by kernel_rfl) rfl rfl hs.out (fun hHeld => ?_)
 refine pure_ (i := 0) (N := some 32) (v := ?_) (a' := ?_) #[true, false, false, false, false, false, false, false, false, false, false, false, false, false, false, false, false, false, false, false, false, false, false, false] rfl rfl (by kernel_rfl) (fun _ _ _ h => h) (Or.inl ⟨by rfl, ?_⟩) ?_ ?_
 rotate_left
 ·intro w'
  go_simp
  with_reducible rfl
 rotate_left
 ·simp only [Act.put, List.setIfInBounds_toArray, List.set_cons_zero, List.set_cons_succ, i64_w, i32_w]
  rfl
 refine pure_ (i := 1) (N := some 33) (v := ?_) (a' := ?_) #[true, true, false, false, false, false, false, false, false, false, false, false, false, false, false, false, false, false, false, false, false, false, false, false] rfl rfl (by kernel_rfl) (fun _ _ _ h => h) (Or.inl ⟨by rfl, ?_⟩) ?_ ?_
 rotate_left
 ·intro w'
  go_simp
  with_reducible rfl
 rotate_left
 ·simp only [Act.put, List.setIfInBounds_toArray, List.set_cons_zero, List.set_cons_succ, i64_w, i32_w]
  rfl
 refine pure_ (i := 2) (N := some 34) (v := ?_) (a' := ?_) #[true, true, true, false, false, false, false, false, false, false, false, false, false, false, false, false, false, false, false, false, false, false, false, false] rfl rfl (by kernel_rfl) (fun _ _ _ h => h) (Or.inl ⟨by rfl, ?_⟩) ?_ ?_
 rotate_left
 ·intro w'
  go_simp
  with_reducible rfl
 rotate_left
 ·simp only [Act.put, List.setIfInBounds_toArray, List.set_cons_zero, List.set_cons_succ, i64_w, i32_w]
  rfl
 refine pure_ (i := 3) (N := some 35) (v := ?_) (a' := ?_) #[true, true, true, true, false, false, false, false, false, false, false, false, false, false, false, false, false, false, false, false, false, false, false, false] rfl rfl (by kernel_rfl) (fun _ _ _ h => h) (Or.inl ⟨by rfl, ?_⟩) ?_ ?_
 rotate_left
 ·intro w'
  go_simp
  with_reducible rfl
 rotate_left
 ·simp only [Act.put, List.setIfInBounds_toArray, List.set_cons_zero, List.set_cons_succ, i64_w, i32_w]
  rfl
 refine pure_ (i := 4) (N := some 36) (v := ?_) (a' := ?_) #[true, true, true, true, true, false, false, false, false, false, false, false, false, false, false, false, false, false, false, false, false, false, false, false] rfl rfl (by kernel_rfl) (fun _ _ _ h => h) (Or.inl ⟨by rfl, ?_⟩) ?_ ?_
 rotate_left
 ·intro w'
  go_simp
  with_reducible rfl
 rotate_left
 ·simp only [Act.put, List.setIfInBounds_toArray, List.set_cons_zero, List.set_cons_succ, i64_w, i32_w]
  rfl
 refine pure_ (i := 5) (N := some 37) (v := ?_) (a' := ?_) #[true, true, true, true, true, true, false, false, false, false, false, false, false, false, false, false, false, false, false, false, false, false, false, false] rfl rfl (by kernel_rfl) (fun _ _ _ h => h) (Or.inl ⟨by rfl, ?_⟩) ?_ ?_
 rotate_left
 ·intro w'
  go_simp
  with_reducible rfl
 rotate_left
 ·simp only [Act.put, List.setIfInBounds_toArray, List.set_cons_zero, List.set_cons_succ, i64_w, i32_w]
  rfl
 refine pure_ (i := 7) (N := some 39) (v := ?_) (a' := ?_) #[true, true, true, true, true, true, false, true, false, false, false, false, false, false, false, false, false, false, false, false, false, false, false, false] rfl rfl (by kernel_rfl) (fun _ _ _ h => h) (Or.inl ⟨by rfl, ?_⟩) ?_ ?_
 rotate_left
 ·intro w'
  go_simp
  with_reducible rfl
 rotate_left
 ·simp only [Act.put, List.setIfInBounds_toArray, List.set_cons_zero, List.set_cons_succ, i64_w, i32_w]
  rfl
 refine pure_ (i := 9) (N := some 41) (v := ?_) (a' := ?_) #[true, true, true, true, true, true, false, true, false, true, false, false, false, false, false, false, false, false, false, false, false, false, false, false] rfl rfl (by kernel_rfl) (fun _ _ _ h => h) (Or.inl ⟨by rfl, ?_⟩) ?_ ?_
 rotate_left
 ·intro w'
  go_simp
  with_reducible rfl
 rotate_left
 ·simp only [Act.put, List.setIfInBounds_toArray, List.set_cons_zero, List.set_cons_succ, i64_w, i32_w]
  rfl
 refine pure_ (i := 11) (N := some 43) (v := ?_) (a' := ?_) #[true, true, true, true, true, true, false, true, false, true, false, true, false, false, false, false, false, false, false, false, false, false, false, false] rfl rfl (by kernel_rfl) (fun _ _ _ h => h) (Or.inl ⟨by rfl, ?_⟩) ?_ ?_
 rotate_left
 ·intro w'
  go_simp
  with_reducible rfl
 rotate_left
 ·simp only [Act.put, List.setIfInBounds_toArray, List.set_cons_zero, List.set_cons_succ, i64_w, i32_w]
  rfl
 refine take_ (i := 6) (N := some 38) (v := .agg p.arr) (a' := ?_) #[true, true, true, true, true, true, true, true, false, true, false, true, false, false, false, false, false, false, false, false, false, false, false, false] rfl rfl (by kernel_rfl) (fun _ _ _ h => h) ?_ hHeld ?_ ?_
 ·exact yP (by rfl) rfl p w.heap.size 0 rfl (fun W h => h.1.rp)
 rotate_left
 ·simp only [Act.put, List.setIfInBounds_toArray, List.set_cons_zero, List.set_cons_succ, i64_w, i32_w]
  rfl
 refine take_ (i := 10) (N := some 42) (v := .agg p.arr) (a' := ?_) #[true, true, true, true, true, true, true, true, false, true, true, true, false, false, false, false, false, false, false, false, false, false, false, false] rfl rfl (by kernel_rfl) (fun _ _ _ h => h) ?_ hHeld ?_ ?_
 ·exact yP (by rfl) rfl p w.heap.size 0 rfl (fun W h => h.1.rp)
 rotate_left
 ·simp only [Act.put, List.setIfInBounds_toArray, List.set_cons_zero, List.set_cons_succ, i64_w, i32_w]
  rfl
 refine one_ (i := 8) (N := some 40) #[true, true, true, true, true, true, true, true, true, true, true, true, false, false, false, false, false, false, false, false, false, false, false, false] rfl rfl (by kernel_rfl) (by decide) (fun K hK => ?_)
 refine goes_ Try.func12 (by kernel_rfl) rfl #[.pointer (some ⟨t, 0, none⟩), .agg p.arr, .int .u32 an] (by rfl) rfl rfl (by (try simp only [List.map_toArray, List.map_cons, List.map_nil]); first | done | rfl) ?_
 refine (answerL hHeld.2.1 (by omega) p an).mono ?_
 rintro e w6 ⟨rfl, hB⟩
 rw [← HR.out]
 refine ⟨_, rfl, ?_⟩
 refine hK.out _ _ (TS.step hHeld hB) (fun hHeld => ?_)
 clear hK K
 refine norm_ (a' := ?_) ?_ ?_
 rotate_left
 ·show Act.put _ (some 40) _ = _
  simp only [Act.put, List.setIfInBounds_toArray, List.set_cons_zero, List.set_cons_succ, i64_w, i32_w]
  rfl
 refine one_ (i := 12) (N := some 44) #[true, true, true, true, true, true, true, true, true, true, true, true, true, false, false, false, false, false, false, false, false, false, false, false] rfl rfl (by kernel_rfl) (by decide) (fun K hK => ?_)
 refine goes_ Try.func13 (by kernel_rfl) rfl #[.slice A l.length c, .agg p.arr, .int .u32 an] (by rfl) rfl rfl (by (try simp only [List.map_toArray, List.map_cons, List.map_nil]); first | done | rfl) ?_
 refine (refAnswer_walk A c l p an _ hHeld.2.2.1 hl6).mono ?_
 rintro e w7 ⟨rfl, hB⟩
 rw [← HR.out]
 refine ⟨_, rfl, ?_⟩
 refine hK.out _ _ (TS.step hHeld hB) (fun hHeld => ?_)
 clear hK K
 refine norm_ (a' := ?_) ?_ ?_
 rotate_left
 ·show Act.put _ (some 44) _ = _
  simp only [Act.put, List.setIfInBounds_toArray, List.set_cons_zero, List.set_cons_succ, i64_w, i32_w]
  rfl
 refine pure_ (i := 13) (N := some 45) (v := ?_) (a' := ?_) #[true, true, true, true, true, true, true, true, true, true, true, true, true, true, false, false, false, false, false, false, false, false, false, false] rfl rfl (by kernel_rfl) (fun _ _ _ h => h) (Or.inl ⟨by rfl, ?_⟩) ?_ ?_
 rotate_left
 ·intro w'
  go_simp
  with_reducible rfl
 rotate_left
 ·simp only [Act.put, List.setIfInBounds_toArray, List.set_cons_zero, List.set_cons_succ, i64_w, i32_w]
  rfl
 refine pure_ (i := 14) (N := some 46) (v := ?_) (a' := ?_) #[true, true, true, true, true, true, true, true, true, true, true, true, true, true, true, false, false, false, false, false, false, false, false, false] rfl rfl (by kernel_rfl) (fun _ _ _ h => h) (Or.inl ⟨by rfl, ?_⟩) ?_ ?_
 rotate_left
 ·intro w'
  go_simp
  with_reducible rfl
 rotate_left
 ·simp only [Act.put, List.setIfInBounds_toArray, List.set_cons_zero, List.set_cons_succ, i64_w, i32_w]
  rfl
 refine pure_ (i := 15) (N := some 47) (v := ?_) (a' := ?_) #[true, true, true, true, true, true, true, true, true, true, true, true, true, true, true, true, false, false, false, false, false, false, false, false] rfl rfl (by kernel_rfl) (fun _ _ _ h => h) (Or.inl ⟨by rfl, ?_⟩) ?_ ?_
 rotate_left
 ·intro w'
  go_simp
  with_reducible rfl
 rotate_left
 ·simp only [Act.put, List.setIfInBounds_toArray, List.set_cons_zero, List.set_cons_succ, i64_w, i32_w]
  rfl
 refine pure_ (i := 16) (N := some 48) (v := ?_) (a' := ?_) #[true, true, true, true, true, true, true, true, true, true, true, true, true, true, true, true, true, false, false, false, false, false, false, false] rfl rfl (by kernel_rfl) (fun _ _ _ h => h) (Or.inl ⟨by rfl, ?_⟩) ?_ ?_
 rotate_left
 ·intro w'
  go_simp
  with_reducible rfl
 rotate_left
 ·simp only [Act.put, List.setIfInBounds_toArray, List.set_cons_zero, List.set_cons_succ, i64_w, i32_w]
  rfl
 refine pure_ (i := 18) (N := some 50) (v := ?_) (a' := ?_) #[true, true, true, true, true, true, true, true, true, true, true, true, true, true, true, true, true, false, true, false, false, false, false, false] rfl rfl (by kernel_rfl) (fun _ _ _ h => h) (Or.inl ⟨by rfl, ?_⟩) ?_ ?_
 rotate_left
 ·intro w'
  go_simp
  with_reducible rfl
 rotate_left
 ·simp only [Act.put, List.setIfInBounds_toArray, List.set_cons_zero, List.set_cons_succ, i64_w, i32_w]
  rfl
 refine one_ (i := 17) (N := some 49) #[true, true, true, true, true, true, true, true, true, true, true, true, true, true, true, true, true, true, true, false, false, false, false, false] rfl rfl (by kernel_rfl) (by decide) (fun K hK => ?_)
 refine goes_ Try.func14 (by kernel_rfl) rfl #[.pointer (some ⟨t, 0, none⟩)] (by rfl) rfl rfl (by (try simp only [List.map_toArray, List.map_cons, List.map_nil]); first | done | rfl) ?_
 refine (lenL hHeld.2.1).mono ?_
 rintro e w8 ⟨rfl, hw8⟩
 rw [hw8]
 refine ⟨_, rfl, ?_⟩
 refine hK.out _ _ hHeld (fun hHeld => ?_)
 clear hK K
 refine norm_ (a' := ?_) ?_ ?_
 rotate_left
 ·show Act.put _ (some 49) _ = _
  simp only [Act.put, List.setIfInBounds_toArray, List.set_cons_zero, List.set_cons_succ, i64_w, i32_w]
  rfl
 refine one_ (i := 19) (N := some 51) #[true, true, true, true, true, true, true, true, true, true, true, true, true, true, true, true, true, true, true, true, false, false, false, false] rfl rfl (by kernel_rfl) (by decide) (fun K hK => ?_)
 refine goes_ Try.func15 (by kernel_rfl) rfl #[.slice A l.length c] (by rfl) rfl rfl (by (try simp only [List.map_toArray, List.map_cons, List.map_nil]); first | done | rfl) ?_
 refine (row_walk A c l _ hHeld.2.2.1 hl6).mono ?_
 rintro e w9 ⟨v9, rfl, hR9, hB9⟩
 obtain ⟨A9, c9, e9⟩ := Kd.R_slice hR9
 subst e9
 refine ⟨_, rfl, ?_⟩
 refine hK.out _ _ (TS.step hHeld hB9) (fun hHeld => ?_)
 clear hK K
 refine norm_ (a' := ?_) ?_ ?_
 rotate_left
 ·show Act.put _ (some 51) _ = _
  simp only [Act.put, List.setIfInBounds_toArray, List.set_cons_zero, List.set_cons_succ, i64_w, i32_w]
  rfl
 refine pure_ (i := 20) (N := some 52) (v := ?_) (a' := ?_) #[true, true, true, true, true, true, true, true, true, true, true, true, true, true, true, true, true, true, true, true, true, false, false, false] rfl rfl (by kernel_rfl) (fun _ _ _ h => h) (Or.inl ⟨by rfl, ?_⟩) ?_ ?_
 rotate_left
 ·intro w'
  go_simp
  with_reducible rfl
 rotate_left
 ·simp only [Act.put, List.setIfInBounds_toArray, List.set_cons_zero, List.set_cons_succ, i64_w, i32_w]
  rfl
 refine pure_ (i := 21) (N := some 53) (v := ?_) (a' := ?_) #[true, true, true, true, true, true, true, true, true, true, true, true, true, true, true, true, true, true, true, true, true, true, false, false] rfl rfl (by kernel_rfl) (fun _ _ _ h => h) (Or.inl ⟨by rfl, ?_⟩) ?_ ?_
 rotate_left
 ·intro w'
  go_simp
  with_reducible rfl
 rotate_left
 ·simp only [Act.put, List.setIfInBounds_toArray, List.set_cons_zero, List.set_cons_succ, i64_w, i32_w]
  rfl
 refine pure_ (i := 22) (N := some 54) (v := ?_) (a' := ?_) #[true, true, true, true, true, true, true, true, true, true, true, true, true, true, true, true, true, true, true, true, true, true, true, false] rfl rfl (by kernel_rfl) (fun _ _ _ h => h) (Or.inl ⟨by rfl, ?_⟩) ?_ ?_
 rotate_left
 ·intro w'
  go_simp
  with_reducible rfl
 rotate_left
 ·simp only [Act.put, List.setIfInBounds_toArray, List.set_cons_zero, List.set_cons_succ, i64_w, i32_w]
  rfl
 refine pure_ (i := 23) (N := some 6) (v := ?_) (a' := ?_) #[true, true, true, true, true, true, true, true, true, true, true, true, true, true, true, true, true, true, true, true, true, true, true, true] rfl rfl (by kernel_rfl) (fun _ _ _ h => h) (Or.inl ⟨by rfl, ?_⟩) ?_ ?_
 rotate_left
 ·intro w'
  go_simp
  with_reducible rfl
 rotate_left
 ·simp only [Act.put, List.setIfInBounds_toArray, List.set_cons_zero, List.set_cons_succ, i64_w, i32_w]
  rfl
 refine done_ (by kernel_rfl) ?_
 go_wp2
 go_ret
 exact ⟨rfl, hHeld.2.2.2⟩

end Go.Proofs.Ytllahlgnjeeliaa.Ad
end

section
set_option linter.unusedVariables false
set_option linter.unusedSimpArgs false
namespace Go.Proofs.Ytllahlgnjeeliaa.Ad
open Go.ChangeShapes Go.WideShapes Go.Deep Go.RowKit Go.Proofs.YtllahlgnjeeliaaW.PrintWords Go.Proofs.YtllahlgnjeeliaaW.PrintLast Go.Proofs.YtllahlgnjeeliaaW.PrintMore Go.Proofs.Ytllahlgnjeeliaa.PT

theorem listedV {α : Type} {Q : Nat → α → Prop} : ∀ (n : Nat), (∀ i, i < n → ∃ x, Q i x) → ∃ l : List α, l.length = n ∧ ∀ i x, l[i]? = some x → Q i x
 | 0, _ => ⟨[], rfl, fun i x h => by simp at h⟩
 | n + 1, h => by
  obtain ⟨l, hl, hq⟩ := listedV n (fun i hi => h i (by omega))
  obtain ⟨x, hx⟩ := h n (by omega)
  refine ⟨l ++ [x], by simp [hl], fun i y hy => ?_⟩
  by_cases hi : i < n
  ·rw [List.getElem?_append_left (by omega)] at hy
   exact hq i y hy
  ·rw [List.getElem?_append_right (by omega)] at hy
   have : i - l.length = 0 := by
    by_cases h0 : i - l.length = 0
    ·exact h0
    ·rw [List.getElem?_eq_none (by simp; omega)] at hy
     cases hy
   rw [this] at hy
   simp at hy
   subst hy
   rw [show i = n by omega]
   exact hx
section
variable {H : Type} {enc : TypeId × Value → H} {w : World} {base : Nat} {held : Bool}
set_option maxRecDepth 100000 in
theorem openA_f {fuel : Nat} {cs : List Value} {x : DataW H × List MemPlace} (h : DataW.trod enc Try.prog w base (fun _ => true) held fuel 23 cs = some x) :
 ∃ a : A16, cs = a.cells := by
 obtain ⟨xs, n, hn, _, hl, hlen, hf⟩ := DataW.trod_array Try.underlying23 h
 have hl : cs.length = 16 := hl
 have c1 : Try.prog.cellsOf 5 = 1 := by kernel_rfl
 rw [c1] at hf
 obtain ⟨l, hll, hq⟩ := listedV (Q := fun i (m : Int) => (cs.drop (i * 1)).take 1 = [.int .u8 m] ∧ (Lit.int .u8 m).wf = true) 16 (fun i hi => by
  have hi' := hf i hi
  rw [List.getElem?_eq_getElem (by omega)] at hi'
  obtain ⟨m, e, _, b⟩ := DataW.trod_int Try.underlying5 hi'
  exact ⟨m, e, b⟩)
 refine ⟨⟨l, hll, fun x hx => ?_⟩, ?_⟩
 ·obtain ⟨j, hj⟩ := List.mem_iff_getElem?.1 hx
  have := (hq j x hj).2
  simp [Lit.wf, IntKind.min, IntKind.max, IntKind.signed, IntKind.bits] at this
  omega
 ·apply List.ext_getElem
  ·rw [hl, A16.cells_len]
  ·intro i h1 h2
   have := (hq i l[i] (List.getElem?_eq_getElem (by omega))).1
   rw [Nat.mul_one, List.drop_eq_getElem_cons h1, List.take_succ_cons, List.take_zero] at this
   injection this with this
   rw [this]
   simp [A16.cells]
set_option maxRecDepth 100000 in
theorem openP_f {fuel : Nat} {cs : List Value} {x : DataW H × List MemPlace} (h : DataW.trod enc Try.prog w base (fun _ => true) held fuel 25 cs = some x) :
 ∃ p : Pfx, cs = p.cells ∧ (Lit.int .i64 p.n).wf = true := by
 obtain ⟨xs, n, hn, _, hl, hlen, hf⟩ := DataW.trod_struct Try.underlying25 h
 have hl : cs.length = 18 := hl
 match xs, hlen with
 | [y0, y1, y2], _ =>
 have h0 := hf 0 _ rfl
 have h1 := hf 1 _ rfl
 have h2 := hf 2 _ rfl
 replace h0 : DataW.trod enc Try.prog w base (fun _ => true) held n 4 (cs.take 1) = some y0 := h0
 replace h1 : DataW.trod enc Try.prog w base (fun _ => true) held n 23 ((cs.drop 1).take 16) = some y1 := h1
 replace h2 : DataW.trod enc Try.prog w base (fun _ => true) held n 3 ((cs.drop 17).take 1) = some y2 := h2
 obtain ⟨b, e0, _⟩ := DataW.trod_bool Try.underlying4 h0
 obtain ⟨a, e1⟩ := openA_f h1
 obtain ⟨m, e2, _, wf⟩ := DataW.trod_int Try.underlying3 h2
 refine ⟨⟨b, a, m⟩, ?_, wf⟩
 have k1 : cs = cs.take 1 ++ ((cs.drop 1).take 16 ++ (cs.drop 17).take 1) := by
  rw [List.take_of_length_le (l := cs.drop 17) (by simp; omega), show cs.drop 17 = (cs.drop 1).drop 16 by rw [List.drop_drop], List.take_append_drop, List.take_append_drop]
 rw [k1, e0, e1, e2]
 rfl
set_option maxRecDepth 100000 in
theorem openW_f {fuel : Nat} {cs : List Value} {x : DataW H × List MemPlace} (h : DataW.trod enc Try.prog w base (fun _ => true) held fuel 39 cs = some x) :
 ∃ v : Vrp, cs = v.cells := by
 obtain ⟨xs, n, hn, _, hl, hlen, hf⟩ := DataW.trod_struct Try.underlying39 h
 have hl : cs.length = 20 := hl
 match xs, hlen with
 | [y0, y1, y2], _ =>
 have h0 := hf 0 _ rfl
 have h1 := hf 1 _ rfl
 have h2 := hf 2 _ rfl
 replace h0 : DataW.trod enc Try.prog w base (fun _ => true) held n 26 (cs.take 1) = some y0 := h0
 replace h1 : DataW.trod enc Try.prog w base (fun _ => true) held n 25 ((cs.drop 1).take 18) = some y1 := h1
 replace h2 : DataW.trod enc Try.prog w base (fun _ => true) held n 3 ((cs.drop 19).take 1) = some y2 := h2
 obtain ⟨b, e0, _, _⟩ := DataW.trod_int Try.underlying26 h0
 obtain ⟨p, e1, _⟩ := openP_f h1
 obtain ⟨m, e2, _, wf⟩ := DataW.trod_int Try.underlying3 h2
 refine ⟨⟨b, p, m⟩, ?_⟩
 have k1 : cs = cs.take 1 ++ ((cs.drop 1).take 18 ++ (cs.drop 19).take 1) := by
  rw [List.take_of_length_le (l := cs.drop 19) (by simp; omega), show cs.drop 19 = (cs.drop 1).drop 18 by rw [List.drop_drop], List.take_append_drop, List.take_append_drop]
 rw [k1, e0, e1, e2]
 rfl
/-- A prefix that came in. -/
theorem openP {r : Reach} {b0 : Nat} {v : Value} {d : DataW H} {p : List MemPlace} (hv : Value.okWide Try.prog w r b0 25 v) (h : DataW.Trod enc Try.prog w base (fun _ => true) held 25 v d p) :
 ∃ p : Pfx, v = .agg p.arr := by
 obtain ⟨cs, rfl, hsz⟩ := okWide_struct Try.underlying25 hv
 obtain ⟨fuel, hf⟩ := h
 obtain ⟨p, e, _⟩ := openP_f hf
 obtain ⟨l⟩ := cs
 have e : l = p.cells := e
 exact ⟨p, by rw [e]; rfl⟩
set_option maxRecDepth 100000 in
/-- A row that came in. -/
theorem openV {r : Reach} {b0 : Nat} {v : Value} {d : DataW H} {p : List MemPlace} {ts : List TypeId} {ds : List (DataW H)} {j : Nat}
 (hsz : (DataW.weightsEach Try.prog ts ds).all (· ≤ reachBytes) = true) (ht : ts[j]? = some 22) (hd : ds[j]? = some d)
 (hv : Value.okWide Try.prog w r b0 22 v) (h : DataW.Trod enc Try.prog w base (fun _ => true) held 22 v d p) :
 ∃ (A : Option Addr) (c : Nat) (l : List Vrp), v = .slice A l.length c ∧ kV.C w A l.length l ∧ l.length ≤ c ∧ l.length * 48 ≤ 140737488351232 := by
 obtain ⟨a, len, cap, rfl⟩ := okWide_slice Try.underlying22 hv
 obtain ⟨fuel, hf⟩ := h
 rcases DataW.trod_slice Try.underlying22 hf with ⟨hcs, _⟩ | ⟨a', len', cap', elems, rest, n2, hn2, hcs, hx, _, hle, hm, hel, hget, _, _⟩
 ·simp [Value.cells] at hcs
  obtain ⟨rfl, rfl, rfl⟩ := hcs
  exact ⟨none, 0, [], rfl, ⟨rfl, by simp, fun h => absurd rfl (Nat.ne_of_gt h)⟩, Nat.le_refl _, by simp⟩
 ·simp [Value.cells] at hcs
  obtain ⟨rfl, rfl, rfl⟩ := hcs
  obtain ⟨hx, _⟩ := Prod.mk.inj hx
  subst hx
  have z := sized_slice hsz ht hd Try.underlying22
  have hB : Try.prog.bytesOf 39 = 48 := by kernel_rfl
  rw [hB] at z
  obtain ⟨l, hl, hq⟩ := listedV (Q := fun i (s : Vrp) => w.cells? base (a'.add (i * Try.prog.cellsOf 39)) (Try.prog.cellsOf 39) = some s.cells) len (fun i hil => by
   have hi := hget i hil
   rw [List.getElem?_eq_getElem (by omega)] at hi
   obtain ⟨cs', g1, g2⟩ := Option.bind_eq_some_iff.1 hi
   obtain ⟨s, e⟩ := openW_f g2
   exact ⟨s, e ▸ g1⟩)
  subst hl
  have hC : Try.prog.cellsOf 39 = 20 := by kernel_rfl
  rw [hC] at hq
  refine ⟨some a', cap, l, rfl, ⟨rfl, (by have h9 : maxLen ≤ 9223372036854775807 := (by decide); show l.length ≤ 9223372036854775807; omega), fun _ => ⟨a', rfl, fun j s hj => ?_⟩⟩, hle, ?_⟩
  ·obtain ⟨_, _, hat⟩ := World.cells?_some (hq j s hj)
   refine ⟨s.cells, Vrp.cells_len _, rfl, fun i u hu => ?_⟩
   have hi : i < 20 := by
    by_cases h : i < 20
    ·exact h
    ·rw [List.getElem?_eq_none (by rw [Vrp.cells_len]; omega)] at hu; cases hu
   have := hat i hi
   rw [Go.Deep.add_add] at this
   exact this.trans hu
  ·have h1 : (elems.map (·.1)).length = l.length := by rw [List.length_map, hel]
   have h2 := Nat.le_trans (Nat.mul_le_mul_right 48 (Nat.le_add_right _ _)) z
   rw [h1] at h2
   exact h2
end
end Go.Proofs.Ytllahlgnjeeliaa.Ad
end
