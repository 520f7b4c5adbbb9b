/- Merged by wip/tools/merge.py: YtmbgjhkemlliaaaOf, YtmbgjhkemlliaaaOfW, YtmbgjhkemlliaaaOpen1, YtmbgjhkemlliaaaWrong. -/
import Derived.Test.YtmbgjhkemlliaaaX4
/- scalar.just, scalar.Of, walked. -/
set_option linter.unusedVariables false
set_option linter.unusedSimpArgs false
namespace Go.Proofs.Ytmbgjhkemlliaaa.Tlv
open Go.RowKit Go.Proofs.YtmbgjhkemlliaaaW.PrintWords Go.Proofs.YtmbgjhkemlliaaaW.PrintLast Go.Proofs.YtmbgjhkemlliaaaW.PrintMore Go.Proofs.Ytmbgjhkemlliaaa.PTlv

set_option maxHeartbeats 4000000 in
set_option maxRecDepth 100000 in
theorem of1_walk (p q : Nat) (B : Option Addr) (cb : Nat) (lb : List Int) (many : Int) (r : T) (r4 : Int) (w : World) (tp tq : TypeId) (hp : w.heap[p]? = some (.cells #[.slice B lb.length cb] tp (0, 0))) (hq : w.heap[q]? = some (.cells #[.int .i64 many] tq (0, 0)))
    (hr : ReadsInt w .u8 B lb.length lb) (hc : lb.length ≤ cb) (hf : scalar_Bits.f lb many = some (r.f0, r.f1, r.f2, r4)) :
    Calls Try.prog 43 #[.pointer (some ⟨p, 0, none⟩), .pointer (some ⟨q, 0, none⟩)] w fun e w' => ∃ v1 v2, e = .returned (.tuple #[.agg #[.int .i64 r.f0, v1, v2], .int .i64 r4]) ∧ NodeR w' w.heap.size w'.heap.size r v1 v2 ∧ Below w.heap.size w w' := by
  have p0 : (w.alloc (.cells #[.int .i64 0, .slice none 0 0, .slice none 0 0] 25)).cell? ⟨p, 0, none⟩ = some (.slice B lb.length cb) := Lib.cell_of_heap ((Below.heap_alloc w _ _ (heap_lt hp)).trans hp) 0
  have q0 : (w.alloc (.cells #[.int .i64 0, .slice none 0 0, .slice none 0 0] 25)).cell? ⟨q, 0, none⟩ = some (.int .i64 many) := Lib.cell_of_heap ((Below.heap_alloc w _ _ (heap_lt hq)).trans hq) 0
  have hb0 : (w.alloc (.cells #[.int .i64 0, .slice none 0 0, .slice none 0 0] 25)).heap[w.heap.size]? = some (.cells #[.int .i64 0, .slice none 0 0, .slice none 0 0] 25 (0, 0)) := heap_alloc_new w _
  have hB1 : Below w.heap.size w (w.alloc (.cells #[.int .i64 0, .slice none 0 0, .slice none 0 0] 25)) := (Below.refl _ _).alloc (Nat.le_refl _) _
  have HBITS := Lib.hid (scalar_Bits.calls B cb lb many r.f0 r.f1 r.f2 r4 (w.alloc (.cells #[.int .i64 0, .slice none 0 0, .slice none 0 0] 25)) (Kd.C_below (C_of_reads hr rfl) hB1) hc hf)
  have p1 : w.cell? ⟨p, 0, none⟩ = some (.slice B lb.length cb) := Lib.cell_of_heap hp 0
  have q1 : w.cell? ⟨q, 0, none⟩ = some (.int .i64 many) := Lib.cell_of_heap hq 0
  have hpn : p < w.heap.size := heap_lt hp
  have hqn : q < w.heap.size := heap_lt hq
  have hpe : (p = w.heap.size) = False := eq_false (by omega)
  have hqe : (q = w.heap.size) = False := eq_false (by omega)
  clear hp hq hr hc hf
  have HB00 := Lib.hid hb0
  have HB11 := Lib.hid hB1
  clear hb0 hB1
  go_enter Try.func43, Try.ntmps43
  go_wp2_with (fail)
  refine HBITS.out.mono ?_
  have hb0 := HB00.out
  have hB1 := HB11.out
  generalize w.alloc (.cells #[.int .i64 0, .slice none 0 0, .slice none 0 0] 25) = w1 at p0 q0 hb0 hB1 HBITS HB00 HB11
  rintro e w3 ⟨v1, v2, rfl, hv1, hv2, hB3⟩
  obtain ⟨A1, c1, rfl⟩ := Kd.R_slice hv1
  obtain ⟨A2, c2, rfl⟩ := Kd.R_slice hv2
  have hb3 := (hB3.block _ (heap_lt hb0)).trans hb0
  have hB := hB1.trans (hB3.mono hB1.size)
  have h0 := NodeR.of (n := r) hv1 hv2
  have H0 := Lib.hid h0
  have HB := Lib.hid hB
  have HB3 := Lib.hid hb3
  have HLT := Lib.hid (And.intro (heap_lt hb0) hB3.size)
  have a0 := Lib.cell_of_heap hb3 0
  have a1 := Lib.cell_of_heap hb3 1
  have a2 := Lib.cell_of_heap hb3 2
  have f0 := Lib.frozen_of_heap hb3 0
  have f1 := Lib.frozen_of_heap hb3 1
  have f2 := Lib.frozen_of_heap hb3 2
  have hsz : w.heap.size < w1.heap.size := heap_lt hb0
  clear h0 hB hb3 hB3 hv1 hv2 p0 q0 p1 q1 hpn hqn hpe hqe hb0 hB1 HBITS HB00 HB11
  go_wp2
  have z0 : (((w3.setCell ⟨w.heap.size, 0, none⟩ (.int .i64 r.f0)).setCell ⟨w.heap.size, 1, none⟩ (.slice A1 r.f1.length c1)).setCell ⟨w.heap.size, 2, none⟩ (.slice A2 r.f2.length c2)).heap[w.heap.size]? = some (.cells #[.int .i64 r.f0, .slice A1 r.f1.length c1, .slice A2 r.f2.length c2] 25 (0, 0)) :=
    heap_setCell_same _ _ 2 _ _ _ (heap_setCell_same _ _ 1 _ _ _ (heap_setCell_same _ _ 0 _ _ _ HB3.out))
  have zB : Below w.heap.size w (((w3.setCell ⟨w.heap.size, 0, none⟩ (.int .i64 r.f0)).setCell ⟨w.heap.size, 1, none⟩ (.slice A1 r.f1.length c1)).setCell ⟨w.heap.size, 2, none⟩ (.slice A2 r.f2.length c2)) :=
    Below.setCell (Below.setCell (Below.setCell HB.out (p := ⟨w.heap.size, 0, none⟩) (Nat.le_refl _) _) (p := ⟨w.heap.size, 1, none⟩) (Nat.le_refl _) _) (p := ⟨w.heap.size, 2, none⟩) (Nat.le_refl _) _
  have zk : ∀ k, k ≠ w.heap.size → (((w3.setCell ⟨w.heap.size, 0, none⟩ (.int .i64 r.f0)).setCell ⟨w.heap.size, 1, none⟩ (.slice A1 r.f1.length c1)).setCell ⟨w.heap.size, 2, none⟩ (.slice A2 r.f2.length c2)).heap[k]? = w3.heap[k]? :=
    fun k hk => (heap_setCell_other _ _ _ _ hk).trans ((heap_setCell_other _ _ _ _ hk).trans (heap_setCell_other _ _ _ _ hk))
  have zs : (((w3.setCell ⟨w.heap.size, 0, none⟩ (.int .i64 r.f0)).setCell ⟨w.heap.size, 1, none⟩ (.slice A1 r.f1.length c1)).setCell ⟨w.heap.size, 2, none⟩ (.slice A2 r.f2.length c2)).heap.size = w3.heap.size := by simp
  generalize ((w3.setCell ⟨w.heap.size, 0, none⟩ (.int .i64 r.f0)).setCell ⟨w.heap.size, 1, none⟩ (.slice A1 r.f1.length c1)).setCell ⟨w.heap.size, 2, none⟩ (.slice A2 r.f2.length c2) = w5 at z0 zB zk zs ⊢
  have b0 := Lib.cell_of_heap z0 0
  have b1 := Lib.cell_of_heap z0 1
  have b2 := Lib.cell_of_heap z0 2
  refine bodyPost_ret (v := .tuple #[.agg #[.int .i64 r.f0, .slice A1 r.f1.length c1, .slice A2 r.f2.length c2], .int .i64 r4]) (by simp [results, Try.results43, go_sem, b0, b1, b2]) rfl ?_
  refine ⟨_, _, rfl, ?_, zB⟩
  exact NodeR.widen (NodeR.move (w1 := w5) H0.out (fun k hk1 hk2 => zk k (by omega))) (by omega) (by omega)

def sameB (r n : T) : Bool := decide (r.f0 = n.f0) && (eqB r.f1 n.f1 && (wrap64 ((r.f2.length : Int) + (n.f2.length : Int)) == 0))
theorem sameB_f (r n : T) : scalar_same.f r.f0 r.f1 r.f2 n.f0 n.f1 n.f2 = some (sameB r n) := by
  unfold scalar_same.f sameB bytes_Equal.f
  by_cases h : r.f0 = n.f0
  · rw [if_pos h, Option.bind_some, decide_eq_true h]
    show (if eqB r.f1 n.f1 = true then _ else _) = _
    generalize (wrap64 ((r.f2.length : Int) + (n.f2.length : Int)) == 0) = z
    cases eqB r.f1 n.f1 <;> cases z <;> rfl
  · rw [if_neg h, decide_eq_false h, Bool.false_and]

set_option maxHeartbeats 4000000 in
set_option maxRecDepth 100000 in
theorem just_walk (X : Option Addr) (x : List Int) (cx : Nat) (n : T) (A1 : Option Addr) (c1 : Nat) (A2 : Option Addr) (c2 : Nat) (p q : Nat) (w : World) (hn : NodeAt w n A1 c1 A2 c2)
    (B : Option Addr) (cb : Nat) (lb : List Int) (many : Int) (r : T) (r4 : Int) (tp tq : TypeId) (hp : w.heap[p]? = some (.cells #[.slice B lb.length cb] tp (0, 0))) (hq : w.heap[q]? = some (.cells #[.int .i64 many] tq (0, 0)))
    (hr : ReadsInt w .u8 B lb.length lb) (hc : lb.length ≤ cb) (hf : scalar_Bits.f lb many = some (r.f0, r.f1, r.f2, r4)) :
    Calls Try.prog 42 #[.slice X x.length cx, .bool true, .agg #[.int .i64 n.f0, .slice A1 n.f1.length c1, .slice A2 n.f2.length c2], .func (.func 43) #[] #[.pointer (some ⟨p, 0, none⟩), .pointer (some ⟨q, 0, none⟩)]] w
      fun e w' => e = .returned (if r4 = 0 ∧ sameB r n = true then .tuple #[.slice X x.length cx, .int .i64 0] else .tuple #[.slice none 0 0, .int .i64 2]) ∧ Below w.heap.size w w' := by
  have hnot : ∀ (x : Bool) (w : World), (Op.unary .not (.bool x)).run Try.prog w = .ok (.bool (!x)) w := fun _ _ => rfl
  have hb0 : (w.alloc (.cells #[.int .i64 n.f0, .slice A1 n.f1.length c1, .slice A2 n.f2.length c2] 25)).heap[w.heap.size]? = some (.cells #[.int .i64 n.f0, .slice A1 n.f1.length c1, .slice A2 n.f2.length c2] 25 (0, 0)) := heap_alloc_new w _
  have hB1 : Below w.heap.size w (w.alloc (.cells #[.int .i64 n.f0, .slice A1 n.f1.length c1, .slice A2 n.f2.length c2] 25)) := (Below.refl _ _).alloc (Nat.le_refl _) _
  have HLAY := Lib.hid (of1_walk p q B cb lb many r r4 _ tp tq ((hB1.block _ (heap_lt hp)).trans hp) ((hB1.block _ (heap_lt hq)).trans hq) (ReadsInt_below hr hB1) hc hf)
  have HN := Lib.hid (fun w' (hB : Below w.heap.size w w') => hn.below hB)
  have HB0 := Lib.hid hb0
  have HB1 := Lib.hid hB1
  generalize hRR : (if r4 = 0 ∧ sameB r n = true then Value.tuple #[.slice X x.length cx, .int .i64 0] else .tuple #[.slice none 0 0, .int .i64 2]) = RR
  clear hp hq hr hc hf hn hb0 hB1
  go_enter Try.func42, Try.ntmps42
  go_wp2_with (fail)
  refine HLAY.out.mono ?_
  rintro e w3 ⟨v1, v2, rfl, hv, hB3⟩
  obtain ⟨M1, m1, M2, m2, rfl, rfl, hm⟩ := hv.form
  have hb3 := (hB3.block _ (heap_lt HB0.out)).trans HB0.out
  have hB := HB1.out.trans (hB3.mono HB1.out.size)
  have HM := Lib.hid hm
  have HB := Lib.hid hB
  have HB3 := Lib.hid hb3
  have a0 := Lib.cell_of_heap hb3 0
  have a1 := Lib.cell_of_heap hb3 1
  have a2 := Lib.cell_of_heap hb3 2
  have hlt := heap_lt hb3
  clear hv hm hB hb3 hB3 HLAY
  by_cases h4 : r4 = 0
  · subst h4
    have HSAME := Lib.hid (scalar_same.calls r.f0 M1 m1 r.f1 M2 m2 r.f2 n.f0 A1 c1 n.f1 A2 c2 n.f2 (sameB r n) (w3.alloc (.cells #[.int .i64 r.f0, .slice M1 r.f1.length m1, .slice M2 r.f2.length m2] 25))
      (Kd.C_below HM.out.1 ((Below.refl _ _).alloc (Nat.le_refl _) _)) HM.out.2.1 (Kd.C_below HM.out.2.2.1 ((Below.refl _ _).alloc (Nat.le_refl _) _)) HM.out.2.2.2
      (Kd.C_below (HN.out _ HB.out).1 ((Below.refl _ _).alloc (Nat.le_refl _) _)) (HN.out _ HB.out).2.1 (Kd.C_below (HN.out _ HB.out).2.2.1 ((Below.refl _ _).alloc (Nat.le_refl _) _)) (HN.out _ HB.out).2.2.2 (sameB_f r n))
    have HBF := Lib.hid (show Below w.heap.size w (w3.alloc (.cells #[.int .i64 r.f0, .slice M1 r.f1.length m1, .slice M2 r.f2.length m2] 25)) from HB.out.alloc HB.out.size _)
    go_wp2_with (fail)
    refine HSAME.out.mono ?_
    rintro e w4 ⟨rfl, hB4⟩
    have hBf := HBF.out.trans (hB4.mono HBF.out.size)
    clear hB4
    cases hs : sameB r n with
    | true =>
      have hp : RR = .tuple #[.slice X x.length cx, .int .i64 0] := by rw [← hRR]; simp [hs]
      clear hRR
      subst hp
      clear hs
      go_wp2
      go_ret2
      exact ⟨by first | rfl | trivial | simp, hBf⟩
    | false =>
      have hp : RR = .tuple #[.slice none 0 0, .int .i64 2] := by rw [← hRR, if_neg (by rw [hs]; simp)]
      clear hRR
      subst hp
      clear hs
      go_wp2
      go_ret2
      exact ⟨by first | rfl | trivial | simp, hBf⟩
  · have hp : RR = .tuple #[.slice none 0 0, .int .i64 2] := by rw [← hRR, if_neg (fun h => h4 h.1)]
    clear hRR
    subst hp
    have h4' : decide (r4 = 0) = false := decide_eq_false h4
    have h4'' := eq_false h4
    clear h4
    have HBF := Lib.hid (show Below w.heap.size w (w3.alloc (.cells #[.int .i64 r.f0, .slice M1 r.f1.length m1, .slice M2 r.f2.length m2] 25)) from HB.out.alloc HB.out.size _)
    go_wp2
    go_ret2
    exact ⟨by first | rfl | trivial | simp, HBF.out⟩

end Go.Proofs.Ytmbgjhkemlliaaa.Tlv

/- scalar.Of, walked. -/
set_option linter.unusedVariables false
set_option linter.unusedSimpArgs false
namespace Go.Proofs.Ytmbgjhkemlliaaa.Tlv
open Go.RowKit Go.Proofs.YtmbgjhkemlliaaaW.PrintWords Go.Proofs.YtmbgjhkemlliaaaW.PrintLast Go.Proofs.YtmbgjhkemlliaaaW.PrintMore Go.Proofs.Ytmbgjhkemlliaaa.PTlv

set_option maxHeartbeats 4000000 in
set_option maxRecDepth 100000 in
theorem of_none (n : T) (h0 : n.f1 = []) (A1 : Option Addr) (c1 : Nat) (A2 : Option Addr) (c2 : Nat) (w : World) :
    Calls Try.prog 24 #[.agg #[.int .i64 n.f0, .slice A1 n.f1.length c1, .slice A2 n.f2.length c2]] w fun e w' => e = .returned (.tuple #[.slice none 0 0, .int .i64 0, .int .i64 2]) ∧ Below w.heap.size w w' := by
  have hl : n.f1.length = 0 := by rw [h0]; rfl
  rw [hl]
  have hB := Lib.hid (show Below w.heap.size w (w.alloc (.cells #[.int .i64 n.f0, .slice A1 0 c1, .slice A2 n.f2.length c2] 25)) from (Below.refl _ _).alloc (Nat.le_refl _) _)
  go_enter Try.func24, Try.ntmps24
  go_wp2
  go_ret3
  exact ⟨rfl, hB.out⟩

set_option maxHeartbeats 4000000 in
set_option maxRecDepth 100000 in
theorem of_walk (n : T) (h : Int) (t : List Int) (h1 : n.f1 = h :: t) (hh : 0 ≤ h ∧ h < 256) (ht : t.length ≤ 1000000) (r : T) (r4 : Int) (hf : scalar_Bits.f t (wrap64 (wrap64 (8 * (t.length : Int)) - h)) = some (r.f0, r.f1, r.f2, r4))
    (A1 : Option Addr) (c1 : Nat) (A2 : Option Addr) (c2 : Nat) (w : World) (hn : NodeAt w n A1 c1 A2 c2) :
    Calls Try.prog 24 #[.agg #[.int .i64 n.f0, .slice A1 n.f1.length c1, .slice A2 n.f2.length c2]] w fun e w' =>
      ((¬ (r4 = 0 ∧ sameB r n = true) ∧ e = .returned (.tuple #[.slice none 0 0, .int .i64 0, .int .i64 2])) ∨ (r4 = 0 ∧ sameB r n = true ∧ ∃ A c, e = .returned (.tuple #[.slice A t.length c, .int .i64 (wrap64 (wrap64 (8 * (t.length : Int)) - h)), .int .i64 0]) ∧ (Kd.int .u8).R 5 w' w.heap.size (fun _ => True) (.slice A t.length c) t)) ∧ Below w.heap.size w w' := by
  have hr1 : ReadsInt w .u8 A1 n.f1.length n.f1 := reads_of_C hn.1
  have hlen : n.f1.length = t.length + 1 := by rw [h1]; rfl
  have hc1 := hn.2.1
  obtain ⟨i0, hi, hz0, hz1, hz2⟩ := info_parts infoByte
  obtain ⟨T1, hcut, hcr, hcc⟩ := print_cut_int (P := Try.prog) (k := .u8) 22 5 Try.underlying22 hi hz1 A1 c1 n.f1 (1 : Int) (by omega) (by omega) hc1
  have hd1 : n.f1.drop (Int.toNat 1) = t := by rw [h1]; rfl
  rw [hd1] at hcut hcr hcc
  obtain ⟨ad, e1, hx⟩ := hr1.2.2 (by omega)
  subst e1
  have hx0 : w.cell? ad = some (.int .u8 h) := by
    have := hx 0 (by omega)
    rw [h1, show ad.add 0 = ad by cases ad; simp [Addr.add]] at this
    simpa using this
  have HN := Lib.hid hn
  have HB1 := Lib.hid (show Below w.heap.size w (w.alloc (.cells #[.int .i64 n.f0, .slice (some ad) (t.length + 1) c1, .slice A2 n.f2.length c2] 25)) from (Below.refl _ _).alloc (Nat.le_refl _) _)
  have HBX := Lib.hid (show (w.alloc (.cells #[.int .i64 n.f0, .slice (some ad) (t.length + 1) c1, .slice A2 n.f2.length c2] 25)).heap[w.heap.size]? = some (.cells #[.int .i64 n.f0, .slice (some ad) (t.length + 1) c1, .slice A2 n.f2.length c2] 25 (0, 0)) from heap_alloc_new w _)
  have HCL := Lib.hid (fun w1 (hB : Below w.heap.size w w1) => clone_walk T1 (c1 - 1) t w1 (ReadsInt_below (hcr w hr1) hB) (by simpa using hcc) ht)
  have HX0 := Lib.hid hx0
  have HF := Lib.hid hf
  have HH := Lib.hid hh
  have HT := Lib.hid ht
  clear hcr hcc hd1 hx hx0 hr1 hn hf hi hz0 hz1 hz2 h1 hh ht
  rw [hlen] at hcut hc1 ⊢
  have h4 : ∀ (w3 : World) (A' : Option Addr) (c' : Nat), (Kd.int .u8).R 5 w3 (w.alloc (.cells #[.int .i64 n.f0, .slice (some ad) (t.length + 1) c1, .slice A2 n.f2.length c2] 25)).heap.size (fun _ => True) (.slice A' t.length c') t →
      Below (w.alloc (.cells #[.int .i64 n.f0, .slice (some ad) (t.length + 1) c1, .slice A2 n.f2.length c2] 25)).heap.size (w.alloc (.cells #[.int .i64 n.f0, .slice (some ad) (t.length + 1) c1, .slice A2 n.f2.length c2] 25)) w3 → ∀ w4 : World, w4 = (w3.alloc (.cells #[.slice A' t.length c'] 22)).drew →
      (w4.cell? ⟨w3.heap.size, 0, none⟩ = some (.slice A' t.length c') ∧ w4.cell? ⟨w.heap.size, 1, none⟩ = some (.slice (some ad) (t.length + 1) c1) ∧ w4.cell? ad = some (.int .u8 h)) ∧
      ((w4.alloc (.cells #[.int .i64 0] 3)).cell? ⟨w3.heap.size, 0, none⟩ = some (.slice A' t.length c') ∧ (w4.alloc (.cells #[.int .i64 0] 3)).cell? ⟨w.heap.size, 1, none⟩ = some (.slice (some ad) (t.length + 1) c1) ∧ (w4.alloc (.cells #[.int .i64 0] 3)).cell? ad = some (.int .u8 h)) ∧
      (w4.alloc (.cells #[.int .i64 0] 3)).cell? ⟨w4.heap.size, 0, none⟩ = some (.int .i64 0) ∧ (w4.alloc (.cells #[.int .i64 0] 3)).frozen? ⟨w4.heap.size, 0, none⟩ = false ∧
      w4.heap.size = w3.heap.size + 1 ∧
      (∀ many : Int, ∀ w5 : World, w5 = (w4.alloc (.cells #[.int .i64 0] 3)).setCell ⟨w4.heap.size, 0, none⟩ (.int .i64 many) →
        w5.heap[w3.heap.size]? = some (.cells #[.slice A' t.length c'] 22 (0, 0)) ∧ w5.heap[w4.heap.size]? = some (.cells #[.int .i64 many] 3 (0, 0)) ∧ w5.heap[w.heap.size]? = some (.cells #[.int .i64 n.f0, .slice (some ad) (t.length + 1) c1, .slice A2 n.f2.length c2] 25 (0, 0)) ∧ Below w.heap.size w w5 ∧
        (Kd.int .u8).R 5 w5 w.heap.size (fun k => k < w3.heap.size) (.slice A' t.length c') t ∧ t.length ≤ c' ∧ ReadsInt w5 .u8 A' t.length t) := by
    intro w3 A' c' hv3 hB3 w4 hw4
    have hbx := HBX.out
    have hB1 := HB1.out
    generalize (w.alloc (.cells #[.int .i64 n.f0, .slice (some ad) (t.length + 1) c1, .slice A2 n.f2.length c2] 25)) = w2 at hv3 hB3 hbx hB1
    have hb3 := (hB3.block _ (heap_lt hbx)).trans hbx
    have hBw3 : Below w.heap.size w w3 := hB1.trans (hB3.mono hB1.size)
    have hal : Below w3.heap.size w3 (w3.alloc (.cells #[.slice A' t.length c'] 22)).drew := ((Below.refl _ _).alloc (Nat.le_refl _) _).drew
    have hs4 : w4.heap.size = w3.heap.size + 1 := by rw [hw4]; show (w3.alloc _).heap.size = _; simp
    have hp4 : w4.heap[w3.heap.size]? = some (.cells #[.slice A' t.length c'] 22 (0, 0)) := by rw [hw4]; exact heap_alloc_new w3 _
    rw [← hw4] at hal
    have hb4 := (hal.block _ (heap_lt hb3)).trans hb3
    have hBw4 : Below w.heap.size w w4 := hBw3.trans (hal.mono hBw3.size)
    have hx4 : w4.cell? ad = some (.int .u8 h) := (hBw4.cell (World.block_lt_of_cell? w _ HX0.out)).trans HX0.out
    have hal2 : Below w4.heap.size w4 (w4.alloc (.cells #[.int .i64 0] 3)) := (Below.refl _ _).alloc (Nat.le_refl _) _
    have hq5 : (w4.alloc (.cells #[.int .i64 0] 3)).heap[w4.heap.size]? = some (.cells #[.int .i64 0] 3 (0, 0)) := heap_alloc_new w4 _
    have hp5 := (hal2.block _ (heap_lt hp4)).trans hp4
    have hb5 := (hal2.block _ (heap_lt hb4)).trans hb4
    have hx5 : (w4.alloc (.cells #[.int .i64 0] 3)).cell? ad = some (.int .u8 h) := (hal2.cell (World.block_lt_of_cell? w4 _ hx4)).trans hx4
    refine ⟨⟨Lib.cell_of_heap hp4 0, Lib.cell_of_heap hb4 1, hx4⟩, ⟨Lib.cell_of_heap hp5 0, Lib.cell_of_heap hb5 1, hx5⟩, Lib.cell_of_heap hq5 0, Lib.frozen_of_heap hq5 0, hs4, ?_⟩
    intro many w5 hw5
    subst hw5
    have hR4 := Kd.R_below (Kd.R_mono (Kd.R_bound hv3) (fun k hk => show k < w3.heap.size from hk.2.2.1)) hal
    have hR5 := Kd.R_below hR4 hal2
    have hR6 := Kd.R_far (p := ⟨w4.heap.size, 0, none⟩) hR5 (fun k hk => by show k ≠ w4.heap.size; omega) (.int .i64 many)
    have hR7 := Kd.R_lower hR6 hB1.size
    obtain ⟨_, _, e1, hc', hrd⟩ := Kd.R_reads hR7
    injection e1 with e1 _ e1'
    subst e1 e1'
    have hBw5 := hBw4.trans (hal2.mono hBw4.size)
    refine ⟨(heap_setCell_other _ _ _ _ (by show w3.heap.size ≠ w4.heap.size; omega)).trans hp5, heap_setCell_same _ _ 0 _ _ _ hq5, (heap_setCell_other _ _ _ _ (by show w.heap.size ≠ w4.heap.size; have := heap_lt hb3; omega)).trans hb5, Below.setCell hBw5 (p := ⟨w4.heap.size, 0, none⟩) hBw4.size _, hR7, hc', reads_of_C hrd⟩
  have HH4 := Lib.hid h4
  clear h4
  go_enter Try.func24, Try.ntmps24
  go_wp2_with (fail)
  refine (HCL.out _ HB1.out).mono ?_
  rintro e w3 ⟨A', c', rfl, hv3, hB3⟩
  have H3 := Lib.hid (HH4.out w3 A' c' hv3 hB3)
  have HW3 := Lib.hid (Nat.le_trans HB1.out.size hB3.size)
  clear HH4 hv3 hB3 HCL
  go_wp2
  have h4 := H3.out _ rfl
  have a0 := h4.1.1
  have a1 := h4.1.2.1
  have a2 := h4.1.2.2
  have H4 := Lib.hid h4.2
  clear h4 H3
  have hwh : wrap64 h = h := wrap64_in _ (by have := HH.out; omega)
  refine start_ (n := 11) (S := fun w' => w'.cell? ⟨w3.heap.size, 0, none⟩ = some (.slice A' t.length c') ∧ w'.cell? ⟨w.heap.size, 1, none⟩ = some (.slice (some ad) (t.length + 1) c1) ∧ w'.cell? ad = some (.int .u8 h)) (ds := [10]) #[false, false, false, false, false, false, false, false, false, false, false] (by kernel_rfl) rfl rfl ⟨a0, a1, a2⟩ (fun hHeld => ?_)
  generalize (w3.alloc (.cells #[.slice A' t.length c'] 22)).drew = w4 at hHeld H4 ⊢
  clear a0 a1 a2
  refine pure_ (i := 3) (N := some 19) (v := ?_) (a' := ?_) #[false, false, false, true, false, false, false, false, false, false, false] rfl rfl (by kernel_rfl) (fun _ _ _ h => h) (Or.inl ⟨by rfl, ?_⟩) ?_ ?_
  rotate_left
  · intro w'
    go_simp
    with_reducible rfl
  rotate_left
  · simp only [Act.put, List.setIfInBounds_toArray, List.set_cons_zero, List.set_cons_succ, i64_w, i32_w]
    rfl
  refine take_ (i := 0) (N := some 16) (v := ?_) (a' := ?_) #[true, false, false, true, false, false, false, false, false, false, false] rfl rfl (by kernel_rfl) (fun _ _ _ h => h) (Or.inl ⟨by rfl, ?_⟩) hHeld ?_ ?_
  rotate_left
  · rintro w' ⟨s0, s1, s2⟩
    go_simp
    with_reducible rfl
  rotate_left
  · simp only [Act.put, List.setIfInBounds_toArray, List.set_cons_zero, List.set_cons_succ, i64_w, i32_w]
    rfl
  refine pure_ (i := 1) (N := some 17) (v := ?_) (a' := ?_) #[true, true, false, true, false, false, false, false, false, false, false] rfl rfl (by kernel_rfl) (fun _ _ _ h => h) (Or.inl ⟨by rfl, ?_⟩) ?_ ?_
  rotate_left
  · intro w'
    go_simp
    with_reducible rfl
  rotate_left
  · simp only [Act.put, List.setIfInBounds_toArray, List.set_cons_zero, List.set_cons_succ, i64_w, i32_w]
    rfl
  refine pure_ (i := 2) (N := some 18) (v := ?_) (a' := ?_) #[true, true, true, true, false, false, false, false, false, false, false] rfl rfl (by kernel_rfl) (fun _ _ _ h => h) (Or.inl ⟨by rfl, ?_⟩) ?_ ?_
  rotate_left
  · intro w'
    go_simp
    with_reducible rfl
  rotate_left
  · simp only [Act.put, List.setIfInBounds_toArray, List.set_cons_zero, List.set_cons_succ, i64_w, i32_w]
    rfl
  refine take_ (i := 4) (N := some 20) (v := ?_) (a' := ?_) #[true, true, true, true, true, false, false, false, false, false, false] rfl rfl (by kernel_rfl) (fun _ _ _ h => h) (Or.inl ⟨by rfl, ?_⟩) hHeld ?_ ?_
  rotate_left
  · rintro w' ⟨s0, s1, s2⟩
    go_simp
    with_reducible rfl
  rotate_left
  · simp only [Act.put, List.setIfInBounds_toArray, List.set_cons_zero, List.set_cons_succ, i64_w, i32_w]
    rfl
  refine pure_ (i := 5) (N := some 21) (v := ?_) (a' := ?_) #[true, true, true, true, true, true, false, false, false, false, false] rfl rfl (by kernel_rfl) (fun _ _ _ h => h) (Or.inl ⟨by rfl, ?_⟩) ?_ ?_
  rotate_left
  · intro w'
    go_simp
    with_reducible rfl
  rotate_left
  · simp only [Act.put, List.setIfInBounds_toArray, List.set_cons_zero, List.set_cons_succ, i64_w, i32_w]
    rfl
  refine take_ (i := 6) (N := some 22) (v := ?_) (a' := ?_) #[true, true, true, true, true, true, true, false, false, false, false] rfl rfl (by kernel_rfl) (fun _ _ _ h => h) (Or.inl ⟨by rfl, ?_⟩) hHeld ?_ ?_
  rotate_left
  · rintro w' ⟨s0, s1, s2⟩
    go_simp
    with_reducible rfl
  rotate_left
  · simp only [Act.put, List.setIfInBounds_toArray, List.set_cons_zero, List.set_cons_succ, i64_w, i32_w]
    rfl
  refine pure_ (i := 7) (N := some 23) (v := ?_) (a' := ?_) #[true, true, true, true, true, true, true, true, false, false, false] rfl rfl (by kernel_rfl) (fun _ _ _ h => h) (Or.inl ⟨by rfl, ?_⟩) ?_ ?_
  rotate_left
  · intro w'
    go_simp
    with_reducible rfl
  rotate_left
  · simp only [Act.put, List.setIfInBounds_toArray, List.set_cons_zero, List.set_cons_succ, i64_w, i32_w]
    rfl
  refine pure_ (i := 8) (N := some 24) (v := ?_) (a' := ?_) #[true, true, true, true, true, true, true, true, true, false, false] rfl rfl (by kernel_rfl) (fun _ _ _ h => h) (Or.inl ⟨by rfl, ?_⟩) ?_ ?_
  rotate_left
  · intro w'
    go_simp
    with_reducible rfl
  rotate_left
  · simp only [Act.put, List.setIfInBounds_toArray, List.set_cons_zero, List.set_cons_succ, i64_w, i32_w]
    rfl
  refine one_ (i := 9) (N := some 6) #[true, true, true, true, true, true, true, true, true, true, false] rfl rfl (by kernel_rfl) (by decide) (fun K hK => ?_)
  refine event_step (by rfl) (v := .pointer (some ⟨w4.heap.size, 0, none⟩)) (w1 := w4.alloc (.cells #[.int .i64 0] 3)) (by go_simp; try rfl) ?_
  refine hK.out _ _ H4.out.1 (fun hHeld => ?_)
  clear hK K
  refine norm_ (a' := ?_) ?_ ?_
  rotate_left
  · show Act.put _ (some 6) _ = _
    simp only [Act.put, List.setIfInBounds_toArray, List.set_cons_zero, List.set_cons_succ, i64_w, i32_w]
    rfl
  refine last_ (i := 10) (N := none) #[true, true, true, true, true, true, true, true, true, true, true] rfl rfl (by kernel_rfl) (by decide) (fun K hK => ?_)
  have hz1 := H4.out.2.1
  have hz2 := H4.out.2.2.1
  refine skip_step (by rfl) (w1 := (w4.alloc (.cells #[.int .i64 0] 3)).setCell ⟨w4.heap.size, 0, none⟩ (.int .i64 (wrap64 (wrap64 (8 * (t.length : Int)) - h)))) (by go_simp; try rfl) ?_
  refine hK.out _ _ ?_
  clear hK K
  refine done_ (by kernel_rfl) ?_
  have h5 := H4.out.2.2.2.2 (wrap64 (wrap64 (8 * (t.length : Int)) - h)) _ rfl
  have HS4 := Lib.hid H4.out.2.2.2.1
  clear H4
  generalize (w4.alloc (.cells #[.int .i64 0] 3)).setCell ⟨w4.heap.size, 0, none⟩ (.int .i64 (wrap64 (wrap64 (8 * (t.length : Int)) - h))) = w5 at h5 ⊢
  have a0 := Lib.cell_of_heap h5.1 0
  have b0 := Lib.cell_of_heap h5.2.2.1 0
  have b1 := Lib.cell_of_heap h5.2.2.1 1
  have b2 := Lib.cell_of_heap h5.2.2.1 2
  have HJ := Lib.hid (just_walk A' t c' n (some ad) c1 A2 c2 w3.heap.size w4.heap.size w5 (HN.out.below h5.2.2.2.1) A' c' t _ r r4 _ _ h5.1 h5.2.1 h5.2.2.2.2.2.2 h5.2.2.2.2.2.1 HF.out)
  rw [hlen] at HJ
  have H5 := Lib.hid h5
  clear h5
  go_wp2_with (fail)
  refine HJ.out.mono ?_
  rintro e w6 ⟨rfl, hB6⟩
  clear HJ a0 b0 b1 b2
  have hp6 := (hB6.block _ (heap_lt H5.out.1)).trans H5.out.1
  have hq6 := (hB6.block _ (heap_lt H5.out.2.1)).trans H5.out.2.1
  have hR6 := Kd.R_below H5.out.2.2.2.2.1 hB6
  have hBw6 := H5.out.2.2.2.1.trans (hB6.mono H5.out.2.2.2.1.size)
  have hne : w4.heap.size ≠ w3.heap.size := by have := HS4.out; omega
  have hw3 : w.heap.size ≤ w3.heap.size := HW3.out
  have hR7 : ∀ u, (Kd.int .u8).R 5 (w6.setCell ⟨w3.heap.size, 0, none⟩ u) w.heap.size (fun k => k < w3.heap.size) (.slice A' t.length c') t := fun u => Kd.R_far (p := ⟨w3.heap.size, 0, none⟩) hR6 (fun k hk => by show k ≠ w3.heap.size; omega) u
  have hB7 : ∀ u, Below w.heap.size w (w6.setCell ⟨w3.heap.size, 0, none⟩ u) := fun u => Below.setCell hBw6 (p := ⟨w3.heap.size, 0, none⟩) hw3 u
  have hp7 : ∀ u, (w6.setCell ⟨w3.heap.size, 0, none⟩ u).drew.heap[w3.heap.size]? = some (.cells #[u] 22 (0, 0)) := fun u => by show (w6.setCell ⟨w3.heap.size, 0, none⟩ u).heap[w3.heap.size]? = _; exact heap_setCell_same _ _ 0 _ _ _ hp6
  have hq7 : ∀ u, (w6.setCell ⟨w3.heap.size, 0, none⟩ u).drew.heap[w4.heap.size]? = some (.cells #[.int .i64 (wrap64 (wrap64 (8 * (t.length : Int)) - h))] 3 (0, 0)) := fun u => by show (w6.setCell ⟨w3.heap.size, 0, none⟩ u).heap[w4.heap.size]? = _; exact (heap_setCell_other _ _ _ _ (by show w4.heap.size ≠ w3.heap.size; omega)).trans hq6
  have x0 := Lib.cell_of_heap hp6 0
  have fx0 := Lib.frozen_of_heap hp6 0
  have HR7 := Lib.hid hR7
  have HB7 := Lib.hid hB7
  have HP7 := Lib.hid hp7
  have HQ7 := Lib.hid hq7
  clear hR7 hB7 hp7 hq7 hp6 hq6 hR6 hBw6 hB6
  by_cases hgood : r4 = 0 ∧ sameB r n = true
  · rw [if_pos hgood]
    have HG := Lib.hid hgood
    clear hgood
    go_wp2
    have a0 : (w6.setCell ⟨w3.heap.size, 0, none⟩ (.slice A' t.length c')).drew.cell? ⟨w3.heap.size, 0, none⟩ = some (.slice A' t.length c') := Lib.cell_of_heap (HP7.out _) 0
    have a1 : (w6.setCell ⟨w3.heap.size, 0, none⟩ (.slice A' t.length c')).drew.cell? ⟨w4.heap.size, 0, none⟩ = some (.int .i64 (wrap64 (wrap64 (8 * (t.length : Int)) - h))) := Lib.cell_of_heap (HQ7.out _) 0
    refine start_ (n := 5) (S := fun w' => w'.cell? ⟨w3.heap.size, 0, none⟩ = some (.slice A' t.length c') ∧ w'.cell? ⟨w4.heap.size, 0, none⟩ = some (.int .i64 (wrap64 (wrap64 (8 * (t.length : Int)) - h)))) (ds := []) #[false, false, false, false, false] (by kernel_rfl) rfl rfl ⟨a0, a1⟩ (fun hHeld => ?_)
    refine take_ (i := 0) (N := some 35) (v := ?_) (a' := ?_) #[true, false, false, false, false] rfl rfl (by kernel_rfl) (fun _ _ _ h => h) (Or.inl ⟨by rfl, ?_⟩) hHeld ?_ ?_
    rotate_left
    · rintro w' ⟨s0, s1⟩
      go_simp
      with_reducible rfl
    rotate_left
    · simp only [Act.put, List.setIfInBounds_toArray, List.set_cons_zero, List.set_cons_succ, i64_w, i32_w]
      rfl
    refine take_ (i := 1) (N := some 36) (v := ?_) (a' := ?_) #[true, true, false, false, false] rfl rfl (by kernel_rfl) (fun _ _ _ h => h) (Or.inl ⟨by rfl, ?_⟩) hHeld ?_ ?_
    rotate_left
    · rintro w' ⟨s0, s1⟩
      go_simp
      with_reducible rfl
    rotate_left
    · simp only [Act.put, List.setIfInBounds_toArray, List.set_cons_zero, List.set_cons_succ, i64_w, i32_w]
      rfl
    refine pure_ (i := 2) (N := some 2) (v := ?_) (a' := ?_) #[true, true, true, false, false] rfl rfl (by kernel_rfl) (fun _ _ _ h => h) (Or.inl ⟨by rfl, ?_⟩) ?_ ?_
    rotate_left
    · intro w'
      go_simp
      with_reducible rfl
    rotate_left
    · simp only [Act.put, List.setIfInBounds_toArray, List.set_cons_zero, List.set_cons_succ, i64_w, i32_w]
      rfl
    refine pure_ (i := 3) (N := some 3) (v := ?_) (a' := ?_) #[true, true, true, true, false] rfl rfl (by kernel_rfl) (fun _ _ _ h => h) (Or.inl ⟨by rfl, ?_⟩) ?_ ?_
    rotate_left
    · intro w'
      go_simp
      with_reducible rfl
    rotate_left
    · simp only [Act.put, List.setIfInBounds_toArray, List.set_cons_zero, List.set_cons_succ, i64_w, i32_w]
      rfl
    refine pure_ (i := 4) (N := some 4) (v := ?_) (a' := ?_) #[true, true, true, true, true] rfl rfl (by kernel_rfl) (fun _ _ _ h => h) (Or.inl ⟨by rfl, ?_⟩) ?_ ?_
    rotate_left
    · intro w'
      go_simp
      with_reducible rfl
    rotate_left
    · simp only [Act.put, List.setIfInBounds_toArray, List.set_cons_zero, List.set_cons_succ, i64_w, i32_w]
      rfl
    refine done_ (by kernel_rfl) ?_
    go_wp2
    go_ret3
    exact ⟨.inr ⟨HG.out.1, HG.out.2, A', c', rfl, Kd.R_mono (Kd.R_drew (HR7.out _)) (fun _ _ => trivial)⟩, (HB7.out _).drew⟩
  · rw [if_neg hgood]
    have HG := Lib.hid hgood
    clear hgood
    go_wp2
    go_ret3
    exact ⟨.inl ⟨HG.out, rfl⟩, HB7.out _⟩

end Go.Proofs.Ytmbgjhkemlliaaa.Tlv

/- spki.must, spki.Open's closure, walked. -/
set_option linter.unusedVariables false
set_option linter.unusedSimpArgs false
namespace Go.Proofs.Ytmbgjhkemlliaaa.Tlv
open Go.RowKit Go.Proofs.YtmbgjhkemlliaaaW.PrintWords Go.Proofs.YtmbgjhkemlliaaaW.PrintLast Go.Proofs.YtmbgjhkemlliaaaW.PrintMore Go.Proofs.Ytmbgjhkemlliaaa.PTlv

theorem must2_yes (w : World) : Calls Try.prog 22 #[.int .i64 0, .bool true] w fun e w' => e = .returned (.tuple #[]) ∧ w' = w := by
  have hnot : ∀ (x : Bool) (w : World), (Op.unary .not (.bool x)).run Try.prog w = .ok (.bool (!x)) w := fun _ _ => rfl
  go_enter Try.func22, Try.ntmps22
  go_wp2
  go_end0
  exact ⟨rfl, rfl⟩
theorem must2_no (f : Int) (b : Bool) (h : f ≠ 0 ∨ b = false) (w : World) : Calls Try.prog 22 #[.int .i64 f, .bool b] w fun e' w' => e' = gone 2 ∧ w' = w := by
  have hnot : ∀ (x : Bool) (w : World), (Op.unary .not (.bool x)).run Try.prog w = .ok (.bool (!x)) w := fun _ _ => rfl
  by_cases hf : f = 0
  · subst hf
    have hb : b = false := by simpa using h
    subst hb
    go_enter Try.func22, Try.ntmps22
    go_wp2
    exact ⟨rfl, rfl, rfl⟩
  · have h1 := eq_false hf
    have h2 : decide (f = 0) = false := decide_eq_false hf
    clear h hf
    go_enter Try.func22, Try.ntmps22
    go_wp2
    exact ⟨rfl, rfl, rfl⟩

theorem bits_some (t : List Int) (h : Int) (hh : 0 ≤ h ∧ h < 256) (ht : t.length ≤ 1000000) : ∃ (r : T) (r4 : Int), scalar_Bits.f t (wrap64 (wrap64 (8 * (t.length : Int)) - h)) = some (r.f0, r.f1, r.f2, r4) := by
  have e1 : wrap64 (8 * (t.length : Int)) = 8 * (t.length : Int) := by unfold wrap64; omega
  have e2 : wrap64 (8 * (t.length : Int) - h) = 8 * (t.length : Int) - h := by unfold wrap64; omega
  have e3 : wrap64 (8 * (t.length : Int) - (8 * (t.length : Int) - h)) = h := by unfold wrap64; omega
  have e4 : wrap64 ((t.length : Int) - 1) = (t.length : Int) - 1 := by unfold wrap64; omega
  rw [e1, e2]
  unfold scalar_Bits.f
  rw [e1, e3, e4]
  by_cases c1 : 8 * (t.length : Int) - h < 0
  · rw [if_pos c1]; exact ⟨⟨_, _, _⟩, _, rfl⟩
  · rw [if_neg c1, if_neg (by omega)]
    by_cases c2 : h > 7
    · rw [if_pos c2]; exact ⟨⟨_, _, _⟩, _, rfl⟩
    · rw [if_neg c2]
      have c5 : ∀ y : Int, ([y] : List Int).length + t.length < 140737488355328 := fun y => by simp; omega
      by_cases c3 : h > 0
      · rw [if_pos c3, if_pos (by omega), if_pos (by omega), if_pos (by omega), Option.bind_some, if_pos (c5 _)]
        split
        · exact ⟨⟨_, _, _⟩, _, rfl⟩
        · exact ⟨⟨_, _, _⟩, _, rfl⟩
      · rw [if_neg c3, Option.bind_some, if_pos (c5 _)]; exact ⟨⟨_, _, _⟩, _, rfl⟩
theorem bits_zero (t : List Int) (ht : t.length ≤ 1000000) : scalar_Bits.f t (wrap64 (wrap64 (8 * (t.length : Int)) - 0)) = some (3, 0 :: t, [], 0) := by
  have e1 : wrap64 (8 * (t.length : Int)) = 8 * (t.length : Int) := by unfold wrap64; omega
  have e2 : wrap64 (8 * (t.length : Int) - 0) = 8 * (t.length : Int) := by unfold wrap64; omega
  have e3 : wrap64 (8 * (t.length : Int) - 8 * (t.length : Int)) = 0 := by unfold wrap64; omega
  rw [e1, e2]
  unfold scalar_Bits.f
  rw [e1, e3, if_neg (by omega), if_neg (by omega), if_neg (by omega), if_neg (by omega)]
  have e4 : ([(0 : Int) % 256] : List Int).length + t.length < 140737488355328 := by simp; omega
  rw [Option.bind_some, if_pos e4]
  rfl
/-- A bit string of whole bytes: its bytes. -/
def sigP (n : T) : Option (List Int) := match n.f1 with
  | [] => none
  | h :: t => if h = 0 ∧ n.f0 = 3 ∧ n.f2 = [] then some t else none
def openSig (x : T) : Option (T × List Int) := match x.f2 with
  | [a, b, c] => if x.f0 = 48 ∧ sameP b (algT 11) = true then (match sigP c with | some t => some (a, t) | none => none) else none
  | _ => none

theorem sig_walk (c : T) (hv : ∀ v ∈ c.f1, 0 ≤ v ∧ v < 256) (hl : c.f1.length ≤ 1000000) (A1 : Option Addr) (c1 : Nat) (A2 : Option Addr) (c2 : Nat) (w : World) (hn : NodeAt w c A1 c1 A2 c2) :
    Calls Try.prog 24 #[.agg #[.int .i64 c.f0, .slice A1 c.f1.length c1, .slice A2 c.f2.length c2]] w fun e w' => (∃ A l cc m f, e = .returned (.tuple #[.slice A l cc, .int .i64 m, .int .i64 f]) ∧
      ((f ≠ 0 ∧ sigP c = none) ∨ (f = 0 ∧ m ≠ wrap64 (8 * (l : Int)) ∧ sigP c = none) ∨ (f = 0 ∧ m = wrap64 (8 * (l : Int)) ∧ ∃ t, sigP c = some t ∧ l = t.length ∧ (Kd.int .u8).R 5 w' w.heap.size (fun _ => True) (.slice A t.length cc) t))) ∧ Below w.heap.size w w' := by
  cases hc : c.f1 with
  | nil =>
    have hx := of_none c hc A1 c1 A2 c2 w
    rw [hc] at hx
    refine hx.mono ?_
    rintro e w' ⟨rfl, hB⟩
    exact ⟨⟨none, 0, 0, 0, 2, rfl, .inl ⟨by decide, by unfold sigP; rw [hc]⟩⟩, hB⟩
  | cons h t =>
    have hh := hv h (by rw [hc]; exact List.mem_cons_self)
    have ht : t.length ≤ 1000000 := by rw [hc, List.length_cons] at hl; omega
    obtain ⟨r, r4, hf⟩ := bits_some t h hh ht
    have hx := of_walk c h t hc hh ht r r4 hf A1 c1 A2 c2 w hn
    rw [hc] at hx
    refine hx.mono ?_
    rintro e w' ⟨hq, hB⟩
    refine ⟨?_, hB⟩
    rcases hq with ⟨hng, rfl⟩ | ⟨h4, hs, A, cc, rfl, hR⟩
    · refine ⟨none, 0, 0, 0, 2, rfl, .inl ⟨by decide, ?_⟩⟩
      unfold sigP
      rw [hc]
      by_cases hz : h = 0 ∧ c.f0 = 3 ∧ c.f2 = []
      · exfalso
        obtain ⟨rfl, z1, z2⟩ := hz
        rw [bits_zero t ht] at hf
        simp only [Option.some.injEq, Prod.mk.injEq] at hf
        obtain ⟨q1, q2, q3, q4⟩ := hf
        refine hng ⟨q4.symm, ?_⟩
        unfold sameB
        rw [← q1, ← q2, ← q3, z1, z2, hc, eqB_rfl]
        simp [wrap64]
      · simp only []
        rw [if_neg hz]
    · have e1 : wrap64 (8 * (t.length : Int)) = 8 * (t.length : Int) := by unfold wrap64; omega
      have e2 : wrap64 (8 * (t.length : Int) - h) = 8 * (t.length : Int) - h := by unfold wrap64; omega
      refine ⟨A, t.length, cc, _, 0, rfl, .inr ?_⟩
      by_cases h0 : h = 0
      · subst h0
        refine .inr ⟨rfl, by rw [e1, e2]; omega, t, ?_, rfl, hR⟩
        rw [bits_zero t ht] at hf
        simp only [Option.some.injEq, Prod.mk.injEq] at hf
        obtain ⟨q1, q2, q3, q4⟩ := hf
        unfold sameB at hs
        rw [Bool.and_eq_true, Bool.and_eq_true] at hs
        have z1 : c.f0 = 3 := by have := of_decide_eq_true hs.1; rw [← this, ← q1]
        have z2 : c.f2 = [] := by
          have h5 := eq_of_beq hs.2.2
          rw [← q3] at h5
          have hm := Kd.C_max hn.2.2.1
          have h6 : wrap64 (((([] : List T).length : Nat) : Int) + (c.f2.length : Int)) = c.f2.length := by simp; unfold wrap64; omega
          rw [h6] at h5
          exact List.length_eq_zero_iff.1 (by omega)
        unfold sigP
        rw [hc]
        simp only []
        rw [if_pos ⟨trivial, z1, z2⟩]
      · refine .inl ⟨rfl, by rw [e1, e2]; omega, ?_⟩
        unfold sigP
        rw [hc]
        simp only []
        rw [if_neg (fun hz => h0 hz.1)]

/-- What Open's closure does: x is what was read, in block p; the signature goes into block q. -/
def Open1Post (w : World) (x : T) (q : Nat) (e : Ending) (w' : World) : Prop := match openSig x with
  | none => e = gone 2 ∧ Below w.heap.size w w'
  | some (_, t) => e = .returned (.tuple #[]) ∧ ∃ w6 A c, Below w.heap.size w w6 ∧ w' = w6.setCell ⟨q, 0, none⟩ (.slice A t.length c) ∧ (Kd.int .u8).R 5 w6 w.heap.size (fun _ => True) (.slice A t.length c) t

theorem size_alg11 : sizeT (algT 11) ≤ 100000000 := by
  have e : sizeT (algT 11) = 15 := by decide
  omega

theorem open1_chain {w w3 : World} {p : Nat} {b0 : Value} {X1 : Value} {ad : Addr} {x2 : Nat} {tp : TypeId} {y : T} {Y1 : Option Addr} {y1 : Nat} {Y2 : Option Addr} {y2 : Nat} {M1 : Option Addr} {m1 : Nat} {M2 : Option Addr} {m2 : Nat} (hp : w.heap[p]? = some (.cells #[b0, X1, .slice (some ad) 3 x2] tp (0, 0)))
    (u0 : w.cell? ⟨ad.block, ad.off + 3, none⟩ = some (.int .i64 y.f0)) (u1 : w.cell? ⟨ad.block, ad.off + 3 + 1, none⟩ = some (.slice Y1 y.f1.length y1)) (u2 : w.cell? ⟨ad.block, ad.off + 3 + 2, none⟩ = some (.slice Y2 y.f2.length y2))
    (hny : NodeAt w y Y1 y1 Y2 y2) (hy : rightT y = true → sizeT y ≤ 100000000) (hm : NodeAt w3 (algT 11) M1 m1 M2 m2) (hB3' : Below w.drew.heap.size w.drew w3) :
    (w3.cell? ⟨p, 2, none⟩ = some (.slice (some ad) 3 x2) ∧ w3.cell? ⟨ad.block, ad.off + 3, none⟩ = some (.int .i64 y.f0) ∧ w3.cell? ⟨ad.block, ad.off + 3 + 1, none⟩ = some (.slice Y1 y.f1.length y1) ∧ w3.cell? ⟨ad.block, ad.off + 3 + 2, none⟩ = some (.slice Y2 y.f2.length y2)) ∧
    Calls Try.prog 23 #[.agg #[.int .i64 y.f0, .slice Y1 y.f1.length y1, .slice Y2 y.f2.length y2], .agg #[.int .i64 48, .slice M1 0 m1, .slice M2 2 m2]] w3 (fun e w4 => e = .returned (.bool (sameP y (algT 11))) ∧ Below w3.heap.size w3 w4) ∧
    (∀ w4, Below w3.heap.size w3 w4 → (w4.cell? ⟨p, 2, none⟩ = some (.slice (some ad) 3 x2) ∧ w4.cell? ⟨ad.block, ad.off + 3, none⟩ = some (.int .i64 y.f0) ∧ w4.cell? ⟨ad.block, ad.off + 3 + 1, none⟩ = some (.slice Y1 y.f1.length y1) ∧ w4.cell? ⟨ad.block, ad.off + 3 + 2, none⟩ = some (.slice Y2 y.f2.length y2)) ∧ Below w.heap.size w w4) := by
  have hB3 : Below w.heap.size w w3 := (show Below w.heap.size w w.drew from (Below.refl _ _).drew).trans hB3'
  have hall : ∀ w4, Below w.heap.size w w4 → (w4.cell? ⟨p, 2, none⟩ = some (.slice (some ad) 3 x2) ∧ w4.cell? ⟨ad.block, ad.off + 3, none⟩ = some (.int .i64 y.f0) ∧ w4.cell? ⟨ad.block, ad.off + 3 + 1, none⟩ = some (.slice Y1 y.f1.length y1) ∧ w4.cell? ⟨ad.block, ad.off + 3 + 2, none⟩ = some (.slice Y2 y.f2.length y2)) := fun w4 hB =>
    ⟨Lib.cell_of_heap ((hB.block _ (heap_lt hp)).trans hp) 2, (hB.cell (World.block_lt_of_cell? w _ u0)).trans u0, (hB.cell (World.block_lt_of_cell? w _ u1)).trans u1, (hB.cell (World.block_lt_of_cell? w _ u2)).trans u2⟩
  refine ⟨hall w3 hB3, same_walk y (algT 11) hy (fun _ => size_alg11) Y1 y1 Y2 y2 M1 m1 M2 m2 w3 (hny.below hB3) hm, fun w4 hB4 => ?_⟩
  have hB := hB3.trans (hB4.mono hB3.size)
  exact ⟨hall w4 hB, hB⟩

set_option maxHeartbeats 4000000 in
set_option maxRecDepth 100000 in
theorem open1_tag (x : T) (p q : Nat) (w : World) (X1 : Option Addr) (x1 : Nat) (X2 : Option Addr) (x2 : Nat) (tp : TypeId) (hp : w.heap[p]? = some (.cells #[.int .i64 x.f0, .slice X1 x.f1.length x1, .slice X2 x.f2.length x2] tp (0, 0))) (h : x.f0 ≠ 48 ∨ x.f2.length ≠ 3) :
    Calls Try.prog 21 #[.pointer (some ⟨p, 0, none⟩), .pointer (some ⟨q, 0, none⟩)] w fun e w' => e = gone 2 ∧ Below w.heap.size w w' := by
  have a0 := Lib.cell_of_heap hp 0
  have a2 := Lib.cell_of_heap hp 2
  by_cases h0 : x.f0 = 48
  · have hl : x.f2.length ≠ 3 := by rcases h with h | h; exact absurd h0 h; exact h
    have hl1 : ((x.f2.length : Int) == 3) = false := beq_eq_false_iff_ne.2 (by omega)
    rw [h0] at a0
    clear h hl h0 hp
    go_enter Try.func21, Try.ntmps21
    go_wp2_with (fail)
    refine (must2_no 0 false (.inr rfl) _).mono ?_
    rintro e w2 ⟨rfl, rfl⟩
    exact ⟨rfl, rfl, Below.refl _ _⟩
  · have h1 := eq_false h0
    have h2 : decide (x.f0 = 48) = false := decide_eq_false h0
    clear h h0 hp
    go_enter Try.func21, Try.ntmps21
    go_wp2_with (fail)
    refine (must2_no 0 false (.inr rfl) _).mono ?_
    rintro e w2 ⟨rfl, rfl⟩
    exact ⟨rfl, rfl, Below.refl _ _⟩

set_option maxHeartbeats 4000000 in
set_option maxRecDepth 100000 in
theorem open1_three (a y z : T) (body : List Int) (p q : Nat) (w : World) (X1 : Option Addr) (x1 : Nat) (X2 : Option Addr) (x2 : Nat) (tp tq : TypeId) (s0 : Value) (hp : w.heap[p]? = some (.cells #[.int .i64 48, .slice X1 body.length x1, .slice X2 3 x2] tp (0, 0))) (hq : w.heap[q]? = some (.cells #[s0] tq (0, 0)))
    (hk : k25.C w X2 3 [a, y, z]) (hy : rightT y = true → sizeT y ≤ 100000000) (hv : ∀ v ∈ z.f1, 0 ≤ v ∧ v < 256) (hl : z.f1.length ≤ 1000000) :
    Calls Try.prog 21 #[.pointer (some ⟨p, 0, none⟩), .pointer (some ⟨q, 0, none⟩)] w (Open1Post w ⟨48, body, [a, y, z]⟩ q) := by
  obtain ⟨ad, Y1, y1, Y2, y2, rfl, u0, u1, u2, l1, i1, l2, i2⟩ := at_T25 hk 1 (by omega) (by omega)
  obtain ⟨ad', Z1, z1, Z2, z2, e', v0, v1, v2, m1, j1, m2, j2⟩ := at_T25 hk 2 (by omega) (by omega)
  injection e' with e'
  subst e'
  have hry : rd_T25 [a, y, z] 1 = y := rfl
  have hrz : rd_T25 [a, y, z] 2 = z := rfl
  rw [hry] at u0 u1 u2 l1 i1 l2 i2
  rw [hrz] at v0 v1 v2 m1 j1 m2 j2
  have hny : NodeAt w y Y1 y1 Y2 y2 := ⟨i1, l1, i2, l2⟩
  have hnz : NodeAt w z Z1 z1 Z2 z2 := ⟨j1, m1, j2, m2⟩
  have t1 : Int.toNat 1 = 1 := rfl
  have t2 : Int.toNat 2 = 2 := rfl
  rw [t1] at u0 u1 u2
  rw [t2] at v0 v1 v2
  replace u0 : w.cell? ⟨ad.block, ad.off + 3, none⟩ = some (.int .i64 y.f0) := u0
  replace u1 : w.cell? ⟨ad.block, ad.off + 3 + 1, none⟩ = some (.slice Y1 y.f1.length y1) := u1
  replace u2 : w.cell? ⟨ad.block, ad.off + 3 + 2, none⟩ = some (.slice Y2 y.f2.length y2) := u2
  replace v0 : w.cell? ⟨ad.block, ad.off + 6, none⟩ = some (.int .i64 z.f0) := v0
  replace v1 : w.cell? ⟨ad.block, ad.off + 6 + 1, none⟩ = some (.slice Z1 z.f1.length z1) := v1
  replace v2 : w.cell? ⟨ad.block, ad.off + 6 + 2, none⟩ = some (.slice Z2 z.f2.length z2) := v2
  have a0 := Lib.cell_of_heap hp 0
  have a2 := Lib.cell_of_heap hp 2
  have z0' : (w.heap[p]? = some (.cells #[.int .i64 48, .slice X1 body.length x1, .slice (some ad) 3 x2] tp (0, 0))) := hp
  have HP := Lib.hid hp
  have HQ := Lib.hid hq
  have HNZ := Lib.hid hnz
  have HV := Lib.hid (And.intro v0 (And.intro v1 v2))
  have HZ := Lib.hid (And.intro hv hl)
  have HR1 := Lib.hid (fun (w3 : World) (M1 : Option Addr) (m1 : Nat) (M2 : Option Addr) (m2 : Nat) (hm : NodeAt w3 (algT 11) M1 m1 M2 m2) (hB3 : Below w.drew.heap.size w.drew w3) =>
    open1_chain (w := w) hp u0 u1 u2 hny hy hm hB3)
  have b0 : w.drew.cell? ⟨p, 2, none⟩ = some (.slice (some ad) 3 x2) := a2
  have b1 : w.drew.cell? ⟨ad.block, ad.off + 3, none⟩ = some (.int .i64 y.f0) := u0
  have b2 : w.drew.cell? ⟨ad.block, ad.off + 3 + 1, none⟩ = some (.slice Y1 y.f1.length y1) := u1
  have b3 : w.drew.cell? ⟨ad.block, ad.off + 3 + 2, none⟩ = some (.slice Y2 y.f2.length y2) := u2
  generalize hPP : Open1Post w ⟨48, body, [a, y, z]⟩ q = PP
  clear hk hy hv hl i1 i2 j1 j2 l1 l2 m1 m2 hny hnz hp hq z0' u0 u1 u2 v0 v1 v2 hry hrz t1 t2
  cases hsm : sameP y (algT 11) with
  | false =>
    have hp : PP = fun e w' => e = gone 2 ∧ Below w.heap.size w w' := by
      rw [← hPP]; funext e w'; unfold Open1Post openSig; simp only []; rw [if_neg (by rw [hsm]; simp)]
    clear hPP
    subst hp
    rw [hsm] at HR1
    clear hsm
    go_enter Try.func21, Try.ntmps21
    go_wp2_with (fail)
    refine (must2_yes _).mono ?_
    rintro e w2 ⟨rfl, rfl⟩
    go_wp2
    refine start_ (n := 7) (S := fun w' => w'.cell? ⟨p, 2, none⟩ = some (.slice (some ad) 3 x2) ∧ w'.cell? ⟨ad.block, ad.off + 3, none⟩ = some (.int .i64 y.f0) ∧ w'.cell? ⟨ad.block, ad.off + 3 + 1, none⟩ = some (.slice Y1 y.f1.length y1) ∧ w'.cell? ⟨ad.block, ad.off + 3 + 2, none⟩ = some (.slice Y2 y.f2.length y2)) (ds := []) #[false, false, false, false, false, false, false] (by kernel_rfl) rfl rfl ⟨b0, b1, b2, b3⟩ (fun hHeld => ?_)
    refine pure_ (i := 0) (N := some 15) (v := ?_) (a' := ?_) #[true, false, false, false, false, false, false] rfl rfl (by kernel_rfl) (fun _ _ _ h => h) (Or.inl ⟨by rfl, ?_⟩) ?_ ?_
    rotate_left
    · intro w'
      go_simp
      with_reducible rfl
    rotate_left
    · simp only [Act.put, List.setIfInBounds_toArray, List.set_cons_zero, List.set_cons_succ, i64_w, i32_w]
      rfl
    refine take_ (i := 1) (N := some 16) (v := ?_) (a' := ?_) #[true, true, false, false, false, false, false] rfl rfl (by kernel_rfl) (fun _ _ _ h => h) (Or.inl ⟨by rfl, ?_⟩) hHeld ?_ ?_
    rotate_left
    · rintro w' ⟨s0, s1, s2, s3⟩
      go_simp
      with_reducible rfl
    rotate_left
    · simp only [Act.put, List.setIfInBounds_toArray, List.set_cons_zero, List.set_cons_succ, i64_w, i32_w]
      rfl
    refine pure_ (i := 2) (N := some 17) (v := ?_) (a' := ?_) #[true, true, true, false, false, false, false] rfl rfl (by kernel_rfl) (fun _ _ _ h => h) (Or.inl ⟨by rfl, ?_⟩) ?_ ?_
    rotate_left
    · intro w'
      go_simp
      with_reducible rfl
    rotate_left
    · simp only [Act.put, List.setIfInBounds_toArray, List.set_cons_zero, List.set_cons_succ, i64_w, i32_w]
      rfl
    refine take_ (i := 3) (N := some 18) (v := ?_) (a' := ?_) #[true, true, true, true, false, false, false] rfl rfl (by kernel_rfl) (fun _ _ _ h => h) (Or.inl ⟨by rfl, ?_⟩) hHeld ?_ ?_
    rotate_left
    · rintro w' ⟨s0, s1, s2, s3⟩
      go_simp
      with_reducible rfl
    rotate_left
    · simp only [Act.put, List.setIfInBounds_toArray, List.set_cons_zero, List.set_cons_succ, i64_w, i32_w]
      rfl
    refine one_ (i := 4) (N := some 19) #[true, true, true, true, true, false, false] rfl rfl (by kernel_rfl) (by decide) (fun K hK => ?_)
    refine goes_ Try.func14 (by kernel_rfl) rfl #[.int .u32 11] (by rfl) rfl rfl (by (try simp only [List.map_toArray, List.map_cons, List.map_nil]); first | done | rfl) ?_
    refine (made_walk 11 oid_f11 _).mono ?_
    rintro e w3 ⟨v1, v2, rfl, ho3, hb3⟩
    refine ⟨_, rfl, ?_⟩
    obtain ⟨M1, m1, M2, m2, rfl, rfl, hm⟩ := ho3.form
    have HF := Lib.hid (HR1.out w3 M1 m1 M2 m2 hm hb3)
    clear ho3 hb3 hm
    refine hK.out _ _ HF.out.1 (fun hHeld => ?_)
    clear hK K
    refine norm_ (a' := ?_) ?_ ?_
    rotate_left
    · show Act.put _ (some 19) _ = _
      simp only [Act.put, List.setIfInBounds_toArray, List.set_cons_zero, List.set_cons_succ, i64_w, i32_w]
      rfl
    refine one_ (i := 5) (N := some 20) #[true, true, true, true, true, true, false] rfl rfl (by kernel_rfl) (by decide) (fun K hK => ?_)
    refine goes_ Try.func23 (by kernel_rfl) rfl #[.agg #[.int .i64 y.f0, .slice Y1 y.f1.length y1, .slice Y2 y.f2.length y2], .agg #[.int .i64 48, .slice M1 0 m1, .slice M2 2 m2]] (by rfl) rfl rfl (by (try simp only [List.map_toArray, List.map_cons, List.map_nil]); first | done | rfl) ?_
    refine (HF.out.2.1).mono ?_
    rintro e w4 ⟨rfl, hB4⟩
    refine ⟨_, rfl, ?_⟩
    have HG := Lib.hid (HF.out.2.2 w4 hB4)
    clear hB4
    refine hK.out _ _ HG.out.1 (fun hHeld => ?_)
    clear hK K
    refine norm_ (a' := ?_) ?_ ?_
    rotate_left
    · show Act.put _ (some 20) _ = _
      simp only [Act.put, List.setIfInBounds_toArray, List.set_cons_zero, List.set_cons_succ, i64_w, i32_w]
      rfl
    refine one_ (i := 6) (N := some 21) #[true, true, true, true, true, true, true] rfl rfl (by kernel_rfl) (by decide) (fun K hK => ?_)
    refine dies_ Try.func22 (by kernel_rfl) rfl #[.int .i64 0, .bool false] (by rfl) rfl (by (try simp only [List.map_toArray, List.map_cons, List.map_nil]); first | done | rfl) ?_
    refine (must2_no 0 false (.inr rfl) _).mono ?_
    rintro e w5 ⟨rfl, rfl⟩
    refine ⟨_, rfl, ?_⟩
    exact ⟨rfl, rfl, HG.out.2⟩
  | true =>
    rw [hsm] at HR1
    go_enter Try.func21, Try.ntmps21
    go_wp2_with (fail)
    refine (must2_yes _).mono ?_
    rintro e w2 ⟨rfl, rfl⟩
    go_wp2
    refine start_ (n := 7) (S := fun w' => w'.cell? ⟨p, 2, none⟩ = some (.slice (some ad) 3 x2) ∧ w'.cell? ⟨ad.block, ad.off + 3, none⟩ = some (.int .i64 y.f0) ∧ w'.cell? ⟨ad.block, ad.off + 3 + 1, none⟩ = some (.slice Y1 y.f1.length y1) ∧ w'.cell? ⟨ad.block, ad.off + 3 + 2, none⟩ = some (.slice Y2 y.f2.length y2)) (ds := []) #[false, false, false, false, false, false, false] (by kernel_rfl) rfl rfl ⟨b0, b1, b2, b3⟩ (fun hHeld => ?_)
    refine pure_ (i := 0) (N := some 15) (v := ?_) (a' := ?_) #[true, false, false, false, false, false, false] rfl rfl (by kernel_rfl) (fun _ _ _ h => h) (Or.inl ⟨by rfl, ?_⟩) ?_ ?_
    rotate_left
    · intro w'
      go_simp
      with_reducible rfl
    rotate_left
    · simp only [Act.put, List.setIfInBounds_toArray, List.set_cons_zero, List.set_cons_succ, i64_w, i32_w]
      rfl
    refine take_ (i := 1) (N := some 16) (v := ?_) (a' := ?_) #[true, true, false, false, false, false, false] rfl rfl (by kernel_rfl) (fun _ _ _ h => h) (Or.inl ⟨by rfl, ?_⟩) hHeld ?_ ?_
    rotate_left
    · rintro w' ⟨s0, s1, s2, s3⟩
      go_simp
      with_reducible rfl
    rotate_left
    · simp only [Act.put, List.setIfInBounds_toArray, List.set_cons_zero, List.set_cons_succ, i64_w, i32_w]
      rfl
    refine pure_ (i := 2) (N := some 17) (v := ?_) (a' := ?_) #[true, true, true, false, false, false, false] rfl rfl (by kernel_rfl) (fun _ _ _ h => h) (Or.inl ⟨by rfl, ?_⟩) ?_ ?_
    rotate_left
    · intro w'
      go_simp
      with_reducible rfl
    rotate_left
    · simp only [Act.put, List.setIfInBounds_toArray, List.set_cons_zero, List.set_cons_succ, i64_w, i32_w]
      rfl
    refine take_ (i := 3) (N := some 18) (v := ?_) (a' := ?_) #[true, true, true, true, false, false, false] rfl rfl (by kernel_rfl) (fun _ _ _ h => h) (Or.inl ⟨by rfl, ?_⟩) hHeld ?_ ?_
    rotate_left
    · rintro w' ⟨s0, s1, s2, s3⟩
      go_simp
      with_reducible rfl
    rotate_left
    · simp only [Act.put, List.setIfInBounds_toArray, List.set_cons_zero, List.set_cons_succ, i64_w, i32_w]
      rfl
    refine one_ (i := 4) (N := some 19) #[true, true, true, true, true, false, false] rfl rfl (by kernel_rfl) (by decide) (fun K hK => ?_)
    refine goes_ Try.func14 (by kernel_rfl) rfl #[.int .u32 11] (by rfl) rfl rfl (by (try simp only [List.map_toArray, List.map_cons, List.map_nil]); first | done | rfl) ?_
    refine (made_walk 11 oid_f11 _).mono ?_
    rintro e w3 ⟨v1, v2, rfl, ho3, hb3⟩
    refine ⟨_, rfl, ?_⟩
    obtain ⟨M1, m1, M2, m2, rfl, rfl, hm⟩ := ho3.form
    have HF := Lib.hid (HR1.out w3 M1 m1 M2 m2 hm hb3)
    clear ho3 hb3 hm
    refine hK.out _ _ HF.out.1 (fun hHeld => ?_)
    clear hK K
    refine norm_ (a' := ?_) ?_ ?_
    rotate_left
    · show Act.put _ (some 19) _ = _
      simp only [Act.put, List.setIfInBounds_toArray, List.set_cons_zero, List.set_cons_succ, i64_w, i32_w]
      rfl
    refine one_ (i := 5) (N := some 20) #[true, true, true, true, true, true, false] rfl rfl (by kernel_rfl) (by decide) (fun K hK => ?_)
    refine goes_ Try.func23 (by kernel_rfl) rfl #[.agg #[.int .i64 y.f0, .slice Y1 y.f1.length y1, .slice Y2 y.f2.length y2], .agg #[.int .i64 48, .slice M1 0 m1, .slice M2 2 m2]] (by rfl) rfl rfl (by (try simp only [List.map_toArray, List.map_cons, List.map_nil]); first | done | rfl) ?_
    refine (HF.out.2.1).mono ?_
    rintro e w4 ⟨rfl, hB4⟩
    refine ⟨_, rfl, ?_⟩
    have HG := Lib.hid (HF.out.2.2 w4 hB4)
    clear hB4
    refine hK.out _ _ HG.out.1 (fun hHeld => ?_)
    clear hK K
    refine norm_ (a' := ?_) ?_ ?_
    rotate_left
    · show Act.put _ (some 20) _ = _
      simp only [Act.put, List.setIfInBounds_toArray, List.set_cons_zero, List.set_cons_succ, i64_w, i32_w]
      rfl
    refine one_ (i := 6) (N := some 21) #[true, true, true, true, true, true, true] rfl rfl (by kernel_rfl) (by decide) (fun K hK => ?_)
    refine goes_ Try.func22 (by kernel_rfl) rfl #[.int .i64 0, .bool true] (by rfl) rfl rfl (by (try simp only [List.map_toArray, List.map_cons, List.map_nil]); first | done | rfl) ?_
    refine (must2_yes _).mono ?_
    rintro e w5 ⟨rfl, rfl⟩
    refine ⟨_, rfl, ?_⟩
    refine hK.out _ _ HG.out.1 (fun hHeld => ?_)
    clear hK K
    refine norm_ (a' := ?_) ?_ ?_
    rotate_left
    · show Act.put _ (some 21) _ = _
      simp only [Act.put, List.setIfInBounds_toArray, List.set_cons_zero, List.set_cons_succ, i64_w, i32_w]
      rfl
    refine done_ (by kernel_rfl) ?_
    have hBw := HG.out.2
    have a2' := HG.out.1.1
    have v0 := (hBw.cell (World.block_lt_of_cell? _ _ HV.out.1)).trans HV.out.1
    have v1 := (hBw.cell (World.block_lt_of_cell? _ _ HV.out.2.1)).trans HV.out.2.1
    have v2 := (hBw.cell (World.block_lt_of_cell? _ _ HV.out.2.2)).trans HV.out.2.2
    have HOF := Lib.hid (sig_walk z HZ.out.1 HZ.out.2 Z1 z1 Z2 z2 w5 (HNZ.out.below hBw))
    have hq5 := (hBw.block _ (heap_lt HQ.out)).trans HQ.out
    have HQ5 := Lib.hid hq5
    have HBW := Lib.hid hBw
    clear hBw hq5 HF HG HR1 b0 b1 b2 b3 a0 a2 hHeld
    go_wp2_with (fail)
    refine HOF.out.mono ?_
    rintro e w6 ⟨⟨A, l, cc, m, f, rfl, hcase⟩, hB6⟩
    have hq6 := (hB6.block _ (heap_lt HQ5.out)).trans HQ5.out
    have hBw6 := HBW.out.trans (hB6.mono HBW.out.size)
    have q0 := Lib.cell_of_heap hq6 0
    have fq0 := Lib.frozen_of_heap hq6 0
    have HBW6 := Lib.hid hBw6
    have HB6 := Lib.hid HBW.out.size
    clear hq6 hBw6 hB6 HOF v0 v1 v2 a2'
    have HSM := Lib.hid hsm
    clear hsm
    rcases hcase with ⟨hf, hs⟩ | ⟨rfl, hm, hs⟩ | ⟨rfl, rfl, t, hs, rfl, hR⟩
    · have hp : PP = fun e w' => e = gone 2 ∧ Below w2.heap.size w2 w' := by
        rw [← hPP]; funext e w'; unfold Open1Post openSig; simp only []; rw [if_pos ⟨trivial, HSM.out⟩, hs]
      clear hPP hs
      subst hp
      have HF := Lib.hid hf
      clear hf
      go_wp2_with (fail)
      refine (must2_no f _ (.inl HF.out) _).mono ?_
      rintro e w7 ⟨rfl, rfl⟩
      exact ⟨rfl, rfl, HBW6.out⟩
    · have hp : PP = fun e w' => e = gone 2 ∧ Below w2.heap.size w2 w' := by
        rw [← hPP]; funext e w'; unfold Open1Post openSig; simp only []; rw [if_pos ⟨trivial, HSM.out⟩, hs]
      clear hPP hs
      subst hp
      have HM := Lib.hid hm
      clear hm
      go_wp2_with (fail)
      refine (must2_no 0 _ (.inr (beq_eq_false_iff_ne.2 HM.out)) _).mono ?_
      rintro e w7 ⟨rfl, rfl⟩
      exact ⟨rfl, rfl, HBW6.out⟩
    · have hp : PP = fun e w' => e = .returned (.tuple #[]) ∧ ∃ w6 A c, Below w2.heap.size w2 w6 ∧ w' = w6.setCell ⟨q, 0, none⟩ (.slice A t.length c) ∧ (Kd.int .u8).R 5 w6 w2.heap.size (fun _ => True) (.slice A t.length c) t := by
        rw [← hPP]; funext e w'; unfold Open1Post openSig; simp only []; rw [if_pos ⟨trivial, HSM.out⟩, hs]
      clear hPP hs
      subst hp
      have HR := Lib.hid (Kd.R_lower hR HB6.out)
      clear hR
      go_wp2_with (fail)
      refine (must2_yes _).mono ?_
      rintro e w7 ⟨rfl, rfl⟩
      go_wp2
      go_end0
      exact ⟨rfl, _, A, cc, HBW6.out, rfl, HR.out⟩

end Go.Proofs.Ytmbgjhkemlliaaa.Tlv

/- spki.wrong: a closure's panic becomes an error. -/
set_option linter.unusedVariables false
set_option linter.unusedSimpArgs false
namespace Go.Proofs.Ytmbgjhkemlliaaa.Tlv
open Go.RowKit Go.Proofs.YtmbgjhkemlliaaaW.PrintWords Go.Proofs.YtmbgjhkemlliaaaW.PrintLast Go.Proofs.YtmbgjhkemlliaaaW.PrintMore Go.Proofs.Ytmbgjhkemlliaaa.PTlv
attribute [local go_sem] as_yes as_no

set_option maxHeartbeats 1000000 in
theorem wcatch_panicking (B : Nat) (x : Int) (w : World) (c0 : (w.cell? ⟨B, 0, none⟩).isSome = true) (f0 : w.frozen? ⟨B, 0, none⟩ = false) :
    CallsD Try.prog 39 #[.pointer (some ⟨B, 0, none⟩)] (.panicking [{ v := .iface 28 (.int .i64 x), recovered := false }]) w fun e u' w' =>
      e = .returned (.tuple #[]) ∧ u' = .panicking [{ v := .iface 28 (.int .i64 x), recovered := true }] ∧ w' = w.setCell ⟨B, 0, none⟩ (.int .i64 x) := by
  refine callsD_of_wpS Try.func39 rfl fun c₀ cs hu => ?_
  apply wpS_seq
  apply wpS_region
  simp [wpOpsS, go_sem, recoverD, hu, Try.ntmps39, Exit.thenS]
  apply wpS_seq
  apply wpS_region
  simp [wpOpsS, go_sem, Exit.thenS]
  refine wpS_cond (t := true) (by simp [Act.eval, Array.replicate]) ?_
  simp only [if_true]
  refine wpS_of_wp ?_
  obtain ⟨x0, e0⟩ := Option.isSome_iff_exists.1 c0
  clear c0
  go_wp2
  cases c₀
  simp_all [bodyPostS, results, Try.results39]

set_option maxHeartbeats 1000000 in
theorem wcatch_idle (B : Nat) (w : World) :
    CallsD Try.prog 39 #[.pointer (some ⟨B, 0, none⟩)] .returning w fun e u' w' => e = .returned (.tuple #[]) ∧ u' = .returning ∧ w' = w := by
  refine callsD_of_wpS Try.func39 rfl fun c₀ cs hu => ?_
  apply wpS_seq
  apply wpS_region
  simp [wpOpsS, go_sem, recoverD, hu, Try.ntmps39, Exit.thenS]
  apply wpS_seq
  apply wpS_region
  simp [wpOpsS, go_sem, Exit.thenS]
  refine wpS_cond (t := false) (by simp [Act.eval, Array.replicate]) ?_
  simp only [Bool.false_eq_true, if_false]
  refine wpS_of_wp (wp_skip ?_)
  cases c₀
  simp_all [bodyPostS, results, Try.results39]

set_option maxHeartbeats 4000000 in
set_option maxRecDepth 100000 in
theorem wdoor (x : Int) (w w4 : World) (R : Int → World → Prop) (hR : R x w4) (tmps : Array Value) (n0 : Value) (h2 : w4.heap[w.heap.size]? = some (.cells #[n0] 28 (0, 0))) (ht2 : tmps[2]? = some (.pointer (some ⟨w.heap.size, 0, none⟩))) :
    bodyPostD Try.prog Try.f20 (fun e w' => ∃ x w2, e = .returned (.int .i64 x) ∧ R x w2 ∧ w' = w2.setCell ⟨w.heap.size, 0, none⟩ (.int .i64 x)) (Exit.panic [{ v := .iface 28 (.int .i64 x), recovered := false }])
      { tmps := tmps, defers := [{ target := .fn (.func 39) #[.pointer (some ⟨w.heap.size, 0, none⟩)], args := #[] }] } w4 := by
  refine leaves_cons (f := 39) (args := #[.pointer (some ⟨w.heap.size, 0, none⟩)]) (by simp) (by simp [go_sem]) ?_
  have a0 := Lib.cell_of_heap h2 0
  refine (wcatch_panicking w.heap.size x w4 (by rw [a0]; rfl) (Lib.frozen_of_heap h2 0)).mono ?_
  rintro e u' w'' ⟨rfl, rfl, rfl⟩
  simp [Leaves, settle, results, Try.results20, go_sem, a0, ht2]
  exact ⟨_, hR, rfl⟩

set_option maxHeartbeats 4000000 in
set_option maxRecDepth 100000 in
theorem wdoor_ret (w w2 : World) (R : Int → World → Prop) (hR : R 0 w2) (tmps : Array Value) (n0 : Value) (h2 : w2.heap[w.heap.size]? = some (.cells #[n0] 28 (0, 0))) (ht2 : tmps[2]? = some (.pointer (some ⟨w.heap.size, 0, none⟩))) :
    bodyPostD Try.prog Try.f20 (fun e w' => ∃ x w2, e = .returned (.int .i64 x) ∧ R x w2 ∧ w' = w2.setCell ⟨w.heap.size, 0, none⟩ (.int .i64 x)) Exit.ret
      { tmps := tmps, defers := [{ target := .fn (.func 39) #[.pointer (some ⟨w.heap.size, 0, none⟩)], args := #[] }] } (w2.setCell ⟨w.heap.size, 0, none⟩ (.int .i64 0)) := by
  have a0 : (w2.setCell ⟨w.heap.size, 0, none⟩ (.int .i64 0)).cell? ⟨w.heap.size, 0, none⟩ = some (.int .i64 0) := Lib.cell_of_heap (heap_setCell_same _ _ 0 _ _ _ h2) 0
  refine leaves_cons (f := 39) (args := #[.pointer (some ⟨w.heap.size, 0, none⟩)]) (by simp) (by simp [go_sem]) ?_
  refine (wcatch_idle w.heap.size _).mono ?_
  rintro e u' w'' ⟨rfl, rfl, rfl⟩
  generalize hW : w2.setCell ⟨w.heap.size, 0, none⟩ (.int .i64 0) = W at a0
  simp only [Leaves, settle, results, Try.results20]
  simp [go_sem, a0, ht2]
  exact ⟨w2, hR, hW.symm⟩

set_option maxHeartbeats 4000000 in
set_option maxRecDepth 100000 in
theorem wrong_walk (p q : Nat) (w : World) (R : Int → World → Prop)
    (H : Calls Try.prog 21 #[.pointer (some ⟨p, 0, none⟩), .pointer (some ⟨q, 0, none⟩)] (w.alloc (.cells #[.int .i64 0] 28)) fun e w2 => ((e = .returned (.tuple #[]) ∧ R 0 w2) ∨ (∃ x, e = gone x ∧ R x w2)) ∧ w2.heap[w.heap.size]? = some (.cells #[.int .i64 0] 28 (0, 0))) :
    Calls Try.prog 20 #[.func (.func 21) #[] #[.pointer (some ⟨p, 0, none⟩), .pointer (some ⟨q, 0, none⟩)]] w fun e w' => ∃ x w2, e = .returned (.int .i64 x) ∧ R x w2 ∧ w' = w2.setCell ⟨w.heap.size, 0, none⟩ (.int .i64 x) := by
  have hmf : ∀ (fn : Fn) (first cap : Array Value) (w : World), (Instr.makeFunc fn first cap).run Try.prog w = .ok (.func fn first cap) w := fun _ _ _ _ => rfl
  have HH := Lib.hid H
  clear H
  go_enter_defers Try.func20, Try.ntmps20
  go_wp2_with (fail)
  refine HH.out.mono ?_
  rintro e w2 ⟨hq, h2⟩
  rcases hq with ⟨rfl, hR⟩ | ⟨x, rfl, hR⟩
  · have a0 := Lib.cell_of_heap h2 0
    have f0 := Lib.frozen_of_heap h2 0
    have H2 := Lib.hid h2
    have HR := Lib.hid hR
    clear h2 hR HH
    go_wp2
    exact wdoor_ret w w2 R HR.out _ _ H2.out rfl
  · exact wdoor x w w2 R hR _ _ h2 rfl

end Go.Proofs.Ytmbgjhkemlliaaa.Tlv
