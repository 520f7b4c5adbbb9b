/- Merged by a program of this session (wip/tools/pack.py). -/
import Derived.Test.YtdioagebkfdkhaaKSpanJoins2
section
set_option linter.unusedVariables false
set_option linter.unusedSimpArgs false
namespace Go.Proofs.Ytdioagebkfdkhaa.Ad
open Go.RowKit Go.Proofs.YtdioagebkfdkhaaW.PrintWords Go.Proofs.YtdioagebkfdkhaaW.PrintLast Go.Proofs.YtdioagebkfdkhaaW.PrintMore Go.Proofs.Ytdioagebkfdkhaa.PT

def T4 (w2 : World) (s t : Spn) (g1 g2 : Nat) (W : World) : Prop :=
 Has W g1 s.arr 30 ∧ Has W g2 t.arr 30 ∧ g1 ≠ g2 ∧ w2.heap.size ≤ g1 ∧ w2.heap.size ≤ g2 ∧ Below w2.heap.size w2 W
def slen : Value → Nat
 | .slice _ n _ => n
 | _ => 0
/-- What holds at the head of a round of Both. -/
def BI (w2 : World) (K : Nat) (ja jb xs ys : List Spn) (A1 A2 : Option Addr) (c1 c2 : Nat) (ov : Value) (W : World) : Prop :=
 xs.length ≤ c1 ∧ ys.length ≤ c2 ∧ kS.C w2 A1 xs.length xs ∧ kS.C w2 A2 ys.length ys ∧ Below w2.heap.size w2 W ∧
 ∃ k done, xs.length + ys.length ≤ k ∧ done ++ both2 k xs ys = both2 K ja jb ∧ done.length + (xs.length + ys.length) ≤ ja.length + jb.length ∧ kS.R 30 W w2.heap.size (fun _ => True) ov done

set_option maxHeartbeats 4000000 in
set_option maxRecDepth 100000 in
theorem both_walk : BothC 11 10000 := by
 intro A c a B d b w hA hac hBb hbd hal hbl
 have HAB := Lib.hid (And.intro hA hBb)
 clear hA hBb
 go_enter Try.func11, Try.ntmps11
 go_wp2_with fail
 refine (joinS_walk A c a w HAB.out.1 (by omega)).mono ?_
 rintro e w1 ⟨v1, rfl, hR1, hB1⟩
 obtain ⟨A1, c1, e1, hc1, hC1⟩ := Kd.R_reads hR1
 subst e1
 have HB1 := Lib.hid hB1
 have HC1 := Lib.hid (And.intro hc1 hC1)
 clear hR1 hB1 hC1 hc1
 go_wp2_with fail
 refine (joinS_walk B d b w1 (Kd.C_below HAB.out.2 HB1.out) (by omega)).mono ?_
 rintro e w2 ⟨v2, rfl, hR2, hB2⟩
 obtain ⟨A2, c2, e2, hc2, hC2⟩ := Kd.R_reads hR2
 subst e2
 have HB2 := Lib.hid (HB1.out.trans (hB2.mono HB1.out.size))
 obtain ⟨K, hK⟩ : ∃ K, K = (joinS a).length + (joinS b).length := ⟨_, rfl⟩
 have HI : Hid (BI w2 K (joinS a) (joinS b) (joinS a) (joinS b) A1 A2 c1 c2 (.slice none 0 0) w2) := Lib.hid ⟨HC1.out.1, hc2, Kd.C_below HC1.out.2 hB2, hC2, Below.refl _ _, K, [], by omega, rfl, by simp, Kd.R_nil _ _ _ _ _⟩
 have hja := joinS_len a
 have hjb := joinS_len b
 have hbj := both2_join a b K (by omega)
 have HK := Lib.hid (And.intro hK hbj)
 clear hR2 hB2 hC2 hc2 HC1 HB1 hK hbj
 go_wp2
 go_loopw [0, 1, 5] (fun av bv ov wr => ∃ (xs ys : List Spn) (A1 A2 : Option Addr) (c1 c2 : Nat), av = .slice A1 xs.length c1 ∧ bv = .slice A2 ys.length c2 ∧ Hid (BI w2 K (joinS a) (joinS b) xs ys A1 A2 c1 c2 ov wr)) (fun av bv _ _ => slen av + slen bv)
 case atStart => exact ⟨_, _, A1, A2, c1, c2, rfl, rfl, HI⟩
 case round =>
  obtain ⟨xs, ys, A1, A2, c1, c2, rfl, rfl, HX⟩ := hrel
  clear HI
  obtain ⟨hx1, hy1, hCx, hCy, hBw, k, done, hk, hdone, hdl, hRo⟩ := HX.out
  obtain ⟨Ao, co, hov, hco, hCo⟩ := Kd.R_reads hRo
  subst hov
  cases xs with
  | nil =>
   have hdn : joinS done = bothS a b := by
    rw [← HK.out.2, ← hdone, both2_nil1, List.append_nil]
   have hdl2 : done.length ≤ 1000000 := by have := joinS_len a; have := joinS_len b; omega
   have HZ := Lib.hid (And.intro hdn (And.intro hCo hBw))
   clear hdn hdone hRo hCo hBw hCx hCy HX
   go_wp2_with fail
   refine (joinS_walk Ao co done wr HZ.out.2.1 hdl2).mono ?_
   rintro e w9 ⟨v9, rfl, hR9, hB9⟩
   rw [HZ.out.1] at hR9
   obtain ⟨A9, c9, e9⟩ := Kd.R_slice hR9
   subst e9
   have H9 := Lib.hid (And.intro hR9 hB9)
   clear hR9 hB9
   go_wp2
   go_ret
   have hb2 := HB2.out.trans (HZ.out.2.2.mono HB2.out.size)
   exact ⟨_, rfl, Kd.R_lower H9.out.1 hb2.size, hb2.trans (H9.out.2.mono hb2.size)⟩
  | cons s xs =>
  cases ys with
  | nil =>
   have hdn : joinS done = bothS a b := by
    rw [← HK.out.2, ← hdone, both2_nil2, List.append_nil]
   have hdl2 : done.length ≤ 1000000 := by have := joinS_len a; have := joinS_len b; omega
   have HZ := Lib.hid (And.intro hdn (And.intro hCo hBw))
   obtain ⟨n1, hn1⟩ : ∃ n, n = xs.length := ⟨_, rfl⟩
   have hl1 : (s :: xs).length = n1 + 1 := by rw [hn1]; rfl
   have hd1 := eq_true (show (0 : Int) < (n1 : Int) + 1 by omega)
   rw [hl1]
   clear hdn hdone hRo hCo hBw hCx hCy HX hl1
   go_wp2_with fail
   refine (joinS_walk Ao co done wr HZ.out.2.1 hdl2).mono ?_
   rintro e w9 ⟨v9, rfl, hR9, hB9⟩
   rw [HZ.out.1] at hR9
   obtain ⟨A9, c9, e9⟩ := Kd.R_slice hR9
   subst e9
   have H9 := Lib.hid (And.intro hR9 hB9)
   clear hR9 hB9
   go_wp2
   go_ret
   have hb2 := HB2.out.trans (HZ.out.2.2.mono HB2.out.size)
   exact ⟨_, rfl, Kd.R_lower H9.out.1 hb2.size, hb2.trans (H9.out.2.mono hb2.size)⟩
  | cons t ys =>
  obtain ⟨b1, o1, hA1, hQ1⟩ := C_form hCx (by simp)
  obtain ⟨b2, o2, hA2, hQ2⟩ := C_form hCy (by simp)
  subst hA1 hA2
  have q1 := hQ1 0 (by simp)
  have q2 := hQ2 0 (by simp)
  have HQ := Lib.hid (And.intro (show w2.rangeAt b1 o1 s.cells by simpa using q1) (show w2.rangeAt b2 o2 t.cells by simpa using q2))
  have HBw := Lib.hid hBw
  have HRo := Lib.hid hRo
  have HCx := Lib.hid (And.intro hx1 (And.intro hy1 (And.intro hCx hCy)))
  clear q1 q2 hQ1 hQ2 hBw hRo hCo hx1 hy1 hCx hCy HX
  obtain ⟨n1, hn1⟩ : ∃ n, n = xs.length := ⟨_, rfl⟩
  obtain ⟨n2, hn2⟩ : ∃ n, n = ys.length := ⟨_, rfl⟩
  have hl1 : (s :: xs).length = n1 + 1 := by rw [hn1]; rfl
  have hl2 : (t :: ys).length = n2 + 1 := by rw [hn2]; rfl
  have hd1 := eq_true (show (0 : Int) < (n1 : Int) + 1 by omega)
  have hd2 := eq_true (show (0 : Int) < (n2 : Int) + 1 by omega)
  rw [hl1, hl2]
  go_wp2
  refine start_ (n := 10) (S := fun W => Below wr.heap.size wr W) (ds := []) #[false, false, false, false, false, false, false, false, false, false] (by kernel_rfl) rfl rfl (Below.refl _ _).drew (fun hHeld => ?_)
  refine pure_ (i := 0) (N := some 21) (v := ?_) (a' := ?_) #[true, false, false, false, false, false, false, false, false, false] rfl rfl (by kernel_rfl) (fun _ _ _ h => h) (Or.inl ⟨by rfl, ?_⟩) ?_ ?_
  rotate_left
  ·intro w'
   go_simp
   with_reducible rfl
  rotate_left
  ·simp only [Act.put, List.setIfInBounds_toArray, List.set_cons_zero, List.set_cons_succ, i64_w, i32_w]
   rfl
  refine pure_ (i := 1) (N := some 22) (v := ?_) (a' := ?_) #[true, true, false, false, false, false, false, false, false, false] rfl rfl (by kernel_rfl) (fun _ _ _ h => h) (Or.inl ⟨by rfl, ?_⟩) ?_ ?_
  rotate_left
  ·intro w'
   go_simp
   with_reducible rfl
  rotate_left
  ·simp only [Act.put, List.setIfInBounds_toArray, List.set_cons_zero, List.set_cons_succ, i64_w, i32_w]
   rfl
  refine take_ (i := 2) (N := some 23) (v := .agg s.arr) (a' := ?_) #[true, true, true, false, false, false, false, false, false, false] rfl rfl (by kernel_rfl) (fun _ _ _ h => h) ?_ hHeld ?_ ?_
  ·exact yS (by rfl) rfl s b1 o1 rfl (fun W h => ra_below HQ.out.1 (HBw.out.trans (h.mono HBw.out.size)))
  rotate_left
  ·simp only [Act.put, List.setIfInBounds_toArray, List.set_cons_zero, List.set_cons_succ, i64_w, i32_w]
   rfl
  refine pure_ (i := 3) (N := some 24) (v := ?_) (a' := ?_) #[true, true, true, true, false, false, false, false, false, false] rfl rfl (by kernel_rfl) (fun _ _ _ h => h) (Or.inl ⟨by rfl, ?_⟩) ?_ ?_
  rotate_left
  ·intro w'
   go_simp
   with_reducible rfl
  rotate_left
  ·simp only [Act.put, List.setIfInBounds_toArray, List.set_cons_zero, List.set_cons_succ, i64_w, i32_w]
   rfl
  refine pure_ (i := 4) (N := some 25) (v := ?_) (a' := ?_) #[true, true, true, true, true, false, false, false, false, false] rfl rfl (by kernel_rfl) (fun _ _ _ h => h) (Or.inl ⟨by rfl, ?_⟩) ?_ ?_
  rotate_left
  ·intro w'
   go_simp
   with_reducible rfl
  rotate_left
  ·simp only [Act.put, List.setIfInBounds_toArray, List.set_cons_zero, List.set_cons_succ, i64_w, i32_w]
   rfl
  refine take_ (i := 5) (N := some 26) (v := .agg t.arr) (a' := ?_) #[true, true, true, true, true, true, false, false, false, false] rfl rfl (by kernel_rfl) (fun _ _ _ h => h) ?_ hHeld ?_ ?_
  ·exact yS (by rfl) rfl t b2 o2 rfl (fun W h => ra_below HQ.out.2 (HBw.out.trans (h.mono HBw.out.size)))
  rotate_left
  ·simp only [Act.put, List.setIfInBounds_toArray, List.set_cons_zero, List.set_cons_succ, i64_w, i32_w]
   rfl
  generalize wr.drew = wz at hHeld ⊢
  refine join_ (σ := Nat × Nat) 0 #[true, true, true, true, true, true, true, true, true, true] (fun g => [(6, .pointer (some ⟨g.1, 0, none⟩)), (7, .pointer (some ⟨g.2, 0, none⟩))]) (fun g W => T4 wr s t g.1 g.2 W) ?_ ?_
  rotate_left
  ·intro hJ
   simp only [putAll, Act.put, List.setIfInBounds_toArray, List.set_cons_zero, List.set_cons_succ, i64_w, i32_w] at hJ
   refine two_ (i := 6) (j := 7) (Ni := some 6) (Nj := some 7) #[true, true, true, true, true, true, true, false, false, false] #[true, true, true, true, true, true, false, true, false, false] rfl rfl rfl rfl (by kernel_rfl) (by decide) (by decide) (fun K hK => ?_) (fun K hK => ?_)
   ·refine event_step (by rfl) (v := .pointer (some ⟨wz.heap.size, 0, none⟩)) (w1 := wz.alloc (.cells zS.arr 30)) (by first | kernel_rfl | (go_simp; rfl)) ?_
    have hN6 := Has.new wz zS.arr 30
    have hG6 := hHeld.size
    refine hK.out _ _ (show Below _ _ _ from hHeld.alloc hHeld.size (.cells zS.arr 30)) (fun hHeld => ?_)
    clear hK K
    refine norm_ (a' := ?_) ?_ ?_
    rotate_left
    ·show Act.put _ (some 6) _ = _
     simp only [Act.put, List.setIfInBounds_toArray, List.set_cons_zero, List.set_cons_succ, i64_w, i32_w]
     rfl
    generalize hh6 : wz.heap.size = g6 at hN6 hG6 ⊢
    generalize wz.alloc (.cells zS.arr 30) = wa at hHeld hN6 ⊢
    refine one_ (i := 7) (N := some 7) #[true, true, true, true, true, true, true, true, false, false] rfl rfl (by kernel_rfl) (by decide) (fun K hK => ?_)
    refine event_step (by rfl) (v := .pointer (some ⟨wa.heap.size, 0, none⟩)) (w1 := wa.alloc (.cells zS.arr 30)) (by first | kernel_rfl | (go_simp; rfl)) ?_
    have hN7 := Has.new wa zS.arr 30
    have hG7 := hHeld.size
    have hlt6 := hN6.lt
    replace hN6 := hN6.alloc (.cells zS.arr 30)
    refine hK.out _ _ (show Below _ _ _ from hHeld.alloc hHeld.size (.cells zS.arr 30)) (fun hHeld => ?_)
    clear hK K
    refine norm_ (a' := ?_) ?_ ?_
    rotate_left
    ·show Act.put _ (some 7) _ = _
     simp only [Act.put, List.setIfInBounds_toArray, List.set_cons_zero, List.set_cons_succ, i64_w, i32_w]
     rfl
    generalize hh7 : wa.heap.size = g7 at hN7 hG7 hlt6 ⊢
    generalize wa.alloc (.cells zS.arr 30) = wb at hHeld hN6 hN7 ⊢
    have hne6 : g6 ≠ g7 := by omega
    have hne7 : g7 ≠ g6 := fun e => hne6 e.symm
    refine one_ (i := 8) (N := none) #[true, true, true, true, true, true, true, true, true, false] rfl rfl (by kernel_rfl) (by decide) (fun K hK => ?_)
    refine storeRow_step (by rfl) 6 23 rfl g6 s rfl rfl hN6 ?_
    refine hK.out _ _ (show Below _ _ _ from below_setRow hHeld hG6 s.arr) (fun hHeld => ?_)
    clear hK K
    refine norm_ (a' := ?_) ?_ ?_
    rotate_left
    ·show Act.put _ none _ = _
     simp only [Act.put]
     rfl
    replace hN7 := hN7.setRow_other hne7 s.arr
    replace hN6 := hN6.setRow_same (c := s.arr)
    generalize wb.setRow g6 s.arr = wc at hHeld hN6 hN7 ⊢
    refine one_ (i := 9) (N := none) #[true, true, true, true, true, true, true, true, true, true] rfl rfl (by kernel_rfl) (by decide) (fun K hK => ?_)
    refine storeRow_step (by rfl) 7 26 rfl g7 t rfl rfl hN7 ?_
    refine hK.out _ _ (show Below _ _ _ from below_setRow hHeld hG7 t.arr) (fun hHeld => ?_)
    clear hK K
    refine norm_ (a' := ?_) ?_ ?_
    rotate_left
    ·show Act.put _ none _ = _
     simp only [Act.put]
     rfl
    replace hN6 := hN6.setRow_other hne6 t.arr
    replace hN7 := hN7.setRow_same (c := t.arr)
    generalize wc.setRow g7 t.arr = wd at hHeld hN6 hN7 ⊢
    exact hJ (g6, g7) _ ⟨hN6, hN7, hne6, hG6, hG7, hHeld⟩
   ·refine event_step (by rfl) (v := .pointer (some ⟨wz.heap.size, 0, none⟩)) (w1 := wz.alloc (.cells zS.arr 30)) (by first | kernel_rfl | (go_simp; rfl)) ?_
    have hN7 := Has.new wz zS.arr 30
    have hG7 := hHeld.size
    refine hK.out _ _ (show Below _ _ _ from hHeld.alloc hHeld.size (.cells zS.arr 30)) (fun hHeld => ?_)
    clear hK K
    refine norm_ (a' := ?_) ?_ ?_
    rotate_left
    ·show Act.put _ (some 7) _ = _
     simp only [Act.put, List.setIfInBounds_toArray, List.set_cons_zero, List.set_cons_succ, i64_w, i32_w]
     rfl
    generalize hh7 : wz.heap.size = g7 at hN7 hG7 ⊢
    generalize wz.alloc (.cells zS.arr 30) = wa at hHeld hN7 ⊢
    refine one_ (i := 6) (N := some 6) #[true, true, true, true, true, true, true, true, false, false] rfl rfl (by kernel_rfl) (by decide) (fun K hK => ?_)
    refine event_step (by rfl) (v := .pointer (some ⟨wa.heap.size, 0, none⟩)) (w1 := wa.alloc (.cells zS.arr 30)) (by first | kernel_rfl | (go_simp; rfl)) ?_
    have hN6 := Has.new wa zS.arr 30
    have hG6 := hHeld.size
    have hlt7 := hN7.lt
    replace hN7 := hN7.alloc (.cells zS.arr 30)
    refine hK.out _ _ (show Below _ _ _ from hHeld.alloc hHeld.size (.cells zS.arr 30)) (fun hHeld => ?_)
    clear hK K
    refine norm_ (a' := ?_) ?_ ?_
    rotate_left
    ·show Act.put _ (some 6) _ = _
     simp only [Act.put, List.setIfInBounds_toArray, List.set_cons_zero, List.set_cons_succ, i64_w, i32_w]
     rfl
    generalize hh6 : wa.heap.size = g6 at hN6 hG6 hlt7 ⊢
    generalize wa.alloc (.cells zS.arr 30) = wb at hHeld hN7 hN6 ⊢
    have hne6 : g6 ≠ g7 := by omega
    have hne7 : g7 ≠ g6 := fun e => hne6 e.symm
    refine one_ (i := 8) (N := none) #[true, true, true, true, true, true, true, true, true, false] rfl rfl (by kernel_rfl) (by decide) (fun K hK => ?_)
    refine storeRow_step (by rfl) 6 23 rfl g6 s rfl rfl hN6 ?_
    refine hK.out _ _ (show Below _ _ _ from below_setRow hHeld hG6 s.arr) (fun hHeld => ?_)
    clear hK K
    refine norm_ (a' := ?_) ?_ ?_
    rotate_left
    ·show Act.put _ none _ = _
     simp only [Act.put]
     rfl
    replace hN7 := hN7.setRow_other hne7 s.arr
    replace hN6 := hN6.setRow_same (c := s.arr)
    generalize wb.setRow g6 s.arr = wc at hHeld hN6 hN7 ⊢
    refine one_ (i := 9) (N := none) #[true, true, true, true, true, true, true, true, true, true] rfl rfl (by kernel_rfl) (by decide) (fun K hK => ?_)
    refine storeRow_step (by rfl) 7 26 rfl g7 t rfl rfl hN7 ?_
    refine hK.out _ _ (show Below _ _ _ from below_setRow hHeld hG7 t.arr) (fun hHeld => ?_)
    clear hK K
    refine norm_ (a' := ?_) ?_ ?_
    rotate_left
    ·show Act.put _ none _ = _
     simp only [Act.put]
     rfl
    replace hN6 := hN6.setRow_other hne6 t.arr
    replace hN7 := hN7.setRow_same (c := t.arr)
    generalize wc.setRow g7 t.arr = wd at hHeld hN6 hN7 ⊢
    exact hJ (g6, g7) _ ⟨hN6, hN7, hne6, hG6, hG7, hHeld⟩
  rintro ⟨g1, g2⟩ w4 hHeld
  simp only [putAll, Act.put, List.setIfInBounds_toArray, List.set_cons_zero, List.set_cons_succ, i64_w, i32_w]
  refine done_ (by kernel_rfl) ?_
  have HT4 : Hid (T4 wr s t g1 g2 w4) := Lib.hid hHeld
  clear hHeld
  have hxc : xs.length + 1 ≤ c1 := by have := HCx.out.1; simpa using this
  have hyc : ys.length + 1 ≤ c2 := by have := HCx.out.2.1; simpa using this
  have HD := Lib.hid (And.intro (tailC b1 o1 c1 s xs hxc w2 HCx.out.2.2.1) (tailC b2 o2 c2 t ys hyc w2 HCx.out.2.2.2))
  have hkk : ∃ k', k = k' + 1 := ⟨k - 1, by simp at hk; omega⟩
  obtain ⟨k, rfl⟩ := hkk
  have hstep : both2 (k + 1) (s :: xs) (t :: ys) = common s t ++ (if dropA s t then both2 k xs (t :: ys) else both2 k (s :: xs) ys) := rfl
  rw [hstep] at hdone
  have HDN := Lib.hid hdone
  have HR4 := Lib.hid (And.intro (Kd.R_below HRo.out HT4.out.2.2.2.2.2) (HBw.out.trans (HT4.out.2.2.2.2.2.mono HBw.out.size)))
  clear hstep hdone
  obtain ⟨v1, hv1⟩ : ∃ v1, v1 = s.v6 := ⟨_, rfl⟩
  obtain ⟨v2, hv2⟩ : ∃ v2, v2 = t.v6 := ⟨_, rfl⟩
  have e0 : w4.cell? ⟨g1, 0, none⟩ = some (.bool v1) := by rw [hv1]; exact rs_v6 HT4.out.1.rs
  have e1 : w4.cell? ⟨g2, 0, none⟩ = some (.bool v2) := by rw [hv2]; exact rs_v6 HT4.out.2.1.rs
  have HV := Lib.hid (And.intro hv1 hv2)
  clear hv1 hv2
  cases v1 <;> cases v2
  ·have hvv : s.v6 = t.v6 := by rw [← HV.out.1, ← HV.out.2]
   obtain ⟨q1, hq1⟩ : ∃ q, q = lexC t.lo.l s.lo.l := ⟨_, rfl⟩
   obtain ⟨q2, hq2⟩ : ∃ q, q = lexC t.hi.l s.hi.l := ⟨_, rfl⟩
   obtain ⟨q4, hq4⟩ : ∃ q, q = lexC s.hi.l t.hi.l := ⟨_, rfl⟩
   have hk1 : ∀ W, Calls Try.prog 30 #[.agg t.lo.arr, .agg s.lo.arr] W fun e w' => e = .returned (.int .i64 q1) ∧ Gw W w' := fun W => by rw [hq1]; exact scmp_walk _ _ W
   have hk2 : ∀ W, Calls Try.prog 30 #[.agg t.hi.arr, .agg s.hi.arr] W fun e w' => e = .returned (.int .i64 q2) ∧ Gw W w' := fun W => by rw [hq2]; exact scmp_walk _ _ W
   have hk4 : ∀ W, Calls Try.prog 30 #[.agg s.hi.arr, .agg t.hi.arr] W fun e w' => e = .returned (.int .i64 q4) ∧ Gw W w' := fun W => by rw [hq4]; exact scmp_walk _ _ W
   have hlo : loS s t = if 0 < q1 then t.lo else s.lo := by rw [hq1]; rfl
   have hhi : hiS s t = if q2 < 0 then t.hi else s.hi := by rw [hq2]; rfl
   have hda : dropA s t = decide (q4 ≤ 0) := by unfold dropA; rw [hq4, ← HV.out.1, ← HV.out.2]; simp
   have HF := Lib.hid (And.intro hvv (And.intro hlo (And.intro hhi hda)))
   clear hvv hq1 hq2 hq4 hlo hhi hda
   have HX8 := Lib.hid (Has.new w4 (⟨false, s.lo, s.hi⟩ : Spn).arr 30)
   have HB4 := (show Below w4.heap.size w4 (w4.alloc (.cells (⟨false, s.lo, s.hi⟩ : Spn).arr 30)) from (Below.refl _ _).alloc (Nat.le_refl _) _)
   have HT5 := Lib.hid (And.intro (HT4.out.1.below HB4) (And.intro (HT4.out.2.1.below HB4) (Below.trans HT4.out.2.2.2.2.2 (HB4.mono HT4.out.2.2.2.2.2.size))))
   have hg4 := HT4.out.2.2.2.2.2.size
   have hne1 : g1 ≠ w4.heap.size := Nat.ne_of_lt HT4.out.1.lt
   have hne2 : g2 ≠ w4.heap.size := Nat.ne_of_lt HT4.out.2.1.lt
   clear HB4
   go_wp2_with (first
    | ((with_reducible refine at_dst 35 ?_); refine loadA s.lo g1 1 rfl (by have := rlo_of_s HT4.out.1.rs; rwa [Nat.zero_add] at this) ?_)
    | ((with_reducible refine at_dst 37 ?_); refine loadA s.hi g1 17 rfl (by have := rhi_of_s HT4.out.1.rs; rwa [Nat.zero_add] at this) ?_)
    | ((with_reducible refine at_dst 38 ?_); refine valN rfl (exec_buildSpn false s.lo s.hi rfl rfl rfl _) ?_)
    | ((with_reducible refine at_dst 8 ?_); refine alloc_storeS (⟨false, s.lo, s.hi⟩ : Spn) rfl rfl ?_; generalize hg8 : w4.heap.size = g8 at HX8 hg4 hne1 hne2 ⊢; generalize hw8 : w4.alloc (.cells (⟨false, s.lo, s.hi⟩ : Spn).arr 30) = w5 at HX8 HT5 ⊢; clear hw8)
    | ((with_reducible refine at_dst 40 ?_); refine loadA t.lo g2 1 rfl (by have := rlo_of_s HT5.out.2.1.rs; rwa [Nat.zero_add] at this) ?_)
    | ((with_reducible refine at_dst 42 ?_); refine loadA s.lo g8 1 rfl (by have := rlo_of_s HX8.out.rs; rwa [Nat.zero_add] at this) ?_))
   refine (hk1 _).mono ?_
   rintro e w6 ⟨rfl, hB⟩
   have H6 : Hid (T6 wr s t g1 g2 g8 (⟨false, s.lo, s.hi⟩ : Spn) w6) := Lib.hid (T6.step ⟨HT5.out.1, HT5.out.2.1, HT5.out.2.2, RowAt.new HX8.out hg4, hne1, hne2⟩ hB.below)
   clear hB HX8 HT5 hk1
   by_cases p1 : 0 < q1
   ·have p1' : decide (0 < q1) = true := decide_eq_true p1
    have p1'' := eq_true p1
    have H7 : Hid (T6 wr s t g1 g2 g8 (⟨false, t.lo, s.hi⟩ : Spn) (w6.setCells g8 1 t.lo.cells)) := Lib.hid (H6.out.lo t.lo)
    go_wp2_with (first
     | ((with_reducible refine at_dst 46 ?_); refine loadA t.lo g2 1 rfl (by have := rlo_of_s H6.out.2.1.rs; rwa [Nat.zero_add] at this) ?_)
     | (refine wpList_store_mid rfl 28 (.tmp 47) (.tmp 46) rfl g8 1 t.lo.arr rfl rfl (H6.out.2.2.2.1.there (by rw [t.lo.arr_size]; decide)) (by rw [t.lo.arr_size]; exact infoA) t.lo.arr_one ?_)
     | ((with_reducible refine at_dst 49 ?_); refine loadA t.hi g2 17 rfl (by have := rhi_of_s H7.out.2.1.rs; rwa [Nat.zero_add] at this) ?_)
     | ((with_reducible refine at_dst 51 ?_); refine loadA s.hi g8 17 rfl (by have := rhi_of_s H7.out.2.2.2.1.one; rwa [Nat.zero_add] at this) ?_))
    refine (hk2 _).mono ?_
    rintro e w8 ⟨rfl, hB⟩
    have H8 := Lib.hid (H7.out.step hB.below)
    clear hB H7 p1' p1''
    by_cases p2 : q2 < 0
    ·have p2' : decide (q2 < 0) = true := decide_eq_true p2
     have p2'' := eq_true p2
     have H9 : Hid (T6 wr s t g1 g2 g8 (⟨false, t.lo, t.hi⟩ : Spn) (w8.setCells g8 17 t.hi.cells)) := Lib.hid (H8.out.hi t.hi)
     have hk3 := fun W => scmp_walk t.lo t.hi W
     obtain ⟨q3, hq3⟩ : ∃ q, q = lexC t.lo.l t.hi.l := ⟨_, rfl⟩
     rw [← hq3] at hk3
     have HQ3 := Lib.hid hq3
     clear hq3
     go_wp2_with (first
      | ((with_reducible refine at_dst 55 ?_); refine loadA t.hi g2 17 rfl (by have := rhi_of_s H8.out.2.1.rs; rwa [Nat.zero_add] at this) ?_)
      | (refine wpList_store_mid rfl 28 (.tmp 56) (.tmp 55) rfl g8 17 t.hi.arr rfl rfl (H8.out.2.2.2.1.there (by rw [t.hi.arr_size]; decide)) (by rw [t.hi.arr_size]; exact infoA) t.hi.arr_one ?_)
      | ((with_reducible refine at_dst 58 ?_); refine loadA t.lo g8 1 rfl (by have := rlo_of_s H9.out.2.2.2.1.one; rwa [Nat.zero_add] at this) ?_)
      | ((with_reducible refine at_dst 60 ?_); refine loadA t.hi g8 17 rfl (by have := rhi_of_s H9.out.2.2.2.1.one; rwa [Nat.zero_add] at this) ?_))
     refine (hk3 _).mono ?_
     rintro e w10 ⟨rfl, hB⟩
     have H10 := Lib.hid (H9.out.step hB.below)
     clear hB H9 p2' p2''
     have HCM : Hid (common s t = if q3 ≤ 0 then [(⟨false, t.lo, t.hi⟩ : Spn)] else []) := by
      have f1 := HF.out.1
      have f2 := HF.out.2.1
      have f3 := HF.out.2.2.1
      rw [if_pos (by omega)] at f2
      rw [if_pos (by omega)] at f3
      have f4 := HQ3.out
      refine Lib.hid ?_
      unfold common cut2
      rw [f2, f3, ← f4, ← HV.out.1]
      by_cases f5 : q3 ≤ 0
      ·rw [if_pos f5, if_pos ⟨by rw [HV.out.1]; exact f1, f5⟩]
      ·rw [if_neg f5, if_neg (fun h => f5 h.2)]
     have HR10 := Lib.hid (And.intro (Kd.R_below HRo.out H10.out.2.2.1) (HBw.out.trans (H10.out.2.2.1.mono HBw.out.size)))
     have HN10 := Lib.hid (R_own HRo.out)
     clear HQ3 hk3
     by_cases p3 : q3 ≤ 0
     ·have p3' : decide (q3 ≤ 0) = true := decide_eq_true p3
      have p3'' := eq_true p3
      go_wp2_with (first
       | ((with_reducible refine at_dst 64 ?_); refine loadS (⟨false, t.lo, t.hi⟩ : Spn) g8 0 rfl H10.out.2.2.2.1.one ?_)
       | ((with_reducible refine at_dst 65 ?_); refine valN rfl (exec_buildS (⟨false, t.lo, t.hi⟩ : Spn) rfl _) ?_)
       | ((with_reducible refine at_dst 66 ?_); refine appRowsL (w0 := w2) w2.heap.size rfl (.tmp 63) (.tmp 65) rfl (.slice Ao done.length co) done [(⟨false, t.lo, t.hi⟩ : Spn)] (some ⟨w10.heap.size, 0, none⟩) 1 1 rfl rfl (Kd.R_below HR10.out.1 ((Below.refl _ _).alloc (Nat.le_refl _) _)) (C_one (Has.new w10 ((⟨false, t.lo, t.hi⟩ : Spn)).arr _)) (HR10.out.2.alloc HR10.out.2.size _) (Nat.le_trans HR10.out.2.size ((Below.refl w10.heap.size w10).alloc (Nat.le_refl _) (.cells ((⟨false, t.lo, t.hi⟩ : Spn)).arr 30)).size) (by omega) ?_; intro v12 w12 hR12 hB12 hg12 hat12; have H12 : Hid (Has w12 g1 s.arr 30 ∧ Has w12 g2 t.arr 30 ∧ kS.R 30 w12 w2.heap.size (fun _ => True) v12 (done ++ [(⟨false, t.lo, t.hi⟩ : Spn)]) ∧ Below w2.heap.size w2 w12) := Lib.hid ⟨(hg12.block g1 (Nat.lt_of_lt_of_le H10.out.1.lt ((Below.refl w10.heap.size w10).alloc (Nat.le_refl _) (.cells ((⟨false, t.lo, t.hi⟩ : Spn)).arr 30)).size) (fun e => absurd (HN10.out g1 e.symm) (Nat.not_lt.2 HT4.out.2.2.2.1))).trans (H10.out.1.alloc _), (hg12.block g2 (Nat.lt_of_lt_of_le H10.out.2.1.lt ((Below.refl w10.heap.size w10).alloc (Nat.le_refl _) (.cells ((⟨false, t.lo, t.hi⟩ : Spn)).arr 30)).size) (fun e => absurd (HN10.out g2 e.symm) (Nat.not_lt.2 HT4.out.2.2.2.2.1))).trans (H10.out.2.1.alloc _), hR12, hB12⟩; obtain ⟨A12, c12, e12⟩ := Kd.R_slice hR12; subst e12; have e00 : w12.cell? ⟨g1, 0, none⟩ = some (.bool false) := (by rw [HV.out.1]; exact rs_v6 H12.out.1.rs); have e1 : w12.cell? ⟨g2, 0, none⟩ = some (.bool false) := (by rw [HV.out.2]; exact rs_v6 H12.out.2.1.rs); clear hR12 hB12 hg12 hat12 p3' p3'' e0)
       | ((with_reducible refine at_dst 82 ?_); refine gate_guard (by rfl) ?_; refine loadA s.hi g1 17 rfl (by have := rhi_of_s H12.out.1.rs; rwa [Nat.zero_add] at this) ?_)
       | ((with_reducible refine at_dst 84 ?_); refine gate_guard (by rfl) ?_; refine loadA t.hi g2 17 rfl (by have := rhi_of_s H12.out.2.1.rs; rwa [Nat.zero_add] at this) ?_))
      refine (hk4 _).mono ?_
      rintro e w14 ⟨rfl, hB⟩
      have HE := Lib.hid (And.intro (Kd.R_below H12.out.2.2.1 hB.below) (H12.out.2.2.2.trans (hB.below.mono H12.out.2.2.2.size)))
      have hcm : common s t = [(⟨false, t.lo, t.hi⟩ : Spn)] := by rw [HCM.out, if_pos (by omega)]
      have HC2 := Lib.hid hcm
      clear hB hcm hk4 e1 e00
      by_cases p4 : q4 ≤ 0
      ·have p4' : decide (q4 ≤ 0) = true := decide_eq_true p4
       have p4'' := eq_true p4
       have hdr : dropA s t = true := by rw [HF.out.2.2.2, p4']
       have HDR := Lib.hid hdr
       clear hdr
       go_wp2
       go_roundw
       case rel => exact ⟨xs, t :: ys, _, _, c1 - 1, c2, rfl, by (first | rfl | (rw [hn2]; rfl)), Lib.hid ⟨by omega, HCx.out.2.1, HD.out.1, HCx.out.2.2.2, HE.out.2, k, (done ++ [(⟨false, t.lo, t.hi⟩ : Spn)]), by simp at hk ⊢; omega, by
        have := HDN.out
        rw [HC2.out, HDR.out, if_pos rfl] at this
        simpa using this, by simp at hdl ⊢; omega, (by have h9 := HE.out.1; rw [List.length_append, List.length_singleton] at h9; exact h9)⟩⟩
       case measure => simp [slen]; omega
      ·have p4' : decide (q4 ≤ 0) = false := decide_eq_false p4
       have p4'' := eq_false p4
       have hdr : dropA s t = false := by rw [HF.out.2.2.2, p4']
       have HDR := Lib.hid hdr
       clear hdr
       go_wp2
       go_roundw
       case rel => exact ⟨s :: xs, ys, _, _, c1, c2 - 1, by (first | rfl | (rw [hn1]; rfl)), rfl, Lib.hid ⟨HCx.out.1, by omega, HCx.out.2.2.1, HD.out.2, HE.out.2, k, (done ++ [(⟨false, t.lo, t.hi⟩ : Spn)]), by simp at hk ⊢; omega, by
        have := HDN.out
        rw [HC2.out, HDR.out, if_neg (by simp)] at this
        simpa using this, by simp at hdl ⊢; omega, (by have h9 := HE.out.1; rw [List.length_append, List.length_singleton] at h9; exact h9)⟩⟩
       case measure => simp [slen]; omega
     ·have p3' : decide (q3 ≤ 0) = false := decide_eq_false p3
      have p3'' := eq_false p3
      have H12 : Hid (Has w10 g1 s.arr 30 ∧ Has w10 g2 t.arr 30 ∧ kS.R 30 w10 w2.heap.size (fun _ => True) (.slice Ao done.length co) done ∧ Below w2.heap.size w2 w10) := Lib.hid ⟨H10.out.1, H10.out.2.1, HR10.out.1, HR10.out.2⟩
      have e0 : w10.cell? ⟨g1, 0, none⟩ = some (.bool false) := (by rw [HV.out.1]; exact rs_v6 H12.out.1.rs)
      have e1 : w10.cell? ⟨g2, 0, none⟩ = some (.bool false) := (by rw [HV.out.2]; exact rs_v6 H12.out.2.1.rs)
      go_wp2_with (first
       | ((with_reducible refine at_dst 82 ?_); refine gate_guard (by rfl) ?_; refine loadA s.hi g1 17 rfl (by have := rhi_of_s H12.out.1.rs; rwa [Nat.zero_add] at this) ?_)
       | ((with_reducible refine at_dst 84 ?_); refine gate_guard (by rfl) ?_; refine loadA t.hi g2 17 rfl (by have := rhi_of_s H12.out.2.1.rs; rwa [Nat.zero_add] at this) ?_))
      refine (hk4 _).mono ?_
      rintro e w14 ⟨rfl, hB⟩
      have HE := Lib.hid (And.intro (Kd.R_below H12.out.2.2.1 hB.below) (H12.out.2.2.2.trans (hB.below.mono H12.out.2.2.2.size)))
      have hcm : common s t = [] := by rw [HCM.out, if_neg (by omega)]
      have HC2 := Lib.hid hcm
      clear hB hcm hk4 e1 e0 p3' p3''
      by_cases p4 : q4 ≤ 0
      ·have p4' : decide (q4 ≤ 0) = true := decide_eq_true p4
       have p4'' := eq_true p4
       have hdr : dropA s t = true := by rw [HF.out.2.2.2, p4']
       have HDR := Lib.hid hdr
       clear hdr
       go_wp2
       go_roundw
       case rel => exact ⟨xs, t :: ys, _, _, c1 - 1, c2, rfl, by (first | rfl | (rw [hn2]; rfl)), Lib.hid ⟨by omega, HCx.out.2.1, HD.out.1, HCx.out.2.2.2, HE.out.2, k, done, by simp at hk ⊢; omega, by
        have := HDN.out
        rw [HC2.out, HDR.out, if_pos rfl] at this
        simpa using this, by simp at hdl ⊢; omega, HE.out.1⟩⟩
       case measure => simp [slen]; omega
      ·have p4' : decide (q4 ≤ 0) = false := decide_eq_false p4
       have p4'' := eq_false p4
       have hdr : dropA s t = false := by rw [HF.out.2.2.2, p4']
       have HDR := Lib.hid hdr
       clear hdr
       go_wp2
       go_roundw
       case rel => exact ⟨s :: xs, ys, _, _, c1, c2 - 1, by (first | rfl | (rw [hn1]; rfl)), rfl, Lib.hid ⟨HCx.out.1, by omega, HCx.out.2.2.1, HD.out.2, HE.out.2, k, done, by simp at hk ⊢; omega, by
        have := HDN.out
        rw [HC2.out, HDR.out, if_neg (by simp)] at this
        simpa using this, by simp at hdl ⊢; omega, HE.out.1⟩⟩
       case measure => simp [slen]; omega
    ·have p2' : decide (q2 < 0) = false := decide_eq_false p2
     have p2'' := eq_false p2
     have H9 : Hid (T6 wr s t g1 g2 g8 (⟨false, t.lo, s.hi⟩ : Spn) w8) := Lib.hid (H8.out)
     have hk3 := fun W => scmp_walk t.lo s.hi W
     obtain ⟨q3, hq3⟩ : ∃ q, q = lexC t.lo.l s.hi.l := ⟨_, rfl⟩
     rw [← hq3] at hk3
     have HQ3 := Lib.hid hq3
     clear hq3
     go_wp2_with (first
      | ((with_reducible refine at_dst 58 ?_); refine loadA t.lo g8 1 rfl (by have := rlo_of_s H9.out.2.2.2.1.one; rwa [Nat.zero_add] at this) ?_)
      | ((with_reducible refine at_dst 60 ?_); refine loadA s.hi g8 17 rfl (by have := rhi_of_s H9.out.2.2.2.1.one; rwa [Nat.zero_add] at this) ?_))
     refine (hk3 _).mono ?_
     rintro e w10 ⟨rfl, hB⟩
     have H10 := Lib.hid (H9.out.step hB.below)
     clear hB H9 p2' p2''
     have HCM : Hid (common s t = if q3 ≤ 0 then [(⟨false, t.lo, s.hi⟩ : Spn)] else []) := by
      have f1 := HF.out.1
      have f2 := HF.out.2.1
      have f3 := HF.out.2.2.1
      rw [if_pos (by omega)] at f2
      rw [if_neg (by omega)] at f3
      have f4 := HQ3.out
      refine Lib.hid ?_
      unfold common cut2
      rw [f2, f3, ← f4, ← HV.out.1]
      by_cases f5 : q3 ≤ 0
      ·rw [if_pos f5, if_pos ⟨by rw [HV.out.1]; exact f1, f5⟩]
      ·rw [if_neg f5, if_neg (fun h => f5 h.2)]
     have HR10 := Lib.hid (And.intro (Kd.R_below HRo.out H10.out.2.2.1) (HBw.out.trans (H10.out.2.2.1.mono HBw.out.size)))
     have HN10 := Lib.hid (R_own HRo.out)
     clear HQ3 hk3
     by_cases p3 : q3 ≤ 0
     ·have p3' : decide (q3 ≤ 0) = true := decide_eq_true p3
      have p3'' := eq_true p3
      go_wp2_with (first
       | ((with_reducible refine at_dst 64 ?_); refine loadS (⟨false, t.lo, s.hi⟩ : Spn) g8 0 rfl H10.out.2.2.2.1.one ?_)
       | ((with_reducible refine at_dst 65 ?_); refine valN rfl (exec_buildS (⟨false, t.lo, s.hi⟩ : Spn) rfl _) ?_)
       | ((with_reducible refine at_dst 66 ?_); refine appRowsL (w0 := w2) w2.heap.size rfl (.tmp 63) (.tmp 65) rfl (.slice Ao done.length co) done [(⟨false, t.lo, s.hi⟩ : Spn)] (some ⟨w10.heap.size, 0, none⟩) 1 1 rfl rfl (Kd.R_below HR10.out.1 ((Below.refl _ _).alloc (Nat.le_refl _) _)) (C_one (Has.new w10 ((⟨false, t.lo, s.hi⟩ : Spn)).arr _)) (HR10.out.2.alloc HR10.out.2.size _) (Nat.le_trans HR10.out.2.size ((Below.refl w10.heap.size w10).alloc (Nat.le_refl _) (.cells ((⟨false, t.lo, s.hi⟩ : Spn)).arr 30)).size) (by omega) ?_; intro v12 w12 hR12 hB12 hg12 hat12; have H12 : Hid (Has w12 g1 s.arr 30 ∧ Has w12 g2 t.arr 30 ∧ kS.R 30 w12 w2.heap.size (fun _ => True) v12 (done ++ [(⟨false, t.lo, s.hi⟩ : Spn)]) ∧ Below w2.heap.size w2 w12) := Lib.hid ⟨(hg12.block g1 (Nat.lt_of_lt_of_le H10.out.1.lt ((Below.refl w10.heap.size w10).alloc (Nat.le_refl _) (.cells ((⟨false, t.lo, s.hi⟩ : Spn)).arr 30)).size) (fun e => absurd (HN10.out g1 e.symm) (Nat.not_lt.2 HT4.out.2.2.2.1))).trans (H10.out.1.alloc _), (hg12.block g2 (Nat.lt_of_lt_of_le H10.out.2.1.lt ((Below.refl w10.heap.size w10).alloc (Nat.le_refl _) (.cells ((⟨false, t.lo, s.hi⟩ : Spn)).arr 30)).size) (fun e => absurd (HN10.out g2 e.symm) (Nat.not_lt.2 HT4.out.2.2.2.2.1))).trans (H10.out.2.1.alloc _), hR12, hB12⟩; obtain ⟨A12, c12, e12⟩ := Kd.R_slice hR12; subst e12; have e00 : w12.cell? ⟨g1, 0, none⟩ = some (.bool false) := (by rw [HV.out.1]; exact rs_v6 H12.out.1.rs); have e1 : w12.cell? ⟨g2, 0, none⟩ = some (.bool false) := (by rw [HV.out.2]; exact rs_v6 H12.out.2.1.rs); clear hR12 hB12 hg12 hat12 p3' p3'' e0)
       | ((with_reducible refine at_dst 82 ?_); refine gate_guard (by rfl) ?_; refine loadA s.hi g1 17 rfl (by have := rhi_of_s H12.out.1.rs; rwa [Nat.zero_add] at this) ?_)
       | ((with_reducible refine at_dst 84 ?_); refine gate_guard (by rfl) ?_; refine loadA t.hi g2 17 rfl (by have := rhi_of_s H12.out.2.1.rs; rwa [Nat.zero_add] at this) ?_))
      refine (hk4 _).mono ?_
      rintro e w14 ⟨rfl, hB⟩
      have HE := Lib.hid (And.intro (Kd.R_below H12.out.2.2.1 hB.below) (H12.out.2.2.2.trans (hB.below.mono H12.out.2.2.2.size)))
      have hcm : common s t = [(⟨false, t.lo, s.hi⟩ : Spn)] := by rw [HCM.out, if_pos (by omega)]
      have HC2 := Lib.hid hcm
      clear hB hcm hk4 e1 e00
      by_cases p4 : q4 ≤ 0
      ·have p4' : decide (q4 ≤ 0) = true := decide_eq_true p4
       have p4'' := eq_true p4
       have hdr : dropA s t = true := by rw [HF.out.2.2.2, p4']
       have HDR := Lib.hid hdr
       clear hdr
       go_wp2
       go_roundw
       case rel => exact ⟨xs, t :: ys, _, _, c1 - 1, c2, rfl, by (first | rfl | (rw [hn2]; rfl)), Lib.hid ⟨by omega, HCx.out.2.1, HD.out.1, HCx.out.2.2.2, HE.out.2, k, (done ++ [(⟨false, t.lo, s.hi⟩ : Spn)]), by simp at hk ⊢; omega, by
        have := HDN.out
        rw [HC2.out, HDR.out, if_pos rfl] at this
        simpa using this, by simp at hdl ⊢; omega, (by have h9 := HE.out.1; rw [List.length_append, List.length_singleton] at h9; exact h9)⟩⟩
       case measure => simp [slen]; omega
      ·have p4' : decide (q4 ≤ 0) = false := decide_eq_false p4
       have p4'' := eq_false p4
       have hdr : dropA s t = false := by rw [HF.out.2.2.2, p4']
       have HDR := Lib.hid hdr
       clear hdr
       go_wp2
       go_roundw
       case rel => exact ⟨s :: xs, ys, _, _, c1, c2 - 1, by (first | rfl | (rw [hn1]; rfl)), rfl, Lib.hid ⟨HCx.out.1, by omega, HCx.out.2.2.1, HD.out.2, HE.out.2, k, (done ++ [(⟨false, t.lo, s.hi⟩ : Spn)]), by simp at hk ⊢; omega, by
        have := HDN.out
        rw [HC2.out, HDR.out, if_neg (by simp)] at this
        simpa using this, by simp at hdl ⊢; omega, (by have h9 := HE.out.1; rw [List.length_append, List.length_singleton] at h9; exact h9)⟩⟩
       case measure => simp [slen]; omega
     ·have p3' : decide (q3 ≤ 0) = false := decide_eq_false p3
      have p3'' := eq_false p3
      have H12 : Hid (Has w10 g1 s.arr 30 ∧ Has w10 g2 t.arr 30 ∧ kS.R 30 w10 w2.heap.size (fun _ => True) (.slice Ao done.length co) done ∧ Below w2.heap.size w2 w10) := Lib.hid ⟨H10.out.1, H10.out.2.1, HR10.out.1, HR10.out.2⟩
      have e0 : w10.cell? ⟨g1, 0, none⟩ = some (.bool false) := (by rw [HV.out.1]; exact rs_v6 H12.out.1.rs)
      have e1 : w10.cell? ⟨g2, 0, none⟩ = some (.bool false) := (by rw [HV.out.2]; exact rs_v6 H12.out.2.1.rs)
      go_wp2_with (first
       | ((with_reducible refine at_dst 82 ?_); refine gate_guard (by rfl) ?_; refine loadA s.hi g1 17 rfl (by have := rhi_of_s H12.out.1.rs; rwa [Nat.zero_add] at this) ?_)
       | ((with_reducible refine at_dst 84 ?_); refine gate_guard (by rfl) ?_; refine loadA t.hi g2 17 rfl (by have := rhi_of_s H12.out.2.1.rs; rwa [Nat.zero_add] at this) ?_))
      refine (hk4 _).mono ?_
      rintro e w14 ⟨rfl, hB⟩
      have HE := Lib.hid (And.intro (Kd.R_below H12.out.2.2.1 hB.below) (H12.out.2.2.2.trans (hB.below.mono H12.out.2.2.2.size)))
      have hcm : common s t = [] := by rw [HCM.out, if_neg (by omega)]
      have HC2 := Lib.hid hcm
      clear hB hcm hk4 e1 e0 p3' p3''
      by_cases p4 : q4 ≤ 0
      ·have p4' : decide (q4 ≤ 0) = true := decide_eq_true p4
       have p4'' := eq_true p4
       have hdr : dropA s t = true := by rw [HF.out.2.2.2, p4']
       have HDR := Lib.hid hdr
       clear hdr
       go_wp2
       go_roundw
       case rel => exact ⟨xs, t :: ys, _, _, c1 - 1, c2, rfl, by (first | rfl | (rw [hn2]; rfl)), Lib.hid ⟨by omega, HCx.out.2.1, HD.out.1, HCx.out.2.2.2, HE.out.2, k, done, by simp at hk ⊢; omega, by
        have := HDN.out
        rw [HC2.out, HDR.out, if_pos rfl] at this
        simpa using this, by simp at hdl ⊢; omega, HE.out.1⟩⟩
       case measure => simp [slen]; omega
      ·have p4' : decide (q4 ≤ 0) = false := decide_eq_false p4
       have p4'' := eq_false p4
       have hdr : dropA s t = false := by rw [HF.out.2.2.2, p4']
       have HDR := Lib.hid hdr
       clear hdr
       go_wp2
       go_roundw
       case rel => exact ⟨s :: xs, ys, _, _, c1, c2 - 1, by (first | rfl | (rw [hn1]; rfl)), rfl, Lib.hid ⟨HCx.out.1, by omega, HCx.out.2.2.1, HD.out.2, HE.out.2, k, done, by simp at hk ⊢; omega, by
        have := HDN.out
        rw [HC2.out, HDR.out, if_neg (by simp)] at this
        simpa using this, by simp at hdl ⊢; omega, HE.out.1⟩⟩
       case measure => simp [slen]; omega
   ·have p1' : decide (0 < q1) = false := decide_eq_false p1
    have p1'' := eq_false p1
    have H7 : Hid (T6 wr s t g1 g2 g8 (⟨false, s.lo, s.hi⟩ : Spn) w6) := Lib.hid (H6.out)
    go_wp2_with (first
     | ((with_reducible refine at_dst 49 ?_); refine loadA t.hi g2 17 rfl (by have := rhi_of_s H7.out.2.1.rs; rwa [Nat.zero_add] at this) ?_)
     | ((with_reducible refine at_dst 51 ?_); refine loadA s.hi g8 17 rfl (by have := rhi_of_s H7.out.2.2.2.1.one; rwa [Nat.zero_add] at this) ?_))
    refine (hk2 _).mono ?_
    rintro e w8 ⟨rfl, hB⟩
    have H8 := Lib.hid (H7.out.step hB.below)
    clear hB H7 p1' p1''
    by_cases p2 : q2 < 0
    ·have p2' : decide (q2 < 0) = true := decide_eq_true p2
     have p2'' := eq_true p2
     have H9 : Hid (T6 wr s t g1 g2 g8 (⟨false, s.lo, t.hi⟩ : Spn) (w8.setCells g8 17 t.hi.cells)) := Lib.hid (H8.out.hi t.hi)
     have hk3 := fun W => scmp_walk s.lo t.hi W
     obtain ⟨q3, hq3⟩ : ∃ q, q = lexC s.lo.l t.hi.l := ⟨_, rfl⟩
     rw [← hq3] at hk3
     have HQ3 := Lib.hid hq3
     clear hq3
     go_wp2_with (first
      | ((with_reducible refine at_dst 55 ?_); refine loadA t.hi g2 17 rfl (by have := rhi_of_s H8.out.2.1.rs; rwa [Nat.zero_add] at this) ?_)
      | (refine wpList_store_mid rfl 28 (.tmp 56) (.tmp 55) rfl g8 17 t.hi.arr rfl rfl (H8.out.2.2.2.1.there (by rw [t.hi.arr_size]; decide)) (by rw [t.hi.arr_size]; exact infoA) t.hi.arr_one ?_)
      | ((with_reducible refine at_dst 58 ?_); refine loadA s.lo g8 1 rfl (by have := rlo_of_s H9.out.2.2.2.1.one; rwa [Nat.zero_add] at this) ?_)
      | ((with_reducible refine at_dst 60 ?_); refine loadA t.hi g8 17 rfl (by have := rhi_of_s H9.out.2.2.2.1.one; rwa [Nat.zero_add] at this) ?_))
     refine (hk3 _).mono ?_
     rintro e w10 ⟨rfl, hB⟩
     have H10 := Lib.hid (H9.out.step hB.below)
     clear hB H9 p2' p2''
     have HCM : Hid (common s t = if q3 ≤ 0 then [(⟨false, s.lo, t.hi⟩ : Spn)] else []) := by
      have f1 := HF.out.1
      have f2 := HF.out.2.1
      have f3 := HF.out.2.2.1
      rw [if_neg (by omega)] at f2
      rw [if_pos (by omega)] at f3
      have f4 := HQ3.out
      refine Lib.hid ?_
      unfold common cut2
      rw [f2, f3, ← f4, ← HV.out.1]
      by_cases f5 : q3 ≤ 0
      ·rw [if_pos f5, if_pos ⟨by rw [HV.out.1]; exact f1, f5⟩]
      ·rw [if_neg f5, if_neg (fun h => f5 h.2)]
     have HR10 := Lib.hid (And.intro (Kd.R_below HRo.out H10.out.2.2.1) (HBw.out.trans (H10.out.2.2.1.mono HBw.out.size)))
     have HN10 := Lib.hid (R_own HRo.out)
     clear HQ3 hk3
     by_cases p3 : q3 ≤ 0
     ·have p3' : decide (q3 ≤ 0) = true := decide_eq_true p3
      have p3'' := eq_true p3
      go_wp2_with (first
       | ((with_reducible refine at_dst 64 ?_); refine loadS (⟨false, s.lo, t.hi⟩ : Spn) g8 0 rfl H10.out.2.2.2.1.one ?_)
       | ((with_reducible refine at_dst 65 ?_); refine valN rfl (exec_buildS (⟨false, s.lo, t.hi⟩ : Spn) rfl _) ?_)
       | ((with_reducible refine at_dst 66 ?_); refine appRowsL (w0 := w2) w2.heap.size rfl (.tmp 63) (.tmp 65) rfl (.slice Ao done.length co) done [(⟨false, s.lo, t.hi⟩ : Spn)] (some ⟨w10.heap.size, 0, none⟩) 1 1 rfl rfl (Kd.R_below HR10.out.1 ((Below.refl _ _).alloc (Nat.le_refl _) _)) (C_one (Has.new w10 ((⟨false, s.lo, t.hi⟩ : Spn)).arr _)) (HR10.out.2.alloc HR10.out.2.size _) (Nat.le_trans HR10.out.2.size ((Below.refl w10.heap.size w10).alloc (Nat.le_refl _) (.cells ((⟨false, s.lo, t.hi⟩ : Spn)).arr 30)).size) (by omega) ?_; intro v12 w12 hR12 hB12 hg12 hat12; have H12 : Hid (Has w12 g1 s.arr 30 ∧ Has w12 g2 t.arr 30 ∧ kS.R 30 w12 w2.heap.size (fun _ => True) v12 (done ++ [(⟨false, s.lo, t.hi⟩ : Spn)]) ∧ Below w2.heap.size w2 w12) := Lib.hid ⟨(hg12.block g1 (Nat.lt_of_lt_of_le H10.out.1.lt ((Below.refl w10.heap.size w10).alloc (Nat.le_refl _) (.cells ((⟨false, s.lo, t.hi⟩ : Spn)).arr 30)).size) (fun e => absurd (HN10.out g1 e.symm) (Nat.not_lt.2 HT4.out.2.2.2.1))).trans (H10.out.1.alloc _), (hg12.block g2 (Nat.lt_of_lt_of_le H10.out.2.1.lt ((Below.refl w10.heap.size w10).alloc (Nat.le_refl _) (.cells ((⟨false, s.lo, t.hi⟩ : Spn)).arr 30)).size) (fun e => absurd (HN10.out g2 e.symm) (Nat.not_lt.2 HT4.out.2.2.2.2.1))).trans (H10.out.2.1.alloc _), hR12, hB12⟩; obtain ⟨A12, c12, e12⟩ := Kd.R_slice hR12; subst e12; have e00 : w12.cell? ⟨g1, 0, none⟩ = some (.bool false) := (by rw [HV.out.1]; exact rs_v6 H12.out.1.rs); have e1 : w12.cell? ⟨g2, 0, none⟩ = some (.bool false) := (by rw [HV.out.2]; exact rs_v6 H12.out.2.1.rs); clear hR12 hB12 hg12 hat12 p3' p3'' e0)
       | ((with_reducible refine at_dst 82 ?_); refine gate_guard (by rfl) ?_; refine loadA s.hi g1 17 rfl (by have := rhi_of_s H12.out.1.rs; rwa [Nat.zero_add] at this) ?_)
       | ((with_reducible refine at_dst 84 ?_); refine gate_guard (by rfl) ?_; refine loadA t.hi g2 17 rfl (by have := rhi_of_s H12.out.2.1.rs; rwa [Nat.zero_add] at this) ?_))
      refine (hk4 _).mono ?_
      rintro e w14 ⟨rfl, hB⟩
      have HE := Lib.hid (And.intro (Kd.R_below H12.out.2.2.1 hB.below) (H12.out.2.2.2.trans (hB.below.mono H12.out.2.2.2.size)))
      have hcm : common s t = [(⟨false, s.lo, t.hi⟩ : Spn)] := by rw [HCM.out, if_pos (by omega)]
      have HC2 := Lib.hid hcm
      clear hB hcm hk4 e1 e00
      by_cases p4 : q4 ≤ 0
      ·have p4' : decide (q4 ≤ 0) = true := decide_eq_true p4
       have p4'' := eq_true p4
       have hdr : dropA s t = true := by rw [HF.out.2.2.2, p4']
       have HDR := Lib.hid hdr
       clear hdr
       go_wp2
       go_roundw
       case rel => exact ⟨xs, t :: ys, _, _, c1 - 1, c2, rfl, by (first | rfl | (rw [hn2]; rfl)), Lib.hid ⟨by omega, HCx.out.2.1, HD.out.1, HCx.out.2.2.2, HE.out.2, k, (done ++ [(⟨false, s.lo, t.hi⟩ : Spn)]), by simp at hk ⊢; omega, by
        have := HDN.out
        rw [HC2.out, HDR.out, if_pos rfl] at this
        simpa using this, by simp at hdl ⊢; omega, (by have h9 := HE.out.1; rw [List.length_append, List.length_singleton] at h9; exact h9)⟩⟩
       case measure => simp [slen]; omega
      ·have p4' : decide (q4 ≤ 0) = false := decide_eq_false p4
       have p4'' := eq_false p4
       have hdr : dropA s t = false := by rw [HF.out.2.2.2, p4']
       have HDR := Lib.hid hdr
       clear hdr
       go_wp2
       go_roundw
       case rel => exact ⟨s :: xs, ys, _, _, c1, c2 - 1, by (first | rfl | (rw [hn1]; rfl)), rfl, Lib.hid ⟨HCx.out.1, by omega, HCx.out.2.2.1, HD.out.2, HE.out.2, k, (done ++ [(⟨false, s.lo, t.hi⟩ : Spn)]), by simp at hk ⊢; omega, by
        have := HDN.out
        rw [HC2.out, HDR.out, if_neg (by simp)] at this
        simpa using this, by simp at hdl ⊢; omega, (by have h9 := HE.out.1; rw [List.length_append, List.length_singleton] at h9; exact h9)⟩⟩
       case measure => simp [slen]; omega
     ·have p3' : decide (q3 ≤ 0) = false := decide_eq_false p3
      have p3'' := eq_false p3
      have H12 : Hid (Has w10 g1 s.arr 30 ∧ Has w10 g2 t.arr 30 ∧ kS.R 30 w10 w2.heap.size (fun _ => True) (.slice Ao done.length co) done ∧ Below w2.heap.size w2 w10) := Lib.hid ⟨H10.out.1, H10.out.2.1, HR10.out.1, HR10.out.2⟩
      have e0 : w10.cell? ⟨g1, 0, none⟩ = some (.bool false) := (by rw [HV.out.1]; exact rs_v6 H12.out.1.rs)
      have e1 : w10.cell? ⟨g2, 0, none⟩ = some (.bool false) := (by rw [HV.out.2]; exact rs_v6 H12.out.2.1.rs)
      go_wp2_with (first
       | ((with_reducible refine at_dst 82 ?_); refine gate_guard (by rfl) ?_; refine loadA s.hi g1 17 rfl (by have := rhi_of_s H12.out.1.rs; rwa [Nat.zero_add] at this) ?_)
       | ((with_reducible refine at_dst 84 ?_); refine gate_guard (by rfl) ?_; refine loadA t.hi g2 17 rfl (by have := rhi_of_s H12.out.2.1.rs; rwa [Nat.zero_add] at this) ?_))
      refine (hk4 _).mono ?_
      rintro e w14 ⟨rfl, hB⟩
      have HE := Lib.hid (And.intro (Kd.R_below H12.out.2.2.1 hB.below) (H12.out.2.2.2.trans (hB.below.mono H12.out.2.2.2.size)))
      have hcm : common s t = [] := by rw [HCM.out, if_neg (by omega)]
      have HC2 := Lib.hid hcm
      clear hB hcm hk4 e1 e0 p3' p3''
      by_cases p4 : q4 ≤ 0
      ·have p4' : decide (q4 ≤ 0) = true := decide_eq_true p4
       have p4'' := eq_true p4
       have hdr : dropA s t = true := by rw [HF.out.2.2.2, p4']
       have HDR := Lib.hid hdr
       clear hdr
       go_wp2
       go_roundw
       case rel => exact ⟨xs, t :: ys, _, _, c1 - 1, c2, rfl, by (first | rfl | (rw [hn2]; rfl)), Lib.hid ⟨by omega, HCx.out.2.1, HD.out.1, HCx.out.2.2.2, HE.out.2, k, done, by simp at hk ⊢; omega, by
        have := HDN.out
        rw [HC2.out, HDR.out, if_pos rfl] at this
        simpa using this, by simp at hdl ⊢; omega, HE.out.1⟩⟩
       case measure => simp [slen]; omega
      ·have p4' : decide (q4 ≤ 0) = false := decide_eq_false p4
       have p4'' := eq_false p4
       have hdr : dropA s t = false := by rw [HF.out.2.2.2, p4']
       have HDR := Lib.hid hdr
       clear hdr
       go_wp2
       go_roundw
       case rel => exact ⟨s :: xs, ys, _, _, c1, c2 - 1, by (first | rfl | (rw [hn1]; rfl)), rfl, Lib.hid ⟨HCx.out.1, by omega, HCx.out.2.2.1, HD.out.2, HE.out.2, k, done, by simp at hk ⊢; omega, by
        have := HDN.out
        rw [HC2.out, HDR.out, if_neg (by simp)] at this
        simpa using this, by simp at hdl ⊢; omega, HE.out.1⟩⟩
       case measure => simp [slen]; omega
    ·have p2' : decide (q2 < 0) = false := decide_eq_false p2
     have p2'' := eq_false p2
     have H9 : Hid (T6 wr s t g1 g2 g8 (⟨false, s.lo, s.hi⟩ : Spn) w8) := Lib.hid (H8.out)
     have hk3 := fun W => scmp_walk s.lo s.hi W
     obtain ⟨q3, hq3⟩ : ∃ q, q = lexC s.lo.l s.hi.l := ⟨_, rfl⟩
     rw [← hq3] at hk3
     have HQ3 := Lib.hid hq3
     clear hq3
     go_wp2_with (first
      | ((with_reducible refine at_dst 58 ?_); refine loadA s.lo g8 1 rfl (by have := rlo_of_s H9.out.2.2.2.1.one; rwa [Nat.zero_add] at this) ?_)
      | ((with_reducible refine at_dst 60 ?_); refine loadA s.hi g8 17 rfl (by have := rhi_of_s H9.out.2.2.2.1.one; rwa [Nat.zero_add] at this) ?_))
     refine (hk3 _).mono ?_
     rintro e w10 ⟨rfl, hB⟩
     have H10 := Lib.hid (H9.out.step hB.below)
     clear hB H9 p2' p2''
     have HCM : Hid (common s t = if q3 ≤ 0 then [(⟨false, s.lo, s.hi⟩ : Spn)] else []) := by
      have f1 := HF.out.1
      have f2 := HF.out.2.1
      have f3 := HF.out.2.2.1
      rw [if_neg (by omega)] at f2
      rw [if_neg (by omega)] at f3
      have f4 := HQ3.out
      refine Lib.hid ?_
      unfold common cut2
      rw [f2, f3, ← f4, ← HV.out.1]
      by_cases f5 : q3 ≤ 0
      ·rw [if_pos f5, if_pos ⟨by rw [HV.out.1]; exact f1, f5⟩]
      ·rw [if_neg f5, if_neg (fun h => f5 h.2)]
     have HR10 := Lib.hid (And.intro (Kd.R_below HRo.out H10.out.2.2.1) (HBw.out.trans (H10.out.2.2.1.mono HBw.out.size)))
     have HN10 := Lib.hid (R_own HRo.out)
     clear HQ3 hk3
     by_cases p3 : q3 ≤ 0
     ·have p3' : decide (q3 ≤ 0) = true := decide_eq_true p3
      have p3'' := eq_true p3
      go_wp2_with (first
       | ((with_reducible refine at_dst 64 ?_); refine loadS (⟨false, s.lo, s.hi⟩ : Spn) g8 0 rfl H10.out.2.2.2.1.one ?_)
       | ((with_reducible refine at_dst 65 ?_); refine valN rfl (exec_buildS (⟨false, s.lo, s.hi⟩ : Spn) rfl _) ?_)
       | ((with_reducible refine at_dst 66 ?_); refine appRowsL (w0 := w2) w2.heap.size rfl (.tmp 63) (.tmp 65) rfl (.slice Ao done.length co) done [(⟨false, s.lo, s.hi⟩ : Spn)] (some ⟨w10.heap.size, 0, none⟩) 1 1 rfl rfl (Kd.R_below HR10.out.1 ((Below.refl _ _).alloc (Nat.le_refl _) _)) (C_one (Has.new w10 ((⟨false, s.lo, s.hi⟩ : Spn)).arr _)) (HR10.out.2.alloc HR10.out.2.size _) (Nat.le_trans HR10.out.2.size ((Below.refl w10.heap.size w10).alloc (Nat.le_refl _) (.cells ((⟨false, s.lo, s.hi⟩ : Spn)).arr 30)).size) (by omega) ?_; intro v12 w12 hR12 hB12 hg12 hat12; have H12 : Hid (Has w12 g1 s.arr 30 ∧ Has w12 g2 t.arr 30 ∧ kS.R 30 w12 w2.heap.size (fun _ => True) v12 (done ++ [(⟨false, s.lo, s.hi⟩ : Spn)]) ∧ Below w2.heap.size w2 w12) := Lib.hid ⟨(hg12.block g1 (Nat.lt_of_lt_of_le H10.out.1.lt ((Below.refl w10.heap.size w10).alloc (Nat.le_refl _) (.cells ((⟨false, s.lo, s.hi⟩ : Spn)).arr 30)).size) (fun e => absurd (HN10.out g1 e.symm) (Nat.not_lt.2 HT4.out.2.2.2.1))).trans (H10.out.1.alloc _), (hg12.block g2 (Nat.lt_of_lt_of_le H10.out.2.1.lt ((Below.refl w10.heap.size w10).alloc (Nat.le_refl _) (.cells ((⟨false, s.lo, s.hi⟩ : Spn)).arr 30)).size) (fun e => absurd (HN10.out g2 e.symm) (Nat.not_lt.2 HT4.out.2.2.2.2.1))).trans (H10.out.2.1.alloc _), hR12, hB12⟩; obtain ⟨A12, c12, e12⟩ := Kd.R_slice hR12; subst e12; have e00 : w12.cell? ⟨g1, 0, none⟩ = some (.bool false) := (by rw [HV.out.1]; exact rs_v6 H12.out.1.rs); have e1 : w12.cell? ⟨g2, 0, none⟩ = some (.bool false) := (by rw [HV.out.2]; exact rs_v6 H12.out.2.1.rs); clear hR12 hB12 hg12 hat12 p3' p3'' e0)
       | ((with_reducible refine at_dst 82 ?_); refine gate_guard (by rfl) ?_; refine loadA s.hi g1 17 rfl (by have := rhi_of_s H12.out.1.rs; rwa [Nat.zero_add] at this) ?_)
       | ((with_reducible refine at_dst 84 ?_); refine gate_guard (by rfl) ?_; refine loadA t.hi g2 17 rfl (by have := rhi_of_s H12.out.2.1.rs; rwa [Nat.zero_add] at this) ?_))
      refine (hk4 _).mono ?_
      rintro e w14 ⟨rfl, hB⟩
      have HE := Lib.hid (And.intro (Kd.R_below H12.out.2.2.1 hB.below) (H12.out.2.2.2.trans (hB.below.mono H12.out.2.2.2.size)))
      have hcm : common s t = [(⟨false, s.lo, s.hi⟩ : Spn)] := by rw [HCM.out, if_pos (by omega)]
      have HC2 := Lib.hid hcm
      clear hB hcm hk4 e1 e00
      by_cases p4 : q4 ≤ 0
      ·have p4' : decide (q4 ≤ 0) = true := decide_eq_true p4
       have p4'' := eq_true p4
       have hdr : dropA s t = true := by rw [HF.out.2.2.2, p4']
       have HDR := Lib.hid hdr
       clear hdr
       go_wp2
       go_roundw
       case rel => exact ⟨xs, t :: ys, _, _, c1 - 1, c2, rfl, by (first | rfl | (rw [hn2]; rfl)), Lib.hid ⟨by omega, HCx.out.2.1, HD.out.1, HCx.out.2.2.2, HE.out.2, k, (done ++ [(⟨false, s.lo, s.hi⟩ : Spn)]), by simp at hk ⊢; omega, by
        have := HDN.out
        rw [HC2.out, HDR.out, if_pos rfl] at this
        simpa using this, by simp at hdl ⊢; omega, (by have h9 := HE.out.1; rw [List.length_append, List.length_singleton] at h9; exact h9)⟩⟩
       case measure => simp [slen]; omega
      ·have p4' : decide (q4 ≤ 0) = false := decide_eq_false p4
       have p4'' := eq_false p4
       have hdr : dropA s t = false := by rw [HF.out.2.2.2, p4']
       have HDR := Lib.hid hdr
       clear hdr
       go_wp2
       go_roundw
       case rel => exact ⟨s :: xs, ys, _, _, c1, c2 - 1, by (first | rfl | (rw [hn1]; rfl)), rfl, Lib.hid ⟨HCx.out.1, by omega, HCx.out.2.2.1, HD.out.2, HE.out.2, k, (done ++ [(⟨false, s.lo, s.hi⟩ : Spn)]), by simp at hk ⊢; omega, by
        have := HDN.out
        rw [HC2.out, HDR.out, if_neg (by simp)] at this
        simpa using this, by simp at hdl ⊢; omega, (by have h9 := HE.out.1; rw [List.length_append, List.length_singleton] at h9; exact h9)⟩⟩
       case measure => simp [slen]; omega
     ·have p3' : decide (q3 ≤ 0) = false := decide_eq_false p3
      have p3'' := eq_false p3
      have H12 : Hid (Has w10 g1 s.arr 30 ∧ Has w10 g2 t.arr 30 ∧ kS.R 30 w10 w2.heap.size (fun _ => True) (.slice Ao done.length co) done ∧ Below w2.heap.size w2 w10) := Lib.hid ⟨H10.out.1, H10.out.2.1, HR10.out.1, HR10.out.2⟩
      have e0 : w10.cell? ⟨g1, 0, none⟩ = some (.bool false) := (by rw [HV.out.1]; exact rs_v6 H12.out.1.rs)
      have e1 : w10.cell? ⟨g2, 0, none⟩ = some (.bool false) := (by rw [HV.out.2]; exact rs_v6 H12.out.2.1.rs)
      go_wp2_with (first
       | ((with_reducible refine at_dst 82 ?_); refine gate_guard (by rfl) ?_; refine loadA s.hi g1 17 rfl (by have := rhi_of_s H12.out.1.rs; rwa [Nat.zero_add] at this) ?_)
       | ((with_reducible refine at_dst 84 ?_); refine gate_guard (by rfl) ?_; refine loadA t.hi g2 17 rfl (by have := rhi_of_s H12.out.2.1.rs; rwa [Nat.zero_add] at this) ?_))
      refine (hk4 _).mono ?_
      rintro e w14 ⟨rfl, hB⟩
      have HE := Lib.hid (And.intro (Kd.R_below H12.out.2.2.1 hB.below) (H12.out.2.2.2.trans (hB.below.mono H12.out.2.2.2.size)))
      have hcm : common s t = [] := by rw [HCM.out, if_neg (by omega)]
      have HC2 := Lib.hid hcm
      clear hB hcm hk4 e1 e0 p3' p3''
      by_cases p4 : q4 ≤ 0
      ·have p4' : decide (q4 ≤ 0) = true := decide_eq_true p4
       have p4'' := eq_true p4
       have hdr : dropA s t = true := by rw [HF.out.2.2.2, p4']
       have HDR := Lib.hid hdr
       clear hdr
       go_wp2
       go_roundw
       case rel => exact ⟨xs, t :: ys, _, _, c1 - 1, c2, rfl, by (first | rfl | (rw [hn2]; rfl)), Lib.hid ⟨by omega, HCx.out.2.1, HD.out.1, HCx.out.2.2.2, HE.out.2, k, done, by simp at hk ⊢; omega, by
        have := HDN.out
        rw [HC2.out, HDR.out, if_pos rfl] at this
        simpa using this, by simp at hdl ⊢; omega, HE.out.1⟩⟩
       case measure => simp [slen]; omega
      ·have p4' : decide (q4 ≤ 0) = false := decide_eq_false p4
       have p4'' := eq_false p4
       have hdr : dropA s t = false := by rw [HF.out.2.2.2, p4']
       have HDR := Lib.hid hdr
       clear hdr
       go_wp2
       go_roundw
       case rel => exact ⟨s :: xs, ys, _, _, c1, c2 - 1, by (first | rfl | (rw [hn1]; rfl)), rfl, Lib.hid ⟨HCx.out.1, by omega, HCx.out.2.2.1, HD.out.2, HE.out.2, k, done, by simp at hk ⊢; omega, by
        have := HDN.out
        rw [HC2.out, HDR.out, if_neg (by simp)] at this
        simpa using this, by simp at hdl ⊢; omega, HE.out.1⟩⟩
       case measure => simp [slen]; omega
  ·have hcm : common s t = [] := by unfold common; rw [if_neg (fun h => by have := h.1; rw [← HV.out.1, ← HV.out.2] at this; cases this)]
   have hda : dropA s t = true := by unfold dropA; rw [← HV.out.1, ← HV.out.2]; rfl
   have HF := Lib.hid (And.intro hcm hda)
   clear hcm hda
   go_wp2
   go_roundw
   case rel => exact ⟨xs, t :: ys, _, _, c1 - 1, c2, rfl, by rw [hn2]; rfl, Lib.hid ⟨by omega, HCx.out.2.1, HD.out.1, HCx.out.2.2.2, HR4.out.2, k, done, by simp at hk ⊢; omega, by
    have := HDN.out
    rwa [HF.out.1, HF.out.2, if_pos rfl, List.nil_append] at this, by simp at hdl ⊢; omega, HR4.out.1⟩⟩
   case measure => simp [slen]; omega
  ·have hcm : common s t = [] := by unfold common; rw [if_neg (fun h => by have := h.1; rw [← HV.out.1, ← HV.out.2] at this; cases this)]
   have hda : dropA s t = false := by unfold dropA; rw [← HV.out.1, ← HV.out.2]; rfl
   have HF := Lib.hid (And.intro hcm hda)
   clear hcm hda
   go_wp2
   go_roundw
   case rel => exact ⟨s :: xs, ys, _, _, c1, c2 - 1, by rw [hn1]; rfl, rfl, Lib.hid ⟨HCx.out.1, by omega, HCx.out.2.2.1, HD.out.2, HR4.out.2, k, done, by simp at hk ⊢; omega, by
    have := HDN.out
    rwa [HF.out.1, HF.out.2, if_neg (by simp), List.nil_append] at this, by simp at hdl ⊢; omega, HR4.out.1⟩⟩
   case measure => simp [slen]; omega
  ·have hvv : s.v6 = t.v6 := by rw [← HV.out.1, ← HV.out.2]
   obtain ⟨q1, hq1⟩ : ∃ q, q = lexC t.lo.l s.lo.l := ⟨_, rfl⟩
   obtain ⟨q2, hq2⟩ : ∃ q, q = lexC t.hi.l s.hi.l := ⟨_, rfl⟩
   obtain ⟨q4, hq4⟩ : ∃ q, q = lexC s.hi.l t.hi.l := ⟨_, rfl⟩
   have hk1 : ∀ W, Calls Try.prog 30 #[.agg t.lo.arr, .agg s.lo.arr] W fun e w' => e = .returned (.int .i64 q1) ∧ Gw W w' := fun W => by rw [hq1]; exact scmp_walk _ _ W
   have hk2 : ∀ W, Calls Try.prog 30 #[.agg t.hi.arr, .agg s.hi.arr] W fun e w' => e = .returned (.int .i64 q2) ∧ Gw W w' := fun W => by rw [hq2]; exact scmp_walk _ _ W
   have hk4 : ∀ W, Calls Try.prog 30 #[.agg s.hi.arr, .agg t.hi.arr] W fun e w' => e = .returned (.int .i64 q4) ∧ Gw W w' := fun W => by rw [hq4]; exact scmp_walk _ _ W
   have hlo : loS s t = if 0 < q1 then t.lo else s.lo := by rw [hq1]; rfl
   have hhi : hiS s t = if q2 < 0 then t.hi else s.hi := by rw [hq2]; rfl
   have hda : dropA s t = decide (q4 ≤ 0) := by unfold dropA; rw [hq4, ← HV.out.1, ← HV.out.2]; simp
   have HF := Lib.hid (And.intro hvv (And.intro hlo (And.intro hhi hda)))
   clear hvv hq1 hq2 hq4 hlo hhi hda
   have HX8 := Lib.hid (Has.new w4 (⟨true, s.lo, s.hi⟩ : Spn).arr 30)
   have HB4 := (show Below w4.heap.size w4 (w4.alloc (.cells (⟨true, s.lo, s.hi⟩ : Spn).arr 30)) from (Below.refl _ _).alloc (Nat.le_refl _) _)
   have HT5 := Lib.hid (And.intro (HT4.out.1.below HB4) (And.intro (HT4.out.2.1.below HB4) (Below.trans HT4.out.2.2.2.2.2 (HB4.mono HT4.out.2.2.2.2.2.size))))
   have hg4 := HT4.out.2.2.2.2.2.size
   have hne1 : g1 ≠ w4.heap.size := Nat.ne_of_lt HT4.out.1.lt
   have hne2 : g2 ≠ w4.heap.size := Nat.ne_of_lt HT4.out.2.1.lt
   clear HB4
   go_wp2_with (first
    | ((with_reducible refine at_dst 35 ?_); refine loadA s.lo g1 1 rfl (by have := rlo_of_s HT4.out.1.rs; rwa [Nat.zero_add] at this) ?_)
    | ((with_reducible refine at_dst 37 ?_); refine loadA s.hi g1 17 rfl (by have := rhi_of_s HT4.out.1.rs; rwa [Nat.zero_add] at this) ?_)
    | ((with_reducible refine at_dst 38 ?_); refine valN rfl (exec_buildSpn true s.lo s.hi rfl rfl rfl _) ?_)
    | ((with_reducible refine at_dst 8 ?_); refine alloc_storeS (⟨true, s.lo, s.hi⟩ : Spn) rfl rfl ?_; generalize hg8 : w4.heap.size = g8 at HX8 hg4 hne1 hne2 ⊢; generalize hw8 : w4.alloc (.cells (⟨true, s.lo, s.hi⟩ : Spn).arr 30) = w5 at HX8 HT5 ⊢; clear hw8)
    | ((with_reducible refine at_dst 40 ?_); refine loadA t.lo g2 1 rfl (by have := rlo_of_s HT5.out.2.1.rs; rwa [Nat.zero_add] at this) ?_)
    | ((with_reducible refine at_dst 42 ?_); refine loadA s.lo g8 1 rfl (by have := rlo_of_s HX8.out.rs; rwa [Nat.zero_add] at this) ?_))
   refine (hk1 _).mono ?_
   rintro e w6 ⟨rfl, hB⟩
   have H6 : Hid (T6 wr s t g1 g2 g8 (⟨true, s.lo, s.hi⟩ : Spn) w6) := Lib.hid (T6.step ⟨HT5.out.1, HT5.out.2.1, HT5.out.2.2, RowAt.new HX8.out hg4, hne1, hne2⟩ hB.below)
   clear hB HX8 HT5 hk1
   by_cases p1 : 0 < q1
   ·have p1' : decide (0 < q1) = true := decide_eq_true p1
    have p1'' := eq_true p1
    have H7 : Hid (T6 wr s t g1 g2 g8 (⟨true, t.lo, s.hi⟩ : Spn) (w6.setCells g8 1 t.lo.cells)) := Lib.hid (H6.out.lo t.lo)
    go_wp2_with (first
     | ((with_reducible refine at_dst 46 ?_); refine loadA t.lo g2 1 rfl (by have := rlo_of_s H6.out.2.1.rs; rwa [Nat.zero_add] at this) ?_)
     | (refine wpList_store_mid rfl 28 (.tmp 47) (.tmp 46) rfl g8 1 t.lo.arr rfl rfl (H6.out.2.2.2.1.there (by rw [t.lo.arr_size]; decide)) (by rw [t.lo.arr_size]; exact infoA) t.lo.arr_one ?_)
     | ((with_reducible refine at_dst 49 ?_); refine loadA t.hi g2 17 rfl (by have := rhi_of_s H7.out.2.1.rs; rwa [Nat.zero_add] at this) ?_)
     | ((with_reducible refine at_dst 51 ?_); refine loadA s.hi g8 17 rfl (by have := rhi_of_s H7.out.2.2.2.1.one; rwa [Nat.zero_add] at this) ?_))
    refine (hk2 _).mono ?_
    rintro e w8 ⟨rfl, hB⟩
    have H8 := Lib.hid (H7.out.step hB.below)
    clear hB H7 p1' p1''
    by_cases p2 : q2 < 0
    ·have p2' : decide (q2 < 0) = true := decide_eq_true p2
     have p2'' := eq_true p2
     have H9 : Hid (T6 wr s t g1 g2 g8 (⟨true, t.lo, t.hi⟩ : Spn) (w8.setCells g8 17 t.hi.cells)) := Lib.hid (H8.out.hi t.hi)
     have hk3 := fun W => scmp_walk t.lo t.hi W
     obtain ⟨q3, hq3⟩ : ∃ q, q = lexC t.lo.l t.hi.l := ⟨_, rfl⟩
     rw [← hq3] at hk3
     have HQ3 := Lib.hid hq3
     clear hq3
     go_wp2_with (first
      | ((with_reducible refine at_dst 55 ?_); refine loadA t.hi g2 17 rfl (by have := rhi_of_s H8.out.2.1.rs; rwa [Nat.zero_add] at this) ?_)
      | (refine wpList_store_mid rfl 28 (.tmp 56) (.tmp 55) rfl g8 17 t.hi.arr rfl rfl (H8.out.2.2.2.1.there (by rw [t.hi.arr_size]; decide)) (by rw [t.hi.arr_size]; exact infoA) t.hi.arr_one ?_)
      | ((with_reducible refine at_dst 58 ?_); refine loadA t.lo g8 1 rfl (by have := rlo_of_s H9.out.2.2.2.1.one; rwa [Nat.zero_add] at this) ?_)
      | ((with_reducible refine at_dst 60 ?_); refine loadA t.hi g8 17 rfl (by have := rhi_of_s H9.out.2.2.2.1.one; rwa [Nat.zero_add] at this) ?_))
     refine (hk3 _).mono ?_
     rintro e w10 ⟨rfl, hB⟩
     have H10 := Lib.hid (H9.out.step hB.below)
     clear hB H9 p2' p2''
     have HCM : Hid (common s t = if q3 ≤ 0 then [(⟨true, t.lo, t.hi⟩ : Spn)] else []) := by
      have f1 := HF.out.1
      have f2 := HF.out.2.1
      have f3 := HF.out.2.2.1
      rw [if_pos (by omega)] at f2
      rw [if_pos (by omega)] at f3
      have f4 := HQ3.out
      refine Lib.hid ?_
      unfold common cut2
      rw [f2, f3, ← f4, ← HV.out.1]
      by_cases f5 : q3 ≤ 0
      ·rw [if_pos f5, if_pos ⟨by rw [HV.out.1]; exact f1, f5⟩]
      ·rw [if_neg f5, if_neg (fun h => f5 h.2)]
     have HR10 := Lib.hid (And.intro (Kd.R_below HRo.out H10.out.2.2.1) (HBw.out.trans (H10.out.2.2.1.mono HBw.out.size)))
     have HN10 := Lib.hid (R_own HRo.out)
     clear HQ3 hk3
     by_cases p3 : q3 ≤ 0
     ·have p3' : decide (q3 ≤ 0) = true := decide_eq_true p3
      have p3'' := eq_true p3
      go_wp2_with (first
       | ((with_reducible refine at_dst 64 ?_); refine loadS (⟨true, t.lo, t.hi⟩ : Spn) g8 0 rfl H10.out.2.2.2.1.one ?_)
       | ((with_reducible refine at_dst 65 ?_); refine valN rfl (exec_buildS (⟨true, t.lo, t.hi⟩ : Spn) rfl _) ?_)
       | ((with_reducible refine at_dst 66 ?_); refine appRowsL (w0 := w2) w2.heap.size rfl (.tmp 63) (.tmp 65) rfl (.slice Ao done.length co) done [(⟨true, t.lo, t.hi⟩ : Spn)] (some ⟨w10.heap.size, 0, none⟩) 1 1 rfl rfl (Kd.R_below HR10.out.1 ((Below.refl _ _).alloc (Nat.le_refl _) _)) (C_one (Has.new w10 ((⟨true, t.lo, t.hi⟩ : Spn)).arr _)) (HR10.out.2.alloc HR10.out.2.size _) (Nat.le_trans HR10.out.2.size ((Below.refl w10.heap.size w10).alloc (Nat.le_refl _) (.cells ((⟨true, t.lo, t.hi⟩ : Spn)).arr 30)).size) (by omega) ?_; intro v12 w12 hR12 hB12 hg12 hat12; have H12 : Hid (Has w12 g1 s.arr 30 ∧ Has w12 g2 t.arr 30 ∧ kS.R 30 w12 w2.heap.size (fun _ => True) v12 (done ++ [(⟨true, t.lo, t.hi⟩ : Spn)]) ∧ Below w2.heap.size w2 w12) := Lib.hid ⟨(hg12.block g1 (Nat.lt_of_lt_of_le H10.out.1.lt ((Below.refl w10.heap.size w10).alloc (Nat.le_refl _) (.cells ((⟨true, t.lo, t.hi⟩ : Spn)).arr 30)).size) (fun e => absurd (HN10.out g1 e.symm) (Nat.not_lt.2 HT4.out.2.2.2.1))).trans (H10.out.1.alloc _), (hg12.block g2 (Nat.lt_of_lt_of_le H10.out.2.1.lt ((Below.refl w10.heap.size w10).alloc (Nat.le_refl _) (.cells ((⟨true, t.lo, t.hi⟩ : Spn)).arr 30)).size) (fun e => absurd (HN10.out g2 e.symm) (Nat.not_lt.2 HT4.out.2.2.2.2.1))).trans (H10.out.2.1.alloc _), hR12, hB12⟩; obtain ⟨A12, c12, e12⟩ := Kd.R_slice hR12; subst e12; have e00 : w12.cell? ⟨g1, 0, none⟩ = some (.bool true) := (by rw [HV.out.1]; exact rs_v6 H12.out.1.rs); have e1 : w12.cell? ⟨g2, 0, none⟩ = some (.bool true) := (by rw [HV.out.2]; exact rs_v6 H12.out.2.1.rs); clear hR12 hB12 hg12 hat12 p3' p3'' e0)
       | ((with_reducible refine at_dst 82 ?_); refine gate_guard (by rfl) ?_; refine loadA s.hi g1 17 rfl (by have := rhi_of_s H12.out.1.rs; rwa [Nat.zero_add] at this) ?_)
       | ((with_reducible refine at_dst 84 ?_); refine gate_guard (by rfl) ?_; refine loadA t.hi g2 17 rfl (by have := rhi_of_s H12.out.2.1.rs; rwa [Nat.zero_add] at this) ?_))
      refine (hk4 _).mono ?_
      rintro e w14 ⟨rfl, hB⟩
      have HE := Lib.hid (And.intro (Kd.R_below H12.out.2.2.1 hB.below) (H12.out.2.2.2.trans (hB.below.mono H12.out.2.2.2.size)))
      have hcm : common s t = [(⟨true, t.lo, t.hi⟩ : Spn)] := by rw [HCM.out, if_pos (by omega)]
      have HC2 := Lib.hid hcm
      clear hB hcm hk4 e1 e00
      by_cases p4 : q4 ≤ 0
      ·have p4' : decide (q4 ≤ 0) = true := decide_eq_true p4
       have p4'' := eq_true p4
       have hdr : dropA s t = true := by rw [HF.out.2.2.2, p4']
       have HDR := Lib.hid hdr
       clear hdr
       go_wp2
       go_roundw
       case rel => exact ⟨xs, t :: ys, _, _, c1 - 1, c2, rfl, by (first | rfl | (rw [hn2]; rfl)), Lib.hid ⟨by omega, HCx.out.2.1, HD.out.1, HCx.out.2.2.2, HE.out.2, k, (done ++ [(⟨true, t.lo, t.hi⟩ : Spn)]), by simp at hk ⊢; omega, by
        have := HDN.out
        rw [HC2.out, HDR.out, if_pos rfl] at this
        simpa using this, by simp at hdl ⊢; omega, (by have h9 := HE.out.1; rw [List.length_append, List.length_singleton] at h9; exact h9)⟩⟩
       case measure => simp [slen]; omega
      ·have p4' : decide (q4 ≤ 0) = false := decide_eq_false p4
       have p4'' := eq_false p4
       have hdr : dropA s t = false := by rw [HF.out.2.2.2, p4']
       have HDR := Lib.hid hdr
       clear hdr
       go_wp2
       go_roundw
       case rel => exact ⟨s :: xs, ys, _, _, c1, c2 - 1, by (first | rfl | (rw [hn1]; rfl)), rfl, Lib.hid ⟨HCx.out.1, by omega, HCx.out.2.2.1, HD.out.2, HE.out.2, k, (done ++ [(⟨true, t.lo, t.hi⟩ : Spn)]), by simp at hk ⊢; omega, by
        have := HDN.out
        rw [HC2.out, HDR.out, if_neg (by simp)] at this
        simpa using this, by simp at hdl ⊢; omega, (by have h9 := HE.out.1; rw [List.length_append, List.length_singleton] at h9; exact h9)⟩⟩
       case measure => simp [slen]; omega
     ·have p3' : decide (q3 ≤ 0) = false := decide_eq_false p3
      have p3'' := eq_false p3
      have H12 : Hid (Has w10 g1 s.arr 30 ∧ Has w10 g2 t.arr 30 ∧ kS.R 30 w10 w2.heap.size (fun _ => True) (.slice Ao done.length co) done ∧ Below w2.heap.size w2 w10) := Lib.hid ⟨H10.out.1, H10.out.2.1, HR10.out.1, HR10.out.2⟩
      have e0 : w10.cell? ⟨g1, 0, none⟩ = some (.bool true) := (by rw [HV.out.1]; exact rs_v6 H12.out.1.rs)
      have e1 : w10.cell? ⟨g2, 0, none⟩ = some (.bool true) := (by rw [HV.out.2]; exact rs_v6 H12.out.2.1.rs)
      go_wp2_with (first
       | ((with_reducible refine at_dst 82 ?_); refine gate_guard (by rfl) ?_; refine loadA s.hi g1 17 rfl (by have := rhi_of_s H12.out.1.rs; rwa [Nat.zero_add] at this) ?_)
       | ((with_reducible refine at_dst 84 ?_); refine gate_guard (by rfl) ?_; refine loadA t.hi g2 17 rfl (by have := rhi_of_s H12.out.2.1.rs; rwa [Nat.zero_add] at this) ?_))
      refine (hk4 _).mono ?_
      rintro e w14 ⟨rfl, hB⟩
      have HE := Lib.hid (And.intro (Kd.R_below H12.out.2.2.1 hB.below) (H12.out.2.2.2.trans (hB.below.mono H12.out.2.2.2.size)))
      have hcm : common s t = [] := by rw [HCM.out, if_neg (by omega)]
      have HC2 := Lib.hid hcm
      clear hB hcm hk4 e1 e0 p3' p3''
      by_cases p4 : q4 ≤ 0
      ·have p4' : decide (q4 ≤ 0) = true := decide_eq_true p4
       have p4'' := eq_true p4
       have hdr : dropA s t = true := by rw [HF.out.2.2.2, p4']
       have HDR := Lib.hid hdr
       clear hdr
       go_wp2
       go_roundw
       case rel => exact ⟨xs, t :: ys, _, _, c1 - 1, c2, rfl, by (first | rfl | (rw [hn2]; rfl)), Lib.hid ⟨by omega, HCx.out.2.1, HD.out.1, HCx.out.2.2.2, HE.out.2, k, done, by simp at hk ⊢; omega, by
        have := HDN.out
        rw [HC2.out, HDR.out, if_pos rfl] at this
        simpa using this, by simp at hdl ⊢; omega, HE.out.1⟩⟩
       case measure => simp [slen]; omega
      ·have p4' : decide (q4 ≤ 0) = false := decide_eq_false p4
       have p4'' := eq_false p4
       have hdr : dropA s t = false := by rw [HF.out.2.2.2, p4']
       have HDR := Lib.hid hdr
       clear hdr
       go_wp2
       go_roundw
       case rel => exact ⟨s :: xs, ys, _, _, c1, c2 - 1, by (first | rfl | (rw [hn1]; rfl)), rfl, Lib.hid ⟨HCx.out.1, by omega, HCx.out.2.2.1, HD.out.2, HE.out.2, k, done, by simp at hk ⊢; omega, by
        have := HDN.out
        rw [HC2.out, HDR.out, if_neg (by simp)] at this
        simpa using this, by simp at hdl ⊢; omega, HE.out.1⟩⟩
       case measure => simp [slen]; omega
    ·have p2' : decide (q2 < 0) = false := decide_eq_false p2
     have p2'' := eq_false p2
     have H9 : Hid (T6 wr s t g1 g2 g8 (⟨true, t.lo, s.hi⟩ : Spn) w8) := Lib.hid (H8.out)
     have hk3 := fun W => scmp_walk t.lo s.hi W
     obtain ⟨q3, hq3⟩ : ∃ q, q = lexC t.lo.l s.hi.l := ⟨_, rfl⟩
     rw [← hq3] at hk3
     have HQ3 := Lib.hid hq3
     clear hq3
     go_wp2_with (first
      | ((with_reducible refine at_dst 58 ?_); refine loadA t.lo g8 1 rfl (by have := rlo_of_s H9.out.2.2.2.1.one; rwa [Nat.zero_add] at this) ?_)
      | ((with_reducible refine at_dst 60 ?_); refine loadA s.hi g8 17 rfl (by have := rhi_of_s H9.out.2.2.2.1.one; rwa [Nat.zero_add] at this) ?_))
     refine (hk3 _).mono ?_
     rintro e w10 ⟨rfl, hB⟩
     have H10 := Lib.hid (H9.out.step hB.below)
     clear hB H9 p2' p2''
     have HCM : Hid (common s t = if q3 ≤ 0 then [(⟨true, t.lo, s.hi⟩ : Spn)] else []) := by
      have f1 := HF.out.1
      have f2 := HF.out.2.1
      have f3 := HF.out.2.2.1
      rw [if_pos (by omega)] at f2
      rw [if_neg (by omega)] at f3
      have f4 := HQ3.out
      refine Lib.hid ?_
      unfold common cut2
      rw [f2, f3, ← f4, ← HV.out.1]
      by_cases f5 : q3 ≤ 0
      ·rw [if_pos f5, if_pos ⟨by rw [HV.out.1]; exact f1, f5⟩]
      ·rw [if_neg f5, if_neg (fun h => f5 h.2)]
     have HR10 := Lib.hid (And.intro (Kd.R_below HRo.out H10.out.2.2.1) (HBw.out.trans (H10.out.2.2.1.mono HBw.out.size)))
     have HN10 := Lib.hid (R_own HRo.out)
     clear HQ3 hk3
     by_cases p3 : q3 ≤ 0
     ·have p3' : decide (q3 ≤ 0) = true := decide_eq_true p3
      have p3'' := eq_true p3
      go_wp2_with (first
       | ((with_reducible refine at_dst 64 ?_); refine loadS (⟨true, t.lo, s.hi⟩ : Spn) g8 0 rfl H10.out.2.2.2.1.one ?_)
       | ((with_reducible refine at_dst 65 ?_); refine valN rfl (exec_buildS (⟨true, t.lo, s.hi⟩ : Spn) rfl _) ?_)
       | ((with_reducible refine at_dst 66 ?_); refine appRowsL (w0 := w2) w2.heap.size rfl (.tmp 63) (.tmp 65) rfl (.slice Ao done.length co) done [(⟨true, t.lo, s.hi⟩ : Spn)] (some ⟨w10.heap.size, 0, none⟩) 1 1 rfl rfl (Kd.R_below HR10.out.1 ((Below.refl _ _).alloc (Nat.le_refl _) _)) (C_one (Has.new w10 ((⟨true, t.lo, s.hi⟩ : Spn)).arr _)) (HR10.out.2.alloc HR10.out.2.size _) (Nat.le_trans HR10.out.2.size ((Below.refl w10.heap.size w10).alloc (Nat.le_refl _) (.cells ((⟨true, t.lo, s.hi⟩ : Spn)).arr 30)).size) (by omega) ?_; intro v12 w12 hR12 hB12 hg12 hat12; have H12 : Hid (Has w12 g1 s.arr 30 ∧ Has w12 g2 t.arr 30 ∧ kS.R 30 w12 w2.heap.size (fun _ => True) v12 (done ++ [(⟨true, t.lo, s.hi⟩ : Spn)]) ∧ Below w2.heap.size w2 w12) := Lib.hid ⟨(hg12.block g1 (Nat.lt_of_lt_of_le H10.out.1.lt ((Below.refl w10.heap.size w10).alloc (Nat.le_refl _) (.cells ((⟨true, t.lo, s.hi⟩ : Spn)).arr 30)).size) (fun e => absurd (HN10.out g1 e.symm) (Nat.not_lt.2 HT4.out.2.2.2.1))).trans (H10.out.1.alloc _), (hg12.block g2 (Nat.lt_of_lt_of_le H10.out.2.1.lt ((Below.refl w10.heap.size w10).alloc (Nat.le_refl _) (.cells ((⟨true, t.lo, s.hi⟩ : Spn)).arr 30)).size) (fun e => absurd (HN10.out g2 e.symm) (Nat.not_lt.2 HT4.out.2.2.2.2.1))).trans (H10.out.2.1.alloc _), hR12, hB12⟩; obtain ⟨A12, c12, e12⟩ := Kd.R_slice hR12; subst e12; have e00 : w12.cell? ⟨g1, 0, none⟩ = some (.bool true) := (by rw [HV.out.1]; exact rs_v6 H12.out.1.rs); have e1 : w12.cell? ⟨g2, 0, none⟩ = some (.bool true) := (by rw [HV.out.2]; exact rs_v6 H12.out.2.1.rs); clear hR12 hB12 hg12 hat12 p3' p3'' e0)
       | ((with_reducible refine at_dst 82 ?_); refine gate_guard (by rfl) ?_; refine loadA s.hi g1 17 rfl (by have := rhi_of_s H12.out.1.rs; rwa [Nat.zero_add] at this) ?_)
       | ((with_reducible refine at_dst 84 ?_); refine gate_guard (by rfl) ?_; refine loadA t.hi g2 17 rfl (by have := rhi_of_s H12.out.2.1.rs; rwa [Nat.zero_add] at this) ?_))
      refine (hk4 _).mono ?_
      rintro e w14 ⟨rfl, hB⟩
      have HE := Lib.hid (And.intro (Kd.R_below H12.out.2.2.1 hB.below) (H12.out.2.2.2.trans (hB.below.mono H12.out.2.2.2.size)))
      have hcm : common s t = [(⟨true, t.lo, s.hi⟩ : Spn)] := by rw [HCM.out, if_pos (by omega)]
      have HC2 := Lib.hid hcm
      clear hB hcm hk4 e1 e00
      by_cases p4 : q4 ≤ 0
      ·have p4' : decide (q4 ≤ 0) = true := decide_eq_true p4
       have p4'' := eq_true p4
       have hdr : dropA s t = true := by rw [HF.out.2.2.2, p4']
       have HDR := Lib.hid hdr
       clear hdr
       go_wp2
       go_roundw
       case rel => exact ⟨xs, t :: ys, _, _, c1 - 1, c2, rfl, by (first | rfl | (rw [hn2]; rfl)), Lib.hid ⟨by omega, HCx.out.2.1, HD.out.1, HCx.out.2.2.2, HE.out.2, k, (done ++ [(⟨true, t.lo, s.hi⟩ : Spn)]), by simp at hk ⊢; omega, by
        have := HDN.out
        rw [HC2.out, HDR.out, if_pos rfl] at this
        simpa using this, by simp at hdl ⊢; omega, (by have h9 := HE.out.1; rw [List.length_append, List.length_singleton] at h9; exact h9)⟩⟩
       case measure => simp [slen]; omega
      ·have p4' : decide (q4 ≤ 0) = false := decide_eq_false p4
       have p4'' := eq_false p4
       have hdr : dropA s t = false := by rw [HF.out.2.2.2, p4']
       have HDR := Lib.hid hdr
       clear hdr
       go_wp2
       go_roundw
       case rel => exact ⟨s :: xs, ys, _, _, c1, c2 - 1, by (first | rfl | (rw [hn1]; rfl)), rfl, Lib.hid ⟨HCx.out.1, by omega, HCx.out.2.2.1, HD.out.2, HE.out.2, k, (done ++ [(⟨true, t.lo, s.hi⟩ : Spn)]), by simp at hk ⊢; omega, by
        have := HDN.out
        rw [HC2.out, HDR.out, if_neg (by simp)] at this
        simpa using this, by simp at hdl ⊢; omega, (by have h9 := HE.out.1; rw [List.length_append, List.length_singleton] at h9; exact h9)⟩⟩
       case measure => simp [slen]; omega
     ·have p3' : decide (q3 ≤ 0) = false := decide_eq_false p3
      have p3'' := eq_false p3
      have H12 : Hid (Has w10 g1 s.arr 30 ∧ Has w10 g2 t.arr 30 ∧ kS.R 30 w10 w2.heap.size (fun _ => True) (.slice Ao done.length co) done ∧ Below w2.heap.size w2 w10) := Lib.hid ⟨H10.out.1, H10.out.2.1, HR10.out.1, HR10.out.2⟩
      have e0 : w10.cell? ⟨g1, 0, none⟩ = some (.bool true) := (by rw [HV.out.1]; exact rs_v6 H12.out.1.rs)
      have e1 : w10.cell? ⟨g2, 0, none⟩ = some (.bool true) := (by rw [HV.out.2]; exact rs_v6 H12.out.2.1.rs)
      go_wp2_with (first
       | ((with_reducible refine at_dst 82 ?_); refine gate_guard (by rfl) ?_; refine loadA s.hi g1 17 rfl (by have := rhi_of_s H12.out.1.rs; rwa [Nat.zero_add] at this) ?_)
       | ((with_reducible refine at_dst 84 ?_); refine gate_guard (by rfl) ?_; refine loadA t.hi g2 17 rfl (by have := rhi_of_s H12.out.2.1.rs; rwa [Nat.zero_add] at this) ?_))
      refine (hk4 _).mono ?_
      rintro e w14 ⟨rfl, hB⟩
      have HE := Lib.hid (And.intro (Kd.R_below H12.out.2.2.1 hB.below) (H12.out.2.2.2.trans (hB.below.mono H12.out.2.2.2.size)))
      have hcm : common s t = [] := by rw [HCM.out, if_neg (by omega)]
      have HC2 := Lib.hid hcm
      clear hB hcm hk4 e1 e0 p3' p3''
      by_cases p4 : q4 ≤ 0
      ·have p4' : decide (q4 ≤ 0) = true := decide_eq_true p4
       have p4'' := eq_true p4
       have hdr : dropA s t = true := by rw [HF.out.2.2.2, p4']
       have HDR := Lib.hid hdr
       clear hdr
       go_wp2
       go_roundw
       case rel => exact ⟨xs, t :: ys, _, _, c1 - 1, c2, rfl, by (first | rfl | (rw [hn2]; rfl)), Lib.hid ⟨by omega, HCx.out.2.1, HD.out.1, HCx.out.2.2.2, HE.out.2, k, done, by simp at hk ⊢; omega, by
        have := HDN.out
        rw [HC2.out, HDR.out, if_pos rfl] at this
        simpa using this, by simp at hdl ⊢; omega, HE.out.1⟩⟩
       case measure => simp [slen]; omega
      ·have p4' : decide (q4 ≤ 0) = false := decide_eq_false p4
       have p4'' := eq_false p4
       have hdr : dropA s t = false := by rw [HF.out.2.2.2, p4']
       have HDR := Lib.hid hdr
       clear hdr
       go_wp2
       go_roundw
       case rel => exact ⟨s :: xs, ys, _, _, c1, c2 - 1, by (first | rfl | (rw [hn1]; rfl)), rfl, Lib.hid ⟨HCx.out.1, by omega, HCx.out.2.2.1, HD.out.2, HE.out.2, k, done, by simp at hk ⊢; omega, by
        have := HDN.out
        rw [HC2.out, HDR.out, if_neg (by simp)] at this
        simpa using this, by simp at hdl ⊢; omega, HE.out.1⟩⟩
       case measure => simp [slen]; omega
   ·have p1' : decide (0 < q1) = false := decide_eq_false p1
    have p1'' := eq_false p1
    have H7 : Hid (T6 wr s t g1 g2 g8 (⟨true, s.lo, s.hi⟩ : Spn) w6) := Lib.hid (H6.out)
    go_wp2_with (first
     | ((with_reducible refine at_dst 49 ?_); refine loadA t.hi g2 17 rfl (by have := rhi_of_s H7.out.2.1.rs; rwa [Nat.zero_add] at this) ?_)
     | ((with_reducible refine at_dst 51 ?_); refine loadA s.hi g8 17 rfl (by have := rhi_of_s H7.out.2.2.2.1.one; rwa [Nat.zero_add] at this) ?_))
    refine (hk2 _).mono ?_
    rintro e w8 ⟨rfl, hB⟩
    have H8 := Lib.hid (H7.out.step hB.below)
    clear hB H7 p1' p1''
    by_cases p2 : q2 < 0
    ·have p2' : decide (q2 < 0) = true := decide_eq_true p2
     have p2'' := eq_true p2
     have H9 : Hid (T6 wr s t g1 g2 g8 (⟨true, s.lo, t.hi⟩ : Spn) (w8.setCells g8 17 t.hi.cells)) := Lib.hid (H8.out.hi t.hi)
     have hk3 := fun W => scmp_walk s.lo t.hi W
     obtain ⟨q3, hq3⟩ : ∃ q, q = lexC s.lo.l t.hi.l := ⟨_, rfl⟩
     rw [← hq3] at hk3
     have HQ3 := Lib.hid hq3
     clear hq3
     go_wp2_with (first
      | ((with_reducible refine at_dst 55 ?_); refine loadA t.hi g2 17 rfl (by have := rhi_of_s H8.out.2.1.rs; rwa [Nat.zero_add] at this) ?_)
      | (refine wpList_store_mid rfl 28 (.tmp 56) (.tmp 55) rfl g8 17 t.hi.arr rfl rfl (H8.out.2.2.2.1.there (by rw [t.hi.arr_size]; decide)) (by rw [t.hi.arr_size]; exact infoA) t.hi.arr_one ?_)
      | ((with_reducible refine at_dst 58 ?_); refine loadA s.lo g8 1 rfl (by have := rlo_of_s H9.out.2.2.2.1.one; rwa [Nat.zero_add] at this) ?_)
      | ((with_reducible refine at_dst 60 ?_); refine loadA t.hi g8 17 rfl (by have := rhi_of_s H9.out.2.2.2.1.one; rwa [Nat.zero_add] at this) ?_))
     refine (hk3 _).mono ?_
     rintro e w10 ⟨rfl, hB⟩
     have H10 := Lib.hid (H9.out.step hB.below)
     clear hB H9 p2' p2''
     have HCM : Hid (common s t = if q3 ≤ 0 then [(⟨true, s.lo, t.hi⟩ : Spn)] else []) := by
      have f1 := HF.out.1
      have f2 := HF.out.2.1
      have f3 := HF.out.2.2.1
      rw [if_neg (by omega)] at f2
      rw [if_pos (by omega)] at f3
      have f4 := HQ3.out
      refine Lib.hid ?_
      unfold common cut2
      rw [f2, f3, ← f4, ← HV.out.1]
      by_cases f5 : q3 ≤ 0
      ·rw [if_pos f5, if_pos ⟨by rw [HV.out.1]; exact f1, f5⟩]
      ·rw [if_neg f5, if_neg (fun h => f5 h.2)]
     have HR10 := Lib.hid (And.intro (Kd.R_below HRo.out H10.out.2.2.1) (HBw.out.trans (H10.out.2.2.1.mono HBw.out.size)))
     have HN10 := Lib.hid (R_own HRo.out)
     clear HQ3 hk3
     by_cases p3 : q3 ≤ 0
     ·have p3' : decide (q3 ≤ 0) = true := decide_eq_true p3
      have p3'' := eq_true p3
      go_wp2_with (first
       | ((with_reducible refine at_dst 64 ?_); refine loadS (⟨true, s.lo, t.hi⟩ : Spn) g8 0 rfl H10.out.2.2.2.1.one ?_)
       | ((with_reducible refine at_dst 65 ?_); refine valN rfl (exec_buildS (⟨true, s.lo, t.hi⟩ : Spn) rfl _) ?_)
       | ((with_reducible refine at_dst 66 ?_); refine appRowsL (w0 := w2) w2.heap.size rfl (.tmp 63) (.tmp 65) rfl (.slice Ao done.length co) done [(⟨true, s.lo, t.hi⟩ : Spn)] (some ⟨w10.heap.size, 0, none⟩) 1 1 rfl rfl (Kd.R_below HR10.out.1 ((Below.refl _ _).alloc (Nat.le_refl _) _)) (C_one (Has.new w10 ((⟨true, s.lo, t.hi⟩ : Spn)).arr _)) (HR10.out.2.alloc HR10.out.2.size _) (Nat.le_trans HR10.out.2.size ((Below.refl w10.heap.size w10).alloc (Nat.le_refl _) (.cells ((⟨true, s.lo, t.hi⟩ : Spn)).arr 30)).size) (by omega) ?_; intro v12 w12 hR12 hB12 hg12 hat12; have H12 : Hid (Has w12 g1 s.arr 30 ∧ Has w12 g2 t.arr 30 ∧ kS.R 30 w12 w2.heap.size (fun _ => True) v12 (done ++ [(⟨true, s.lo, t.hi⟩ : Spn)]) ∧ Below w2.heap.size w2 w12) := Lib.hid ⟨(hg12.block g1 (Nat.lt_of_lt_of_le H10.out.1.lt ((Below.refl w10.heap.size w10).alloc (Nat.le_refl _) (.cells ((⟨true, s.lo, t.hi⟩ : Spn)).arr 30)).size) (fun e => absurd (HN10.out g1 e.symm) (Nat.not_lt.2 HT4.out.2.2.2.1))).trans (H10.out.1.alloc _), (hg12.block g2 (Nat.lt_of_lt_of_le H10.out.2.1.lt ((Below.refl w10.heap.size w10).alloc (Nat.le_refl _) (.cells ((⟨true, s.lo, t.hi⟩ : Spn)).arr 30)).size) (fun e => absurd (HN10.out g2 e.symm) (Nat.not_lt.2 HT4.out.2.2.2.2.1))).trans (H10.out.2.1.alloc _), hR12, hB12⟩; obtain ⟨A12, c12, e12⟩ := Kd.R_slice hR12; subst e12; have e00 : w12.cell? ⟨g1, 0, none⟩ = some (.bool true) := (by rw [HV.out.1]; exact rs_v6 H12.out.1.rs); have e1 : w12.cell? ⟨g2, 0, none⟩ = some (.bool true) := (by rw [HV.out.2]; exact rs_v6 H12.out.2.1.rs); clear hR12 hB12 hg12 hat12 p3' p3'' e0)
       | ((with_reducible refine at_dst 82 ?_); refine gate_guard (by rfl) ?_; refine loadA s.hi g1 17 rfl (by have := rhi_of_s H12.out.1.rs; rwa [Nat.zero_add] at this) ?_)
       | ((with_reducible refine at_dst 84 ?_); refine gate_guard (by rfl) ?_; refine loadA t.hi g2 17 rfl (by have := rhi_of_s H12.out.2.1.rs; rwa [Nat.zero_add] at this) ?_))
      refine (hk4 _).mono ?_
      rintro e w14 ⟨rfl, hB⟩
      have HE := Lib.hid (And.intro (Kd.R_below H12.out.2.2.1 hB.below) (H12.out.2.2.2.trans (hB.below.mono H12.out.2.2.2.size)))
      have hcm : common s t = [(⟨true, s.lo, t.hi⟩ : Spn)] := by rw [HCM.out, if_pos (by omega)]
      have HC2 := Lib.hid hcm
      clear hB hcm hk4 e1 e00
      by_cases p4 : q4 ≤ 0
      ·have p4' : decide (q4 ≤ 0) = true := decide_eq_true p4
       have p4'' := eq_true p4
       have hdr : dropA s t = true := by rw [HF.out.2.2.2, p4']
       have HDR := Lib.hid hdr
       clear hdr
       go_wp2
       go_roundw
       case rel => exact ⟨xs, t :: ys, _, _, c1 - 1, c2, rfl, by (first | rfl | (rw [hn2]; rfl)), Lib.hid ⟨by omega, HCx.out.2.1, HD.out.1, HCx.out.2.2.2, HE.out.2, k, (done ++ [(⟨true, s.lo, t.hi⟩ : Spn)]), by simp at hk ⊢; omega, by
        have := HDN.out
        rw [HC2.out, HDR.out, if_pos rfl] at this
        simpa using this, by simp at hdl ⊢; omega, (by have h9 := HE.out.1; rw [List.length_append, List.length_singleton] at h9; exact h9)⟩⟩
       case measure => simp [slen]; omega
      ·have p4' : decide (q4 ≤ 0) = false := decide_eq_false p4
       have p4'' := eq_false p4
       have hdr : dropA s t = false := by rw [HF.out.2.2.2, p4']
       have HDR := Lib.hid hdr
       clear hdr
       go_wp2
       go_roundw
       case rel => exact ⟨s :: xs, ys, _, _, c1, c2 - 1, by (first | rfl | (rw [hn1]; rfl)), rfl, Lib.hid ⟨HCx.out.1, by omega, HCx.out.2.2.1, HD.out.2, HE.out.2, k, (done ++ [(⟨true, s.lo, t.hi⟩ : Spn)]), by simp at hk ⊢; omega, by
        have := HDN.out
        rw [HC2.out, HDR.out, if_neg (by simp)] at this
        simpa using this, by simp at hdl ⊢; omega, (by have h9 := HE.out.1; rw [List.length_append, List.length_singleton] at h9; exact h9)⟩⟩
       case measure => simp [slen]; omega
     ·have p3' : decide (q3 ≤ 0) = false := decide_eq_false p3
      have p3'' := eq_false p3
      have H12 : Hid (Has w10 g1 s.arr 30 ∧ Has w10 g2 t.arr 30 ∧ kS.R 30 w10 w2.heap.size (fun _ => True) (.slice Ao done.length co) done ∧ Below w2.heap.size w2 w10) := Lib.hid ⟨H10.out.1, H10.out.2.1, HR10.out.1, HR10.out.2⟩
      have e0 : w10.cell? ⟨g1, 0, none⟩ = some (.bool true) := (by rw [HV.out.1]; exact rs_v6 H12.out.1.rs)
      have e1 : w10.cell? ⟨g2, 0, none⟩ = some (.bool true) := (by rw [HV.out.2]; exact rs_v6 H12.out.2.1.rs)
      go_wp2_with (first
       | ((with_reducible refine at_dst 82 ?_); refine gate_guard (by rfl) ?_; refine loadA s.hi g1 17 rfl (by have := rhi_of_s H12.out.1.rs; rwa [Nat.zero_add] at this) ?_)
       | ((with_reducible refine at_dst 84 ?_); refine gate_guard (by rfl) ?_; refine loadA t.hi g2 17 rfl (by have := rhi_of_s H12.out.2.1.rs; rwa [Nat.zero_add] at this) ?_))
      refine (hk4 _).mono ?_
      rintro e w14 ⟨rfl, hB⟩
      have HE := Lib.hid (And.intro (Kd.R_below H12.out.2.2.1 hB.below) (H12.out.2.2.2.trans (hB.below.mono H12.out.2.2.2.size)))
      have hcm : common s t = [] := by rw [HCM.out, if_neg (by omega)]
      have HC2 := Lib.hid hcm
      clear hB hcm hk4 e1 e0 p3' p3''
      by_cases p4 : q4 ≤ 0
      ·have p4' : decide (q4 ≤ 0) = true := decide_eq_true p4
       have p4'' := eq_true p4
       have hdr : dropA s t = true := by rw [HF.out.2.2.2, p4']
       have HDR := Lib.hid hdr
       clear hdr
       go_wp2
       go_roundw
       case rel => exact ⟨xs, t :: ys, _, _, c1 - 1, c2, rfl, by (first | rfl | (rw [hn2]; rfl)), Lib.hid ⟨by omega, HCx.out.2.1, HD.out.1, HCx.out.2.2.2, HE.out.2, k, done, by simp at hk ⊢; omega, by
        have := HDN.out
        rw [HC2.out, HDR.out, if_pos rfl] at this
        simpa using this, by simp at hdl ⊢; omega, HE.out.1⟩⟩
       case measure => simp [slen]; omega
      ·have p4' : decide (q4 ≤ 0) = false := decide_eq_false p4
       have p4'' := eq_false p4
       have hdr : dropA s t = false := by rw [HF.out.2.2.2, p4']
       have HDR := Lib.hid hdr
       clear hdr
       go_wp2
       go_roundw
       case rel => exact ⟨s :: xs, ys, _, _, c1, c2 - 1, by (first | rfl | (rw [hn1]; rfl)), rfl, Lib.hid ⟨HCx.out.1, by omega, HCx.out.2.2.1, HD.out.2, HE.out.2, k, done, by simp at hk ⊢; omega, by
        have := HDN.out
        rw [HC2.out, HDR.out, if_neg (by simp)] at this
        simpa using this, by simp at hdl ⊢; omega, HE.out.1⟩⟩
       case measure => simp [slen]; omega
    ·have p2' : decide (q2 < 0) = false := decide_eq_false p2
     have p2'' := eq_false p2
     have H9 : Hid (T6 wr s t g1 g2 g8 (⟨true, s.lo, s.hi⟩ : Spn) w8) := Lib.hid (H8.out)
     have hk3 := fun W => scmp_walk s.lo s.hi W
     obtain ⟨q3, hq3⟩ : ∃ q, q = lexC s.lo.l s.hi.l := ⟨_, rfl⟩
     rw [← hq3] at hk3
     have HQ3 := Lib.hid hq3
     clear hq3
     go_wp2_with (first
      | ((with_reducible refine at_dst 58 ?_); refine loadA s.lo g8 1 rfl (by have := rlo_of_s H9.out.2.2.2.1.one; rwa [Nat.zero_add] at this) ?_)
      | ((with_reducible refine at_dst 60 ?_); refine loadA s.hi g8 17 rfl (by have := rhi_of_s H9.out.2.2.2.1.one; rwa [Nat.zero_add] at this) ?_))
     refine (hk3 _).mono ?_
     rintro e w10 ⟨rfl, hB⟩
     have H10 := Lib.hid (H9.out.step hB.below)
     clear hB H9 p2' p2''
     have HCM : Hid (common s t = if q3 ≤ 0 then [(⟨true, s.lo, s.hi⟩ : Spn)] else []) := by
      have f1 := HF.out.1
      have f2 := HF.out.2.1
      have f3 := HF.out.2.2.1
      rw [if_neg (by omega)] at f2
      rw [if_neg (by omega)] at f3
      have f4 := HQ3.out
      refine Lib.hid ?_
      unfold common cut2
      rw [f2, f3, ← f4, ← HV.out.1]
      by_cases f5 : q3 ≤ 0
      ·rw [if_pos f5, if_pos ⟨by rw [HV.out.1]; exact f1, f5⟩]
      ·rw [if_neg f5, if_neg (fun h => f5 h.2)]
     have HR10 := Lib.hid (And.intro (Kd.R_below HRo.out H10.out.2.2.1) (HBw.out.trans (H10.out.2.2.1.mono HBw.out.size)))
     have HN10 := Lib.hid (R_own HRo.out)
     clear HQ3 hk3
     by_cases p3 : q3 ≤ 0
     ·have p3' : decide (q3 ≤ 0) = true := decide_eq_true p3
      have p3'' := eq_true p3
      go_wp2_with (first
       | ((with_reducible refine at_dst 64 ?_); refine loadS (⟨true, s.lo, s.hi⟩ : Spn) g8 0 rfl H10.out.2.2.2.1.one ?_)
       | ((with_reducible refine at_dst 65 ?_); refine valN rfl (exec_buildS (⟨true, s.lo, s.hi⟩ : Spn) rfl _) ?_)
       | ((with_reducible refine at_dst 66 ?_); refine appRowsL (w0 := w2) w2.heap.size rfl (.tmp 63) (.tmp 65) rfl (.slice Ao done.length co) done [(⟨true, s.lo, s.hi⟩ : Spn)] (some ⟨w10.heap.size, 0, none⟩) 1 1 rfl rfl (Kd.R_below HR10.out.1 ((Below.refl _ _).alloc (Nat.le_refl _) _)) (C_one (Has.new w10 ((⟨true, s.lo, s.hi⟩ : Spn)).arr _)) (HR10.out.2.alloc HR10.out.2.size _) (Nat.le_trans HR10.out.2.size ((Below.refl w10.heap.size w10).alloc (Nat.le_refl _) (.cells ((⟨true, s.lo, s.hi⟩ : Spn)).arr 30)).size) (by omega) ?_; intro v12 w12 hR12 hB12 hg12 hat12; have H12 : Hid (Has w12 g1 s.arr 30 ∧ Has w12 g2 t.arr 30 ∧ kS.R 30 w12 w2.heap.size (fun _ => True) v12 (done ++ [(⟨true, s.lo, s.hi⟩ : Spn)]) ∧ Below w2.heap.size w2 w12) := Lib.hid ⟨(hg12.block g1 (Nat.lt_of_lt_of_le H10.out.1.lt ((Below.refl w10.heap.size w10).alloc (Nat.le_refl _) (.cells ((⟨true, s.lo, s.hi⟩ : Spn)).arr 30)).size) (fun e => absurd (HN10.out g1 e.symm) (Nat.not_lt.2 HT4.out.2.2.2.1))).trans (H10.out.1.alloc _), (hg12.block g2 (Nat.lt_of_lt_of_le H10.out.2.1.lt ((Below.refl w10.heap.size w10).alloc (Nat.le_refl _) (.cells ((⟨true, s.lo, s.hi⟩ : Spn)).arr 30)).size) (fun e => absurd (HN10.out g2 e.symm) (Nat.not_lt.2 HT4.out.2.2.2.2.1))).trans (H10.out.2.1.alloc _), hR12, hB12⟩; obtain ⟨A12, c12, e12⟩ := Kd.R_slice hR12; subst e12; have e00 : w12.cell? ⟨g1, 0, none⟩ = some (.bool true) := (by rw [HV.out.1]; exact rs_v6 H12.out.1.rs); have e1 : w12.cell? ⟨g2, 0, none⟩ = some (.bool true) := (by rw [HV.out.2]; exact rs_v6 H12.out.2.1.rs); clear hR12 hB12 hg12 hat12 p3' p3'' e0)
       | ((with_reducible refine at_dst 82 ?_); refine gate_guard (by rfl) ?_; refine loadA s.hi g1 17 rfl (by have := rhi_of_s H12.out.1.rs; rwa [Nat.zero_add] at this) ?_)
       | ((with_reducible refine at_dst 84 ?_); refine gate_guard (by rfl) ?_; refine loadA t.hi g2 17 rfl (by have := rhi_of_s H12.out.2.1.rs; rwa [Nat.zero_add] at this) ?_))
      refine (hk4 _).mono ?_
      rintro e w14 ⟨rfl, hB⟩
      have HE := Lib.hid (And.intro (Kd.R_below H12.out.2.2.1 hB.below) (H12.out.2.2.2.trans (hB.below.mono H12.out.2.2.2.size)))
      have hcm : common s t = [(⟨true, s.lo, s.hi⟩ : Spn)] := by rw [HCM.out, if_pos (by omega)]
      have HC2 := Lib.hid hcm
      clear hB hcm hk4 e1 e00
      by_cases p4 : q4 ≤ 0
      ·have p4' : decide (q4 ≤ 0) = true := decide_eq_true p4
       have p4'' := eq_true p4
       have hdr : dropA s t = true := by rw [HF.out.2.2.2, p4']
       have HDR := Lib.hid hdr
       clear hdr
       go_wp2
       go_roundw
       case rel => exact ⟨xs, t :: ys, _, _, c1 - 1, c2, rfl, by (first | rfl | (rw [hn2]; rfl)), Lib.hid ⟨by omega, HCx.out.2.1, HD.out.1, HCx.out.2.2.2, HE.out.2, k, (done ++ [(⟨true, s.lo, s.hi⟩ : Spn)]), by simp at hk ⊢; omega, by
        have := HDN.out
        rw [HC2.out, HDR.out, if_pos rfl] at this
        simpa using this, by simp at hdl ⊢; omega, (by have h9 := HE.out.1; rw [List.length_append, List.length_singleton] at h9; exact h9)⟩⟩
       case measure => simp [slen]; omega
      ·have p4' : decide (q4 ≤ 0) = false := decide_eq_false p4
       have p4'' := eq_false p4
       have hdr : dropA s t = false := by rw [HF.out.2.2.2, p4']
       have HDR := Lib.hid hdr
       clear hdr
       go_wp2
       go_roundw
       case rel => exact ⟨s :: xs, ys, _, _, c1, c2 - 1, by (first | rfl | (rw [hn1]; rfl)), rfl, Lib.hid ⟨HCx.out.1, by omega, HCx.out.2.2.1, HD.out.2, HE.out.2, k, (done ++ [(⟨true, s.lo, s.hi⟩ : Spn)]), by simp at hk ⊢; omega, by
        have := HDN.out
        rw [HC2.out, HDR.out, if_neg (by simp)] at this
        simpa using this, by simp at hdl ⊢; omega, (by have h9 := HE.out.1; rw [List.length_append, List.length_singleton] at h9; exact h9)⟩⟩
       case measure => simp [slen]; omega
     ·have p3' : decide (q3 ≤ 0) = false := decide_eq_false p3
      have p3'' := eq_false p3
      have H12 : Hid (Has w10 g1 s.arr 30 ∧ Has w10 g2 t.arr 30 ∧ kS.R 30 w10 w2.heap.size (fun _ => True) (.slice Ao done.length co) done ∧ Below w2.heap.size w2 w10) := Lib.hid ⟨H10.out.1, H10.out.2.1, HR10.out.1, HR10.out.2⟩
      have e0 : w10.cell? ⟨g1, 0, none⟩ = some (.bool true) := (by rw [HV.out.1]; exact rs_v6 H12.out.1.rs)
      have e1 : w10.cell? ⟨g2, 0, none⟩ = some (.bool true) := (by rw [HV.out.2]; exact rs_v6 H12.out.2.1.rs)
      go_wp2_with (first
       | ((with_reducible refine at_dst 82 ?_); refine gate_guard (by rfl) ?_; refine loadA s.hi g1 17 rfl (by have := rhi_of_s H12.out.1.rs; rwa [Nat.zero_add] at this) ?_)
       | ((with_reducible refine at_dst 84 ?_); refine gate_guard (by rfl) ?_; refine loadA t.hi g2 17 rfl (by have := rhi_of_s H12.out.2.1.rs; rwa [Nat.zero_add] at this) ?_))
      refine (hk4 _).mono ?_
      rintro e w14 ⟨rfl, hB⟩
      have HE := Lib.hid (And.intro (Kd.R_below H12.out.2.2.1 hB.below) (H12.out.2.2.2.trans (hB.below.mono H12.out.2.2.2.size)))
      have hcm : common s t = [] := by rw [HCM.out, if_neg (by omega)]
      have HC2 := Lib.hid hcm
      clear hB hcm hk4 e1 e0 p3' p3''
      by_cases p4 : q4 ≤ 0
      ·have p4' : decide (q4 ≤ 0) = true := decide_eq_true p4
       have p4'' := eq_true p4
       have hdr : dropA s t = true := by rw [HF.out.2.2.2, p4']
       have HDR := Lib.hid hdr
       clear hdr
       go_wp2
       go_roundw
       case rel => exact ⟨xs, t :: ys, _, _, c1 - 1, c2, rfl, by (first | rfl | (rw [hn2]; rfl)), Lib.hid ⟨by omega, HCx.out.2.1, HD.out.1, HCx.out.2.2.2, HE.out.2, k, done, by simp at hk ⊢; omega, by
        have := HDN.out
        rw [HC2.out, HDR.out, if_pos rfl] at this
        simpa using this, by simp at hdl ⊢; omega, HE.out.1⟩⟩
       case measure => simp [slen]; omega
      ·have p4' : decide (q4 ≤ 0) = false := decide_eq_false p4
       have p4'' := eq_false p4
       have hdr : dropA s t = false := by rw [HF.out.2.2.2, p4']
       have HDR := Lib.hid hdr
       clear hdr
       go_wp2
       go_roundw
       case rel => exact ⟨s :: xs, ys, _, _, c1, c2 - 1, by (first | rfl | (rw [hn1]; rfl)), rfl, Lib.hid ⟨HCx.out.1, by omega, HCx.out.2.2.1, HD.out.2, HE.out.2, k, done, by simp at hk ⊢; omega, by
        have := HDN.out
        rw [HC2.out, HDR.out, if_neg (by simp)] at this
        simpa using this, by simp at hdl ⊢; omega, HE.out.1⟩⟩
       case measure => simp [slen]; omega

end Go.Proofs.Ytdioagebkfdkhaa.Ad
end

section
set_option linter.unusedVariables false
set_option linter.unusedSimpArgs false
namespace Go.Proofs.Ytdioagebkfdkhaa.Ad
open Go Go.RowKit Go.Proofs.YtdioagebkfdkhaaW.PrintWords Go.Proofs.YtdioagebkfdkhaaW.PrintLast Go.Proofs.YtdioagebkfdkhaaW.PrintMore Go.Proofs.Ytdioagebkfdkhaa.PT

def f09 : Spn := fourS 0 9 (by decide) (by decide)
def f1020 : Spn := fourS 10 20 (by decide) (by decide)
def f020 : Spn := fourS 0 20 (by decide) (by decide)
def f14 : Spn := fourS 1 4 (by decide) (by decide)
theorem join_awake : joinS [f09, f1020] = [f020] := by
 have h1 : List.Perm [f09, f1020] (List.filter rightS [f09, f1020]) := by
  rw [show List.filter rightS [f09, f1020] = [f09, f1020] by decide +kernel]
 rw [← fold_join h1 (by decide +kernel)]
 decide +kernel
theorem parts_awake : partsN 3 f14.v6 f14.hi (f14.lo, rightS f14) = some [fourS 1 1 (by decide) (by decide), fourS 2 3 (by decide) (by decide), fourS 4 4 (by decide) (by decide)] := by decide +kernel
theorem told_awake : (([fourS 1 1 (by decide) (by decide), fourS 2 3 (by decide) (by decide), fourS 4 4 (by decide) (by decide)].map toP).take 9).map Pfx.n = [32, 31, 32] := by decide +kernel
set_option maxRecDepth 100000 in
theorem buildS2 (s t : Spn) (W : World) : (Instr.buildSlice 22 2 #[(0, .agg s.arr), (1, .agg t.arr)]).run Try.prog W = .ok (.slice (some ⟨W.heap.size, 0, none⟩) 2 2) (W.alloc (.cells (s.cells ++ t.cells).toArray 30)) := by
 rw [Spn.lit, Spn.lit, show s.cells ++ t.cells = ((.bool s.v6 :: (lit16 s.lo ++ lit16 s.hi)) ++ (.bool t.v6 :: (lit16 t.lo ++ lit16 t.hi))) by rw [Spn.cells, Spn.cells, A16.lit, A16.lit, A16.lit, A16.lit]]
 kernel_rfl
theorem exec_buildS2 {ρ : Operand → Value} {n x y : Tmp} {ty : TypeId} {pos : String} {af : Array Edge} {g : Option (Nat × Bool)} (s t : Spn) (h1 : ρ (.tmp x) = .agg s.arr) (h2 : ρ (.tmp y) = .agg t.arr) (W : World) :
 (execOp ρ ⟨some n, .buildSlice 22 2 #[(0, .tmp x), (1, .tmp y)], ty, pos, af, g⟩).run Try.prog W = .ok (.value (.slice (some ⟨W.heap.size, 0, none⟩) 2 2)) (W.alloc (.cells (s.cells ++ t.cells).toArray 30)) := by
 have := buildS2 s t W
 unfold execOp
 simp only [List.map_toArray, List.map_cons, List.map_nil, h1, h2, Sem.run_map, this]
 simp [Result.andThen, this]
theorem C_two (s t : Spn) (W : World) (ty : TypeId) : kS.C (W.alloc (.cells (s.cells ++ t.cells).toArray ty)) (some ⟨W.heap.size, 0, none⟩) 2 [s, t] := by
 have h : Has (W.alloc (.cells (s.cells ++ t.cells).toArray ty)) W.heap.size (s.cells ++ t.cells).toArray ty := Has.new _ _ _
 refine ⟨rfl, by decide, fun _ => ⟨_, rfl, fun j p hj => ?_⟩⟩
 have hjl := (List.getElem?_eq_some_iff.1 hj).1
 have hj2 : j = 0 ∨ j = 1 := by simp at hjl; omega
 rcases hj2 with rfl | rfl
 ·have hp : s = p := by simpa using hj
  subst hp
  refine ⟨s.cells, s.cells_len, rfl, fun i u hu => ?_⟩
  rw [Addr.add_mid, h.c]
  have hi := (List.getElem?_eq_some_iff.1 hu).1
  rw [List.getElem?_toArray, show 0 + (0 * kS.sz + i) = i by omega, List.getElem?_append_left hi]
  exact hu
 ·have hp : t = p := by simpa using hj
  subst hp
  refine ⟨t.cells, t.cells_len, rfl, fun i u hu => ?_⟩
  rw [Addr.add_mid, h.c]
  rw [List.getElem?_toArray, show 0 + (1 * kS.sz + i) = 33 + i by show 0 + (1 * 33 + i) = 33 + i; omega, List.getElem?_append_right (by rw [s.cells_len]; omega), s.cells_len, show 33 + i - 33 = i by omega]
  exact hu

set_option maxHeartbeats 4000000 in
set_option maxRecDepth 100000 in
theorem awake_walk (w : World) : Calls Try.prog 7 #[] w fun e w' => e = .returned (.bool true) ∧ Below w.heap.size w w' := by
 go_enter Try.func7, Try.ntmps7
 go_wp2_with fail
 refine (four_walk 0 9 (by decide) (by decide) w).mono ?_
 rintro e w1 ⟨rfl, hB1⟩
 rw [show fourS 0 9 (by decide) (by decide) = f09 from rfl]
 go_wp2_with fail
 refine (four_walk 10 20 (by decide) (by decide) w1).mono ?_
 rintro e w2 ⟨rfl, hB2⟩
 rw [show fourS 10 20 (by decide) (by decide) = f1020 from rfl]
 have HB2 := Lib.hid (hB1.trans (hB2.mono hB1.size))
 clear hB1 hB2
 go_wp2_with (first
  | ((with_reducible refine at_dst 5 ?_); refine valN rfl (exec_buildS2 f09 f1020 rfl rfl _) ?_))
 have hC := C_two f09 f1020 w2 30
 have HB3 := Lib.hid (HB2.out.alloc HB2.out.size (.cells (f09.cells ++ f1020.cells).toArray 30))
 have hj := joinS_walk (some ⟨w2.heap.size, 0, none⟩) 2 [f09, f1020] _ hC (by decide)
 rw [join_awake] at hj
 clear hC HB2
 generalize w2.alloc (.cells (f09.cells ++ f1020.cells).toArray 30) = w3 at hj HB3 ⊢
 refine hj.mono ?_
 rintro e w4 ⟨v4, rfl, hR4, hB4⟩
 obtain ⟨A4, c4, e4, hc4, hC4⟩ := Kd.R_reads hR4
 subst e4
 obtain ⟨b4, o4, hA4, hq4⟩ := C_form hC4 (by decide)
 subst hA4
 have hr4 : w4.rangeAt b4 o4 f020.cells := by have := hq4 0 (by decide); simpa using this
 have H4 := Lib.hid (And.intro hr4 (HB3.out.trans (hB4.mono HB3.out.size)))
 clear hj hR4 hB4 hC4 hq4 hr4 HB3 hc4
 go_wp2_with fail
 refine (four_walk 1 4 (by decide) (by decide) w4).mono ?_
 rintro e w5 ⟨rfl, hB5⟩
 rw [show fourS 1 4 (by decide) (by decide) = f14 from rfl]
 go_wp2_with fail
 refine (told_walk f14 3 _ parts_awake (by decide) 9 w5).mono ?_
 rintro e w6 ⟨v6, rfl, hR6, hB6⟩
 obtain ⟨ps, hps⟩ : ∃ ps, ps = (([fourS 1 1 (by decide) (by decide), fourS 2 3 (by decide) (by decide), fourS 4 4 (by decide) (by decide)].map toP).take 9) := ⟨_, rfl⟩
 have hpn : ps.map Pfx.n = [32, 31, 32] := by rw [hps]; exact told_awake
 rw [← hps] at hR6
 clear hps
 have hpl : ps.length = 3 := by have := congrArg List.length hpn; simpa using this
 obtain ⟨A6, c6, e6, hc6, hC6⟩ := Kd.R_reads hR6
 subst e6
 obtain ⟨b6, o6, hA6, hq6⟩ := CP_form hC6 (by omega)
 subst hA6
 have hr6 : w6.cell? ⟨b6, o6 + 35, none⟩ = some (.int .i64 31) := by
  have h1 : 1 < ps.length := by omega
  have h2 := rp_n (hq6 1 h1)
  have h3 : ps[1].n = 31 := by
   have := congrArg (fun l => l[1]?) hpn
   simpa [List.getElem?_eq_getElem h1] using this
  rw [h3] at h2
  exact h2
 have H6 : Hid (w6.rangeAt b4 o4 f020.cells ∧ w6.cell? ⟨b6, o6 + 35, none⟩ = some (.int .i64 31) ∧ Below w.heap.size w w6) :=
  Lib.hid ⟨ra_below (ra_below H4.out.1 hB5) hB6, hr6, H4.out.2.trans ((hB5.trans (hB6.mono hB5.size)).mono H4.out.2.size)⟩
 rw [hpl]
 clear hR6 hB6 hB5 hC6 hq6 hr6 hc6 hpn hpl H4
 have hfour : ∀ W, Calls Try.prog 22 #[.int .u8 0, .int .u8 20] W fun e w' => e = .returned (.agg f020.arr) ∧ Below W.heap.size W w' := fun W => four_walk 0 20 (by decide) (by decide) W
 have heq : ∀ W, (binOp .eql 30 (.agg f020.arr) (.agg f020.arr)).run Try.prog W = .ok (.bool true) W := fun W => by rw [eqlS]; simp
 go_wp2
 refine start_ (n := 23) (S := fun W => W.rangeAt b4 o4 f020.cells ∧ W.cell? ⟨b6, o6 + 35, none⟩ = some (.int .i64 31) ∧ Below w.heap.size w W) (ds := []) #[false, false, false, false, false, false, false, false, false, false, false, false, false, false, false, false, false, false, false, false, false, false, false] (by kernel_rfl) rfl rfl ⟨H6.out.1, H6.out.2.1, H6.out.2.2.drew⟩ (fun hHeld => ?_)
 refine pure_ (i := 0) (N := some 9) (v := ?_) (a' := ?_) #[true, false, false, false, false, false, false, false, false, false, false, false, false, false, false, false, false, false, false, false, false, false, false] rfl rfl (by kernel_rfl) (fun _ _ _ h => h) (Or.inl ⟨by rfl, ?_⟩) ?_ ?_
 rotate_left
 ·intro w'
  go_simp
  with_reducible rfl
 rotate_left
 ·simp only [Act.put, List.setIfInBounds_toArray, List.set_cons_zero, List.set_cons_succ, i64_w, i32_w]
  rfl
 refine pure_ (i := 1) (N := some 10) (v := ?_) (a' := ?_) #[true, true, false, false, false, false, false, false, false, false, false, false, false, false, false, false, false, false, false, false, false, false, false] rfl rfl (by kernel_rfl) (fun _ _ _ h => h) (Or.inl ⟨by rfl, ?_⟩) ?_ ?_
 rotate_left
 ·intro w'
  go_simp
  with_reducible rfl
 rotate_left
 ·simp only [Act.put, List.setIfInBounds_toArray, List.set_cons_zero, List.set_cons_succ, i64_w, i32_w]
  rfl
 refine pure_ (i := 2) (N := some 11) (v := ?_) (a' := ?_) #[true, true, true, false, false, false, false, false, false, false, false, false, false, false, false, false, false, false, false, false, false, false, false] rfl rfl (by kernel_rfl) (fun _ _ _ h => h) (Or.inl ⟨by rfl, ?_⟩) ?_ ?_
 rotate_left
 ·intro w'
  go_simp
  with_reducible rfl
 rotate_left
 ·simp only [Act.put, List.setIfInBounds_toArray, List.set_cons_zero, List.set_cons_succ, i64_w, i32_w]
  rfl
 refine pure_ (i := 3) (N := some 12) (v := ?_) (a' := ?_) #[true, true, true, true, false, false, false, false, false, false, false, false, false, false, false, false, false, false, false, false, false, false, false] rfl rfl (by kernel_rfl) (fun _ _ _ h => h) (Or.inl ⟨by rfl, ?_⟩) ?_ ?_
 rotate_left
 ·intro w'
  go_simp
  with_reducible rfl
 rotate_left
 ·simp only [Act.put, List.setIfInBounds_toArray, List.set_cons_zero, List.set_cons_succ, i64_w, i32_w]
  rfl
 refine pure_ (i := 4) (N := some 13) (v := ?_) (a' := ?_) #[true, true, true, true, true, false, false, false, false, false, false, false, false, false, false, false, false, false, false, false, false, false, false] rfl rfl (by kernel_rfl) (fun _ _ _ h => h) (Or.inl ⟨by rfl, ?_⟩) ?_ ?_
 rotate_left
 ·intro w'
  go_simp
  with_reducible rfl
 rotate_left
 ·simp only [Act.put, List.setIfInBounds_toArray, List.set_cons_zero, List.set_cons_succ, i64_w, i32_w]
  rfl
 refine pure_ (i := 5) (N := some 14) (v := ?_) (a' := ?_) #[true, true, true, true, true, true, false, false, false, false, false, false, false, false, false, false, false, false, false, false, false, false, false] rfl rfl (by kernel_rfl) (fun _ _ _ h => h) (Or.inl ⟨by rfl, ?_⟩) ?_ ?_
 rotate_left
 ·intro w'
  go_simp
  with_reducible rfl
 rotate_left
 ·simp only [Act.put, List.setIfInBounds_toArray, List.set_cons_zero, List.set_cons_succ, i64_w, i32_w]
  rfl
 refine take_ (i := 6) (N := some 15) (v := .agg f020.arr) (a' := ?_) #[true, true, true, true, true, true, true, false, false, false, false, false, false, false, false, false, false, false, false, false, false, false, false] rfl rfl (by kernel_rfl) (fun _ _ _ h => h) ?_ hHeld ?_ ?_
 ·exact yS (by rfl) rfl f020 b4 o4 rfl (fun W h => h.1)
 rotate_left
 ·simp only [Act.put, List.setIfInBounds_toArray, List.set_cons_zero, List.set_cons_succ, i64_w, i32_w]
  rfl
 refine one_ (i := 7) (N := some 16) #[true, true, true, true, true, true, true, true, false, false, false, false, false, false, false, false, false, false, false, false, false, false, false] rfl rfl (by kernel_rfl) (by decide) (fun K hK => ?_)
 refine goes_ Try.func22 (by kernel_rfl) rfl #[.int .u8 0, .int .u8 20] (by rfl) rfl rfl (by (try simp only [List.map_toArray, List.map_cons, List.map_nil]); first | done | rfl) ?_
 refine (hfour _).mono ?_
 rintro e w7 ⟨rfl, hB⟩
 refine ⟨_, rfl, ?_⟩
 refine hK.out _ _ ⟨ra_below hHeld.1 hB, (hB.cell (World.block_lt_of_cell? _ _ hHeld.2.1)).trans hHeld.2.1, hHeld.2.2.trans (hB.mono hHeld.2.2.size)⟩ (fun hHeld => ?_)
 clear hK K
 refine norm_ (a' := ?_) ?_ ?_
 rotate_left
 ·show Act.put _ (some 16) _ = _
  simp only [Act.put, List.setIfInBounds_toArray, List.set_cons_zero, List.set_cons_succ, i64_w, i32_w]
  rfl
 refine pure_ (i := 8) (N := some 17) (v := ?_) (a' := ?_) #[true, true, true, true, true, true, true, true, true, false, false, false, false, false, false, false, false, false, false, false, false, false, false] rfl rfl (by kernel_rfl) (fun _ _ _ h => h) (Or.inl ⟨by rfl, ?_⟩) ?_ ?_
 rotate_left
 ·intro w'
  go_simp
  with_reducible rfl
 rotate_left
 ·simp only [Act.put, List.setIfInBounds_toArray, List.set_cons_zero, List.set_cons_succ, i64_w, i32_w]
  rfl
 refine pure_ (i := 9) (N := some 18) (v := ?_) (a' := ?_) #[true, true, true, true, true, true, true, true, true, true, false, false, false, false, false, false, false, false, false, false, false, false, false] rfl rfl (by kernel_rfl) (fun _ _ _ h => h) (Or.inl ⟨by rfl, ?_⟩) ?_ ?_
 rotate_left
 ·intro w'
  go_simp
  with_reducible rfl
 rotate_left
 ·simp only [Act.put, List.setIfInBounds_toArray, List.set_cons_zero, List.set_cons_succ, i64_w, i32_w]
  rfl
 refine pure_ (i := 10) (N := some 19) (v := ?_) (a' := ?_) #[true, true, true, true, true, true, true, true, true, true, true, false, false, false, false, false, false, false, false, false, false, false, false] rfl rfl (by kernel_rfl) (fun _ _ _ h => h) (Or.inl ⟨by rfl, ?_⟩) ?_ ?_
 rotate_left
 ·intro w'
  go_simp
  with_reducible rfl
 rotate_left
 ·simp only [Act.put, List.setIfInBounds_toArray, List.set_cons_zero, List.set_cons_succ, i64_w, i32_w]
  rfl
 refine pure_ (i := 11) (N := some 20) (v := ?_) (a' := ?_) #[true, true, true, true, true, true, true, true, true, true, true, true, false, false, false, false, false, false, false, false, false, false, false] rfl rfl (by kernel_rfl) (fun _ _ _ h => h) (Or.inl ⟨by rfl, ?_⟩) ?_ ?_
 rotate_left
 ·intro w'
  go_simp
  with_reducible rfl
 rotate_left
 ·simp only [Act.put, List.setIfInBounds_toArray, List.set_cons_zero, List.set_cons_succ, i64_w, i32_w]
  rfl
 refine pure_ (i := 12) (N := some 21) (v := ?_) (a' := ?_) #[true, true, true, true, true, true, true, true, true, true, true, true, true, false, false, false, false, false, false, false, false, false, false] rfl rfl (by kernel_rfl) (fun _ _ _ h => h) (Or.inl ⟨by rfl, ?_⟩) ?_ ?_
 rotate_left
 ·intro w'
  go_simp
  with_reducible rfl
 rotate_left
 ·simp only [Act.put, List.setIfInBounds_toArray, List.set_cons_zero, List.set_cons_succ, i64_w, i32_w]
  rfl
 refine pure_ (i := 13) (N := some 22) (v := ?_) (a' := ?_) #[true, true, true, true, true, true, true, true, true, true, true, true, true, true, false, false, false, false, false, false, false, false, false] rfl rfl (by kernel_rfl) (fun _ _ _ h => h) (Or.inl ⟨by rfl, ?_⟩) ?_ ?_
 rotate_left
 ·intro w'
  go_simp
  with_reducible rfl
 rotate_left
 ·simp only [Act.put, List.setIfInBounds_toArray, List.set_cons_zero, List.set_cons_succ, i64_w, i32_w]
  rfl
 refine pure_ (i := 14) (N := some 23) (v := ?_) (a' := ?_) #[true, true, true, true, true, true, true, true, true, true, true, true, true, true, true, false, false, false, false, false, false, false, false] rfl rfl (by kernel_rfl) (fun _ _ _ h => h) (Or.inl ⟨by rfl, ?_⟩) ?_ ?_
 rotate_left
 ·intro w'
  go_simp
  with_reducible rfl
 rotate_left
 ·simp only [Act.put, List.setIfInBounds_toArray, List.set_cons_zero, List.set_cons_succ, i64_w, i32_w]
  rfl
 refine pure_ (i := 15) (N := some 24) (v := ?_) (a' := ?_) #[true, true, true, true, true, true, true, true, true, true, true, true, true, true, true, true, false, false, false, false, false, false, false] rfl rfl (by kernel_rfl) (fun _ _ _ h => h) (Or.inl ⟨by rfl, ?_⟩) ?_ ?_
 rotate_left
 ·intro w'
  go_simp
  with_reducible rfl
 rotate_left
 ·simp only [Act.put, List.setIfInBounds_toArray, List.set_cons_zero, List.set_cons_succ, i64_w, i32_w]
  rfl
 refine pure_ (i := 16) (N := some 25) (v := ?_) (a' := ?_) #[true, true, true, true, true, true, true, true, true, true, true, true, true, true, true, true, true, false, false, false, false, false, false] rfl rfl (by kernel_rfl) (fun _ _ _ h => h) (Or.inl ⟨by rfl, ?_⟩) ?_ ?_
 rotate_left
 ·intro w'
  go_simp
  with_reducible rfl
 rotate_left
 ·simp only [Act.put, List.setIfInBounds_toArray, List.set_cons_zero, List.set_cons_succ, i64_w, i32_w]
  rfl
 refine pure_ (i := 17) (N := some 26) (v := ?_) (a' := ?_) #[true, true, true, true, true, true, true, true, true, true, true, true, true, true, true, true, true, true, false, false, false, false, false] rfl rfl (by kernel_rfl) (fun _ _ _ h => h) (Or.inl ⟨by rfl, ?_⟩) ?_ ?_
 rotate_left
 ·intro w'
  go_simp
  with_reducible rfl
 rotate_left
 ·simp only [Act.put, List.setIfInBounds_toArray, List.set_cons_zero, List.set_cons_succ, i64_w, i32_w]
  rfl
 refine pure_ (i := 18) (N := some 27) (v := ?_) (a' := ?_) #[true, true, true, true, true, true, true, true, true, true, true, true, true, true, true, true, true, true, true, false, false, false, false] rfl rfl (by kernel_rfl) (fun _ _ _ h => h) (Or.inl ⟨by rfl, ?_⟩) ?_ ?_
 rotate_left
 ·intro w'
  go_simp
  with_reducible rfl
 rotate_left
 ·simp only [Act.put, List.setIfInBounds_toArray, List.set_cons_zero, List.set_cons_succ, i64_w, i32_w]
  rfl
 refine take_ (i := 19) (N := some 28) (v := ?_) (a' := ?_) #[true, true, true, true, true, true, true, true, true, true, true, true, true, true, true, true, true, true, true, true, false, false, false] rfl rfl (by kernel_rfl) (fun _ _ _ h => h) (Or.inl ⟨by rfl, ?_⟩) hHeld ?_ ?_
 rotate_left
 ·rintro w' ⟨s0, s1, s2⟩
  go_simp
  with_reducible rfl
 rotate_left
 ·simp only [Act.put, List.setIfInBounds_toArray, List.set_cons_zero, List.set_cons_succ, i64_w, i32_w]
  rfl
 refine pure_ (i := 20) (N := some 29) (v := ?_) (a' := ?_) #[true, true, true, true, true, true, true, true, true, true, true, true, true, true, true, true, true, true, true, true, true, false, false] rfl rfl (by kernel_rfl) (fun _ _ _ h => h) (Or.inl ⟨by rfl, ?_⟩) ?_ ?_
 rotate_left
 ·intro w'
  go_simp
  with_reducible rfl
 rotate_left
 ·simp only [Act.put, List.setIfInBounds_toArray, List.set_cons_zero, List.set_cons_succ, i64_w, i32_w]
  rfl
 refine pure_ (i := 21) (N := some 30) (v := ?_) (a' := ?_) #[true, true, true, true, true, true, true, true, true, true, true, true, true, true, true, true, true, true, true, true, true, true, false] rfl rfl (by kernel_rfl) (fun _ _ _ h => h) (Or.inl ⟨by rfl, ?_⟩) ?_ ?_
 rotate_left
 ·intro w'
  go_simp
  with_reducible rfl
 rotate_left
 ·simp only [Act.put, List.setIfInBounds_toArray, List.set_cons_zero, List.set_cons_succ, i64_w, i32_w]
  rfl
 refine pure_ (i := 22) (N := some 0) (v := ?_) (a' := ?_) #[true, true, true, true, true, true, true, true, true, true, true, true, true, true, true, true, true, true, true, true, true, true, true] rfl rfl (by kernel_rfl) (fun _ _ _ h => h) (Or.inl ⟨by rfl, ?_⟩) ?_ ?_
 rotate_left
 ·intro w'
  go_simp
  with_reducible rfl
 rotate_left
 ·simp only [Act.put, List.setIfInBounds_toArray, List.set_cons_zero, List.set_cons_succ, i64_w, i32_w]
  rfl
 refine done_ (by kernel_rfl) ?_
 have HE := Lib.hid hHeld.2.2
 clear hHeld
 go_wp2
 go_ret
 exact ⟨rfl, HE.out⟩

end Go.Proofs.Ytdioagebkfdkhaa.Ad
end

section
set_option linter.unusedVariables false
set_option linter.unusedSimpArgs false
namespace Go.Proofs.Ytdioagebkfdkhaa.Ad
open Go Go.RowKit Go.Proofs.YtdioagebkfdkhaaW.PrintWords Go.Proofs.YtdioagebkfdkhaaW.PrintLast Go.Proofs.YtdioagebkfdkhaaW.PrintMore Go.Proofs.Ytdioagebkfdkhaa.PT

theorem pairs_len (a b : List Spn) : (pairs a b).length ≤ a.length * b.length := by
 unfold pairs
 induction a with
 | nil => simp
 | cons s a ih =>
  rw [List.flatMap_cons, List.length_append, List.length_cons, Nat.succ_mul]
  have h : (b.flatMap fun t => if (rightS s && rightS t && decide (s.v6 = t.v6)) = true then [cut2 s t] else []).length ≤ b.length := by
   clear ih
   induction b with
   | nil => simp
   | cons t b ih =>
    rw [List.flatMap_cons, List.length_append, List.length_cons]
    split
    ·rw [List.length_singleton]; omega
    ·rw [List.length_nil]; omega
  omega
theorem both_len (a b : List Spn) : (bothS a b).length ≤ a.length * b.length := Nat.le_trans (joinS_len _) (pairs_len a b)
/-- span.Within, for lists of at most so many. -/
theorem within_walk (A : Option Addr) (c : Nat) (a : List Spn) (B : Option Addr) (d : Nat) (b : List Spn) (w : World) (hA : kS.C w A a.length a) (hac : a.length ≤ c) (hB : kS.C w B b.length b) (hbd : b.length ≤ d) (hal : a.length ≤ 2000) (hbl : b.length ≤ 2000) :
 Calls Try.prog 13 #[.slice A a.length c, .slice B b.length d] w fun e w' => e = .returned (.bool (withinS a b)) ∧ Below w.heap.size w w' :=
 within_of both_walk A c a B d b w hA hac hB hbd (by omega) (by omega) (Nat.le_trans (both_len a b) (Nat.le_trans (Nat.mul_le_mul hal hbl) (by decide)))
end Go.Proofs.Ytdioagebkfdkhaa.Ad
end

section
set_option linter.unusedVariables false
namespace Go.Proofs.Ytdioagebkfdkhaa.Ad
open Go.Proofs.Ytdioagebkfdkhaa

theorem ahead_iff (s t : Spn) : aheadS s t = true ↔ numS s < numS t := by
 have b1 := num_b 16 s.lo
 have b2 := num_b 16 t.lo
 unfold aheadS numS
 by_cases h : s.v6 = t.v6
 ·rw [if_pos h, decide_eq_true_iff, ← num_lex, h]
  omega
 ·rw [if_neg h]
  cases hs : s.v6 <;> cases ht : t.v6 <;> simp_all <;> omega
/-- Where it is put. -/
def atS (row : List Spn) (s : Spn) : Nat := (row.takeWhile (fun x => aheadS x s)).length
def insS (row : List Spn) (s : Spn) : List Spn := (row.take (atS row s) ++ [s]) ++ row.drop (atS row s)
def rowStep (row : List Spn) (s : Spn) : List Spn := if rightS s then insS row s else row
def rowOf (l : List Spn) : List Spn := l.foldl rowStep []
theorem atS_le (row : List Spn) (s : Spn) : atS row s ≤ row.length := (List.takeWhile_sublist _).length_le
theorem ins_len (row : List Spn) (s : Spn) : (insS row s).length = row.length + 1 := by
 have := atS_le row s
 unfold insS
 simp
 omega
theorem ins_perm (row : List Spn) (s : Spn) : (insS row s).Perm (s :: row) := by
 unfold insS
 have h : row.take (atS row s) ++ row.drop (atS row s) = row := List.take_append_drop _ _
 have h2 : ((row.take (atS row s) ++ [s]) ++ row.drop (atS row s)).Perm (s :: (row.take (atS row s) ++ row.drop (atS row s))) := by
  rw [List.append_assoc]
  exact List.perm_middle
 rwa [h] at h2
/-- Whose first ones all stand ahead, and the one behind them does not. -/
theorem atS_of {row : List Spn} {s : Spn} : ∀ {j : Nat}, j ≤ row.length → (∀ i (hi : i < row.length), i < j → aheadS row[i] s = true) → (∀ hj : j < row.length, aheadS row[j] s = false) → atS row s = j := by
 unfold atS
 induction row with
 | nil => intro j hj _ _; simp at hj ⊢; omega
 | cons x row ih =>
  intro j hj h1 h2
  cases j with
  | zero =>
   have := h2 (by simp)
   rw [List.getElem_cons_zero] at this
   rw [show (x :: row).takeWhile (fun x => aheadS x s) = [] by rw [List.takeWhile_cons, if_neg (by rw [this]; simp)]]
   rfl
  | succ j =>
   have hx := h1 0 (by simp) (by omega)
   rw [List.getElem_cons_zero] at hx
   rw [show (x :: row).takeWhile (fun x => aheadS x s) = x :: row.takeWhile (fun x => aheadS x s) by rw [List.takeWhile_cons, if_pos hx], List.length_cons, ih (j := j) (by simpa using hj) (fun i hi hij => by have := h1 (i + 1) (by simpa using hi) (by omega); simpa using this) (fun hj' => by have := h2 (by simpa using hj'); simpa using this)]
theorem take_at (row : List Spn) (s : Spn) : row.take (atS row s) = row.takeWhile (fun x => aheadS x s) := by
 unfold atS
 have h : row.takeWhile (fun x => aheadS x s) <+: row := List.takeWhile_prefix _
 exact (List.prefix_iff_eq_take.1 h).symm
theorem drop_at (row : List Spn) (s : Spn) : row.drop (atS row s) = row.dropWhile (fun x => aheadS x s) := by
 have h1 := List.take_append_drop (atS row s) row
 have h2 := List.takeWhile_append_dropWhile (p := fun x => aheadS x s) (l := row)
 rw [take_at] at h1
 exact List.append_cancel_left (h1.trans h2.symm)
theorem mem_tw {p : Spn → Bool} : ∀ {l : List Spn} {x : Spn}, x ∈ l.takeWhile p → p x = true
 | y :: l, x, h => by
  rw [List.takeWhile_cons] at h
  split at h
  ·rename_i hy
   rcases List.mem_cons.1 h with rfl | h
   ·exact hy
   ·exact mem_tw h
  ·cases h
theorem ins_sorted {row : List Spn} {s : Spn} (h : row.Pairwise (fun a b => numS a ≤ numS b)) : (insS row s).Pairwise (fun a b => numS a ≤ numS b) := by
 have hd : ∀ x ∈ row.drop (atS row s), numS s ≤ numS x := by
  rw [drop_at]
  induction row with
  | nil => intro x hx; simp at hx
  | cons y row ih =>
   intro x hx
   by_cases hy : aheadS y s = true
   ·rw [List.dropWhile_cons, if_pos hy] at hx
    exact ih (List.pairwise_cons.1 h).2 x hx
   ·rw [List.dropWhile_cons, if_neg hy] at hx
    have hys : ¬ numS y < numS s := fun e => hy ((ahead_iff y s).2 e)
    rcases List.mem_cons.1 hx with rfl | hx
    ·omega
    ·have := (List.pairwise_cons.1 h).1 x hx
     omega
 have ht : ∀ x ∈ row.take (atS row s), numS x < numS s := by
  rw [take_at]
  intro x hx
  exact (ahead_iff x s).1 (mem_tw (p := fun x => aheadS x s) hx)
 have hsplit := List.take_append_drop (atS row s) row
 rw [← hsplit] at h
 obtain ⟨p1, p2, p3⟩ := List.pairwise_append.1 h
 unfold insS
 rw [List.append_assoc]
 refine List.pairwise_append.2 ⟨p1, ?_, ?_⟩
 ·rw [List.singleton_append, List.pairwise_cons]
  exact ⟨hd, p2⟩
 ·intro a ha b hb
  rw [List.singleton_append] at hb
  rcases List.mem_cons.1 hb with rfl | hb
  ·exact Int.le_of_lt (ht a ha)
  ·exact p3 a ha b hb
theorem row_perm : ∀ (l row : List Spn), (l.foldl rowStep row).Perm (row ++ l.filter rightS)
 | [], row => by simp
 | s :: l, row => by
  rw [List.foldl_cons]
  refine (row_perm l _).trans ?_
  unfold rowStep
  by_cases h : rightS s = true
  ·rw [if_pos h, List.filter_cons, if_pos h]
   refine ((ins_perm row s).append_right _).trans ?_
   rw [List.cons_append]
   exact List.perm_middle.symm
  ·rw [if_neg h, List.filter_cons, if_neg h]
theorem row_sorted : ∀ (l row : List Spn), row.Pairwise (fun a b => numS a ≤ numS b) → (l.foldl rowStep row).Pairwise (fun a b => numS a ≤ numS b)
 | [], row, h => h
 | s :: l, row, h => by
  rw [List.foldl_cons]
  refine row_sorted l _ ?_
  unfold rowStep
  split
  ·exact ins_sorted h
  ·exact h
theorem row_join (l : List Spn) : (rowOf l).foldl stepS [] = joinS l := fold_join (by have := row_perm l []; simpa [rowOf] using this) (row_sorted l [] List.Pairwise.nil)
theorem rowStep_len (row : List Spn) (s : Spn) : (rowStep row s).length ≤ row.length + 1 := by
 unfold rowStep
 split
 ·rw [ins_len]; omega
 ·omega
theorem row_len : ∀ (l row : List Spn), (l.foldl rowStep row).length ≤ row.length + l.length
 | [], row => by simp
 | s :: l, row => by
  have h1 := rowStep_len row s
  have h2 := row_len l (rowStep row s)
  simp only [List.foldl_cons, List.length_cons]
  omega
theorem row_take (l : List Spn) (k : Nat) (h : k < l.length) : (l.take (k + 1)).foldl rowStep [] = rowStep ((l.take k).foldl rowStep []) l[k] := by
 rw [List.take_succ_eq_append_getElem h, List.foldl_append]
 rfl
end Go.Proofs.Ytdioagebkfdkhaa.Ad
end
