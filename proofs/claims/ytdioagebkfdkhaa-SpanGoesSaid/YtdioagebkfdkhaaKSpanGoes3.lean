/- Merged by a program of this session (wip/tools/pack.py). -/
import Derived.Test.YtdioagebkfdkhaaKSpanGoes2
import Derived.Deep.Slices
import Derived.Deep.Fields
import Derived.ChangeSame
import Derived.OpenShut
import Derived.SizedLaws
section
set_option linter.unusedVariables false
set_option linter.unusedSimpArgs false
namespace Go.Proofs.Ytdioagebkfdkhaa.Ad
open Go Go.RowKit Go.Proofs.YtdioagebkfdkhaaW.PrintWords Go.Proofs.YtdioagebkfdkhaaW.PrintLast Go.Proofs.YtdioagebkfdkhaaW.PrintMore Go.Proofs.Ytdioagebkfdkhaa.PT

def f09 : Spn := fourS 0 9 (by decide) (by decide)
def f1020 : Spn := fourS 10 20 (by decide) (by decide)
def f020 : Spn := fourS 0 20 (by decide) (by decide)
def f14 : Spn := fourS 1 4 (by decide) (by decide)
theorem join_awake : joinS [f09, f1020] = [f020] := by
 have h1 : List.Perm [f09, f1020] (List.filter rightS [f09, f1020]) := by
  rw [show List.filter rightS [f09, f1020] = [f09, f1020] by decide +kernel]
 rw [← fold_join h1 (by decide +kernel)]
 decide +kernel
theorem parts_awake : partsN 3 f14.v6 f14.hi (f14.lo, rightS f14) = some [fourS 1 1 (by decide) (by decide), fourS 2 3 (by decide) (by decide), fourS 4 4 (by decide) (by decide)] := by decide +kernel
theorem told_awake : (([fourS 1 1 (by decide) (by decide), fourS 2 3 (by decide) (by decide), fourS 4 4 (by decide) (by decide)].map toP).take 9).map Pfx.n = [32, 31, 32] := by decide +kernel
set_option maxRecDepth 100000 in
theorem buildS2 (s t : Spn) (W : World) : (Instr.buildSlice 22 2 #[(0, .agg s.arr), (1, .agg t.arr)]).run Try.prog W = .ok (.slice (some ⟨W.heap.size, 0, none⟩) 2 2) (W.alloc (.cells (s.cells ++ t.cells).toArray 30)) := by
 rw [Spn.lit, Spn.lit, show s.cells ++ t.cells = ((.bool s.v6 :: (lit16 s.lo ++ lit16 s.hi)) ++ (.bool t.v6 :: (lit16 t.lo ++ lit16 t.hi))) by rw [Spn.cells, Spn.cells, A16.lit, A16.lit, A16.lit, A16.lit]]
 kernel_rfl
theorem exec_buildS2 {ρ : Operand → Value} {n x y : Tmp} {ty : TypeId} {pos : String} {af : Array Edge} {g : Option (Nat × Bool)} (s t : Spn) (h1 : ρ (.tmp x) = .agg s.arr) (h2 : ρ (.tmp y) = .agg t.arr) (W : World) :
 (execOp ρ ⟨some n, .buildSlice 22 2 #[(0, .tmp x), (1, .tmp y)], ty, pos, af, g⟩).run Try.prog W = .ok (.value (.slice (some ⟨W.heap.size, 0, none⟩) 2 2)) (W.alloc (.cells (s.cells ++ t.cells).toArray 30)) := by
 have := buildS2 s t W
 unfold execOp
 simp only [List.map_toArray, List.map_cons, List.map_nil, h1, h2, Sem.run_map, this]
 simp [Result.andThen, this]
theorem C_two (s t : Spn) (W : World) (ty : TypeId) : kS.C (W.alloc (.cells (s.cells ++ t.cells).toArray ty)) (some ⟨W.heap.size, 0, none⟩) 2 [s, t] := by
 have h : Has (W.alloc (.cells (s.cells ++ t.cells).toArray ty)) W.heap.size (s.cells ++ t.cells).toArray ty := Has.new _ _ _
 refine ⟨rfl, by decide, fun _ => ⟨_, rfl, fun j p hj => ?_⟩⟩
 have hjl := (List.getElem?_eq_some_iff.1 hj).1
 have hj2 : j = 0 ∨ j = 1 := by simp at hjl; omega
 rcases hj2 with rfl | rfl
 ·have hp : s = p := by simpa using hj
  subst hp
  refine ⟨s.cells, s.cells_len, rfl, fun i u hu => ?_⟩
  rw [Addr.add_mid, h.c]
  have hi := (List.getElem?_eq_some_iff.1 hu).1
  rw [List.getElem?_toArray, show 0 + (0 * kS.sz + i) = i by omega, List.getElem?_append_left hi]
  exact hu
 ·have hp : t = p := by simpa using hj
  subst hp
  refine ⟨t.cells, t.cells_len, rfl, fun i u hu => ?_⟩
  rw [Addr.add_mid, h.c]
  rw [List.getElem?_toArray, show 0 + (1 * kS.sz + i) = 33 + i by show 0 + (1 * 33 + i) = 33 + i; omega, List.getElem?_append_right (by rw [s.cells_len]; omega), s.cells_len, show 33 + i - 33 = i by omega]
  exact hu

set_option maxHeartbeats 4000000 in
set_option maxRecDepth 100000 in
theorem awake_walk (w : World) : Calls Try.prog 7 #[] w fun e w' => e = .returned (.bool true) ∧ Below w.heap.size w w' := by
 go_enter Try.func7, Try.ntmps7
 go_wp2_with fail
 refine (four_walk 0 9 (by decide) (by decide) w).mono ?_
 rintro e w1 ⟨rfl, hB1⟩
 rw [show fourS 0 9 (by decide) (by decide) = f09 from rfl]
 go_wp2_with fail
 refine (four_walk 10 20 (by decide) (by decide) w1).mono ?_
 rintro e w2 ⟨rfl, hB2⟩
 rw [show fourS 10 20 (by decide) (by decide) = f1020 from rfl]
 have HB2 := Lib.hid (hB1.trans (hB2.mono hB1.size))
 clear hB1 hB2
 go_wp2_with (first
  | ((with_reducible refine at_dst 5 ?_); refine valN rfl (exec_buildS2 f09 f1020 rfl rfl _) ?_))
 have hC := C_two f09 f1020 w2 30
 have HB3 := Lib.hid (HB2.out.alloc HB2.out.size (.cells (f09.cells ++ f1020.cells).toArray 30))
 have hj := joinS_walk (some ⟨w2.heap.size, 0, none⟩) 2 [f09, f1020] _ hC (by decide)
 rw [join_awake] at hj
 clear hC HB2
 generalize w2.alloc (.cells (f09.cells ++ f1020.cells).toArray 30) = w3 at hj HB3 ⊢
 refine hj.mono ?_
 rintro e w4 ⟨v4, rfl, hR4, hB4⟩
 obtain ⟨A4, c4, e4, hc4, hC4⟩ := Kd.R_reads hR4
 subst e4
 obtain ⟨b4, o4, hA4, hq4⟩ := C_form hC4 (by decide)
 subst hA4
 have hr4 : w4.rangeAt b4 o4 f020.cells := by have := hq4 0 (by decide); simpa using this
 have H4 := Lib.hid (And.intro hr4 (HB3.out.trans (hB4.mono HB3.out.size)))
 clear hj hR4 hB4 hC4 hq4 hr4 HB3 hc4
 go_wp2_with fail
 refine (four_walk 1 4 (by decide) (by decide) w4).mono ?_
 rintro e w5 ⟨rfl, hB5⟩
 rw [show fourS 1 4 (by decide) (by decide) = f14 from rfl]
 go_wp2_with fail
 refine (told_walk f14 3 _ parts_awake (by decide) 9 w5).mono ?_
 rintro e w6 ⟨v6, rfl, hR6, hB6⟩
 obtain ⟨ps, hps⟩ : ∃ ps, ps = (([fourS 1 1 (by decide) (by decide), fourS 2 3 (by decide) (by decide), fourS 4 4 (by decide) (by decide)].map toP).take 9) := ⟨_, rfl⟩
 have hpn : ps.map Pfx.n = [32, 31, 32] := by rw [hps]; exact told_awake
 rw [← hps] at hR6
 clear hps
 have hpl : ps.length = 3 := by have := congrArg List.length hpn; simpa using this
 obtain ⟨A6, c6, e6, hc6, hC6⟩ := Kd.R_reads hR6
 subst e6
 obtain ⟨b6, o6, hA6, hq6⟩ := CP_form hC6 (by omega)
 subst hA6
 have hr6 : w6.cell? ⟨b6, o6 + 35, none⟩ = some (.int .i64 31) := by
  have h1 : 1 < ps.length := by omega
  have h2 := rp_n (hq6 1 h1)
  have h3 : ps[1].n = 31 := by
   have := congrArg (fun l => l[1]?) hpn
   simpa [List.getElem?_eq_getElem h1] using this
  rw [h3] at h2
  exact h2
 have H6 : Hid (w6.rangeAt b4 o4 f020.cells ∧ w6.cell? ⟨b6, o6 + 35, none⟩ = some (.int .i64 31) ∧ Below w.heap.size w w6) :=
  Lib.hid ⟨ra_below (ra_below H4.out.1 hB5) hB6, hr6, H4.out.2.trans ((hB5.trans (hB6.mono hB5.size)).mono H4.out.2.size)⟩
 rw [hpl]
 clear hR6 hB6 hB5 hC6 hq6 hr6 hc6 hpn hpl H4
 have hfour : ∀ W, Calls Try.prog 22 #[.int .u8 0, .int .u8 20] W fun e w' => e = .returned (.agg f020.arr) ∧ Below W.heap.size W w' := fun W => four_walk 0 20 (by decide) (by decide) W
 have heq : ∀ W, (binOp .eql 30 (.agg f020.arr) (.agg f020.arr)).run Try.prog W = .ok (.bool true) W := fun W => by rw [eqlS]; simp
 go_wp2
 refine start_ (n := 23) (S := fun W => W.rangeAt b4 o4 f020.cells ∧ W.cell? ⟨b6, o6 + 35, none⟩ = some (.int .i64 31) ∧ Below w.heap.size w W) (ds := []) #[false, false, false, false, false, false, false, false, false, false, false, false, false, false, false, false, false, false, false, false, false, false, false] (by kernel_rfl) rfl rfl ⟨H6.out.1, H6.out.2.1, H6.out.2.2.drew⟩ (fun hHeld => ?_)
 refine pure_ (i := 0) (N := some 9) (v := ?_) (a' := ?_) #[true, false, false, false, false, false, false, false, false, false, false, false, false, false, false, false, false, false, false, false, false, false, false] rfl rfl (by kernel_rfl) (fun _ _ _ h => h) (Or.inl ⟨by rfl, ?_⟩) ?_ ?_
 rotate_left
 ·intro w'
  go_simp
  with_reducible rfl
 rotate_left
 ·simp only [Act.put, List.setIfInBounds_toArray, List.set_cons_zero, List.set_cons_succ, i64_w, i32_w]
  rfl
 refine pure_ (i := 1) (N := some 10) (v := ?_) (a' := ?_) #[true, true, false, false, false, false, false, false, false, false, false, false, false, false, false, false, false, false, false, false, false, false, false] rfl rfl (by kernel_rfl) (fun _ _ _ h => h) (Or.inl ⟨by rfl, ?_⟩) ?_ ?_
 rotate_left
 ·intro w'
  go_simp
  with_reducible rfl
 rotate_left
 ·simp only [Act.put, List.setIfInBounds_toArray, List.set_cons_zero, List.set_cons_succ, i64_w, i32_w]
  rfl
 refine pure_ (i := 2) (N := some 11) (v := ?_) (a' := ?_) #[true, true, true, false, false, false, false, false, false, false, false, false, false, false, false, false, false, false, false, false, false, false, false] rfl rfl (by kernel_rfl) (fun _ _ _ h => h) (Or.inl ⟨by rfl, ?_⟩) ?_ ?_
 rotate_left
 ·intro w'
  go_simp
  with_reducible rfl
 rotate_left
 ·simp only [Act.put, List.setIfInBounds_toArray, List.set_cons_zero, List.set_cons_succ, i64_w, i32_w]
  rfl
 refine pure_ (i := 3) (N := some 12) (v := ?_) (a' := ?_) #[true, true, true, true, false, false, false, false, false, false, false, false, false, false, false, false, false, false, false, false, false, false, false] rfl rfl (by kernel_rfl) (fun _ _ _ h => h) (Or.inl ⟨by rfl, ?_⟩) ?_ ?_
 rotate_left
 ·intro w'
  go_simp
  with_reducible rfl
 rotate_left
 ·simp only [Act.put, List.setIfInBounds_toArray, List.set_cons_zero, List.set_cons_succ, i64_w, i32_w]
  rfl
 refine pure_ (i := 4) (N := some 13) (v := ?_) (a' := ?_) #[true, true, true, true, true, false, false, false, false, false, false, false, false, false, false, false, false, false, false, false, false, false, false] rfl rfl (by kernel_rfl) (fun _ _ _ h => h) (Or.inl ⟨by rfl, ?_⟩) ?_ ?_
 rotate_left
 ·intro w'
  go_simp
  with_reducible rfl
 rotate_left
 ·simp only [Act.put, List.setIfInBounds_toArray, List.set_cons_zero, List.set_cons_succ, i64_w, i32_w]
  rfl
 refine pure_ (i := 5) (N := some 14) (v := ?_) (a' := ?_) #[true, true, true, true, true, true, false, false, false, false, false, false, false, false, false, false, false, false, false, false, false, false, false] rfl rfl (by kernel_rfl) (fun _ _ _ h => h) (Or.inl ⟨by rfl, ?_⟩) ?_ ?_
 rotate_left
 ·intro w'
  go_simp
  with_reducible rfl
 rotate_left
 ·simp only [Act.put, List.setIfInBounds_toArray, List.set_cons_zero, List.set_cons_succ, i64_w, i32_w]
  rfl
 refine take_ (i := 6) (N := some 15) (v := .agg f020.arr) (a' := ?_) #[true, true, true, true, true, true, true, false, false, false, false, false, false, false, false, false, false, false, false, false, false, false, false] rfl rfl (by kernel_rfl) (fun _ _ _ h => h) ?_ hHeld ?_ ?_
 ·exact yS (by rfl) rfl f020 b4 o4 rfl (fun W h => h.1)
 rotate_left
 ·simp only [Act.put, List.setIfInBounds_toArray, List.set_cons_zero, List.set_cons_succ, i64_w, i32_w]
  rfl
 refine one_ (i := 7) (N := some 16) #[true, true, true, true, true, true, true, true, false, false, false, false, false, false, false, false, false, false, false, false, false, false, false] rfl rfl (by kernel_rfl) (by decide) (fun K hK => ?_)
 refine goes_ Try.func22 (by kernel_rfl) rfl #[.int .u8 0, .int .u8 20] (by rfl) rfl rfl (by (try simp only [List.map_toArray, List.map_cons, List.map_nil]); first | done | rfl) ?_
 refine (hfour _).mono ?_
 rintro e w7 ⟨rfl, hB⟩
 refine ⟨_, rfl, ?_⟩
 refine hK.out _ _ ⟨ra_below hHeld.1 hB, (hB.cell (World.block_lt_of_cell? _ _ hHeld.2.1)).trans hHeld.2.1, hHeld.2.2.trans (hB.mono hHeld.2.2.size)⟩ (fun hHeld => ?_)
 clear hK K
 refine norm_ (a' := ?_) ?_ ?_
 rotate_left
 ·show Act.put _ (some 16) _ = _
  simp only [Act.put, List.setIfInBounds_toArray, List.set_cons_zero, List.set_cons_succ, i64_w, i32_w]
  rfl
 refine pure_ (i := 8) (N := some 17) (v := ?_) (a' := ?_) #[true, true, true, true, true, true, true, true, true, false, false, false, false, false, false, false, false, false, false, false, false, false, false] rfl rfl (by kernel_rfl) (fun _ _ _ h => h) (Or.inl ⟨by rfl, ?_⟩) ?_ ?_
 rotate_left
 ·intro w'
  go_simp
  with_reducible rfl
 rotate_left
 ·simp only [Act.put, List.setIfInBounds_toArray, List.set_cons_zero, List.set_cons_succ, i64_w, i32_w]
  rfl
 refine pure_ (i := 9) (N := some 18) (v := ?_) (a' := ?_) #[true, true, true, true, true, true, true, true, true, true, false, false, false, false, false, false, false, false, false, false, false, false, false] rfl rfl (by kernel_rfl) (fun _ _ _ h => h) (Or.inl ⟨by rfl, ?_⟩) ?_ ?_
 rotate_left
 ·intro w'
  go_simp
  with_reducible rfl
 rotate_left
 ·simp only [Act.put, List.setIfInBounds_toArray, List.set_cons_zero, List.set_cons_succ, i64_w, i32_w]
  rfl
 refine pure_ (i := 10) (N := some 19) (v := ?_) (a' := ?_) #[true, true, true, true, true, true, true, true, true, true, true, false, false, false, false, false, false, false, false, false, false, false, false] rfl rfl (by kernel_rfl) (fun _ _ _ h => h) (Or.inl ⟨by rfl, ?_⟩) ?_ ?_
 rotate_left
 ·intro w'
  go_simp
  with_reducible rfl
 rotate_left
 ·simp only [Act.put, List.setIfInBounds_toArray, List.set_cons_zero, List.set_cons_succ, i64_w, i32_w]
  rfl
 refine pure_ (i := 11) (N := some 20) (v := ?_) (a' := ?_) #[true, true, true, true, true, true, true, true, true, true, true, true, false, false, false, false, false, false, false, false, false, false, false] rfl rfl (by kernel_rfl) (fun _ _ _ h => h) (Or.inl ⟨by rfl, ?_⟩) ?_ ?_
 rotate_left
 ·intro w'
  go_simp
  with_reducible rfl
 rotate_left
 ·simp only [Act.put, List.setIfInBounds_toArray, List.set_cons_zero, List.set_cons_succ, i64_w, i32_w]
  rfl
 refine pure_ (i := 12) (N := some 21) (v := ?_) (a' := ?_) #[true, true, true, true, true, true, true, true, true, true, true, true, true, false, false, false, false, false, false, false, false, false, false] rfl rfl (by kernel_rfl) (fun _ _ _ h => h) (Or.inl ⟨by rfl, ?_⟩) ?_ ?_
 rotate_left
 ·intro w'
  go_simp
  with_reducible rfl
 rotate_left
 ·simp only [Act.put, List.setIfInBounds_toArray, List.set_cons_zero, List.set_cons_succ, i64_w, i32_w]
  rfl
 refine pure_ (i := 13) (N := some 22) (v := ?_) (a' := ?_) #[true, true, true, true, true, true, true, true, true, true, true, true, true, true, false, false, false, false, false, false, false, false, false] rfl rfl (by kernel_rfl) (fun _ _ _ h => h) (Or.inl ⟨by rfl, ?_⟩) ?_ ?_
 rotate_left
 ·intro w'
  go_simp
  with_reducible rfl
 rotate_left
 ·simp only [Act.put, List.setIfInBounds_toArray, List.set_cons_zero, List.set_cons_succ, i64_w, i32_w]
  rfl
 refine pure_ (i := 14) (N := some 23) (v := ?_) (a' := ?_) #[true, true, true, true, true, true, true, true, true, true, true, true, true, true, true, false, false, false, false, false, false, false, false] rfl rfl (by kernel_rfl) (fun _ _ _ h => h) (Or.inl ⟨by rfl, ?_⟩) ?_ ?_
 rotate_left
 ·intro w'
  go_simp
  with_reducible rfl
 rotate_left
 ·simp only [Act.put, List.setIfInBounds_toArray, List.set_cons_zero, List.set_cons_succ, i64_w, i32_w]
  rfl
 refine pure_ (i := 15) (N := some 24) (v := ?_) (a' := ?_) #[true, true, true, true, true, true, true, true, true, true, true, true, true, true, true, true, false, false, false, false, false, false, false] rfl rfl (by kernel_rfl) (fun _ _ _ h => h) (Or.inl ⟨by rfl, ?_⟩) ?_ ?_
 rotate_left
 ·intro w'
  go_simp
  with_reducible rfl
 rotate_left
 ·simp only [Act.put, List.setIfInBounds_toArray, List.set_cons_zero, List.set_cons_succ, i64_w, i32_w]
  rfl
 refine pure_ (i := 16) (N := some 25) (v := ?_) (a' := ?_) #[true, true, true, true, true, true, true, true, true, true, true, true, true, true, true, true, true, false, false, false, false, false, false] rfl rfl (by kernel_rfl) (fun _ _ _ h => h) (Or.inl ⟨by rfl, ?_⟩) ?_ ?_
 rotate_left
 ·intro w'
  go_simp
  with_reducible rfl
 rotate_left
 ·simp only [Act.put, List.setIfInBounds_toArray, List.set_cons_zero, List.set_cons_succ, i64_w, i32_w]
  rfl
 refine pure_ (i := 17) (N := some 26) (v := ?_) (a' := ?_) #[true, true, true, true, true, true, true, true, true, true, true, true, true, true, true, true, true, true, false, false, false, false, false] rfl rfl (by kernel_rfl) (fun _ _ _ h => h) (Or.inl ⟨by rfl, ?_⟩) ?_ ?_
 rotate_left
 ·intro w'
  go_simp
  with_reducible rfl
 rotate_left
 ·simp only [Act.put, List.setIfInBounds_toArray, List.set_cons_zero, List.set_cons_succ, i64_w, i32_w]
  rfl
 refine pure_ (i := 18) (N := some 27) (v := ?_) (a' := ?_) #[true, true, true, true, true, true, true, true, true, true, true, true, true, true, true, true, true, true, true, false, false, false, false] rfl rfl (by kernel_rfl) (fun _ _ _ h => h) (Or.inl ⟨by rfl, ?_⟩) ?_ ?_
 rotate_left
 ·intro w'
  go_simp
  with_reducible rfl
 rotate_left
 ·simp only [Act.put, List.setIfInBounds_toArray, List.set_cons_zero, List.set_cons_succ, i64_w, i32_w]
  rfl
 refine take_ (i := 19) (N := some 28) (v := ?_) (a' := ?_) #[true, true, true, true, true, true, true, true, true, true, true, true, true, true, true, true, true, true, true, true, false, false, false] rfl rfl (by kernel_rfl) (fun _ _ _ h => h) (Or.inl ⟨by rfl, ?_⟩) hHeld ?_ ?_
 rotate_left
 ·rintro w' ⟨s0, s1, s2⟩
  go_simp
  with_reducible rfl
 rotate_left
 ·simp only [Act.put, List.setIfInBounds_toArray, List.set_cons_zero, List.set_cons_succ, i64_w, i32_w]
  rfl
 refine pure_ (i := 20) (N := some 29) (v := ?_) (a' := ?_) #[true, true, true, true, true, true, true, true, true, true, true, true, true, true, true, true, true, true, true, true, true, false, false] rfl rfl (by kernel_rfl) (fun _ _ _ h => h) (Or.inl ⟨by rfl, ?_⟩) ?_ ?_
 rotate_left
 ·intro w'
  go_simp
  with_reducible rfl
 rotate_left
 ·simp only [Act.put, List.setIfInBounds_toArray, List.set_cons_zero, List.set_cons_succ, i64_w, i32_w]
  rfl
 refine pure_ (i := 21) (N := some 30) (v := ?_) (a' := ?_) #[true, true, true, true, true, true, true, true, true, true, true, true, true, true, true, true, true, true, true, true, true, true, false] rfl rfl (by kernel_rfl) (fun _ _ _ h => h) (Or.inl ⟨by rfl, ?_⟩) ?_ ?_
 rotate_left
 ·intro w'
  go_simp
  with_reducible rfl
 rotate_left
 ·simp only [Act.put, List.setIfInBounds_toArray, List.set_cons_zero, List.set_cons_succ, i64_w, i32_w]
  rfl
 refine pure_ (i := 22) (N := some 0) (v := ?_) (a' := ?_) #[true, true, true, true, true, true, true, true, true, true, true, true, true, true, true, true, true, true, true, true, true, true, true] rfl rfl (by kernel_rfl) (fun _ _ _ h => h) (Or.inl ⟨by rfl, ?_⟩) ?_ ?_
 rotate_left
 ·intro w'
  go_simp
  with_reducible rfl
 rotate_left
 ·simp only [Act.put, List.setIfInBounds_toArray, List.set_cons_zero, List.set_cons_succ, i64_w, i32_w]
  rfl
 refine done_ (by kernel_rfl) ?_
 have HE := Lib.hid hHeld.2.2
 clear hHeld
 go_wp2
 go_ret
 exact ⟨rfl, HE.out⟩

end Go.Proofs.Ytdioagebkfdkhaa.Ad
end

section
set_option linter.unusedVariables false
set_option linter.unusedSimpArgs false
namespace Go.Proofs.Ytdioagebkfdkhaa.Ad
open Go Go.RowKit Go.Proofs.YtdioagebkfdkhaaW.PrintWords Go.Proofs.YtdioagebkfdkhaaW.PrintLast Go.Proofs.YtdioagebkfdkhaaW.PrintMore Go.Proofs.Ytdioagebkfdkhaa.PT

theorem pairs_len (a b : List Spn) : (pairs a b).length ≤ a.length * b.length := by
 unfold pairs
 induction a with
 | nil => simp
 | cons s a ih =>
  rw [List.flatMap_cons, List.length_append, List.length_cons, Nat.succ_mul]
  have h : (b.flatMap fun t => if (rightS s && rightS t && decide (s.v6 = t.v6)) = true then [cut2 s t] else []).length ≤ b.length := by
   clear ih
   induction b with
   | nil => simp
   | cons t b ih =>
    rw [List.flatMap_cons, List.length_append, List.length_cons]
    split
    ·rw [List.length_singleton]; omega
    ·rw [List.length_nil]; omega
  omega
theorem both_len (a b : List Spn) : (bothS a b).length ≤ a.length * b.length := Nat.le_trans (joinS_len _) (pairs_len a b)
/-- span.Within, for lists of at most so many. -/
theorem within_walk (A : Option Addr) (c : Nat) (a : List Spn) (B : Option Addr) (d : Nat) (b : List Spn) (w : World) (hA : kS.C w A a.length a) (hac : a.length ≤ c) (hB : kS.C w B b.length b) (hbd : b.length ≤ d) (hal : a.length ≤ 2000) (hbl : b.length ≤ 2000) :
 Calls Try.prog 13 #[.slice A a.length c, .slice B b.length d] w fun e w' => e = .returned (.bool (withinS a b)) ∧ Below w.heap.size w w' :=
 within_of both_walk A c a B d b w hA hac hB hbd (by omega) (by omega) (Nat.le_trans (both_len a b) (Nat.le_trans (Nat.mul_le_mul hal hbl) (by decide)))
theorem C_none (W : World) : kS.C W none 0 [] := ⟨rfl, by decide, fun h => absurd rfl (Nat.ne_of_gt h)⟩

set_option maxHeartbeats 4000000 in
set_option maxRecDepth 100000 in
theorem goes_small (A0 : Option Addr) (c0 : Nat) (l0 : List Spn) (A1 : Option Addr) (c1 : Nat) (l1 : List Spn) (A2 : Option Addr) (c2 : Nat) (l2 : List Spn) (w : World) (hC0 : kS.C w A0 l0.length l0) (hc0 : l0.length ≤ c0) (hC1 : kS.C w A1 l1.length l1) (hc1 : l1.length ≤ c1) (hC2 : kS.C w A2 l2.length l2) (hc2 : l2.length ≤ c2)
 (h0 : ¬ 20 < l0.length) (h1 : ¬ 20 < l1.length) (h2 : ¬ 20 < l2.length) :
 Calls Try.prog 5 #[.slice A0 l0.length c0, .slice A1 l1.length c1, .slice A2 l2.length c2] w fun e w' => e = .returned (.bool true) ∧ Below w.heap.size w w' := by
 have HC := Lib.hid (And.intro hC0 (And.intro hC1 hC2))
 clear hC0 hC1 hC2
 have d0 : decide ((20 : Int) < (l0.length : Int)) = false := decide_eq_false (by omega)
 have d1 : decide ((20 : Int) < (l1.length : Int)) = false := decide_eq_false (by omega)
 have d2 : decide ((20 : Int) < (l2.length : Int)) = false := decide_eq_false (by omega)
 have e0 := eq_false (show ¬ (20 : Int) < (l0.length : Int) by omega)
 have e1 := eq_false (show ¬ (20 : Int) < (l1.length : Int) by omega)
 have e2 := eq_false (show ¬ (20 : Int) < (l2.length : Int) by omega)
 have hb0 : (bothS l0 l1).length ≤ 2000 := Nat.le_trans (both_len l0 l1) (Nat.le_trans (Nat.mul_le_mul (show l0.length ≤ 20 by omega) (show l1.length ≤ 20 by omega)) (by decide))
 have hb1 : (bothS l1 l0).length ≤ 2000 := Nat.le_trans (both_len l1 l0) (Nat.le_trans (Nat.mul_le_mul (show l1.length ≤ 20 by omega) (show l0.length ≤ 20 by omega)) (by decide))
 have hj0 := joinS_len l0
 go_enter Try.func5, Try.ntmps5
 go_wp2_with fail
 refine (awake_walk w).mono ?_
 rintro e w1 ⟨rfl, hB1⟩
 have HB1 := Lib.hid hB1
 clear hB1
 go_wp2_with fail
 refine (both_walk A0 c0 l0 A1 c1 l1 w1 (Kd.C_below HC.out.1 HB1.out) hc0 (Kd.C_below HC.out.2.1 HB1.out) hc1 (by omega) (by omega)).mono ?_
 rintro e w2 ⟨v2, rfl, hR2, hB2⟩
 obtain ⟨A3, c3, e3, hc3, hC3⟩ := Kd.R_reads hR2
 subst e3
 have HB2 := Lib.hid (HB1.out.trans (hB2.mono HB1.out.size))
 have HC2 := Lib.hid hC3
 clear hR2 hB2 hC3 HB1
 obtain ⟨x, hx⟩ : ∃ x, x = withinS l0 l1 := ⟨_, rfl⟩
 obtain ⟨y, hy⟩ : ∃ y, y = withinS l1 l2 := ⟨_, rfl⟩
 have HXY := Lib.hid (And.intro hx hy)
 clear hx hy
 go_wp2_with fail
 refine (within_walk A0 c0 l0 A1 c1 l1 w2 (Kd.C_below HC.out.1 HB2.out) hc0 (Kd.C_below HC.out.2.1 HB2.out) hc1 (by omega) (by omega)).mono ?_
 rintro e w3 ⟨rfl, hB3⟩
 have HB3 := Lib.hid (HB2.out.trans (hB3.mono HB2.out.size))
 have HC3 := Lib.hid (Kd.C_below HC2.out hB3)
 clear hB3 HB2 HC2
 rw [show withinS l0 l1 = x from HXY.out.1.symm]
 go_wp2_with fail
 refine (within_walk A1 c1 l1 A2 c2 l2 w3 (Kd.C_below HC.out.2.1 HB3.out) hc1 (Kd.C_below HC.out.2.2 HB3.out) hc2 (by omega) (by omega)).mono ?_
 rintro e w4 ⟨rfl, hB4⟩
 have HB4 := Lib.hid (HB3.out.trans (hB4.mono HB3.out.size))
 have HC4 := Lib.hid (Kd.C_below HC3.out hB4)
 clear hB4 HB3 HC3
 rw [show withinS l1 l2 = y from HXY.out.2.symm]
 go_wp2_with fail
 refine (joinS_walk A0 c0 l0 w4 (Kd.C_below HC.out.1 HB4.out) (by omega)).mono ?_
 rintro e w5 ⟨v5, rfl, hR5, hB5⟩
 obtain ⟨A5, c5, e5, hc5, hC5⟩ := Kd.R_reads hR5
 subst e5
 have HB5 := Lib.hid (HB4.out.trans (hB5.mono HB4.out.size))
 have HC5 := Lib.hid (And.intro (Kd.C_below HC4.out hB5) hC5)
 clear hR5 hB5 hC5 HB4 HC4
 go_wp2_with fail
 refine (sameS_walk A3 c3 (bothS l0 l1) A5 c5 (joinS l0) w5 HC5.out.1 HC5.out.2 (by omega) (by omega)).mono ?_
 rintro e w6 ⟨rfl, hG⟩
 rw [show sameL (bothS l0 l1) (joinS l0) = x from HXY.out.1.symm]
 have HB6 := Lib.hid (HB5.out.trans (hG.below.mono HB5.out.size))
 have HC6 := Lib.hid (Kd.C_below HC5.out.1 hG.below)
 clear hG HB5 HC5 hc5
 go_wp2_with fail
 refine (both_walk A1 c1 l1 A0 c0 l0 w6 (Kd.C_below HC.out.2.1 HB6.out) hc1 (Kd.C_below HC.out.1 HB6.out) hc0 (by omega) (by omega)).mono ?_
 rintro e w7 ⟨v7, rfl, hR7, hB7⟩
 obtain ⟨A7, c7, e7, hc7, hC7⟩ := Kd.R_reads hR7
 subst e7
 have HB7 := Lib.hid (HB6.out.trans (hB7.mono HB6.out.size))
 have HC7 := Lib.hid (And.intro (Kd.C_below HC6.out hB7) hC7)
 clear hR7 hB7 hC7 HB6 HC6
 go_wp2_with fail
 refine (sameS_walk A3 c3 (bothS l0 l1) A7 c7 (bothS l1 l0) w7 HC7.out.1 HC7.out.2 (by omega) (by omega)).mono ?_
 rintro e w8 ⟨rfl, hG⟩
 rw [show sameL (bothS l0 l1) (bothS l1 l0) = true from decide_eq_true (both_comm l0 l1)]
 have HB8 := Lib.hid (HB7.out.trans (hG.below.mono HB7.out.size))
 have HC8 := Lib.hid (Kd.C_below HC7.out.1 hG.below)
 clear hG HB7 HC7 hc7
 have hlast : ∀ W, Below w.heap.size w W → Calls Try.prog 13 #[.slice none 0 0, .slice A0 l0.length c0] W fun e w' => e = .returned (.bool true) ∧ Below W.heap.size W w' := fun W hB => by
  have := within_walk none 0 [] A0 c0 l0 W (C_none W) (Nat.le_refl _) (Kd.C_below HC.out.1 hB) hc0 (by simp) (by omega)
  rwa [within_nil] at this
 cases x
 ·cases y
  ·go_wp2_with fail
   refine (within_walk A3 c3 (bothS l0 l1) A0 c0 l0 w8 HC8.out hc3 (Kd.C_below HC.out.1 HB8.out) hc0 (by omega) (by omega)).mono ?_
   rintro e w9 ⟨rfl, hB9⟩
   rw [both_left]
   have HB9 := Lib.hid (HB8.out.trans (hB9.mono HB8.out.size))
   have HC9 := Lib.hid (Kd.C_below HC8.out hB9)
   clear hB9 HB8 HC8
   go_wp2_with fail
   refine (within_walk A3 c3 (bothS l0 l1) A1 c1 l1 w9 HC9.out hc3 (Kd.C_below HC.out.2.1 HB9.out) hc1 (by omega) (by omega)).mono ?_
   rintro e w10 ⟨rfl, hB10⟩
   rw [both_right]
   have HB10 := Lib.hid (HB9.out.trans (hB10.mono HB9.out.size))
   clear hB10 HB9 HC9
   go_wp2_with fail
   refine (hlast _ HB10.out).mono ?_
   rintro e w12 ⟨rfl, hB12⟩
   have HB12 := Lib.hid (HB10.out.trans (hB12.mono HB10.out.size))
   clear hB12 hlast
   go_wp2
   go_ret
   exact ⟨rfl, HB12.out⟩
  ·go_wp2_with fail
   refine (within_walk A3 c3 (bothS l0 l1) A0 c0 l0 w8 HC8.out hc3 (Kd.C_below HC.out.1 HB8.out) hc0 (by omega) (by omega)).mono ?_
   rintro e w9 ⟨rfl, hB9⟩
   rw [both_left]
   have HB9 := Lib.hid (HB8.out.trans (hB9.mono HB8.out.size))
   have HC9 := Lib.hid (Kd.C_below HC8.out hB9)
   clear hB9 HB8 HC8
   go_wp2_with fail
   refine (within_walk A3 c3 (bothS l0 l1) A1 c1 l1 w9 HC9.out hc3 (Kd.C_below HC.out.2.1 HB9.out) hc1 (by omega) (by omega)).mono ?_
   rintro e w10 ⟨rfl, hB10⟩
   rw [both_right]
   have HB10 := Lib.hid (HB9.out.trans (hB10.mono HB9.out.size))
   clear hB10 HB9 HC9
   go_wp2_with fail
   refine (hlast _ HB10.out).mono ?_
   rintro e w12 ⟨rfl, hB12⟩
   have HB12 := Lib.hid (HB10.out.trans (hB12.mono HB10.out.size))
   clear hB12 hlast
   go_wp2
   go_ret
   exact ⟨rfl, HB12.out⟩
 ·cases y
  ·go_wp2_with fail
   refine (within_walk A3 c3 (bothS l0 l1) A0 c0 l0 w8 HC8.out hc3 (Kd.C_below HC.out.1 HB8.out) hc0 (by omega) (by omega)).mono ?_
   rintro e w9 ⟨rfl, hB9⟩
   rw [both_left]
   have HB9 := Lib.hid (HB8.out.trans (hB9.mono HB8.out.size))
   have HC9 := Lib.hid (Kd.C_below HC8.out hB9)
   clear hB9 HB8 HC8
   go_wp2_with fail
   refine (within_walk A3 c3 (bothS l0 l1) A1 c1 l1 w9 HC9.out hc3 (Kd.C_below HC.out.2.1 HB9.out) hc1 (by omega) (by omega)).mono ?_
   rintro e w10 ⟨rfl, hB10⟩
   rw [both_right]
   have HB10 := Lib.hid (HB9.out.trans (hB10.mono HB9.out.size))
   clear hB10 HB9 HC9
   go_wp2_with fail
   refine (hlast _ HB10.out).mono ?_
   rintro e w12 ⟨rfl, hB12⟩
   have HB12 := Lib.hid (HB10.out.trans (hB12.mono HB10.out.size))
   clear hB12 hlast
   go_wp2
   go_ret
   exact ⟨rfl, HB12.out⟩
  ·go_wp2_with fail
   refine (within_walk A3 c3 (bothS l0 l1) A0 c0 l0 w8 HC8.out hc3 (Kd.C_below HC.out.1 HB8.out) hc0 (by omega) (by omega)).mono ?_
   rintro e w9 ⟨rfl, hB9⟩
   rw [both_left]
   have HB9 := Lib.hid (HB8.out.trans (hB9.mono HB8.out.size))
   have HC9 := Lib.hid (Kd.C_below HC8.out hB9)
   clear hB9 HB8 HC8
   go_wp2_with fail
   refine (within_walk A3 c3 (bothS l0 l1) A1 c1 l1 w9 HC9.out hc3 (Kd.C_below HC.out.2.1 HB9.out) hc1 (by omega) (by omega)).mono ?_
   rintro e w10 ⟨rfl, hB10⟩
   rw [both_right]
   have HB10 := Lib.hid (HB9.out.trans (hB10.mono HB9.out.size))
   clear hB10 HB9 HC9
   go_wp2_with fail
   refine (within_walk A0 c0 l0 A2 c2 l2 w10 (Kd.C_below HC.out.1 HB10.out) hc0 (Kd.C_below HC.out.2.2 HB10.out) hc2 (by omega) (by omega)).mono ?_
   rintro e w11 ⟨rfl, hB11⟩
   rw [within_trans HXY.out.1.symm HXY.out.2.symm]
   have HB11 := Lib.hid (HB10.out.trans (hB11.mono HB10.out.size))
   clear hB11
   go_wp2_with fail
   refine (hlast _ HB11.out).mono ?_
   rintro e w12 ⟨rfl, hB12⟩
   have HB12 := Lib.hid (HB11.out.trans (hB12.mono HB11.out.size))
   clear hB12 hlast
   go_wp2
   go_ret
   exact ⟨rfl, HB12.out⟩
set_option maxHeartbeats 1000000 in
set_option maxRecDepth 100000 in
theorem goes_any (A0 : Option Addr) (c0 : Nat) (l0 : List Spn) (A1 : Option Addr) (c1 : Nat) (l1 : List Spn) (A2 : Option Addr) (c2 : Nat) (l2 : List Spn) (w : World) (hC0 : kS.C w A0 l0.length l0) (hc0 : l0.length ≤ c0) (hC1 : kS.C w A1 l1.length l1) (hc1 : l1.length ≤ c1) (hC2 : kS.C w A2 l2.length l2) (hc2 : l2.length ≤ c2) :
 Calls Try.prog 5 #[.slice A0 l0.length c0, .slice A1 l1.length c1, .slice A2 l2.length c2] w fun e w' => e = .returned (.bool true) ∧ Below w.heap.size w w' := by
 by_cases h : 20 < l0.length ∨ 20 < l1.length ∨ 20 < l2.length
 ·go_enter Try.func5, Try.ntmps5
  go_wp2_with fail
  refine (awake_walk w).mono ?_
  rintro e w1 ⟨rfl, hB1⟩
  have HB1 := Lib.hid hB1
  clear hB1 hC0 hC1 hC2
  by_cases h0 : 20 < l0.length
  ·have d0 : decide ((20 : Int) < (l0.length : Int)) = true := decide_eq_true (by omega)
   have e0 := eq_true (show (20 : Int) < (l0.length : Int) by omega)
   clear h
   go_wp2
   go_ret
   exact ⟨rfl, HB1.out⟩
  ·have d0 : decide ((20 : Int) < (l0.length : Int)) = false := decide_eq_false (by omega)
   have e0 := eq_false (show ¬ (20 : Int) < (l0.length : Int) by omega)
   by_cases h1 : 20 < l1.length
   ·have d1 : decide ((20 : Int) < (l1.length : Int)) = true := decide_eq_true (by omega)
    have e1 := eq_true (show (20 : Int) < (l1.length : Int) by omega)
    clear h
    go_wp2
    go_ret
    exact ⟨rfl, HB1.out⟩
   ·have d1 : decide ((20 : Int) < (l1.length : Int)) = false := decide_eq_false (by omega)
    have e1 := eq_false (show ¬ (20 : Int) < (l1.length : Int) by omega)
    have d2 : decide ((20 : Int) < (l2.length : Int)) = true := decide_eq_true (by omega)
    have e2 := eq_true (show (20 : Int) < (l2.length : Int) by omega)
    clear h
    go_wp2
    go_ret
    exact ⟨rfl, HB1.out⟩
 ·exact goes_small A0 c0 l0 A1 c1 l1 A2 c2 l2 w hC0 hc0 hC1 hc1 hC2 hc2 (by omega) (by omega) (by omega)

end Go.Proofs.Ytdioagebkfdkhaa.Ad
end

section
set_option linter.unusedVariables false
set_option linter.unusedSimpArgs false
namespace Go.Proofs.Ytdioagebkfdkhaa.Ad
open Go.ChangeShapes Go.WideShapes Go.Deep Go.RowKit Go.Proofs.YtdioagebkfdkhaaW.PrintWords Go.Proofs.YtdioagebkfdkhaaW.PrintLast Go.Proofs.YtdioagebkfdkhaaW.PrintMore Go.Proofs.Ytdioagebkfdkhaa.PT

theorem listedV {α : Type} {Q : Nat → α → Prop} : ∀ (n : Nat), (∀ i, i < n → ∃ x, Q i x) → ∃ l : List α, l.length = n ∧ ∀ i x, l[i]? = some x → Q i x
 | 0, _ => ⟨[], rfl, fun i x h => by simp at h⟩
 | n + 1, h => by
  obtain ⟨l, hl, hq⟩ := listedV n (fun i hi => h i (by omega))
  obtain ⟨x, hx⟩ := h n (by omega)
  refine ⟨l ++ [x], by simp [hl], fun i y hy => ?_⟩
  by_cases hi : i < n
  ·rw [List.getElem?_append_left (by omega)] at hy
   exact hq i y hy
  ·rw [List.getElem?_append_right (by omega)] at hy
   have : i - l.length = 0 := by
    by_cases h0 : i - l.length = 0
    ·exact h0
    ·rw [List.getElem?_eq_none (by simp; omega)] at hy
     cases hy
   rw [this] at hy
   simp at hy
   subst hy
   rw [show i = n by omega]
   exact hx
section
variable {H : Type} {enc : TypeId × Value → H} {w : World} {base : Nat} {held : Bool}
set_option maxRecDepth 100000 in
theorem openA_f {fuel : Nat} {cs : List Value} {x : DataW H × List MemPlace} (h : DataW.trod enc Try.prog w base (fun _ => true) held fuel 28 cs = some x) :
 ∃ a : A16, cs = a.cells := by
 obtain ⟨xs, n, hn, _, hl, hlen, hf⟩ := DataW.trod_array Try.underlying28 h
 have hl : cs.length = 16 := hl
 have c1 : Try.prog.cellsOf 5 = 1 := by kernel_rfl
 rw [c1] at hf
 obtain ⟨l, hll, hq⟩ := listedV (Q := fun i (m : Int) => (cs.drop (i * 1)).take 1 = [.int .u8 m] ∧ (Lit.int .u8 m).wf = true) 16 (fun i hi => by
  have hi' := hf i hi
  rw [List.getElem?_eq_getElem (by omega)] at hi'
  obtain ⟨m, e, _, b⟩ := DataW.trod_int Try.underlying5 hi'
  exact ⟨m, e, b⟩)
 refine ⟨⟨l, hll, fun x hx => ?_⟩, ?_⟩
 ·obtain ⟨j, hj⟩ := List.mem_iff_getElem?.1 hx
  have := (hq j x hj).2
  simp [Lit.wf, IntKind.min, IntKind.max, IntKind.signed, IntKind.bits] at this
  omega
 ·apply List.ext_getElem
  ·rw [hl, A16.cells_len]
  ·intro i h1 h2
   have := (hq i l[i] (List.getElem?_eq_getElem (by omega))).1
   rw [Nat.mul_one, List.drop_eq_getElem_cons h1, List.take_succ_cons, List.take_zero] at this
   injection this with this
   rw [this]
   simp [A16.cells]
set_option maxRecDepth 100000 in
theorem openSp_f {fuel : Nat} {cs : List Value} {x : DataW H × List MemPlace} (h : DataW.trod enc Try.prog w base (fun _ => true) held fuel 30 cs = some x) :
 ∃ s : Spn, cs = s.cells := by
 obtain ⟨xs, n, hn, _, hl, hlen, hf⟩ := DataW.trod_struct Try.underlying30 h
 have hl : cs.length = 33 := hl
 match xs, hlen with
 | [y0, y1, y2], _ =>
 have h0 := hf 0 _ rfl
 have h1 := hf 1 _ rfl
 have h2 := hf 2 _ rfl
 replace h0 : DataW.trod enc Try.prog w base (fun _ => true) held n 4 (cs.take 1) = some y0 := h0
 replace h1 : DataW.trod enc Try.prog w base (fun _ => true) held n 28 ((cs.drop 1).take 16) = some y1 := h1
 replace h2 : DataW.trod enc Try.prog w base (fun _ => true) held n 28 ((cs.drop 17).take 16) = some y2 := h2
 obtain ⟨b, e0, _⟩ := DataW.trod_bool Try.underlying4 h0
 obtain ⟨a, e1⟩ := openA_f h1
 obtain ⟨m, e2⟩ := openA_f h2
 refine ⟨⟨b, a, m⟩, ?_⟩
 have k1 : cs = cs.take 1 ++ ((cs.drop 1).take 16 ++ (cs.drop 17).take 16) := by
  rw [List.take_of_length_le (l := cs.drop 17) (by simp; omega), show cs.drop 17 = (cs.drop 1).drop 16 by rw [List.drop_drop], List.take_append_drop, List.take_append_drop]
 rw [k1, e0, e1, e2]
 rfl
set_option maxRecDepth 100000 in
/-- A row that came in. -/
theorem openS {r : Reach} {b0 : Nat} {v : Value} {d : DataW H} {p : List MemPlace} {ts : List TypeId} {ds : List (DataW H)} {j : Nat}
 (hsz : (DataW.weightsEach Try.prog ts ds).all (· ≤ reachBytes) = true) (ht : ts[j]? = some 22) (hd : ds[j]? = some d)
 (hv : Value.okWide Try.prog w r b0 22 v) (h : DataW.Trod enc Try.prog w base (fun _ => true) held 22 v d p) :
 ∃ (A : Option Addr) (c : Nat) (l : List Spn), v = .slice A l.length c ∧ kS.C w A l.length l ∧ l.length ≤ c ∧ l.length * 33 ≤ 140737488351232 := by
 obtain ⟨a, len, cap, rfl⟩ := okWide_slice Try.underlying22 hv
 obtain ⟨fuel, hf⟩ := h
 rcases DataW.trod_slice Try.underlying22 hf with ⟨hcs, _⟩ | ⟨a', len', cap', elems, rest, n2, hn2, hcs, hx, _, hle, hm, hel, hget, _, _⟩
 ·simp [Value.cells] at hcs
  obtain ⟨rfl, rfl, rfl⟩ := hcs
  exact ⟨none, 0, [], rfl, ⟨rfl, by simp, fun h => absurd rfl (Nat.ne_of_gt h)⟩, Nat.le_refl _, by simp⟩
 ·simp [Value.cells] at hcs
  obtain ⟨rfl, rfl, rfl⟩ := hcs
  obtain ⟨hx, _⟩ := Prod.mk.inj hx
  subst hx
  have z := sized_slice hsz ht hd Try.underlying22
  have hB : Try.prog.bytesOf 30 = 33 := by kernel_rfl
  rw [hB] at z
  obtain ⟨l, hl, hq⟩ := listedV (Q := fun i (s : Spn) => w.cells? base (a'.add (i * Try.prog.cellsOf 30)) (Try.prog.cellsOf 30) = some s.cells) len (fun i hil => by
   have hi := hget i hil
   rw [List.getElem?_eq_getElem (by omega)] at hi
   obtain ⟨cs', g1, g2⟩ := Option.bind_eq_some_iff.1 hi
   obtain ⟨s, e⟩ := openSp_f g2
   exact ⟨s, e ▸ g1⟩)
  subst hl
  have hC : Try.prog.cellsOf 30 = 33 := by kernel_rfl
  rw [hC] at hq
  refine ⟨some a', cap, l, rfl, ⟨rfl, (by have h9 : maxLen ≤ 9223372036854775807 := (by decide); show l.length ≤ 9223372036854775807; omega), fun _ => ⟨a', rfl, fun j s hj => ?_⟩⟩, hle, ?_⟩
  ·obtain ⟨_, _, hat⟩ := World.cells?_some (hq j s hj)
   refine ⟨s.cells, Spn.cells_len _, rfl, fun i u hu => ?_⟩
   have hi : i < 33 := by
    by_cases h : i < 33
    ·exact h
    ·rw [List.getElem?_eq_none (by rw [Spn.cells_len]; omega)] at hu; cases hu
   have := hat i hi
   rw [Go.Deep.add_add] at this
   exact this.trans hu
  ·have h1 : (elems.map (·.1)).length = l.length := by rw [List.length_map, hel]
   have h2 := Nat.le_trans (Nat.mul_le_mul_right 33 (Nat.le_add_right _ _)) z
   rw [h1] at h2
   exact h2
end
end Go.Proofs.Ytdioagebkfdkhaa.Ad
end
