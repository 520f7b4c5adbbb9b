/- Merged by a program of this session (wip/tools/pack.py). -/
import Derived.Test.YtdioagebkfdkhaaKSpanCovers2
import Derived.Deep.Slices
import Derived.Deep.Fields
import Derived.ChangeSame
import Derived.OpenShut
import Derived.SizedLaws
section
set_option linter.unusedVariables false
set_option linter.unusedSimpArgs false
namespace Go.Proofs.Ytdioagebkfdkhaa.Ad
open Go Go.RowKit Go.Proofs.YtdioagebkfdkhaaW.PrintWords Go.Proofs.YtdioagebkfdkhaaW.PrintLast Go.Proofs.YtdioagebkfdkhaaW.PrintMore Go.Proofs.Ytdioagebkfdkhaa.PT

def f09 : Spn := fourS 0 9 (by decide) (by decide)
def f1020 : Spn := fourS 10 20 (by decide) (by decide)
def f020 : Spn := fourS 0 20 (by decide) (by decide)
def f14 : Spn := fourS 1 4 (by decide) (by decide)
theorem join_awake : joinS [f09, f1020] = [f020] := by
 have h1 : List.Perm [f09, f1020] (List.filter rightS [f09, f1020]) := by
  rw [show List.filter rightS [f09, f1020] = [f09, f1020] by decide +kernel]
 rw [← fold_join h1 (by decide +kernel)]
 decide +kernel
theorem parts_awake : partsN 3 f14.v6 f14.hi (f14.lo, rightS f14) = some [fourS 1 1 (by decide) (by decide), fourS 2 3 (by decide) (by decide), fourS 4 4 (by decide) (by decide)] := by decide +kernel
theorem told_awake : (([fourS 1 1 (by decide) (by decide), fourS 2 3 (by decide) (by decide), fourS 4 4 (by decide) (by decide)].map toP).take 9).map Pfx.n = [32, 31, 32] := by decide +kernel
set_option maxRecDepth 100000 in
theorem buildS2 (s t : Spn) (W : World) : (Instr.buildSlice 22 2 #[(0, .agg s.arr), (1, .agg t.arr)]).run Try.prog W = .ok (.slice (some ⟨W.heap.size, 0, none⟩) 2 2) (W.alloc (.cells (s.cells ++ t.cells).toArray 30)) := by
 rw [Spn.lit, Spn.lit, show s.cells ++ t.cells = ((.bool s.v6 :: (lit16 s.lo ++ lit16 s.hi)) ++ (.bool t.v6 :: (lit16 t.lo ++ lit16 t.hi))) by rw [Spn.cells, Spn.cells, A16.lit, A16.lit, A16.lit, A16.lit]]
 kernel_rfl
theorem exec_buildS2 {ρ : Operand → Value} {n x y : Tmp} {ty : TypeId} {pos : String} {af : Array Edge} {g : Option (Nat × Bool)} (s t : Spn) (h1 : ρ (.tmp x) = .agg s.arr) (h2 : ρ (.tmp y) = .agg t.arr) (W : World) :
 (execOp ρ ⟨some n, .buildSlice 22 2 #[(0, .tmp x), (1, .tmp y)], ty, pos, af, g⟩).run Try.prog W = .ok (.value (.slice (some ⟨W.heap.size, 0, none⟩) 2 2)) (W.alloc (.cells (s.cells ++ t.cells).toArray 30)) := by
 have := buildS2 s t W
 unfold execOp
 simp only [List.map_toArray, List.map_cons, List.map_nil, h1, h2, Sem.run_map, this]
 simp [Result.andThen, this]
theorem C_two (s t : Spn) (W : World) (ty : TypeId) : kS.C (W.alloc (.cells (s.cells ++ t.cells).toArray ty)) (some ⟨W.heap.size, 0, none⟩) 2 [s, t] := by
 have h : Has (W.alloc (.cells (s.cells ++ t.cells).toArray ty)) W.heap.size (s.cells ++ t.cells).toArray ty := Has.new _ _ _
 refine ⟨rfl, by decide, fun _ => ⟨_, rfl, fun j p hj => ?_⟩⟩
 have hjl := (List.getElem?_eq_some_iff.1 hj).1
 have hj2 : j = 0 ∨ j = 1 := by simp at hjl; omega
 rcases hj2 with rfl | rfl
 ·have hp : s = p := by simpa using hj
  subst hp
  refine ⟨s.cells, s.cells_len, rfl, fun i u hu => ?_⟩
  rw [Addr.add_mid, h.c]
  have hi := (List.getElem?_eq_some_iff.1 hu).1
  rw [List.getElem?_toArray, show 0 + (0 * kS.sz + i) = i by omega, List.getElem?_append_left hi]
  exact hu
 ·have hp : t = p := by simpa using hj
  subst hp
  refine ⟨t.cells, t.cells_len, rfl, fun i u hu => ?_⟩
  rw [Addr.add_mid, h.c]
  rw [List.getElem?_toArray, show 0 + (1 * kS.sz + i) = 33 + i by show 0 + (1 * 33 + i) = 33 + i; omega, List.getElem?_append_right (by rw [s.cells_len]; omega), s.cells_len, show 33 + i - 33 = i by omega]
  exact hu

set_option maxHeartbeats 4000000 in
set_option maxRecDepth 100000 in
theorem awake_walk (w : World) : Calls Try.prog 7 #[] w fun e w' => e = .returned (.bool true) ∧ Below w.heap.size w w' := by
 go_enter Try.func7, Try.ntmps7
 go_wp2_with fail
 refine (four_walk 0 9 (by decide) (by decide) w).mono ?_
 rintro e w1 ⟨rfl, hB1⟩
 rw [show fourS 0 9 (by decide) (by decide) = f09 from rfl]
 go_wp2_with fail
 refine (four_walk 10 20 (by decide) (by decide) w1).mono ?_
 rintro e w2 ⟨rfl, hB2⟩
 rw [show fourS 10 20 (by decide) (by decide) = f1020 from rfl]
 have HB2 := Lib.hid (hB1.trans (hB2.mono hB1.size))
 clear hB1 hB2
 go_wp2_with (first
  | ((with_reducible refine at_dst 5 ?_); refine valN rfl (exec_buildS2 f09 f1020 rfl rfl _) ?_))
 have hC := C_two f09 f1020 w2 30
 have HB3 := Lib.hid (HB2.out.alloc HB2.out.size (.cells (f09.cells ++ f1020.cells).toArray 30))
 have hj := joinS_walk (some ⟨w2.heap.size, 0, none⟩) 2 [f09, f1020] _ hC (by decide)
 rw [join_awake] at hj
 clear hC HB2
 generalize w2.alloc (.cells (f09.cells ++ f1020.cells).toArray 30) = w3 at hj HB3 ⊢
 refine hj.mono ?_
 rintro e w4 ⟨v4, rfl, hR4, hB4⟩
 obtain ⟨A4, c4, e4, hc4, hC4⟩ := Kd.R_reads hR4
 subst e4
 obtain ⟨b4, o4, hA4, hq4⟩ := C_form hC4 (by decide)
 subst hA4
 have hr4 : w4.rangeAt b4 o4 f020.cells := by have := hq4 0 (by decide); simpa using this
 have H4 := Lib.hid (And.intro hr4 (HB3.out.trans (hB4.mono HB3.out.size)))
 clear hj hR4 hB4 hC4 hq4 hr4 HB3 hc4
 go_wp2_with fail
 refine (four_walk 1 4 (by decide) (by decide) w4).mono ?_
 rintro e w5 ⟨rfl, hB5⟩
 rw [show fourS 1 4 (by decide) (by decide) = f14 from rfl]
 go_wp2_with fail
 refine (told_walk f14 3 _ parts_awake (by decide) 9 w5).mono ?_
 rintro e w6 ⟨v6, rfl, hR6, hB6⟩
 obtain ⟨ps, hps⟩ : ∃ ps, ps = (([fourS 1 1 (by decide) (by decide), fourS 2 3 (by decide) (by decide), fourS 4 4 (by decide) (by decide)].map toP).take 9) := ⟨_, rfl⟩
 have hpn : ps.map Pfx.n = [32, 31, 32] := by rw [hps]; exact told_awake
 rw [← hps] at hR6
 clear hps
 have hpl : ps.length = 3 := by have := congrArg List.length hpn; simpa using this
 obtain ⟨A6, c6, e6, hc6, hC6⟩ := Kd.R_reads hR6
 subst e6
 obtain ⟨b6, o6, hA6, hq6⟩ := CP_form hC6 (by omega)
 subst hA6
 have hr6 : w6.cell? ⟨b6, o6 + 35, none⟩ = some (.int .i64 31) := by
  have h1 : 1 < ps.length := by omega
  have h2 := rp_n (hq6 1 h1)
  have h3 : ps[1].n = 31 := by
   have := congrArg (fun l => l[1]?) hpn
   simpa [List.getElem?_eq_getElem h1] using this
  rw [h3] at h2
  exact h2
 have H6 : Hid (w6.rangeAt b4 o4 f020.cells ∧ w6.cell? ⟨b6, o6 + 35, none⟩ = some (.int .i64 31) ∧ Below w.heap.size w w6) :=
  Lib.hid ⟨ra_below (ra_below H4.out.1 hB5) hB6, hr6, H4.out.2.trans ((hB5.trans (hB6.mono hB5.size)).mono H4.out.2.size)⟩
 rw [hpl]
 clear hR6 hB6 hB5 hC6 hq6 hr6 hc6 hpn hpl H4
 have hfour : ∀ W, Calls Try.prog 22 #[.int .u8 0, .int .u8 20] W fun e w' => e = .returned (.agg f020.arr) ∧ Below W.heap.size W w' := fun W => four_walk 0 20 (by decide) (by decide) W
 have heq : ∀ W, (binOp .eql 30 (.agg f020.arr) (.agg f020.arr)).run Try.prog W = .ok (.bool true) W := fun W => by rw [eqlS]; simp
 go_wp2
 refine start_ (n := 23) (S := fun W => W.rangeAt b4 o4 f020.cells ∧ W.cell? ⟨b6, o6 + 35, none⟩ = some (.int .i64 31) ∧ Below w.heap.size w W) (ds := []) #[false, false, false, false, false, false, false, false, false, false, false, false, false, false, false, false, false, false, false, false, false, false, false] (by kernel_rfl) rfl rfl ⟨H6.out.1, H6.out.2.1, H6.out.2.2.drew⟩ (fun hHeld => ?_)
 refine pure_ (i := 0) (N := some 9) (v := ?_) (a' := ?_) #[true, false, false, false, false, false, false, false, false, false, false, false, false, false, false, false, false, false, false, false, false, false, false] rfl rfl (by kernel_rfl) (fun _ _ _ h => h) (Or.inl ⟨by rfl, ?_⟩) ?_ ?_
 rotate_left
 ·intro w'
  go_simp
  with_reducible rfl
 rotate_left
 ·simp only [Act.put, List.setIfInBounds_toArray, List.set_cons_zero, List.set_cons_succ, i64_w, i32_w]
  rfl
 refine pure_ (i := 1) (N := some 10) (v := ?_) (a' := ?_) #[true, true, false, false, false, false, false, false, false, false, false, false, false, false, false, false, false, false, false, false, false, false, false] rfl rfl (by kernel_rfl) (fun _ _ _ h => h) (Or.inl ⟨by rfl, ?_⟩) ?_ ?_
 rotate_left
 ·intro w'
  go_simp
  with_reducible rfl
 rotate_left
 ·simp only [Act.put, List.setIfInBounds_toArray, List.set_cons_zero, List.set_cons_succ, i64_w, i32_w]
  rfl
 refine pure_ (i := 2) (N := some 11) (v := ?_) (a' := ?_) #[true, true, true, false, false, false, false, false, false, false, false, false, false, false, false, false, false, false, false, false, false, false, false] rfl rfl (by kernel_rfl) (fun _ _ _ h => h) (Or.inl ⟨by rfl, ?_⟩) ?_ ?_
 rotate_left
 ·intro w'
  go_simp
  with_reducible rfl
 rotate_left
 ·simp only [Act.put, List.setIfInBounds_toArray, List.set_cons_zero, List.set_cons_succ, i64_w, i32_w]
  rfl
 refine pure_ (i := 3) (N := some 12) (v := ?_) (a' := ?_) #[true, true, true, true, false, false, false, false, false, false, false, false, false, false, false, false, false, false, false, false, false, false, false] rfl rfl (by kernel_rfl) (fun _ _ _ h => h) (Or.inl ⟨by rfl, ?_⟩) ?_ ?_
 rotate_left
 ·intro w'
  go_simp
  with_reducible rfl
 rotate_left
 ·simp only [Act.put, List.setIfInBounds_toArray, List.set_cons_zero, List.set_cons_succ, i64_w, i32_w]
  rfl
 refine pure_ (i := 4) (N := some 13) (v := ?_) (a' := ?_) #[true, true, true, true, true, false, false, false, false, false, false, false, false, false, false, false, false, false, false, false, false, false, false] rfl rfl (by kernel_rfl) (fun _ _ _ h => h) (Or.inl ⟨by rfl, ?_⟩) ?_ ?_
 rotate_left
 ·intro w'
  go_simp
  with_reducible rfl
 rotate_left
 ·simp only [Act.put, List.setIfInBounds_toArray, List.set_cons_zero, List.set_cons_succ, i64_w, i32_w]
  rfl
 refine pure_ (i := 5) (N := some 14) (v := ?_) (a' := ?_) #[true, true, true, true, true, true, false, false, false, false, false, false, false, false, false, false, false, false, false, false, false, false, false] rfl rfl (by kernel_rfl) (fun _ _ _ h => h) (Or.inl ⟨by rfl, ?_⟩) ?_ ?_
 rotate_left
 ·intro w'
  go_simp
  with_reducible rfl
 rotate_left
 ·simp only [Act.put, List.setIfInBounds_toArray, List.set_cons_zero, List.set_cons_succ, i64_w, i32_w]
  rfl
 refine take_ (i := 6) (N := some 15) (v := .agg f020.arr) (a' := ?_) #[true, true, true, true, true, true, true, false, false, false, false, false, false, false, false, false, false, false, false, false, false, false, false] rfl rfl (by kernel_rfl) (fun _ _ _ h => h) ?_ hHeld ?_ ?_
 ·exact yS (by rfl) rfl f020 b4 o4 rfl (fun W h => h.1)
 rotate_left
 ·simp only [Act.put, List.setIfInBounds_toArray, List.set_cons_zero, List.set_cons_succ, i64_w, i32_w]
  rfl
 refine one_ (i := 7) (N := some 16) #[true, true, true, true, true, true, true, true, false, false, false, false, false, false, false, false, false, false, false, false, false, false, false] rfl rfl (by kernel_rfl) (by decide) (fun K hK => ?_)
 refine goes_ Try.func22 (by kernel_rfl) rfl #[.int .u8 0, .int .u8 20] (by rfl) rfl rfl (by (try simp only [List.map_toArray, List.map_cons, List.map_nil]); first | done | rfl) ?_
 refine (hfour _).mono ?_
 rintro e w7 ⟨rfl, hB⟩
 refine ⟨_, rfl, ?_⟩
 refine hK.out _ _ ⟨ra_below hHeld.1 hB, (hB.cell (World.block_lt_of_cell? _ _ hHeld.2.1)).trans hHeld.2.1, hHeld.2.2.trans (hB.mono hHeld.2.2.size)⟩ (fun hHeld => ?_)
 clear hK K
 refine norm_ (a' := ?_) ?_ ?_
 rotate_left
 ·show Act.put _ (some 16) _ = _
  simp only [Act.put, List.setIfInBounds_toArray, List.set_cons_zero, List.set_cons_succ, i64_w, i32_w]
  rfl
 refine pure_ (i := 8) (N := some 17) (v := ?_) (a' := ?_) #[true, true, true, true, true, true, true, true, true, false, false, false, false, false, false, false, false, false, false, false, false, false, false] rfl rfl (by kernel_rfl) (fun _ _ _ h => h) (Or.inl ⟨by rfl, ?_⟩) ?_ ?_
 rotate_left
 ·intro w'
  go_simp
  with_reducible rfl
 rotate_left
 ·simp only [Act.put, List.setIfInBounds_toArray, List.set_cons_zero, List.set_cons_succ, i64_w, i32_w]
  rfl
 refine pure_ (i := 9) (N := some 18) (v := ?_) (a' := ?_) #[true, true, true, true, true, true, true, true, true, true, false, false, false, false, false, false, false, false, false, false, false, false, false] rfl rfl (by kernel_rfl) (fun _ _ _ h => h) (Or.inl ⟨by rfl, ?_⟩) ?_ ?_
 rotate_left
 ·intro w'
  go_simp
  with_reducible rfl
 rotate_left
 ·simp only [Act.put, List.setIfInBounds_toArray, List.set_cons_zero, List.set_cons_succ, i64_w, i32_w]
  rfl
 refine pure_ (i := 10) (N := some 19) (v := ?_) (a' := ?_) #[true, true, true, true, true, true, true, true, true, true, true, false, false, false, false, false, false, false, false, false, false, false, false] rfl rfl (by kernel_rfl) (fun _ _ _ h => h) (Or.inl ⟨by rfl, ?_⟩) ?_ ?_
 rotate_left
 ·intro w'
  go_simp
  with_reducible rfl
 rotate_left
 ·simp only [Act.put, List.setIfInBounds_toArray, List.set_cons_zero, List.set_cons_succ, i64_w, i32_w]
  rfl
 refine pure_ (i := 11) (N := some 20) (v := ?_) (a' := ?_) #[true, true, true, true, true, true, true, true, true, true, true, true, false, false, false, false, false, false, false, false, false, false, false] rfl rfl (by kernel_rfl) (fun _ _ _ h => h) (Or.inl ⟨by rfl, ?_⟩) ?_ ?_
 rotate_left
 ·intro w'
  go_simp
  with_reducible rfl
 rotate_left
 ·simp only [Act.put, List.setIfInBounds_toArray, List.set_cons_zero, List.set_cons_succ, i64_w, i32_w]
  rfl
 refine pure_ (i := 12) (N := some 21) (v := ?_) (a' := ?_) #[true, true, true, true, true, true, true, true, true, true, true, true, true, false, false, false, false, false, false, false, false, false, false] rfl rfl (by kernel_rfl) (fun _ _ _ h => h) (Or.inl ⟨by rfl, ?_⟩) ?_ ?_
 rotate_left
 ·intro w'
  go_simp
  with_reducible rfl
 rotate_left
 ·simp only [Act.put, List.setIfInBounds_toArray, List.set_cons_zero, List.set_cons_succ, i64_w, i32_w]
  rfl
 refine pure_ (i := 13) (N := some 22) (v := ?_) (a' := ?_) #[true, true, true, true, true, true, true, true, true, true, true, true, true, true, false, false, false, false, false, false, false, false, false] rfl rfl (by kernel_rfl) (fun _ _ _ h => h) (Or.inl ⟨by rfl, ?_⟩) ?_ ?_
 rotate_left
 ·intro w'
  go_simp
  with_reducible rfl
 rotate_left
 ·simp only [Act.put, List.setIfInBounds_toArray, List.set_cons_zero, List.set_cons_succ, i64_w, i32_w]
  rfl
 refine pure_ (i := 14) (N := some 23) (v := ?_) (a' := ?_) #[true, true, true, true, true, true, true, true, true, true, true, true, true, true, true, false, false, false, false, false, false, false, false] rfl rfl (by kernel_rfl) (fun _ _ _ h => h) (Or.inl ⟨by rfl, ?_⟩) ?_ ?_
 rotate_left
 ·intro w'
  go_simp
  with_reducible rfl
 rotate_left
 ·simp only [Act.put, List.setIfInBounds_toArray, List.set_cons_zero, List.set_cons_succ, i64_w, i32_w]
  rfl
 refine pure_ (i := 15) (N := some 24) (v := ?_) (a' := ?_) #[true, true, true, true, true, true, true, true, true, true, true, true, true, true, true, true, false, false, false, false, false, false, false] rfl rfl (by kernel_rfl) (fun _ _ _ h => h) (Or.inl ⟨by rfl, ?_⟩) ?_ ?_
 rotate_left
 ·intro w'
  go_simp
  with_reducible rfl
 rotate_left
 ·simp only [Act.put, List.setIfInBounds_toArray, List.set_cons_zero, List.set_cons_succ, i64_w, i32_w]
  rfl
 refine pure_ (i := 16) (N := some 25) (v := ?_) (a' := ?_) #[true, true, true, true, true, true, true, true, true, true, true, true, true, true, true, true, true, false, false, false, false, false, false] rfl rfl (by kernel_rfl) (fun _ _ _ h => h) (Or.inl ⟨by rfl, ?_⟩) ?_ ?_
 rotate_left
 ·intro w'
  go_simp
  with_reducible rfl
 rotate_left
 ·simp only [Act.put, List.setIfInBounds_toArray, List.set_cons_zero, List.set_cons_succ, i64_w, i32_w]
  rfl
 refine pure_ (i := 17) (N := some 26) (v := ?_) (a' := ?_) #[true, true, true, true, true, true, true, true, true, true, true, true, true, true, true, true, true, true, false, false, false, false, false] rfl rfl (by kernel_rfl) (fun _ _ _ h => h) (Or.inl ⟨by rfl, ?_⟩) ?_ ?_
 rotate_left
 ·intro w'
  go_simp
  with_reducible rfl
 rotate_left
 ·simp only [Act.put, List.setIfInBounds_toArray, List.set_cons_zero, List.set_cons_succ, i64_w, i32_w]
  rfl
 refine pure_ (i := 18) (N := some 27) (v := ?_) (a' := ?_) #[true, true, true, true, true, true, true, true, true, true, true, true, true, true, true, true, true, true, true, false, false, false, false] rfl rfl (by kernel_rfl) (fun _ _ _ h => h) (Or.inl ⟨by rfl, ?_⟩) ?_ ?_
 rotate_left
 ·intro w'
  go_simp
  with_reducible rfl
 rotate_left
 ·simp only [Act.put, List.setIfInBounds_toArray, List.set_cons_zero, List.set_cons_succ, i64_w, i32_w]
  rfl
 refine take_ (i := 19) (N := some 28) (v := ?_) (a' := ?_) #[true, true, true, true, true, true, true, true, true, true, true, true, true, true, true, true, true, true, true, true, false, false, false] rfl rfl (by kernel_rfl) (fun _ _ _ h => h) (Or.inl ⟨by rfl, ?_⟩) hHeld ?_ ?_
 rotate_left
 ·rintro w' ⟨s0, s1, s2⟩
  go_simp
  with_reducible rfl
 rotate_left
 ·simp only [Act.put, List.setIfInBounds_toArray, List.set_cons_zero, List.set_cons_succ, i64_w, i32_w]
  rfl
 refine pure_ (i := 20) (N := some 29) (v := ?_) (a' := ?_) #[true, true, true, true, true, true, true, true, true, true, true, true, true, true, true, true, true, true, true, true, true, false, false] rfl rfl (by kernel_rfl) (fun _ _ _ h => h) (Or.inl ⟨by rfl, ?_⟩) ?_ ?_
 rotate_left
 ·intro w'
  go_simp
  with_reducible rfl
 rotate_left
 ·simp only [Act.put, List.setIfInBounds_toArray, List.set_cons_zero, List.set_cons_succ, i64_w, i32_w]
  rfl
 refine pure_ (i := 21) (N := some 30) (v := ?_) (a' := ?_) #[true, true, true, true, true, true, true, true, true, true, true, true, true, true, true, true, true, true, true, true, true, true, false] rfl rfl (by kernel_rfl) (fun _ _ _ h => h) (Or.inl ⟨by rfl, ?_⟩) ?_ ?_
 rotate_left
 ·intro w'
  go_simp
  with_reducible rfl
 rotate_left
 ·simp only [Act.put, List.setIfInBounds_toArray, List.set_cons_zero, List.set_cons_succ, i64_w, i32_w]
  rfl
 refine pure_ (i := 22) (N := some 0) (v := ?_) (a' := ?_) #[true, true, true, true, true, true, true, true, true, true, true, true, true, true, true, true, true, true, true, true, true, true, true] rfl rfl (by kernel_rfl) (fun _ _ _ h => h) (Or.inl ⟨by rfl, ?_⟩) ?_ ?_
 rotate_left
 ·intro w'
  go_simp
  with_reducible rfl
 rotate_left
 ·simp only [Act.put, List.setIfInBounds_toArray, List.set_cons_zero, List.set_cons_succ, i64_w, i32_w]
  rfl
 refine done_ (by kernel_rfl) ?_
 have HE := Lib.hid hHeld.2.2
 clear hHeld
 go_wp2
 go_ret
 exact ⟨rfl, HE.out⟩

end Go.Proofs.Ytdioagebkfdkhaa.Ad
end

section
set_option linter.unusedVariables false
set_option linter.unusedSimpArgs false
namespace Go.Proofs.Ytdioagebkfdkhaa.Ad
open Go Go.RowKit Go.Proofs.YtdioagebkfdkhaaW.PrintWords Go.Proofs.YtdioagebkfdkhaaW.PrintLast Go.Proofs.YtdioagebkfdkhaaW.PrintMore Go.Proofs.Ytdioagebkfdkhaa.PT

theorem pairs_len (a b : List Spn) : (pairs a b).length ≤ a.length * b.length := by
 unfold pairs
 induction a with
 | nil => simp
 | cons s a ih =>
  rw [List.flatMap_cons, List.length_append, List.length_cons, Nat.succ_mul]
  have h : (b.flatMap fun t => if (rightS s && rightS t && decide (s.v6 = t.v6)) = true then [cut2 s t] else []).length ≤ b.length := by
   clear ih
   induction b with
   | nil => simp
   | cons t b ih =>
    rw [List.flatMap_cons, List.length_append, List.length_cons]
    split
    ·rw [List.length_singleton]; omega
    ·rw [List.length_nil]; omega
  omega
theorem both_len (a b : List Spn) : (bothS a b).length ≤ a.length * b.length := Nat.le_trans (joinS_len _) (pairs_len a b)
/-- span.Within, for lists of at most so many. -/
theorem within_walk (A : Option Addr) (c : Nat) (a : List Spn) (B : Option Addr) (d : Nat) (b : List Spn) (w : World) (hA : kS.C w A a.length a) (hac : a.length ≤ c) (hB : kS.C w B b.length b) (hbd : b.length ≤ d) (hal : a.length ≤ 2000) (hbl : b.length ≤ 2000) :
 Calls Try.prog 13 #[.slice A a.length c, .slice B b.length d] w fun e w' => e = .returned (.bool (withinS a b)) ∧ Below w.heap.size w w' :=
 within_of both_walk A c a B d b w hA hac hB hbd (by omega) (by omega) (Nat.le_trans (both_len a b) (Nat.le_trans (Nat.mul_le_mul hal hbl) (by decide)))
end Go.Proofs.Ytdioagebkfdkhaa.Ad
end

section
set_option linter.unusedVariables false
namespace Go.Proofs.Ytdioagebkfdkhaa.Ad
open Go.Proofs.Ytdioagebkfdkhaa

theorem memS_one {s : Spn} (h : rightS s = true) (n : Int) : memS [s] n ↔ inS s n := by
 rw [memS_cons h]
 exact ⟨fun h => h.resolve_right (memS_nil n), .inl⟩
/-- An address between a prefix's first and last one has its bits. -/
theorem between {p : Pfx} (hp : rightB p = true) {x : A16} (h1 : lexC p.a.l x.l ≤ 0) (h2 : lexC x.l (ofHi p).l ≤ 0) : ∀ i : Nat, (i : Int) < p.n → x.bit i = p.a.bit i := by
 obtain ⟨h0, hm, _⟩ := right_iff.1 hp
 have hb := mostP_b p.v6
 intro i
 induction i using Nat.strongRecOn with
 | _ i ih =>
  intro hi
  have hi8 : i < 128 := by omega
  have a1 := le_iff.1 h1 i hi8 (fun j hj => (ih j hj (by omega)).symm)
  have a2 := le_iff.1 h2 i hi8 (fun j hj => by rw [ih j hj (by omega), ofHi_bit p (by omega), if_pos (by omega), if_pos (by omega)])
  rw [ofHi_bit p hi8, if_pos (by omega), if_pos hi] at a2
  omega
theorem within_covers {p q : Pfx} (hp : rightB p = true) (hq : rightB q = true) : withinS [ofP q] [ofP p] = coversB p q := by
 have rp := of_right hp
 have rq := of_right hq
 obtain ⟨_, np, mp⟩ := right_of rp
 obtain ⟨_, nq, mq⟩ := right_of rq
 obtain ⟨p0, p1, p2⟩ := right_iff.1 hp
 obtain ⟨q0, q1, q2⟩ := right_iff.1 hq
 have hbp := mostP_b p.v6
 have hbq := mostP_b q.v6
 rw [Bool.eq_iff_iff, within_iff, covers_iff]
 constructor
 ·intro h
  have hlo : inS (ofP p) (iv (ofP q)).1 := (memS_one rp _).1 (h _ ((memS_one rq _).2 ⟨Int.le_refl _, (key_le nq mq).2 (of_le hq)⟩))
  have hhi : inS (ofP p) (iv (ofP q)).2 := (memS_one rp _).1 (h _ ((memS_one rq _).2 ⟨(key_le nq mq).2 (of_le hq), Int.le_refl _⟩))
  have hv : p.v6 = q.v6 := family hlo (show inS (ofP q) (iv (ofP q)).1 from ⟨Int.le_refl _, (key_le nq mq).2 (of_le hq)⟩)
  have nq' : nought p.v6 q.a = true := by rw [hv]; exact nq
  have mq' : nought p.v6 (ofHi q) = true := by rw [hv]; exact mq
  have e1 : (iv (ofP q)).1 = key p.v6 q.a := by rw [hv]; rfl
  have e2 : (iv (ofP q)).2 = key p.v6 (ofHi q) := by rw [hv]; rfl
  rw [e1] at hlo
  rw [e2] at hhi
  have l1 : lexC p.a.l q.a.l ≤ 0 := (key_le np nq').1 hlo.1
  have l2 : lexC q.a.l (ofHi p).l ≤ 0 := (key_le nq' mp).1 hlo.2
  have l3 : lexC p.a.l (ofHi q).l ≤ 0 := (key_le np mq').1 hhi.1
  have l4 : lexC (ofHi q).l (ofHi p).l ≤ 0 := (key_le mq' mp).1 hhi.2
  have b1 := between hp l1 l2
  have b2 := between hp l3 l4
  refine ⟨hp, hq, hv, ?_, fun i hi => (b1 i hi).symm⟩
  refine Classical.byContradiction fun hn => ?_
  have hi8 : q.n.toNat < 128 := by omega
  have c1 := b1 q.n.toNat (by omega)
  have c2 := b2 q.n.toNat (by omega)
  rw [q2 _ hi8 (by omega)] at c1
  rw [ofHi_bit q hi8, if_pos (by rw [← hv]; omega), if_neg (by omega)] at c2
  omega
 ·rintro ⟨_, _, hv, hn, hbits⟩ n hn'
  rw [memS_one rq] at hn'
  rw [memS_one rp]
  have nq' : nought p.v6 q.a = true := by rw [hv]; exact nq
  have mq' : nought p.v6 (ofHi q) = true := by rw [hv]; exact mq
  have e1 : (iv (ofP q)).1 = key p.v6 q.a := by rw [hv]; rfl
  have e2 : (iv (ofP q)).2 = key p.v6 (ofHi q) := by rw [hv]; rfl
  have l1 : lexC p.a.l q.a.l ≤ 0 := le_iff.2 fun k hk _ => by
   have := bit_01 q.a k
   by_cases hkn : (k : Int) < p.n
   ·rw [hbits k hkn]; omega
   ·rw [p2 k hk (by omega)]; omega
  have hmv : mostP p.v6 = mostP q.v6 := by rw [hv]
  have l4 : lexC (ofHi q).l (ofHi p).l ≤ 0 := le_iff.2 fun k hk _ => by
   rw [ofHi_bit q hk, ofHi_bit p hk, ← hmv]
   have := bit_01 q.a k
   have := bit_01 p.a k
   by_cases hkm : (k : Int) < mostP p.v6
   ·rw [if_pos hkm, if_pos hkm]
    by_cases hkn : (k : Int) < p.n
    ·rw [if_pos hkn, if_pos (by omega), hbits k hkn]; omega
    ·rw [if_neg hkn]; split <;> omega
   ·rw [if_neg hkm, if_neg hkm, q2 k hk (by omega)]; omega
  have k1 : key p.v6 p.a ≤ key p.v6 q.a := (key_le np nq').2 l1
  have k2 : key p.v6 (ofHi q) ≤ key p.v6 (ofHi p) := (key_le mq' mp).2 l4
  unfold inS at hn' ⊢
  rw [e1, e2] at hn'
  have f1 : (iv (ofP p)).1 = key p.v6 p.a := rfl
  have f2 : (iv (ofP p)).2 = key p.v6 (ofHi p) := rfl
  rw [f1, f2]
  omega
end Go.Proofs.Ytdioagebkfdkhaa.Ad
end

section
set_option linter.unusedVariables false
set_option linter.unusedSimpArgs false
namespace Go.Proofs.Ytdioagebkfdkhaa.Ad
open Go Go.RowKit Go.Proofs.YtdioagebkfdkhaaW.PrintWords Go.Proofs.YtdioagebkfdkhaaW.PrintLast Go.Proofs.YtdioagebkfdkhaaW.PrintMore Go.Proofs.Ytdioagebkfdkhaa.PT

theorem toP_of {p : Pfx} (h : rightB p = true) : toP (ofP p) = p := by
 show (⟨p.v6, p.a, longP (ofP p)⟩ : Pfx) = p
 rw [long_of h]
/-- The two prefixes' blocks. -/
def CvS (w : World) (p q : Pfx) (W : World) : Prop := Has W w.heap.size p.arr 37 ∧ Has W (w.heap.size + 1) q.arr 37 ∧ Below w.heap.size w W
theorem CvS.new (w : World) (p q : Pfx) : CvS w p q ((w.alloc (.cells p.arr 37)).alloc (.cells q.arr 37)) := ⟨heap_alloc2_old _ _ _, heap_alloc2_new _ _ _, ((Below.refl _ _).alloc (Nat.le_refl _) _).alloc (by simp) _⟩
theorem CvS.step {w W W1 : World} {p q : Pfx} (h : CvS w p q W) (hB : Below W.heap.size W W1) : CvS w p q W1 := ⟨h.1.below hB, h.2.1.below hB, h.2.2.trans (hB.mono h.2.2.size)⟩

set_option maxHeartbeats 4000000 in
set_option maxRecDepth 100000 in
theorem covers_ff (p q : Pfx) (w : World) (hp : rightB p = false) (hq : rightB q = false) : Calls Try.prog 6 #[.agg p.arr, .agg q.arr] w fun e w' => e = .returned (.bool true) ∧ Below w.heap.size w w' := by
 have H0 := CvS.new w p q
 have hrp := fun W => right_walk p _ hp W
 have hrq := fun W => right_walk q _ hq W
 have hofp : ∀ W, Calls Try.prog 18 #[.agg p.arr] W fun e w' => e = .returned (.tuple #[.agg zS.arr, .int .i64 1]) ∧ Below W.heap.size W w' := fun W => by
  have := of_walk p W
  unfold ofQ at this
  rw [hp] at this
  exact this
 have hofq : ∀ W, Calls Try.prog 18 #[.agg q.arr] W fun e w' => e = .returned (.tuple #[.agg zS.arr, .int .i64 1]) ∧ Below W.heap.size W w' := fun W => by
  have := of_walk q W
  unfold ofQ at this
  rw [hq] at this
  exact this
 clear hp hq
 go_enter Try.func6, Try.ntmps6
 go_upto_region 1 with (fail)
 change Code.wp _ _ _ _ ((w.alloc (.cells p.arr 37)).alloc (.cells q.arr 37))
 generalize (w.alloc (.cells p.arr 37)).alloc (.cells q.arr 37) = W at H0 ⊢
 have HH := Lib.hid H0
 clear H0
 go_wp2_with fail
 refine (awake_walk W).mono ?_
 rintro e w1 ⟨rfl, hB⟩
 have H1 := Lib.hid (HH.out.step hB)
 clear hB HH
 go_wp2_with (first
  | ((with_reducible refine at_dst 14 ?_); refine loadP p w.heap.size 0 rfl H1.out.1.rp ?_))
 refine (hofp _).mono ?_
 rintro e w2 ⟨rfl, hB⟩
 have hal := (show Below w2.heap.size w2 (w2.alloc (.cells zS.arr 30)) from (Below.refl _ _).alloc (Nat.le_refl _) _)
 have hN6 := Has.new w2 zS.arr 30
 have H2 := Lib.hid (And.intro ((H1.out.step hB).step hal) hN6)
 clear hB hal hN6 H1
 go_wp2_with (first
  | ((with_reducible refine at_dst 6 ?_); refine alloc_storeS zS rfl rfl ?_; generalize w2.heap.size = g6 at H2 ⊢; generalize w2.alloc (.cells zS.arr 30) = w3 at H2 ⊢)
  | ((with_reducible refine at_dst 19 ?_); refine loadP q (w.heap.size + 1) 0 rfl H2.out.1.2.1.rp ?_))
 refine (hofq _).mono ?_
 rintro e w4 ⟨rfl, hB⟩
 have hal := (show Below w4.heap.size w4 (w4.alloc (.cells zS.arr 30)) from (Below.refl _ _).alloc (Nat.le_refl _) _)
 have hN8 := Has.new w4 zS.arr 30
 have H5 := Lib.hid (And.intro ((H2.out.1.step hB).step hal) (And.intro ((H2.out.2.below hB).below hal) hN8))
 clear hB hal hN8 H2
 go_wp2_with (first
  | ((with_reducible refine at_dst 8 ?_); refine alloc_storeS zS rfl rfl ?_; generalize w4.heap.size = g8 at H5 ⊢; generalize w4.alloc (.cells zS.arr 30) = w5 at H5 ⊢)
  | ((with_reducible refine at_dst 31 ?_); refine gate_guard (by rfl) ?_; refine loadP p w.heap.size 0 rfl H5.out.1.1.rp ?_))
 refine (hrp _).mono ?_
 rintro e w6 ⟨rfl, hB⟩
 have H6 := Lib.hid (H5.out.1.step hB)
 clear hB
 go_wp2
 go_ret
 exact ⟨rfl, H6.out.2.2⟩
set_option maxHeartbeats 4000000 in
set_option maxRecDepth 100000 in
theorem covers_ft (p q : Pfx) (w : World) (hp : rightB p = false) (hq : rightB q = true) : Calls Try.prog 6 #[.agg p.arr, .agg q.arr] w fun e w' => e = .returned (.bool true) ∧ Below w.heap.size w w' := by
 have H0 := CvS.new w p q
 have hrp := fun W => right_walk p _ hp W
 have hrq := fun W => right_walk q _ hq W
 have hofp : ∀ W, Calls Try.prog 18 #[.agg p.arr] W fun e w' => e = .returned (.tuple #[.agg zS.arr, .int .i64 1]) ∧ Below W.heap.size W w' := fun W => by
  have := of_walk p W
  unfold ofQ at this
  rw [hp] at this
  exact this
 have hofq : ∀ W, Calls Try.prog 18 #[.agg q.arr] W fun e w' => e = .returned (.tuple #[.agg (ofP q).arr, .int .i64 0]) ∧ Below W.heap.size W w' := fun W => by
  have := of_walk q W
  unfold ofQ at this
  rw [hq] at this
  exact this
 clear hp hq
 go_enter Try.func6, Try.ntmps6
 go_upto_region 1 with (fail)
 change Code.wp _ _ _ _ ((w.alloc (.cells p.arr 37)).alloc (.cells q.arr 37))
 generalize (w.alloc (.cells p.arr 37)).alloc (.cells q.arr 37) = W at H0 ⊢
 have HH := Lib.hid H0
 clear H0
 go_wp2_with fail
 refine (awake_walk W).mono ?_
 rintro e w1 ⟨rfl, hB⟩
 have H1 := Lib.hid (HH.out.step hB)
 clear hB HH
 go_wp2_with (first
  | ((with_reducible refine at_dst 14 ?_); refine loadP p w.heap.size 0 rfl H1.out.1.rp ?_))
 refine (hofp _).mono ?_
 rintro e w2 ⟨rfl, hB⟩
 have hal := (show Below w2.heap.size w2 (w2.alloc (.cells zS.arr 30)) from (Below.refl _ _).alloc (Nat.le_refl _) _)
 have hN6 := Has.new w2 zS.arr 30
 have H2 := Lib.hid (And.intro ((H1.out.step hB).step hal) hN6)
 clear hB hal hN6 H1
 go_wp2_with (first
  | ((with_reducible refine at_dst 6 ?_); refine alloc_storeS zS rfl rfl ?_; generalize w2.heap.size = g6 at H2 ⊢; generalize w2.alloc (.cells zS.arr 30) = w3 at H2 ⊢)
  | ((with_reducible refine at_dst 19 ?_); refine loadP q (w.heap.size + 1) 0 rfl H2.out.1.2.1.rp ?_))
 refine (hofq _).mono ?_
 rintro e w4 ⟨rfl, hB⟩
 have hal := (show Below w4.heap.size w4 (w4.alloc (.cells (ofP q).arr 30)) from (Below.refl _ _).alloc (Nat.le_refl _) _)
 have hN8 := Has.new w4 (ofP q).arr 30
 have H5 := Lib.hid (And.intro ((H2.out.1.step hB).step hal) (And.intro ((H2.out.2.below hB).below hal) hN8))
 clear hB hal hN8 H2
 go_wp2_with (first
  | ((with_reducible refine at_dst 8 ?_); refine alloc_storeS (ofP q) rfl rfl ?_; generalize w4.heap.size = g8 at H5 ⊢; generalize w4.alloc (.cells (ofP q).arr 30) = w5 at H5 ⊢)
  | ((with_reducible refine at_dst 31 ?_); refine gate_guard (by rfl) ?_; refine loadP p w.heap.size 0 rfl H5.out.1.1.rp ?_))
 refine (hrp _).mono ?_
 rintro e w6 ⟨rfl, hB⟩
 have H6 := Lib.hid (H5.out.1.step hB)
 clear hB
 go_wp2
 go_ret
 exact ⟨rfl, H6.out.2.2⟩
set_option maxHeartbeats 4000000 in
set_option maxRecDepth 100000 in
theorem covers_tf (p q : Pfx) (w : World) (hp : rightB p = true) (hq : rightB q = false) : Calls Try.prog 6 #[.agg p.arr, .agg q.arr] w fun e w' => e = .returned (.bool true) ∧ Below w.heap.size w w' := by
 have H0 := CvS.new w p q
 have hrp := fun W => right_walk p _ hp W
 have hrq := fun W => right_walk q _ hq W
 have hofp : ∀ W, Calls Try.prog 18 #[.agg p.arr] W fun e w' => e = .returned (.tuple #[.agg (ofP p).arr, .int .i64 0]) ∧ Below W.heap.size W w' := fun W => by
  have := of_walk p W
  unfold ofQ at this
  rw [hp] at this
  exact this
 have hofq : ∀ W, Calls Try.prog 18 #[.agg q.arr] W fun e w' => e = .returned (.tuple #[.agg zS.arr, .int .i64 1]) ∧ Below W.heap.size W w' := fun W => by
  have := of_walk q W
  unfold ofQ at this
  rw [hq] at this
  exact this
 clear hp hq
 go_enter Try.func6, Try.ntmps6
 go_upto_region 1 with (fail)
 change Code.wp _ _ _ _ ((w.alloc (.cells p.arr 37)).alloc (.cells q.arr 37))
 generalize (w.alloc (.cells p.arr 37)).alloc (.cells q.arr 37) = W at H0 ⊢
 have HH := Lib.hid H0
 clear H0
 go_wp2_with fail
 refine (awake_walk W).mono ?_
 rintro e w1 ⟨rfl, hB⟩
 have H1 := Lib.hid (HH.out.step hB)
 clear hB HH
 go_wp2_with (first
  | ((with_reducible refine at_dst 14 ?_); refine loadP p w.heap.size 0 rfl H1.out.1.rp ?_))
 refine (hofp _).mono ?_
 rintro e w2 ⟨rfl, hB⟩
 have hal := (show Below w2.heap.size w2 (w2.alloc (.cells (ofP p).arr 30)) from (Below.refl _ _).alloc (Nat.le_refl _) _)
 have hN6 := Has.new w2 (ofP p).arr 30
 have H2 := Lib.hid (And.intro ((H1.out.step hB).step hal) hN6)
 clear hB hal hN6 H1
 go_wp2_with (first
  | ((with_reducible refine at_dst 6 ?_); refine alloc_storeS (ofP p) rfl rfl ?_; generalize w2.heap.size = g6 at H2 ⊢; generalize w2.alloc (.cells (ofP p).arr 30) = w3 at H2 ⊢)
  | ((with_reducible refine at_dst 19 ?_); refine loadP q (w.heap.size + 1) 0 rfl H2.out.1.2.1.rp ?_))
 refine (hofq _).mono ?_
 rintro e w4 ⟨rfl, hB⟩
 have hal := (show Below w4.heap.size w4 (w4.alloc (.cells zS.arr 30)) from (Below.refl _ _).alloc (Nat.le_refl _) _)
 have hN8 := Has.new w4 zS.arr 30
 have H5 := Lib.hid (And.intro ((H2.out.1.step hB).step hal) (And.intro ((H2.out.2.below hB).below hal) hN8))
 clear hB hal hN8 H2
 go_wp2_with (first
  | ((with_reducible refine at_dst 8 ?_); refine alloc_storeS zS rfl rfl ?_; generalize w4.heap.size = g8 at H5 ⊢; generalize w4.alloc (.cells zS.arr 30) = w5 at H5 ⊢)
  | ((with_reducible refine at_dst 31 ?_); refine gate_guard (by rfl) ?_; refine loadP p w.heap.size 0 rfl H5.out.1.1.rp ?_))
 refine (hrp _).mono ?_
 rintro e w6 ⟨rfl, hB⟩
 have H6 := Lib.hid (H5.out.1.step hB)
 clear hB
 go_wp2_with (first
  | ((with_reducible refine at_dst 35 ?_); refine gate_guard (by rfl) ?_; refine loadP q (w.heap.size + 1) 0 rfl H6.out.2.1.rp ?_))
 refine (hrq _).mono ?_
 rintro e w7 ⟨rfl, hB⟩
 have H7 := Lib.hid (H6.out.step hB)
 clear hB
 go_wp2
 go_ret
 exact ⟨rfl, H7.out.2.2⟩
set_option maxHeartbeats 4000000 in
set_option maxRecDepth 100000 in
theorem covers_good (p q : Pfx) (w : World) (hp : rightB p = true) (hq : rightB q = true) : Calls Try.prog 6 #[.agg p.arr, .agg q.arr] w fun e w' => e = .returned (.bool true) ∧ Below w.heap.size w w' := by
 have H0 := CvS.new w p q
 have hrp := fun W => right_walk p _ hp W
 have hrq := fun W => right_walk q _ hq W
 have hofp : ∀ W, Calls Try.prog 18 #[.agg p.arr] W fun e w' => e = .returned (.tuple #[.agg (ofP p).arr, .int .i64 0]) ∧ Below W.heap.size W w' := fun W => by
  have := of_walk p W
  unfold ofQ at this
  rw [hp] at this
  exact this
 have hofq : ∀ W, Calls Try.prog 18 #[.agg q.arr] W fun e w' => e = .returned (.tuple #[.agg (ofP q).arr, .int .i64 0]) ∧ Below W.heap.size W w' := fun W => by
  have := of_walk q W
  unfold ofQ at this
  rw [hq] at this
  exact this
 obtain ⟨s, hs⟩ : ∃ s, s = ofP p := ⟨_, rfl⟩
 obtain ⟨t, ht⟩ : ∃ t, t = ofP q := ⟨_, rfl⟩
 obtain ⟨c, hc⟩ : ∃ c, c = coversB p q := ⟨_, rfl⟩
 rw [← hs] at hofp
 rw [← ht] at hofq
 have HS := Lib.hid (And.intro hs (And.intro ht (And.intro hc (And.intro hp hq))))
 clear hs ht hc hp hq
 go_enter Try.func6, Try.ntmps6
 go_upto_region 1 with (fail)
 change Code.wp _ _ _ _ ((w.alloc (.cells p.arr 37)).alloc (.cells q.arr 37))
 generalize (w.alloc (.cells p.arr 37)).alloc (.cells q.arr 37) = W at H0 ⊢
 have HH := Lib.hid H0
 clear H0
 go_wp2_with fail
 refine (awake_walk W).mono ?_
 rintro e w1 ⟨rfl, hB⟩
 have H1 := Lib.hid (HH.out.step hB)
 clear hB HH
 go_wp2_with (first
  | ((with_reducible refine at_dst 14 ?_); refine loadP p w.heap.size 0 rfl H1.out.1.rp ?_))
 refine (hofp _).mono ?_
 rintro e w2 ⟨rfl, hB⟩
 have hal := (show Below w2.heap.size w2 (w2.alloc (.cells s.arr 30)) from (Below.refl _ _).alloc (Nat.le_refl _) _)
 have hN6 := Has.new w2 s.arr 30
 have H2 := Lib.hid (And.intro ((H1.out.step hB).step hal) hN6)
 clear hB hal hN6 H1
 go_wp2_with (first
  | ((with_reducible refine at_dst 6 ?_); refine alloc_storeS s rfl rfl ?_; generalize w2.heap.size = g6 at H2 ⊢; generalize w2.alloc (.cells s.arr 30) = w3 at H2 ⊢)
  | ((with_reducible refine at_dst 19 ?_); refine loadP q (w.heap.size + 1) 0 rfl H2.out.1.2.1.rp ?_))
 refine (hofq _).mono ?_
 rintro e w4 ⟨rfl, hB⟩
 have hal := (show Below w4.heap.size w4 (w4.alloc (.cells t.arr 30)) from (Below.refl _ _).alloc (Nat.le_refl _) _)
 have hN8 := Has.new w4 t.arr 30
 have H5 := Lib.hid (And.intro ((H2.out.1.step hB).step hal) (And.intro ((H2.out.2.below hB).below hal) hN8))
 clear hB hal hN8 H2
 go_wp2_with (first
  | ((with_reducible refine at_dst 8 ?_); refine alloc_storeS t rfl rfl ?_; generalize w4.heap.size = g8 at H5 ⊢; generalize w4.alloc (.cells t.arr 30) = w5 at H5 ⊢)
  | ((with_reducible refine at_dst 40 ?_); refine loadS t g8 0 rfl H5.out.2.2.rs ?_)
  | ((with_reducible refine at_dst 41 ?_); refine valN rfl (exec_buildS t rfl _) ?_)
  | ((with_reducible refine at_dst 42 ?_); refine loadS s g6 0 rfl (H5.out.2.1.alloc (.cells t.arr 30)).rs ?_)
  | ((with_reducible refine at_dst 43 ?_); refine valN rfl (exec_buildS s rfl _) ?_))
 have hal1 := (show Below w5.heap.size w5 (w5.alloc (.cells t.arr 30)) from (Below.refl _ _).alloc (Nat.le_refl _) _)
 have hal2 := (show Below (w5.alloc (.cells t.arr 30)).heap.size (w5.alloc (.cells t.arr 30)) ((w5.alloc (.cells t.arr 30)).alloc (.cells s.arr 30)) from (Below.refl _ _).alloc (Nat.le_refl _) _)
 have hN1 := Has.new w5 t.arr 30
 have hN2 := Has.new (w5.alloc (.cells t.arr 30)) s.arr 30
 rw [World.size_alloc] at hN2
 have H7 := Lib.hid (And.intro ((H5.out.1.step hal1).step hal2) (And.intro ((H5.out.2.1.below hal1).below hal2) (And.intro (C_one (hN1.alloc (.cells s.arr 30))) (C_one hN2))))
 clear hal1 hal2 hN1 hN2 H5
 generalize w5.heap.size = g9 at H7 ⊢
 generalize (w5.alloc (.cells t.arr 30)).alloc (.cells s.arr 30) = w7 at H7 ⊢
 refine (within_walk (some ⟨g9, 0, none⟩) 1 [t] (some ⟨g9 + 1, 0, none⟩) 1 [s] w7 H7.out.2.2.1 (by simp) H7.out.2.2.2 (by simp) (by simp) (by simp)).mono ?_
 rintro e w8 ⟨rfl, hB⟩
 rw [show withinS [t] [s] = c by rw [HS.out.1, HS.out.2.1, HS.out.2.2.1]; exact within_covers HS.out.2.2.2.1 HS.out.2.2.2.2]
 have H8 := Lib.hid (And.intro (H7.out.1.step hB) (H7.out.2.1.below hB))
 clear hB H7
 go_wp2_with (first
  | ((with_reducible refine at_dst 45 ?_); refine loadS s g6 0 rfl H8.out.2.rs ?_))
 have hpt : partsN 1 s.v6 s.hi (s.lo, rightS s) = some [s] := by
  rw [HS.out.1, of_right HS.out.2.2.2.1]
  exact parts_of HS.out.2.2.2.1
 refine (told_walk s 1 [s] hpt (by simp) 9 w8).mono ?_
 rintro e w9 ⟨v9, rfl, hR, hB⟩
 rw [show ([s].map toP).take 9 = [p] by rw [HS.out.1, List.map_cons, toP_of HS.out.2.2.2.1]; rfl] at hR
 obtain ⟨A9, c9, e9, _, hC9⟩ := Kd.R_reads hR
 subst e9
 obtain ⟨b9, o9, hA9, hq9⟩ := CP_form hC9 (by simp)
 subst hA9
 have hr9 : w9.rangeAt b9 o9 p.cells := by have := hq9 0 (by simp); simpa using this
 have H9 := Lib.hid (And.intro (H8.out.1.step hB) hr9)
 clear hB hR hC9 hq9 hr9 H8 hpt
 have hcov : ∀ W, Calls Try.prog 21 #[.agg p.arr, .agg q.arr] W fun e w' => e = .returned (.bool c) ∧ Below W.heap.size W w' := fun W => by rw [HS.out.2.2.1]; exact covers_walk0 p q W
 have heqc : ∀ W, (binOp .eql 4 (.bool c) (.bool c)).run Try.prog W = .ok (.bool true) W := fun W => by cases c <;> rfl
 have heqp : ∀ W, (binOp .eql 37 (.agg p.arr) (.agg p.arr)).run Try.prog W = .ok (.bool true) W := fun W => by rw [eqlP]; simp
 go_wp2
 refine start_ (n := 21) (S := fun W => CvS w p q W ∧ W.rangeAt b9 o9 p.cells) (ds := []) #[false, false, false, false, false, false, false, false, false, false, false, false, false, false, false, false, false, false, false, false, false] (by kernel_rfl) rfl rfl ⟨H9.out.1.step ((Below.refl _ _).drew), H9.out.2⟩ (fun hHeld => ?_)
 refine pure_ (i := 0) (N := some 47) (v := ?_) (a' := ?_) #[true, false, false, false, false, false, false, false, false, false, false, false, false, false, false, false, false, false, false, false, false] rfl rfl (by kernel_rfl) (fun _ _ _ h => h) (Or.inl ⟨by rfl, ?_⟩) ?_ ?_
 rotate_left
 ·intro w'
  go_simp
  with_reducible rfl
 rotate_left
 ·simp only [Act.put, List.setIfInBounds_toArray, List.set_cons_zero, List.set_cons_succ, i64_w, i32_w]
  rfl
 refine pure_ (i := 1) (N := some 48) (v := ?_) (a' := ?_) #[true, true, false, false, false, false, false, false, false, false, false, false, false, false, false, false, false, false, false, false, false] rfl rfl (by kernel_rfl) (fun _ _ _ h => h) (Or.inl ⟨by rfl, ?_⟩) ?_ ?_
 rotate_left
 ·intro w'
  go_simp
  with_reducible rfl
 rotate_left
 ·simp only [Act.put, List.setIfInBounds_toArray, List.set_cons_zero, List.set_cons_succ, i64_w, i32_w]
  rfl
 refine pure_ (i := 2) (N := some 49) (v := ?_) (a' := ?_) #[true, true, true, false, false, false, false, false, false, false, false, false, false, false, false, false, false, false, false, false, false] rfl rfl (by kernel_rfl) (fun _ _ _ h => h) (Or.inl ⟨by rfl, ?_⟩) ?_ ?_
 rotate_left
 ·intro w'
  go_simp
  with_reducible rfl
 rotate_left
 ·simp only [Act.put, List.setIfInBounds_toArray, List.set_cons_zero, List.set_cons_succ, i64_w, i32_w]
  rfl
 refine take_ (i := 3) (N := some 50) (v := .agg p.arr) (a' := ?_) #[true, true, true, true, false, false, false, false, false, false, false, false, false, false, false, false, false, false, false, false, false] rfl rfl (by kernel_rfl) (fun _ _ _ h => h) ?_ hHeld ?_ ?_
 ·exact yP (by rfl) rfl p w.heap.size 0 rfl (fun W h => h.1.1.rp)
 rotate_left
 ·simp only [Act.put, List.setIfInBounds_toArray, List.set_cons_zero, List.set_cons_succ, i64_w, i32_w]
  rfl
 refine take_ (i := 4) (N := some 51) (v := .agg q.arr) (a' := ?_) #[true, true, true, true, true, false, false, false, false, false, false, false, false, false, false, false, false, false, false, false, false] rfl rfl (by kernel_rfl) (fun _ _ _ h => h) ?_ hHeld ?_ ?_
 ·exact yP (by rfl) rfl q (w.heap.size + 1) 0 rfl (fun W h => h.1.2.1.rp)
 rotate_left
 ·simp only [Act.put, List.setIfInBounds_toArray, List.set_cons_zero, List.set_cons_succ, i64_w, i32_w]
  rfl
 refine one_ (i := 5) (N := some 52) #[true, true, true, true, true, true, false, false, false, false, false, false, false, false, false, false, false, false, false, false, false] rfl rfl (by kernel_rfl) (by decide) (fun K hK => ?_)
 refine goes_ Try.func21 (by kernel_rfl) rfl #[.agg p.arr, .agg q.arr] (by rfl) rfl rfl (by (try simp only [List.map_toArray, List.map_cons, List.map_nil]); first | done | rfl) ?_
 refine (hcov _).mono ?_
 rintro e wc ⟨rfl, hB⟩
 refine ⟨_, rfl, ?_⟩
 refine hK.out _ _ ⟨hHeld.1.step hB, ra_below hHeld.2 hB⟩ (fun hHeld => ?_)
 clear hK K
 refine norm_ (a' := ?_) ?_ ?_
 rotate_left
 ·show Act.put _ (some 52) _ = _
  simp only [Act.put, List.setIfInBounds_toArray, List.set_cons_zero, List.set_cons_succ, i64_w, i32_w]
  rfl
 refine pure_ (i := 6) (N := some 53) (v := ?_) (a' := ?_) #[true, true, true, true, true, true, true, false, false, false, false, false, false, false, false, false, false, false, false, false, false] rfl rfl (by kernel_rfl) (fun _ _ _ h => h) (Or.inl ⟨by rfl, ?_⟩) ?_ ?_
 rotate_left
 ·intro w'
  go_simp
  with_reducible rfl
 rotate_left
 ·simp only [Act.put, List.setIfInBounds_toArray, List.set_cons_zero, List.set_cons_succ, i64_w, i32_w]
  rfl
 refine pure_ (i := 7) (N := some 54) (v := ?_) (a' := ?_) #[true, true, true, true, true, true, true, true, false, false, false, false, false, false, false, false, false, false, false, false, false] rfl rfl (by kernel_rfl) (fun _ _ _ h => h) (Or.inl ⟨by rfl, ?_⟩) ?_ ?_
 rotate_left
 ·intro w'
  go_simp
  with_reducible rfl
 rotate_left
 ·simp only [Act.put, List.setIfInBounds_toArray, List.set_cons_zero, List.set_cons_succ, i64_w, i32_w]
  rfl
 refine pure_ (i := 8) (N := some 55) (v := ?_) (a' := ?_) #[true, true, true, true, true, true, true, true, true, false, false, false, false, false, false, false, false, false, false, false, false] rfl rfl (by kernel_rfl) (fun _ _ _ h => h) (Or.inl ⟨by rfl, ?_⟩) ?_ ?_
 rotate_left
 ·intro w'
  go_simp
  with_reducible rfl
 rotate_left
 ·simp only [Act.put, List.setIfInBounds_toArray, List.set_cons_zero, List.set_cons_succ, i64_w, i32_w]
  rfl
 refine pure_ (i := 9) (N := some 56) (v := ?_) (a' := ?_) #[true, true, true, true, true, true, true, true, true, true, false, false, false, false, false, false, false, false, false, false, false] rfl rfl (by kernel_rfl) (fun _ _ _ h => h) (Or.inl ⟨by rfl, ?_⟩) ?_ ?_
 rotate_left
 ·intro w'
  go_simp
  with_reducible rfl
 rotate_left
 ·simp only [Act.put, List.setIfInBounds_toArray, List.set_cons_zero, List.set_cons_succ, i64_w, i32_w]
  rfl
 refine pure_ (i := 10) (N := some 57) (v := ?_) (a' := ?_) #[true, true, true, true, true, true, true, true, true, true, true, false, false, false, false, false, false, false, false, false, false] rfl rfl (by kernel_rfl) (fun _ _ _ h => h) (Or.inl ⟨by rfl, ?_⟩) ?_ ?_
 rotate_left
 ·intro w'
  go_simp
  with_reducible rfl
 rotate_left
 ·simp only [Act.put, List.setIfInBounds_toArray, List.set_cons_zero, List.set_cons_succ, i64_w, i32_w]
  rfl
 refine pure_ (i := 11) (N := some 58) (v := ?_) (a' := ?_) #[true, true, true, true, true, true, true, true, true, true, true, true, false, false, false, false, false, false, false, false, false] rfl rfl (by kernel_rfl) (fun _ _ _ h => h) (Or.inl ⟨by rfl, ?_⟩) ?_ ?_
 rotate_left
 ·intro w'
  go_simp
  with_reducible rfl
 rotate_left
 ·simp only [Act.put, List.setIfInBounds_toArray, List.set_cons_zero, List.set_cons_succ, i64_w, i32_w]
  rfl
 refine pure_ (i := 12) (N := some 59) (v := ?_) (a' := ?_) #[true, true, true, true, true, true, true, true, true, true, true, true, true, false, false, false, false, false, false, false, false] rfl rfl (by kernel_rfl) (fun _ _ _ h => h) (Or.inl ⟨by rfl, ?_⟩) ?_ ?_
 rotate_left
 ·intro w'
  go_simp
  with_reducible rfl
 rotate_left
 ·simp only [Act.put, List.setIfInBounds_toArray, List.set_cons_zero, List.set_cons_succ, i64_w, i32_w]
  rfl
 refine pure_ (i := 13) (N := some 60) (v := ?_) (a' := ?_) #[true, true, true, true, true, true, true, true, true, true, true, true, true, true, false, false, false, false, false, false, false] rfl rfl (by kernel_rfl) (fun _ _ _ h => h) (Or.inl ⟨by rfl, ?_⟩) ?_ ?_
 rotate_left
 ·intro w'
  go_simp
  with_reducible rfl
 rotate_left
 ·simp only [Act.put, List.setIfInBounds_toArray, List.set_cons_zero, List.set_cons_succ, i64_w, i32_w]
  rfl
 refine pure_ (i := 14) (N := some 61) (v := ?_) (a' := ?_) #[true, true, true, true, true, true, true, true, true, true, true, true, true, true, true, false, false, false, false, false, false] rfl rfl (by kernel_rfl) (fun _ _ _ h => h) (Or.inl ⟨by rfl, ?_⟩) ?_ ?_
 rotate_left
 ·intro w'
  go_simp
  with_reducible rfl
 rotate_left
 ·simp only [Act.put, List.setIfInBounds_toArray, List.set_cons_zero, List.set_cons_succ, i64_w, i32_w]
  rfl
 refine pure_ (i := 15) (N := some 62) (v := ?_) (a' := ?_) #[true, true, true, true, true, true, true, true, true, true, true, true, true, true, true, true, false, false, false, false, false] rfl rfl (by kernel_rfl) (fun _ _ _ h => h) (Or.inl ⟨by rfl, ?_⟩) ?_ ?_
 rotate_left
 ·intro w'
  go_simp
  with_reducible rfl
 rotate_left
 ·simp only [Act.put, List.setIfInBounds_toArray, List.set_cons_zero, List.set_cons_succ, i64_w, i32_w]
  rfl
 refine take_ (i := 16) (N := some 63) (v := .agg p.arr) (a' := ?_) #[true, true, true, true, true, true, true, true, true, true, true, true, true, true, true, true, true, false, false, false, false] rfl rfl (by kernel_rfl) (fun _ _ _ h => h) ?_ hHeld ?_ ?_
 ·exact yP (by rfl) rfl p b9 o9 rfl (fun W h => h.2)
 rotate_left
 ·simp only [Act.put, List.setIfInBounds_toArray, List.set_cons_zero, List.set_cons_succ, i64_w, i32_w]
  rfl
 refine take_ (i := 17) (N := some 64) (v := .agg p.arr) (a' := ?_) #[true, true, true, true, true, true, true, true, true, true, true, true, true, true, true, true, true, true, false, false, false] rfl rfl (by kernel_rfl) (fun _ _ _ h => h) ?_ hHeld ?_ ?_
 ·exact yP (by rfl) rfl p w.heap.size 0 rfl (fun W h => h.1.1.rp)
 rotate_left
 ·simp only [Act.put, List.setIfInBounds_toArray, List.set_cons_zero, List.set_cons_succ, i64_w, i32_w]
  rfl
 refine pure_ (i := 18) (N := some 65) (v := ?_) (a' := ?_) #[true, true, true, true, true, true, true, true, true, true, true, true, true, true, true, true, true, true, true, false, false] rfl rfl (by kernel_rfl) (fun _ _ _ h => h) (Or.inl ⟨by rfl, ?_⟩) ?_ ?_
 rotate_left
 ·intro w'
  go_simp
  with_reducible rfl
 rotate_left
 ·simp only [Act.put, List.setIfInBounds_toArray, List.set_cons_zero, List.set_cons_succ, i64_w, i32_w]
  rfl
 refine pure_ (i := 19) (N := some 66) (v := ?_) (a' := ?_) #[true, true, true, true, true, true, true, true, true, true, true, true, true, true, true, true, true, true, true, true, false] rfl rfl (by kernel_rfl) (fun _ _ _ h => h) (Or.inl ⟨by rfl, ?_⟩) ?_ ?_
 rotate_left
 ·intro w'
  go_simp
  with_reducible rfl
 rotate_left
 ·simp only [Act.put, List.setIfInBounds_toArray, List.set_cons_zero, List.set_cons_succ, i64_w, i32_w]
  rfl
 refine pure_ (i := 20) (N := some 4) (v := ?_) (a' := ?_) #[true, true, true, true, true, true, true, true, true, true, true, true, true, true, true, true, true, true, true, true, true] rfl rfl (by kernel_rfl) (fun _ _ _ h => h) (Or.inl ⟨by rfl, ?_⟩) ?_ ?_
 rotate_left
 ·intro w'
  go_simp
  with_reducible rfl
 rotate_left
 ·simp only [Act.put, List.setIfInBounds_toArray, List.set_cons_zero, List.set_cons_succ, i64_w, i32_w]
  rfl
 refine done_ (by kernel_rfl) ?_
 have HE := Lib.hid hHeld.1.2.2
 clear hHeld
 go_wp2
 go_ret
 exact ⟨rfl, HE.out⟩
theorem covers_any (p q : Pfx) (w : World) : Calls Try.prog 6 #[.agg p.arr, .agg q.arr] w fun e w' => e = .returned (.bool true) ∧ Below w.heap.size w w' := by
 cases hp : rightB p
 ·cases hq : rightB q
  ·exact covers_ff p q w hp hq
  ·exact covers_ft p q w hp hq
 ·cases hq : rightB q
  ·exact covers_tf p q w hp hq
  ·exact covers_good p q w hp hq

end Go.Proofs.Ytdioagebkfdkhaa.Ad
end

section
set_option linter.unusedVariables false
set_option linter.unusedSimpArgs false
namespace Go.Proofs.Ytdioagebkfdkhaa.Ad
open Go.ChangeShapes Go.WideShapes Go.Deep Go.RowKit Go.Proofs.YtdioagebkfdkhaaW.PrintWords Go.Proofs.YtdioagebkfdkhaaW.PrintLast Go.Proofs.YtdioagebkfdkhaaW.PrintMore Go.Proofs.Ytdioagebkfdkhaa.PT

theorem listedV {α : Type} {Q : Nat → α → Prop} : ∀ (n : Nat), (∀ i, i < n → ∃ x, Q i x) → ∃ l : List α, l.length = n ∧ ∀ i x, l[i]? = some x → Q i x
 | 0, _ => ⟨[], rfl, fun i x h => by simp at h⟩
 | n + 1, h => by
  obtain ⟨l, hl, hq⟩ := listedV n (fun i hi => h i (by omega))
  obtain ⟨x, hx⟩ := h n (by omega)
  refine ⟨l ++ [x], by simp [hl], fun i y hy => ?_⟩
  by_cases hi : i < n
  ·rw [List.getElem?_append_left (by omega)] at hy
   exact hq i y hy
  ·rw [List.getElem?_append_right (by omega)] at hy
   have : i - l.length = 0 := by
    by_cases h0 : i - l.length = 0
    ·exact h0
    ·rw [List.getElem?_eq_none (by simp; omega)] at hy
     cases hy
   rw [this] at hy
   simp at hy
   subst hy
   rw [show i = n by omega]
   exact hx
section
variable {H : Type} {enc : TypeId × Value → H} {w : World} {base : Nat} {held : Bool}
set_option maxRecDepth 100000 in
theorem openA_f {fuel : Nat} {cs : List Value} {x : DataW H × List MemPlace} (h : DataW.trod enc Try.prog w base (fun _ => true) held fuel 28 cs = some x) :
 ∃ a : A16, cs = a.cells := by
 obtain ⟨xs, n, hn, _, hl, hlen, hf⟩ := DataW.trod_array Try.underlying28 h
 have hl : cs.length = 16 := hl
 have c1 : Try.prog.cellsOf 5 = 1 := by kernel_rfl
 rw [c1] at hf
 obtain ⟨l, hll, hq⟩ := listedV (Q := fun i (m : Int) => (cs.drop (i * 1)).take 1 = [.int .u8 m] ∧ (Lit.int .u8 m).wf = true) 16 (fun i hi => by
  have hi' := hf i hi
  rw [List.getElem?_eq_getElem (by omega)] at hi'
  obtain ⟨m, e, _, b⟩ := DataW.trod_int Try.underlying5 hi'
  exact ⟨m, e, b⟩)
 refine ⟨⟨l, hll, fun x hx => ?_⟩, ?_⟩
 ·obtain ⟨j, hj⟩ := List.mem_iff_getElem?.1 hx
  have := (hq j x hj).2
  simp [Lit.wf, IntKind.min, IntKind.max, IntKind.signed, IntKind.bits] at this
  omega
 ·apply List.ext_getElem
  ·rw [hl, A16.cells_len]
  ·intro i h1 h2
   have := (hq i l[i] (List.getElem?_eq_getElem (by omega))).1
   rw [Nat.mul_one, List.drop_eq_getElem_cons h1, List.take_succ_cons, List.take_zero] at this
   injection this with this
   rw [this]
   simp [A16.cells]
set_option maxRecDepth 100000 in
theorem openP_f {fuel : Nat} {cs : List Value} {x : DataW H × List MemPlace} (h : DataW.trod enc Try.prog w base (fun _ => true) held fuel 37 cs = some x) :
 ∃ p : Pfx, cs = p.cells ∧ (Lit.int .i64 p.n).wf = true := by
 obtain ⟨xs, n, hn, _, hl, hlen, hf⟩ := DataW.trod_struct Try.underlying37 h
 have hl : cs.length = 18 := hl
 match xs, hlen with
 | [y0, y1, y2], _ =>
 have h0 := hf 0 _ rfl
 have h1 := hf 1 _ rfl
 have h2 := hf 2 _ rfl
 replace h0 : DataW.trod enc Try.prog w base (fun _ => true) held n 4 (cs.take 1) = some y0 := h0
 replace h1 : DataW.trod enc Try.prog w base (fun _ => true) held n 28 ((cs.drop 1).take 16) = some y1 := h1
 replace h2 : DataW.trod enc Try.prog w base (fun _ => true) held n 3 ((cs.drop 17).take 1) = some y2 := h2
 obtain ⟨b, e0, _⟩ := DataW.trod_bool Try.underlying4 h0
 obtain ⟨a, e1⟩ := openA_f h1
 obtain ⟨m, e2, _, wf⟩ := DataW.trod_int Try.underlying3 h2
 refine ⟨⟨b, a, m⟩, ?_, wf⟩
 have k1 : cs = cs.take 1 ++ ((cs.drop 1).take 16 ++ (cs.drop 17).take 1) := by
  rw [List.take_of_length_le (l := cs.drop 17) (by simp; omega), show cs.drop 17 = (cs.drop 1).drop 16 by rw [List.drop_drop], List.take_append_drop, List.take_append_drop]
 rw [k1, e0, e1, e2]
 rfl
/-- A prefix that came in. -/
theorem openP {r : Reach} {b0 : Nat} {v : Value} {d : DataW H} {p : List MemPlace} (hv : Value.okWide Try.prog w r b0 37 v) (h : DataW.Trod enc Try.prog w base (fun _ => true) held 37 v d p) :
 ∃ p : Pfx, v = .agg p.arr := by
 obtain ⟨cs, rfl, hsz⟩ := okWide_struct Try.underlying37 hv
 obtain ⟨fuel, hf⟩ := h
 obtain ⟨p, e, _⟩ := openP_f hf
 obtain ⟨l⟩ := cs
 have e : l = p.cells := e
 exact ⟨p, by rw [e]; rfl⟩
end
end Go.Proofs.Ytdioagebkfdkhaa.Ad
end
