/- Merged by a program of this session (wip/tools/pack.py). -/
import Derived.Test.YtllahlgnjeeliaaKTrieOrder1
import Derived.Deep.Slices
import Derived.Deep.Fields
import Derived.ChangeSame
import Derived.OpenShut
import Derived.SizedLaws
section
set_option linter.unusedVariables false
set_option linter.unusedSimpArgs false
namespace Go.Proofs.Ytllahlgnjeeliaa.Ad
open Go.RowKit Go.Proofs.YtllahlgnjeeliaaW.PrintWords Go.Proofs.YtllahlgnjeeliaaW.PrintLast Go.Proofs.YtllahlgnjeeliaaW.PrintMore Go.Proofs.Ytllahlgnjeeliaa.PT

theorem turn_mem (l : List Vrp) (k : Nat) (hk : k < l.length) : ∀ u, u ∈ (l.drop k ++ l.take k) ++ [l[k]] ↔ u ∈ l := fun u => by
 rw [List.mem_append, List.mem_append, List.mem_singleton]
 constructor
 ·rintro ((h | h) | rfl)
  ·exact List.mem_of_mem_drop h
  ·exact List.mem_of_mem_take h
  ·exact List.getElem_mem hk
 ·intro h
  left
  rw [← List.take_append_drop k l, List.mem_append] at h
  exact h.symm

set_option maxHeartbeats 4000000 in
set_option maxRecDepth 100000 in
theorem order_any (A : Option Addr) (c : Nat) (l : List Vrp) (p : Pfx) (turn : Int) (w : World) (hC : kV.C w A l.length l) (hcap : l.length ≤ c) (hl : l.length * 48 ≤ 140737488351232) :
 Calls Try.prog 5 #[.slice A l.length c, .agg p.arr, .int .i64 turn] w fun e w' => e = .returned (.bool true) ∧ Below w.heap.size w w' := by
 have HP0 := Lib.hid (Has.new w p.arr 25)
 have HB0 := Lib.hid (show Below w.heap.size w (w.alloc (.cells p.arr 25)) from (Below.refl _ _).alloc (Nat.le_refl _) _)
 have HC0 := Lib.hid (Kd.C_below hC HB0.out)
 clear hC
 go_enter Try.func5, Try.ntmps5
 go_upto_region 1 with (fail)
 generalize w.alloc (.cells p.arr 25) = W at HP0 HB0 HC0 ⊢
 go_wp2_with fail
 refine (awake_walk W).mono ?_
 rintro e w1 ⟨rfl, hB1⟩
 have HP1 := Lib.hid (HP0.out.below hB1)
 have HB1 := Lib.hid (HB0.out.trans (hB1.mono HB0.out.size))
 have HC1 := Lib.hid (Kd.C_below HC0.out hB1)
 clear hB1 HP0 HB0 HC0
 by_cases hl0 : l.length = 0
 ·have ha1 := eq_true (show (l.length : Int) = 0 by omega)
  have ha2 : decide ((l.length : Int) = 0) = true := decide_eq_true (by omega)
  have ha3 : decide (l.length = 0) = true := decide_eq_true hl0
  go_wp2
  go_ret
  exact ⟨rfl, HB1.out⟩
 have ha1 := eq_false (show ¬ (l.length : Int) = 0 by omega)
 have ha2 : decide ((l.length : Int) = 0) = false := decide_eq_false (by omega)
 have ha3 : decide (l.length = 0) = false := decide_eq_false hl0
 by_cases hlen : 150 < l.length
 ·have hd1 : decide (150 < l.length) = true := decide_eq_true hlen
  have hd2 : decide ((150 : Int) < (l.length : Int)) = true := decide_eq_true (by omega)
  go_wp2
  go_ret
  exact ⟨rfl, HB1.out⟩
 have hd1 : decide (150 < l.length) = false := decide_eq_false hlen
 have hd2 : decide ((150 : Int) < (l.length : Int)) = false := decide_eq_false (by omega)
 by_cases ht : turn < 0
 ·have he1 : decide (turn < 0) = true := decide_eq_true ht
  go_wp2
  go_ret
  exact ⟨rfl, HB1.out⟩
 have he1 : decide (turn < 0) = false := decide_eq_false ht
 obtain ⟨k, hkl, hk⟩ : ∃ k : Nat, k < l.length ∧ turn.tmod (l.length : Int) = (k : Int) := by
  have h1 := Int.tmod_nonneg (l.length : Int) (show 0 ≤ turn by omega)
  have h2 := Int.tmod_lt_of_pos turn (show (0 : Int) < (l.length : Int) by omega)
  exact ⟨(turn.tmod (l.length : Int)).toNat, by omega, by omega⟩
 have hkw : Go.RowKit.wrap64 (k : Int) = (k : Int) := by unfold Go.RowKit.wrap64; omega
 go_wp2_with fail
 clear ha1 ha2 ha3 hd1 hd2 he1 hk hkw
 refine (newL A c l w1 HC1.out hl).mono ?_
 rintro e wo ⟨t1, rfl, hT, hB⟩
 have HT3 := Lib.hid hT
 have HP3 := Lib.hid (HP1.out.below hB)
 have HB3 := Lib.hid (HB1.out.trans (hB.mono HB1.out.size))
 have HC3 := Lib.hid (Kd.C_below HC1.out hB)
 clear hB hT HP1 HB1 HC1
 obtain ⟨bl, ol, hA, hR0⟩ := C_form HC3.out (by omega)
 subst hA
 obtain ⟨v, hv⟩ : ∃ v, v = l[k] := ⟨_, rfl⟩
 have Q0 := Lib.hid (hR0 k hkl)
 rw [← hv] at Q0
 have hmem := turn_mem l k hkl
 rw [← hv] at hmem
 have HCV := Lib.hid (cov_congr hmem p)
 have HRW := Lib.hid (row_congr hmem)
 have HV := Lib.hid hv
 clear hv hR0 hmem
 have hlen2 : (l.drop k ++ l.take k ++ [v]).length = l.length + 1 := by simp; omega
 obtain ⟨Ad, cd, hdr, hCd⟩ := dropV (some ⟨bl, ol, none⟩) c l k (by omega) hcap
 have htk := takeV (some ⟨bl, ol, none⟩) c l k (by omega) hcap
 have HCo : Hid (kV.C wo (some ⟨bl, ol, none⟩) k (l.take k) ∧ kV.C wo Ad (l.length - k) (l.drop k)) := Lib.hid ⟨by have := Kd.C_take HC3.out (m := k) (by omega); rwa [List.length_take, Nat.min_eq_left (by omega)] at this, hCd wo HC3.out⟩
 clear hCd HC3
 have hi1 := eq_true (show (k : Int) < (l.length : Int) by omega)
 go_wp2
 refine start_ (n := 17) (S := fun W => Below wo.heap.size wo W) (ds := []) #[false, false, false, false, false, false, false, false, false, false, false, false, false, false, false, false, false] (by kernel_rfl) rfl rfl (Below.refl _ _).drew (fun hHeld => ?_)
 refine pure_ (i := 1) (N := some 33) (v := ?_) (a' := ?_) #[false, true, false, false, false, false, false, false, false, false, false, false, false, false, false, false, false] rfl rfl (by kernel_rfl) (fun _ _ _ h => h) (Or.inl ⟨by rfl, ?_⟩) ?_ ?_
 rotate_left
 ·intro w'
  go_simp
  with_reducible rfl
 rotate_left
 ·simp only [Act.put, List.setIfInBounds_toArray, List.set_cons_zero, List.set_cons_succ, i64_w, i32_w]
  rfl
 refine pure_ (i := 2) (N := some 34) (v := ?_) (a' := ?_) #[false, true, true, false, false, false, false, false, false, false, false, false, false, false, false, false, false] rfl rfl (by kernel_rfl) (fun _ _ _ h => h) (Or.inl ⟨by rfl, ?_⟩) ?_ ?_
 rotate_left
 ·intro w'
  go_simp
  with_reducible rfl
 rotate_left
 ·simp only [Act.put, List.setIfInBounds_toArray, List.set_cons_zero, List.set_cons_succ, i64_w, i32_w]
  rfl
 refine pure_ (i := 3) (N := some 35) (v := ?_) (a' := ?_) #[false, true, true, true, false, false, false, false, false, false, false, false, false, false, false, false, false] rfl rfl (by kernel_rfl) (fun _ _ _ h => h) (Or.inl ⟨by rfl, ?_⟩) ?_ ?_
 rotate_left
 ·intro w'
  go_simp
  with_reducible rfl
 rotate_left
 ·simp only [Act.put, List.setIfInBounds_toArray, List.set_cons_zero, List.set_cons_succ, i64_w, i32_w]
  rfl
 refine pure_ (i := 5) (N := some 37) (v := ?_) (a' := ?_) #[false, true, true, true, false, true, false, false, false, false, false, false, false, false, false, false, false] rfl rfl (by kernel_rfl) (fun _ _ _ h => h) (Or.inl ⟨by rfl, ?_⟩) ?_ ?_
 rotate_left
 ·intro w'
  go_simp
  with_reducible rfl
 rotate_left
 ·simp only [Act.put, List.setIfInBounds_toArray, List.set_cons_zero, List.set_cons_succ, i64_w, i32_w]
  rfl
 refine pure_ (i := 6) (N := some 38) (v := ?_) (a' := ?_) #[false, true, true, true, false, true, true, false, false, false, false, false, false, false, false, false, false] rfl rfl (by kernel_rfl) (fun _ _ _ h => h) (Or.inl ⟨by rfl, ?_⟩) ?_ ?_
 rotate_left
 ·intro w'
  go_simp
  with_reducible rfl
 rotate_left
 ·simp only [Act.put, List.setIfInBounds_toArray, List.set_cons_zero, List.set_cons_succ, i64_w, i32_w]
  rfl
 refine pure_ (i := 7) (N := some 39) (v := ?_) (a' := ?_) #[false, true, true, true, false, true, true, true, false, false, false, false, false, false, false, false, false] rfl rfl (by kernel_rfl) (fun _ _ _ h => h) (Or.inl ⟨by rfl, ?_⟩) ?_ ?_
 rotate_left
 ·intro w'
  go_simp
  with_reducible rfl
 rotate_left
 ·simp only [Act.put, List.setIfInBounds_toArray, List.set_cons_zero, List.set_cons_succ, i64_w, i32_w]
  rfl
 refine pure_ (i := 9) (N := some 41) (v := ?_) (a' := ?_) #[false, true, true, true, false, true, true, true, false, true, false, false, false, false, false, false, false] rfl rfl (by kernel_rfl) (fun _ _ _ h => h) (Or.inl ⟨by rfl, ?_⟩) ?_ ?_
 rotate_left
 ·intro w'
  go_simp
  with_reducible rfl
 rotate_left
 ·simp only [Act.put, List.setIfInBounds_toArray, List.set_cons_zero, List.set_cons_succ, i64_w, i32_w]
  rfl
 refine pure_ (i := 10) (N := some 42) (v := ?_) (a' := ?_) #[false, true, true, true, false, true, true, true, false, true, true, false, false, false, false, false, false] rfl rfl (by kernel_rfl) (fun _ _ _ h => h) (Or.inl ⟨by rfl, ?_⟩) ?_ ?_
 rotate_left
 ·intro w'
  go_simp
  with_reducible rfl
 rotate_left
 ·simp only [Act.put, List.setIfInBounds_toArray, List.set_cons_zero, List.set_cons_succ, i64_w, i32_w]
  rfl
 refine pure_ (i := 11) (N := some 43) (v := ?_) (a' := ?_) #[false, true, true, true, false, true, true, true, false, true, true, true, false, false, false, false, false] rfl rfl (by kernel_rfl) (fun _ _ _ h => h) (Or.inl ⟨by rfl, ?_⟩) ?_ ?_
 rotate_left
 ·intro w'
  go_simp
  with_reducible rfl
 rotate_left
 ·simp only [Act.put, List.setIfInBounds_toArray, List.set_cons_zero, List.set_cons_succ, i64_w, i32_w]
  rfl
 refine take_ (i := 12) (N := some 44) (v := .agg v.arr) (a' := ?_) #[false, true, true, true, false, true, true, true, false, true, true, true, true, false, false, false, false] rfl rfl (by kernel_rfl) (fun _ _ _ h => h) ?_ hHeld ?_ ?_
 ·exact yV (by rfl) rfl v bl (ol + k * 20) rfl (fun W h => ra_below Q0.out h)
 rotate_left
 ·simp only [Act.put, List.setIfInBounds_toArray, List.set_cons_zero, List.set_cons_succ, i64_w, i32_w]
  rfl
 generalize wo.drew = wz at hHeld ⊢
 refine join_ (σ := Value × Value × Value × Value × Value × Nat) 1 #[true, true, true, true, true, true, true, true, true, true, true, true, true, true, true, true, false] (fun s => [(32, s.1), (36, s.2.1), (40, s.2.2.1), (45, s.2.2.2.1), (46, s.2.2.2.2.1), (47, .pointer (some ⟨s.2.2.2.2.2, 0, none⟩))]) (fun s W => Below wo.heap.size wo W ∧ TrieOf W s.2.2.2.2.2 (l.drop k ++ l.take k ++ [v])) ?_ ?_
 rotate_left
 ·intro hJ
  simp only [putAll, Act.put, List.setIfInBounds_toArray, List.set_cons_zero, List.set_cons_succ, i64_w, i32_w] at hJ
  refine two_ (i := 0) (j := 13) (Ni := some 32) (Nj := some 45) #[true, true, true, true, false, true, true, true, false, true, true, true, true, false, false, false, false] #[false, true, true, true, false, true, true, true, false, true, true, true, true, true, false, false, false] rfl rfl rfl rfl (by kernel_rfl) (by decide) (by decide) (fun K hK => ?_) (fun K hK => ?_)
  ·refine event_step (by rfl) (v := .slice (some ⟨wz.heap.size, 0, none⟩) 0 0) (w1 := wz.alloc (.cells #[] 39)) (by go_simp; try rfl) ?_
   have hR := R_none wz wo.heap.size hHeld.size
   refine hK.out _ _ (hHeld.trans ((show Below wz.heap.size wz (wz.alloc (.cells #[] 39)) from ((Below.refl _ _).alloc (Nat.le_refl _) _)).mono hHeld.size)) (fun hHeld => ?_)
   clear hK K
   refine norm_ (a' := ?_) ?_ ?_
   rotate_left
   ·show Act.put _ (some 32) _ = _
    simp only [Act.put, List.setIfInBounds_toArray, List.set_cons_zero, List.set_cons_succ, i64_w, i32_w]
    rfl
   generalize wz.alloc (.cells #[] 39) = wa32 at hHeld hR ⊢
   refine two_ (i := 4) (j := 13) (Ni := some 36) (Nj := some 45) #[true, true, true, true, true, true, true, true, false, true, true, true, true, false, false, false, false] #[true, true, true, true, false, true, true, true, false, true, true, true, true, true, false, false, false] rfl rfl rfl rfl (by kernel_rfl) (by decide) (by decide) (fun K hK => ?_) (fun K hK => ?_)
   ·refine appRows (w0 := wo) wo.heap.size (by rfl) (.tmp 32) (.tmp 35) rfl (.slice (some ⟨wz.heap.size, 0, none⟩) 0 0 : Value) [] (l.drop k) Ad (l.length - k) cd rfl rfl hR (Kd.C_below HCo.out.2 hHeld) hHeld hHeld.size (by first | omega | (simp; omega)) ?_
    intro v36 wb36 hR' hB' hg hat
    clear hR hg hat
    have hR := hR'
    clear hR'
    rw [List.nil_append] at hR
    refine hK.out _ _ hB' (fun hHeld => ?_)
    clear hK K
    refine norm_ (a' := ?_) ?_ ?_
    rotate_left
    ·show Act.put _ (some 36) _ = _
     simp only [Act.put, List.setIfInBounds_toArray, List.set_cons_zero, List.set_cons_succ, i64_w, i32_w]
     rfl
    clear hB'
    refine two_ (i := 8) (j := 13) (Ni := some 40) (Nj := some 45) #[true, true, true, true, true, true, true, true, true, true, true, true, true, false, false, false, false] #[true, true, true, true, true, true, true, true, false, true, true, true, true, true, false, false, false] rfl rfl rfl rfl (by kernel_rfl) (by decide) (by decide) (fun K hK => ?_) (fun K hK => ?_)
    ·refine appRows (w0 := wo) wo.heap.size (by rfl) (.tmp 36) (.tmp 39) rfl v36 (l.drop k) (l.take k) (some ⟨bl, ol, none⟩) k c rfl rfl hR (Kd.C_below HCo.out.1 hHeld) hHeld hHeld.size (by first | omega | (simp; omega)) ?_
     intro v40 wc40 hR' hB' hg hat
     clear hR hg hat
     have hR := hR'
     clear hR'
     refine hK.out _ _ hB' (fun hHeld => ?_)
     clear hK K
     refine norm_ (a' := ?_) ?_ ?_
     rotate_left
     ·show Act.put _ (some 40) _ = _
      simp only [Act.put, List.setIfInBounds_toArray, List.set_cons_zero, List.set_cons_succ, i64_w, i32_w]
      rfl
     clear hB'
     refine one_ (i := 13) (N := some 45) #[true, true, true, true, true, true, true, true, true, true, true, true, true, true, false, false, false] rfl rfl (by kernel_rfl) (by decide) (fun K hK => ?_)
     refine event_step (by rfl) (v := .slice (some ⟨wc40.heap.size, 0, none⟩) 1 1) (w1 := wc40.alloc (.cells v.arr 39)) (exec_buildV v rfl _) ?_
     have hne : some wc40.heap.size ≠ v40.ownBlock := fun e => absurd (R_own hR _ e.symm) (Nat.lt_irrefl _)
     replace hR := Kd.R_below hR (show Below wc40.heap.size wc40 (wc40.alloc (.cells v.arr 39)) from ((Below.refl _ _).alloc (Nat.le_refl _) _))
     have hV := Has.new wc40 v.arr 39
     refine hK.out _ _ (hHeld.trans ((show Below wc40.heap.size wc40 (wc40.alloc (.cells v.arr 39)) from ((Below.refl _ _).alloc (Nat.le_refl _) _)).mono hHeld.size)) (fun hHeld => ?_)
     clear hK K
     refine norm_ (a' := ?_) ?_ ?_
     rotate_left
     ·show Act.put _ (some 45) _ = _
      simp only [Act.put, List.setIfInBounds_toArray, List.set_cons_zero, List.set_cons_succ, i64_w, i32_w]
      rfl
     generalize wc40.alloc (.cells v.arr 39) = wd45 at hHeld hR hV ⊢
     refine one_ (i := 14) (N := some 46) #[true, true, true, true, true, true, true, true, true, true, true, true, true, true, true, false, false] rfl rfl (by kernel_rfl) (by decide) (fun K hK => ?_)
     refine appRows (w0 := wo) wo.heap.size (by rfl) (.tmp 40) (.tmp 45) rfl v40 ((l.drop k) ++ (l.take k)) [v] (some ⟨wc40.heap.size, 0, none⟩) 1 1 rfl rfl hR (C_one hV) hHeld hHeld.size (by first | omega | (simp; omega)) ?_
     intro v46 we46 hR' hB' hg hat
     clear hR hg hat
     have hR := hR'
     clear hR'
     refine hK.out _ _ hB' (fun hHeld => ?_)
     clear hK K
     refine norm_ (a' := ?_) ?_ ?_
     rotate_left
     ·show Act.put _ (some 46) _ = _
      simp only [Act.put, List.setIfInBounds_toArray, List.set_cons_zero, List.set_cons_succ, i64_w, i32_w]
      rfl
     clear hB'
     obtain ⟨A9, c9, e9, hc9, hC9⟩ := Kd.R_reads hR
     subst e9
     refine one_ (i := 15) (N := some 47) #[true, true, true, true, true, true, true, true, true, true, true, true, true, true, true, true, false] rfl rfl (by kernel_rfl) (by decide) (fun K hK => ?_)
     refine goes_ Try.func8 (by kernel_rfl) rfl #[.slice A9 (l.drop k ++ l.take k ++ [v]).length c9] (by rfl) rfl rfl (by (try simp only [List.map_toArray, List.map_cons, List.map_nil]); first | done | rfl) ?_
     refine (newL A9 c9 (l.drop k ++ l.take k ++ [v]) _ hC9 (by omega)).mono ?_
     rintro e w9 ⟨t2, rfl, hT9, hB9⟩
     refine ⟨_, rfl, ?_⟩
     refine hK.out _ _ (hHeld.trans (hB9.mono hHeld.size)) (fun hHeld => ?_)
     clear hK K
     refine norm_ (a' := ?_) ?_ ?_
     rotate_left
     ·show Act.put _ (some 47) _ = _
      simp only [Act.put, List.setIfInBounds_toArray, List.set_cons_zero, List.set_cons_succ, i64_w, i32_w]
      rfl
     exact hJ (_, _, _, _, _, t2) _ ⟨hHeld, hT9⟩
    ·refine event_step (by rfl) (v := .slice (some ⟨wb36.heap.size, 0, none⟩) 1 1) (w1 := wb36.alloc (.cells v.arr 39)) (exec_buildV v rfl _) ?_
     have hne : some wb36.heap.size ≠ v36.ownBlock := fun e => absurd (R_own hR _ e.symm) (Nat.lt_irrefl _)
     replace hR := Kd.R_below hR (show Below wb36.heap.size wb36 (wb36.alloc (.cells v.arr 39)) from ((Below.refl _ _).alloc (Nat.le_refl _) _))
     have hV := Has.new wb36 v.arr 39
     refine hK.out _ _ (hHeld.trans ((show Below wb36.heap.size wb36 (wb36.alloc (.cells v.arr 39)) from ((Below.refl _ _).alloc (Nat.le_refl _) _)).mono hHeld.size)) (fun hHeld => ?_)
     clear hK K
     refine norm_ (a' := ?_) ?_ ?_
     rotate_left
     ·show Act.put _ (some 45) _ = _
      simp only [Act.put, List.setIfInBounds_toArray, List.set_cons_zero, List.set_cons_succ, i64_w, i32_w]
      rfl
     generalize wb36.alloc (.cells v.arr 39) = wc45 at hHeld hR hV ⊢
     refine one_ (i := 8) (N := some 40) #[true, true, true, true, true, true, true, true, true, true, true, true, true, true, false, false, false] rfl rfl (by kernel_rfl) (by decide) (fun K hK => ?_)
     refine appRows (w0 := wo) wo.heap.size (by rfl) (.tmp 36) (.tmp 39) rfl v36 (l.drop k) (l.take k) (some ⟨bl, ol, none⟩) k c rfl rfl hR (Kd.C_below HCo.out.1 hHeld) hHeld hHeld.size (by first | omega | (simp; omega)) ?_
     intro v40 wd40 hR' hB' hg hat
     have hne' : some wb36.heap.size ≠ v40.ownBlock := by
      rcases hat with e | ⟨b, e, hb⟩
      ·rw [e]; exact hne
      ·rw [e]; have := hV.lt; simp only [ne_eq, Option.some.injEq]; omega
     replace hV : Has wd40 wb36.heap.size v.arr 39 := (hg.block _ hV.lt hne).trans hV
     clear hne
     have hne := hne'
     clear hne'
     clear hR hg hat
     have hR := hR'
     clear hR'
     refine hK.out _ _ hB' (fun hHeld => ?_)
     clear hK K
     refine norm_ (a' := ?_) ?_ ?_
     rotate_left
     ·show Act.put _ (some 40) _ = _
      simp only [Act.put, List.setIfInBounds_toArray, List.set_cons_zero, List.set_cons_succ, i64_w, i32_w]
      rfl
     clear hB'
     refine one_ (i := 14) (N := some 46) #[true, true, true, true, true, true, true, true, true, true, true, true, true, true, true, false, false] rfl rfl (by kernel_rfl) (by decide) (fun K hK => ?_)
     refine appRows (w0 := wo) wo.heap.size (by rfl) (.tmp 40) (.tmp 45) rfl v40 ((l.drop k) ++ (l.take k)) [v] (some ⟨wb36.heap.size, 0, none⟩) 1 1 rfl rfl hR (C_one hV) hHeld hHeld.size (by first | omega | (simp; omega)) ?_
     intro v46 we46 hR' hB' hg hat
     clear hR hg hat
     have hR := hR'
     clear hR'
     refine hK.out _ _ hB' (fun hHeld => ?_)
     clear hK K
     refine norm_ (a' := ?_) ?_ ?_
     rotate_left
     ·show Act.put _ (some 46) _ = _
      simp only [Act.put, List.setIfInBounds_toArray, List.set_cons_zero, List.set_cons_succ, i64_w, i32_w]
      rfl
     clear hB'
     obtain ⟨A9, c9, e9, hc9, hC9⟩ := Kd.R_reads hR
     subst e9
     refine one_ (i := 15) (N := some 47) #[true, true, true, true, true, true, true, true, true, true, true, true, true, true, true, true, false] rfl rfl (by kernel_rfl) (by decide) (fun K hK => ?_)
     refine goes_ Try.func8 (by kernel_rfl) rfl #[.slice A9 (l.drop k ++ l.take k ++ [v]).length c9] (by rfl) rfl rfl (by (try simp only [List.map_toArray, List.map_cons, List.map_nil]); first | done | rfl) ?_
     refine (newL A9 c9 (l.drop k ++ l.take k ++ [v]) _ hC9 (by omega)).mono ?_
     rintro e w9 ⟨t2, rfl, hT9, hB9⟩
     refine ⟨_, rfl, ?_⟩
     refine hK.out _ _ (hHeld.trans (hB9.mono hHeld.size)) (fun hHeld => ?_)
     clear hK K
     refine norm_ (a' := ?_) ?_ ?_
     rotate_left
     ·show Act.put _ (some 47) _ = _
      simp only [Act.put, List.setIfInBounds_toArray, List.set_cons_zero, List.set_cons_succ, i64_w, i32_w]
      rfl
     exact hJ (_, _, _, _, _, t2) _ ⟨hHeld, hT9⟩
   ·refine event_step (by rfl) (v := .slice (some ⟨wa32.heap.size, 0, none⟩) 1 1) (w1 := wa32.alloc (.cells v.arr 39)) (exec_buildV v rfl _) ?_
    have hne : some wa32.heap.size ≠ (.slice (some ⟨wz.heap.size, 0, none⟩) 0 0 : Value).ownBlock := fun e => absurd (R_own hR _ e.symm) (Nat.lt_irrefl _)
    replace hR := Kd.R_below hR (show Below wa32.heap.size wa32 (wa32.alloc (.cells v.arr 39)) from ((Below.refl _ _).alloc (Nat.le_refl _) _))
    have hV := Has.new wa32 v.arr 39
    refine hK.out _ _ (hHeld.trans ((show Below wa32.heap.size wa32 (wa32.alloc (.cells v.arr 39)) from ((Below.refl _ _).alloc (Nat.le_refl _) _)).mono hHeld.size)) (fun hHeld => ?_)
    clear hK K
    refine norm_ (a' := ?_) ?_ ?_
    rotate_left
    ·show Act.put _ (some 45) _ = _
     simp only [Act.put, List.setIfInBounds_toArray, List.set_cons_zero, List.set_cons_succ, i64_w, i32_w]
     rfl
    generalize wa32.alloc (.cells v.arr 39) = wb45 at hHeld hR hV ⊢
    refine one_ (i := 4) (N := some 36) #[true, true, true, true, true, true, true, true, false, true, true, true, true, true, false, false, false] rfl rfl (by kernel_rfl) (by decide) (fun K hK => ?_)
    refine appRows (w0 := wo) wo.heap.size (by rfl) (.tmp 32) (.tmp 35) rfl (.slice (some ⟨wz.heap.size, 0, none⟩) 0 0 : Value) [] (l.drop k) Ad (l.length - k) cd rfl rfl hR (Kd.C_below HCo.out.2 hHeld) hHeld hHeld.size (by first | omega | (simp; omega)) ?_
    intro v36 wc36 hR' hB' hg hat
    have hne' : some wa32.heap.size ≠ v36.ownBlock := by
     rcases hat with e | ⟨b, e, hb⟩
     ·rw [e]; exact hne
     ·rw [e]; have := hV.lt; simp only [ne_eq, Option.some.injEq]; omega
    replace hV : Has wc36 wa32.heap.size v.arr 39 := (hg.block _ hV.lt hne).trans hV
    clear hne
    have hne := hne'
    clear hne'
    clear hR hg hat
    have hR := hR'
    clear hR'
    rw [List.nil_append] at hR
    refine hK.out _ _ hB' (fun hHeld => ?_)
    clear hK K
    refine norm_ (a' := ?_) ?_ ?_
    rotate_left
    ·show Act.put _ (some 36) _ = _
     simp only [Act.put, List.setIfInBounds_toArray, List.set_cons_zero, List.set_cons_succ, i64_w, i32_w]
     rfl
    clear hB'
    refine one_ (i := 8) (N := some 40) #[true, true, true, true, true, true, true, true, true, true, true, true, true, true, false, false, false] rfl rfl (by kernel_rfl) (by decide) (fun K hK => ?_)
    refine appRows (w0 := wo) wo.heap.size (by rfl) (.tmp 36) (.tmp 39) rfl v36 (l.drop k) (l.take k) (some ⟨bl, ol, none⟩) k c rfl rfl hR (Kd.C_below HCo.out.1 hHeld) hHeld hHeld.size (by first | omega | (simp; omega)) ?_
    intro v40 wd40 hR' hB' hg hat
    have hne' : some wa32.heap.size ≠ v40.ownBlock := by
     rcases hat with e | ⟨b, e, hb⟩
     ·rw [e]; exact hne
     ·rw [e]; have := hV.lt; simp only [ne_eq, Option.some.injEq]; omega
    replace hV : Has wd40 wa32.heap.size v.arr 39 := (hg.block _ hV.lt hne).trans hV
    clear hne
    have hne := hne'
    clear hne'
    clear hR hg hat
    have hR := hR'
    clear hR'
    refine hK.out _ _ hB' (fun hHeld => ?_)
    clear hK K
    refine norm_ (a' := ?_) ?_ ?_
    rotate_left
    ·show Act.put _ (some 40) _ = _
     simp only [Act.put, List.setIfInBounds_toArray, List.set_cons_zero, List.set_cons_succ, i64_w, i32_w]
     rfl
    clear hB'
    refine one_ (i := 14) (N := some 46) #[true, true, true, true, true, true, true, true, true, true, true, true, true, true, true, false, false] rfl rfl (by kernel_rfl) (by decide) (fun K hK => ?_)
    refine appRows (w0 := wo) wo.heap.size (by rfl) (.tmp 40) (.tmp 45) rfl v40 ((l.drop k) ++ (l.take k)) [v] (some ⟨wa32.heap.size, 0, none⟩) 1 1 rfl rfl hR (C_one hV) hHeld hHeld.size (by first | omega | (simp; omega)) ?_
    intro v46 we46 hR' hB' hg hat
    clear hR hg hat
    have hR := hR'
    clear hR'
    refine hK.out _ _ hB' (fun hHeld => ?_)
    clear hK K
    refine norm_ (a' := ?_) ?_ ?_
    rotate_left
    ·show Act.put _ (some 46) _ = _
     simp only [Act.put, List.setIfInBounds_toArray, List.set_cons_zero, List.set_cons_succ, i64_w, i32_w]
     rfl
    clear hB'
    obtain ⟨A9, c9, e9, hc9, hC9⟩ := Kd.R_reads hR
    subst e9
    refine one_ (i := 15) (N := some 47) #[true, true, true, true, true, true, true, true, true, true, true, true, true, true, true, true, false] rfl rfl (by kernel_rfl) (by decide) (fun K hK => ?_)
    refine goes_ Try.func8 (by kernel_rfl) rfl #[.slice A9 (l.drop k ++ l.take k ++ [v]).length c9] (by rfl) rfl rfl (by (try simp only [List.map_toArray, List.map_cons, List.map_nil]); first | done | rfl) ?_
    refine (newL A9 c9 (l.drop k ++ l.take k ++ [v]) _ hC9 (by omega)).mono ?_
    rintro e w9 ⟨t2, rfl, hT9, hB9⟩
    refine ⟨_, rfl, ?_⟩
    refine hK.out _ _ (hHeld.trans (hB9.mono hHeld.size)) (fun hHeld => ?_)
    clear hK K
    refine norm_ (a' := ?_) ?_ ?_
    rotate_left
    ·show Act.put _ (some 47) _ = _
     simp only [Act.put, List.setIfInBounds_toArray, List.set_cons_zero, List.set_cons_succ, i64_w, i32_w]
     rfl
    exact hJ (_, _, _, _, _, t2) _ ⟨hHeld, hT9⟩
  ·refine event_step (by rfl) (v := .slice (some ⟨wz.heap.size, 0, none⟩) 1 1) (w1 := wz.alloc (.cells v.arr 39)) (exec_buildV v rfl _) ?_
   have hV := Has.new wz v.arr 39
   refine hK.out _ _ (hHeld.trans ((show Below wz.heap.size wz (wz.alloc (.cells v.arr 39)) from ((Below.refl _ _).alloc (Nat.le_refl _) _)).mono hHeld.size)) (fun hHeld => ?_)
   clear hK K
   refine norm_ (a' := ?_) ?_ ?_
   rotate_left
   ·show Act.put _ (some 45) _ = _
    simp only [Act.put, List.setIfInBounds_toArray, List.set_cons_zero, List.set_cons_succ, i64_w, i32_w]
    rfl
   generalize wz.alloc (.cells v.arr 39) = wa45 at hHeld hV ⊢
   refine one_ (i := 0) (N := some 32) #[true, true, true, true, false, true, true, true, false, true, true, true, true, true, false, false, false] rfl rfl (by kernel_rfl) (by decide) (fun K hK => ?_)
   refine event_step (by rfl) (v := .slice (some ⟨wa45.heap.size, 0, none⟩) 0 0) (w1 := wa45.alloc (.cells #[] 39)) (by go_simp; try rfl) ?_
   have hne : some wz.heap.size ≠ (.slice (some ⟨wa45.heap.size, 0, none⟩) 0 0 : Value).ownBlock := by have := hV.lt; simp only [Value.ownBlock, ne_eq, Option.some.injEq]; omega
   replace hV := hV.alloc (.cells #[] 39)
   have hR := R_none wa45 wo.heap.size hHeld.size
   refine hK.out _ _ (hHeld.trans ((show Below wa45.heap.size wa45 (wa45.alloc (.cells #[] 39)) from ((Below.refl _ _).alloc (Nat.le_refl _) _)).mono hHeld.size)) (fun hHeld => ?_)
   clear hK K
   refine norm_ (a' := ?_) ?_ ?_
   rotate_left
   ·show Act.put _ (some 32) _ = _
    simp only [Act.put, List.setIfInBounds_toArray, List.set_cons_zero, List.set_cons_succ, i64_w, i32_w]
    rfl
   generalize wa45.alloc (.cells #[] 39) = wb32 at hHeld hR hV ⊢
   refine one_ (i := 4) (N := some 36) #[true, true, true, true, true, true, true, true, false, true, true, true, true, true, false, false, false] rfl rfl (by kernel_rfl) (by decide) (fun K hK => ?_)
   refine appRows (w0 := wo) wo.heap.size (by rfl) (.tmp 32) (.tmp 35) rfl (.slice (some ⟨wa45.heap.size, 0, none⟩) 0 0 : Value) [] (l.drop k) Ad (l.length - k) cd rfl rfl hR (Kd.C_below HCo.out.2 hHeld) hHeld hHeld.size (by first | omega | (simp; omega)) ?_
   intro v36 wc36 hR' hB' hg hat
   have hne' : some wz.heap.size ≠ v36.ownBlock := by
    rcases hat with e | ⟨b, e, hb⟩
    ·rw [e]; exact hne
    ·rw [e]; have := hV.lt; simp only [ne_eq, Option.some.injEq]; omega
   replace hV : Has wc36 wz.heap.size v.arr 39 := (hg.block _ hV.lt hne).trans hV
   clear hne
   have hne := hne'
   clear hne'
   clear hR hg hat
   have hR := hR'
   clear hR'
   rw [List.nil_append] at hR
   refine hK.out _ _ hB' (fun hHeld => ?_)
   clear hK K
   refine norm_ (a' := ?_) ?_ ?_
   rotate_left
   ·show Act.put _ (some 36) _ = _
    simp only [Act.put, List.setIfInBounds_toArray, List.set_cons_zero, List.set_cons_succ, i64_w, i32_w]
    rfl
   clear hB'
   refine one_ (i := 8) (N := some 40) #[true, true, true, true, true, true, true, true, true, true, true, true, true, true, false, false, false] rfl rfl (by kernel_rfl) (by decide) (fun K hK => ?_)
   refine appRows (w0 := wo) wo.heap.size (by rfl) (.tmp 36) (.tmp 39) rfl v36 (l.drop k) (l.take k) (some ⟨bl, ol, none⟩) k c rfl rfl hR (Kd.C_below HCo.out.1 hHeld) hHeld hHeld.size (by first | omega | (simp; omega)) ?_
   intro v40 wd40 hR' hB' hg hat
   have hne' : some wz.heap.size ≠ v40.ownBlock := by
    rcases hat with e | ⟨b, e, hb⟩
    ·rw [e]; exact hne
    ·rw [e]; have := hV.lt; simp only [ne_eq, Option.some.injEq]; omega
   replace hV : Has wd40 wz.heap.size v.arr 39 := (hg.block _ hV.lt hne).trans hV
   clear hne
   have hne := hne'
   clear hne'
   clear hR hg hat
   have hR := hR'
   clear hR'
   refine hK.out _ _ hB' (fun hHeld => ?_)
   clear hK K
   refine norm_ (a' := ?_) ?_ ?_
   rotate_left
   ·show Act.put _ (some 40) _ = _
    simp only [Act.put, List.setIfInBounds_toArray, List.set_cons_zero, List.set_cons_succ, i64_w, i32_w]
    rfl
   clear hB'
   refine one_ (i := 14) (N := some 46) #[true, true, true, true, true, true, true, true, true, true, true, true, true, true, true, false, false] rfl rfl (by kernel_rfl) (by decide) (fun K hK => ?_)
   refine appRows (w0 := wo) wo.heap.size (by rfl) (.tmp 40) (.tmp 45) rfl v40 ((l.drop k) ++ (l.take k)) [v] (some ⟨wz.heap.size, 0, none⟩) 1 1 rfl rfl hR (C_one hV) hHeld hHeld.size (by first | omega | (simp; omega)) ?_
   intro v46 we46 hR' hB' hg hat
   clear hR hg hat
   have hR := hR'
   clear hR'
   refine hK.out _ _ hB' (fun hHeld => ?_)
   clear hK K
   refine norm_ (a' := ?_) ?_ ?_
   rotate_left
   ·show Act.put _ (some 46) _ = _
    simp only [Act.put, List.setIfInBounds_toArray, List.set_cons_zero, List.set_cons_succ, i64_w, i32_w]
    rfl
   clear hB'
   obtain ⟨A9, c9, e9, hc9, hC9⟩ := Kd.R_reads hR
   subst e9
   refine one_ (i := 15) (N := some 47) #[true, true, true, true, true, true, true, true, true, true, true, true, true, true, true, true, false] rfl rfl (by kernel_rfl) (by decide) (fun K hK => ?_)
   refine goes_ Try.func8 (by kernel_rfl) rfl #[.slice A9 (l.drop k ++ l.take k ++ [v]).length c9] (by rfl) rfl rfl (by (try simp only [List.map_toArray, List.map_cons, List.map_nil]); first | done | rfl) ?_
   refine (newL A9 c9 (l.drop k ++ l.take k ++ [v]) _ hC9 (by omega)).mono ?_
   rintro e w9 ⟨t2, rfl, hT9, hB9⟩
   refine ⟨_, rfl, ?_⟩
   refine hK.out _ _ (hHeld.trans (hB9.mono hHeld.size)) (fun hHeld => ?_)
   clear hK K
   refine norm_ (a' := ?_) ?_ ?_
   rotate_left
   ·show Act.put _ (some 47) _ = _
    simp only [Act.put, List.setIfInBounds_toArray, List.set_cons_zero, List.set_cons_succ, i64_w, i32_w]
    rfl
   exact hJ (_, _, _, _, _, t2) _ ⟨hHeld, hT9⟩
 rintro ⟨x1, x2, x3, x4, x5, t2⟩ w5 ⟨hHeld, hT5⟩
 simp only [putAll, Act.put, List.setIfInBounds_toArray, List.set_cons_zero, List.set_cons_succ, i64_w, i32_w]
 replace hT5 := Lib.hid hT5
 refine pure_ (i := 16) (N := some 10) (v := ?_) (a' := ?_) #[true, true, true, true, true, true, true, true, true, true, true, true, true, true, true, true, true] rfl rfl (by kernel_rfl) (fun _ _ _ h => h) (Or.inl ⟨by rfl, ?_⟩) ?_ ?_
 rotate_left
 ·intro w'
  go_simp
  with_reducible rfl
 rotate_left
 ·simp only [Act.put, List.setIfInBounds_toArray, List.set_cons_zero, List.set_cons_succ, i64_w, i32_w]
  rfl
 refine done_ (by kernel_rfl) ?_
 clear hi1 hdr htk HCo
 have HT6 : Hid (T2 w w.heap.size t1 t2 l (l.drop k ++ l.take k ++ [v]) p w5) := Lib.hid ⟨HP3.out.below hHeld, HT3.out.below hHeld, hT5.out, HB3.out.trans (hHeld.mono HB3.out.size)⟩
 clear hHeld hT5 HT3 HP3 HB3 Q0
 generalize hl2 : l.drop k ++ l.take k ++ [v] = l2 at HCV HRW HT6 hlen2
 clear hl2
 obtain ⟨n1, hn1⟩ : ∃ n, n = (rowP l).length := ⟨_, rfl⟩
 obtain ⟨r, hr⟩ : ∃ r, r = answerP (coversP l p) p 1 := ⟨_, rfl⟩
 have HN1 := Lib.hid hn1
 have HR := Lib.hid hr
 have hcl : (coversP l p).length ≤ l.length := Nat.le_trans (List.length_filter_le _ _) (by rw [← acc_row_len]; exact acc_len l)
 clear hn1 hr
 go_wp2
 refine start_ (n := 8) (S := T2 w w.heap.size t1 t2 l l2 p) (ds := []) #[false, false, false, false, false, false, false, false] (by kernel_rfl) rfl rfl (HT6.out.step (show Below w5.heap.size w5 w5.drew from (Below.refl _ _).drew)) (fun hHeld => ?_)
 refine pure_ (i := 0) (N := some 54) (v := ?_) (a' := ?_) #[true, false, false, false, false, false, false, false] rfl rfl (by kernel_rfl) (fun _ _ _ h => h) (Or.inl ⟨by rfl, ?_⟩) ?_ ?_
 rotate_left
 ·intro w'
  go_simp
  with_reducible rfl
 rotate_left
 ·simp only [Act.put, List.setIfInBounds_toArray, List.set_cons_zero, List.set_cons_succ, i64_w, i32_w]
  rfl
 refine pure_ (i := 3) (N := some 57) (v := ?_) (a' := ?_) #[true, false, false, true, false, false, false, false] rfl rfl (by kernel_rfl) (fun _ _ _ h => h) (Or.inl ⟨by rfl, ?_⟩) ?_ ?_
 rotate_left
 ·intro w'
  go_simp
  with_reducible rfl
 rotate_left
 ·simp only [Act.put, List.setIfInBounds_toArray, List.set_cons_zero, List.set_cons_succ, i64_w, i32_w]
  rfl
 refine take_ (i := 1) (N := some 55) (v := .agg p.arr) (a' := ?_) #[true, true, false, true, false, false, false, false] rfl rfl (by kernel_rfl) (fun _ _ _ h => h) ?_ hHeld ?_ ?_
 ·exact yP (by rfl) rfl p w.heap.size 0 rfl (fun W h => h.1.rp)
 rotate_left
 ·simp only [Act.put, List.setIfInBounds_toArray, List.set_cons_zero, List.set_cons_succ, i64_w, i32_w]
  rfl
 refine take_ (i := 4) (N := some 58) (v := .agg p.arr) (a' := ?_) #[true, true, false, true, true, false, false, false] rfl rfl (by kernel_rfl) (fun _ _ _ h => h) ?_ hHeld ?_ ?_
 ·exact yP (by rfl) rfl p w.heap.size 0 rfl (fun W h => h.1.rp)
 rotate_left
 ·simp only [Act.put, List.setIfInBounds_toArray, List.set_cons_zero, List.set_cons_succ, i64_w, i32_w]
  rfl
 refine one_ (i := 2) (N := some 56) #[true, true, true, true, true, false, false, false] rfl rfl (by kernel_rfl) (by decide) (fun K hK => ?_)
 refine goes_ Try.func10 (by kernel_rfl) rfl #[.pointer (some ⟨t1, 0, none⟩), .agg p.arr] (by rfl) rfl rfl (by (try simp only [List.map_toArray, List.map_cons, List.map_nil]); first | done | rfl) ?_
 refine (coversL hHeld.2.1 (by first | omega | (simp; omega)) p).mono ?_
 rintro e w7 ⟨A1, c1, rfl, hc1, hC1, hB⟩
 refine ⟨_, rfl, ?_⟩
 have HC1' := Lib.hid hC1
 clear hc1 hC1
 refine hK.out _ _ (T2.step hHeld hB) (fun hHeld => ?_)
 clear hK K
 refine norm_ (a' := ?_) ?_ ?_
 rotate_left
 ·show Act.put _ (some 56) _ = _
  simp only [Act.put, List.setIfInBounds_toArray, List.set_cons_zero, List.set_cons_succ, i64_w, i32_w]
  rfl
 refine one_ (i := 5) (N := some 59) #[true, true, true, true, true, true, false, false] rfl rfl (by kernel_rfl) (by decide) (fun K hK => ?_)
 refine goes_ Try.func10 (by kernel_rfl) rfl #[.pointer (some ⟨t2, 0, none⟩), .agg p.arr] (by rfl) rfl rfl (by (try simp only [List.map_toArray, List.map_cons, List.map_nil]); first | done | rfl) ?_
 have hcc := coversL hHeld.2.2.1 (by first | omega | (simp; omega)) p
 rw [HCV.out] at hcc
 refine hcc.mono ?_
 clear hcc
 rintro e w8 ⟨A2, c2, rfl, hc2, hC2, hB⟩
 refine ⟨_, rfl, ?_⟩
 have HC2' := Lib.hid (And.intro hC2 (Kd.C_below HC1'.out hB))
 clear hc2 hC2
 refine hK.out _ _ (T2.step hHeld hB) (fun hHeld => ?_)
 clear hK K
 refine norm_ (a' := ?_) ?_ ?_
 rotate_left
 ·show Act.put _ (some 59) _ = _
  simp only [Act.put, List.setIfInBounds_toArray, List.set_cons_zero, List.set_cons_succ, i64_w, i32_w]
  rfl
 refine one_ (i := 6) (N := some 60) #[true, true, true, true, true, true, true, false] rfl rfl (by kernel_rfl) (by decide) (fun K hK => ?_)
 refine goes_ Try.func9 (by kernel_rfl) rfl #[.slice A1 (coversP l p).length c1, .slice A2 (coversP l p).length c2] (by rfl) rfl rfl (by (try simp only [List.map_toArray, List.map_cons, List.map_nil]); first | done | rfl) ?_
 refine (same_walk A1 c1 (coversP l p) A2 c2 (coversP l p) _ HC2'.out.2 HC2'.out.1 (by omega) (by omega)).mono ?_
 rintro e w9 ⟨rfl, hG⟩
 rw [show sameL (coversP l p) (coversP l p) = true from decide_eq_true rfl]
 refine ⟨_, rfl, ?_⟩
 refine hK.out _ _ (T2.step hHeld hG.below) (fun hHeld => ?_)
 clear hK K
 refine norm_ (a' := ?_) ?_ ?_
 rotate_left
 ·show Act.put _ (some 60) _ = _
  simp only [Act.put, List.setIfInBounds_toArray, List.set_cons_zero, List.set_cons_succ, i64_w, i32_w]
  rfl
 refine pure_ (i := 7) (N := some 11) (v := ?_) (a' := ?_) #[true, true, true, true, true, true, true, true] rfl rfl (by kernel_rfl) (fun _ _ _ h => h) (Or.inl ⟨by rfl, ?_⟩) ?_ ?_
 rotate_left
 ·intro w'
  go_simp
  with_reducible rfl
 rotate_left
 ·simp only [Act.put, List.setIfInBounds_toArray, List.set_cons_zero, List.set_cons_succ, i64_w, i32_w]
  rfl
 refine done_ (by kernel_rfl) ?_
 have HT9 := Lib.hid hHeld
 clear hHeld HT6 HC1' HC2'
 go_wp2
 refine start_ (n := 21) (S := T2 w w.heap.size t1 t2 l l2 p) (ds := []) #[false, false, false, false, false, false, false, false, false, false, false, false, false, false, false, false, false, false, false, false, false] (by kernel_rfl) rfl rfl (HT9.out.step (show Below w9.heap.size w9 w9.drew from (Below.refl _ _).drew)) (fun hHeld => ?_)
 refine pure_ (i := 0) (N := some 61) (v := ?_) (a' := ?_) #[true, false, false, false, false, false, false, false, false, false, false, false, false, false, false, false, false, false, false, false, false] rfl rfl (by kernel_rfl) (fun _ _ _ h => h) (Or.inl ⟨by rfl, ?_⟩) ?_ ?_
 rotate_left
 ·intro w'
  go_simp
  with_reducible rfl
 rotate_left
 ·simp only [Act.put, List.setIfInBounds_toArray, List.set_cons_zero, List.set_cons_succ, i64_w, i32_w]
  rfl
 refine pure_ (i := 1) (N := some 62) (v := ?_) (a' := ?_) #[true, true, false, false, false, false, false, false, false, false, false, false, false, false, false, false, false, false, false, false, false] rfl rfl (by kernel_rfl) (fun _ _ _ h => h) (Or.inl ⟨by rfl, ?_⟩) ?_ ?_
 rotate_left
 ·intro w'
  go_simp
  with_reducible rfl
 rotate_left
 ·simp only [Act.put, List.setIfInBounds_toArray, List.set_cons_zero, List.set_cons_succ, i64_w, i32_w]
  rfl
 refine pure_ (i := 2) (N := some 63) (v := ?_) (a' := ?_) #[true, true, true, false, false, false, false, false, false, false, false, false, false, false, false, false, false, false, false, false, false] rfl rfl (by kernel_rfl) (fun _ _ _ h => h) (Or.inl ⟨by rfl, ?_⟩) ?_ ?_
 rotate_left
 ·intro w'
  go_simp
  with_reducible rfl
 rotate_left
 ·simp only [Act.put, List.setIfInBounds_toArray, List.set_cons_zero, List.set_cons_succ, i64_w, i32_w]
  rfl
 refine pure_ (i := 3) (N := some 64) (v := ?_) (a' := ?_) #[true, true, true, true, false, false, false, false, false, false, false, false, false, false, false, false, false, false, false, false, false] rfl rfl (by kernel_rfl) (fun _ _ _ h => h) (Or.inl ⟨by rfl, ?_⟩) ?_ ?_
 rotate_left
 ·intro w'
  go_simp
  with_reducible rfl
 rotate_left
 ·simp only [Act.put, List.setIfInBounds_toArray, List.set_cons_zero, List.set_cons_succ, i64_w, i32_w]
  rfl
 refine pure_ (i := 4) (N := some 65) (v := ?_) (a' := ?_) #[true, true, true, true, true, false, false, false, false, false, false, false, false, false, false, false, false, false, false, false, false] rfl rfl (by kernel_rfl) (fun _ _ _ h => h) (Or.inl ⟨by rfl, ?_⟩) ?_ ?_
 rotate_left
 ·intro w'
  go_simp
  with_reducible rfl
 rotate_left
 ·simp only [Act.put, List.setIfInBounds_toArray, List.set_cons_zero, List.set_cons_succ, i64_w, i32_w]
  rfl
 refine pure_ (i := 5) (N := some 66) (v := ?_) (a' := ?_) #[true, true, true, true, true, true, false, false, false, false, false, false, false, false, false, false, false, false, false, false, false] rfl rfl (by kernel_rfl) (fun _ _ _ h => h) (Or.inl ⟨by rfl, ?_⟩) ?_ ?_
 rotate_left
 ·intro w'
  go_simp
  with_reducible rfl
 rotate_left
 ·simp only [Act.put, List.setIfInBounds_toArray, List.set_cons_zero, List.set_cons_succ, i64_w, i32_w]
  rfl
 refine pure_ (i := 7) (N := some 68) (v := ?_) (a' := ?_) #[true, true, true, true, true, true, false, true, false, false, false, false, false, false, false, false, false, false, false, false, false] rfl rfl (by kernel_rfl) (fun _ _ _ h => h) (Or.inl ⟨by rfl, ?_⟩) ?_ ?_
 rotate_left
 ·intro w'
  go_simp
  with_reducible rfl
 rotate_left
 ·simp only [Act.put, List.setIfInBounds_toArray, List.set_cons_zero, List.set_cons_succ, i64_w, i32_w]
  rfl
 refine one_ (i := 6) (N := some 67) #[true, true, true, true, true, true, true, true, false, false, false, false, false, false, false, false, false, false, false, false, false] rfl rfl (by kernel_rfl) (by decide) (fun K hK => ?_)
 refine goes_ Try.func14 (by kernel_rfl) rfl #[.pointer (some ⟨t1, 0, none⟩)] (by rfl) rfl rfl (by (try simp only [List.map_toArray, List.map_cons, List.map_nil]); first | done | rfl) ?_
 refine (lenL hHeld.2.1).mono ?_
 rintro e w10 ⟨rfl, hw⟩
 rw [hw, ← HN1.out]
 refine ⟨_, rfl, ?_⟩
 refine hK.out _ _ hHeld (fun hHeld => ?_)
 clear hK K
 refine norm_ (a' := ?_) ?_ ?_
 rotate_left
 ·show Act.put _ (some 67) _ = _
  simp only [Act.put, List.setIfInBounds_toArray, List.set_cons_zero, List.set_cons_succ, i64_w, i32_w]
  rfl
 refine one_ (i := 8) (N := some 69) #[true, true, true, true, true, true, true, true, true, false, false, false, false, false, false, false, false, false, false, false, false] rfl rfl (by kernel_rfl) (by decide) (fun K hK => ?_)
 refine goes_ Try.func14 (by kernel_rfl) rfl #[.pointer (some ⟨t2, 0, none⟩)] (by rfl) rfl rfl (by (try simp only [List.map_toArray, List.map_cons, List.map_nil]); first | done | rfl) ?_
 refine (lenL hHeld.2.2.1).mono ?_
 rintro e w11 ⟨rfl, hw⟩
 rw [hw, HRW.out, ← HN1.out]
 refine ⟨_, rfl, ?_⟩
 refine hK.out _ _ hHeld (fun hHeld => ?_)
 clear hK K
 refine norm_ (a' := ?_) ?_ ?_
 rotate_left
 ·show Act.put _ (some 69) _ = _
  simp only [Act.put, List.setIfInBounds_toArray, List.set_cons_zero, List.set_cons_succ, i64_w, i32_w]
  rfl
 refine pure_ (i := 9) (N := some 70) (v := ?_) (a' := ?_) #[true, true, true, true, true, true, true, true, true, true, false, false, false, false, false, false, false, false, false, false, false] rfl rfl (by kernel_rfl) (fun _ _ _ h => h) (Or.inl ⟨by rfl, ?_⟩) ?_ ?_
 rotate_left
 ·intro w'
  go_simp
  with_reducible rfl
 rotate_left
 ·simp only [Act.put, List.setIfInBounds_toArray, List.set_cons_zero, List.set_cons_succ, i64_w, i32_w]
  rfl
 refine pure_ (i := 10) (N := some 71) (v := ?_) (a' := ?_) #[true, true, true, true, true, true, true, true, true, true, true, false, false, false, false, false, false, false, false, false, false] rfl rfl (by kernel_rfl) (fun _ _ _ h => h) (Or.inl ⟨by rfl, ?_⟩) ?_ ?_
 rotate_left
 ·intro w'
  go_simp
  with_reducible rfl
 rotate_left
 ·simp only [Act.put, List.setIfInBounds_toArray, List.set_cons_zero, List.set_cons_succ, i64_w, i32_w]
  rfl
 refine pure_ (i := 11) (N := some 72) (v := ?_) (a' := ?_) #[true, true, true, true, true, true, true, true, true, true, true, true, false, false, false, false, false, false, false, false, false] rfl rfl (by kernel_rfl) (fun _ _ _ h => h) (Or.inl ⟨by rfl, ?_⟩) ?_ ?_
 rotate_left
 ·intro w'
  go_simp
  with_reducible rfl
 rotate_left
 ·simp only [Act.put, List.setIfInBounds_toArray, List.set_cons_zero, List.set_cons_succ, i64_w, i32_w]
  rfl
 refine pure_ (i := 12) (N := some 73) (v := ?_) (a' := ?_) #[true, true, true, true, true, true, true, true, true, true, true, true, true, false, false, false, false, false, false, false, false] rfl rfl (by kernel_rfl) (fun _ _ _ h => h) (Or.inl ⟨by rfl, ?_⟩) ?_ ?_
 rotate_left
 ·intro w'
  go_simp
  with_reducible rfl
 rotate_left
 ·simp only [Act.put, List.setIfInBounds_toArray, List.set_cons_zero, List.set_cons_succ, i64_w, i32_w]
  rfl
 refine pure_ (i := 15) (N := some 76) (v := ?_) (a' := ?_) #[true, true, true, true, true, true, true, true, true, true, true, true, true, false, false, true, false, false, false, false, false] rfl rfl (by kernel_rfl) (fun _ _ _ h => h) (Or.inl ⟨by rfl, ?_⟩) ?_ ?_
 rotate_left
 ·intro w'
  go_simp
  with_reducible rfl
 rotate_left
 ·simp only [Act.put, List.setIfInBounds_toArray, List.set_cons_zero, List.set_cons_succ, i64_w, i32_w]
  rfl
 refine take_ (i := 13) (N := some 74) (v := .agg p.arr) (a' := ?_) #[true, true, true, true, true, true, true, true, true, true, true, true, true, true, false, true, false, false, false, false, false] rfl rfl (by kernel_rfl) (fun _ _ _ h => h) ?_ hHeld ?_ ?_
 ·exact yP (by rfl) rfl p w.heap.size 0 rfl (fun W h => h.1.rp)
 rotate_left
 ·simp only [Act.put, List.setIfInBounds_toArray, List.set_cons_zero, List.set_cons_succ, i64_w, i32_w]
  rfl
 refine take_ (i := 16) (N := some 77) (v := .agg p.arr) (a' := ?_) #[true, true, true, true, true, true, true, true, true, true, true, true, true, true, false, true, true, false, false, false, false] rfl rfl (by kernel_rfl) (fun _ _ _ h => h) ?_ hHeld ?_ ?_
 ·exact yP (by rfl) rfl p w.heap.size 0 rfl (fun W h => h.1.rp)
 rotate_left
 ·simp only [Act.put, List.setIfInBounds_toArray, List.set_cons_zero, List.set_cons_succ, i64_w, i32_w]
  rfl
 refine one_ (i := 14) (N := some 75) #[true, true, true, true, true, true, true, true, true, true, true, true, true, true, true, true, true, false, false, false, false] rfl rfl (by kernel_rfl) (by decide) (fun K hK => ?_)
 refine goes_ Try.func12 (by kernel_rfl) rfl #[.pointer (some ⟨t1, 0, none⟩), .agg p.arr, .int .u32 1] (by rfl) rfl rfl (by (try simp only [List.map_toArray, List.map_cons, List.map_nil]); first | done | rfl) ?_
 refine (answerL hHeld.2.1 (by first | omega | (simp; omega)) p 1).mono ?_
 rintro e w12 ⟨rfl, hB⟩
 rw [← HR.out]
 refine ⟨_, rfl, ?_⟩
 refine hK.out _ _ (T2.step hHeld hB) (fun hHeld => ?_)
 clear hK K
 refine norm_ (a' := ?_) ?_ ?_
 rotate_left
 ·show Act.put _ (some 75) _ = _
  simp only [Act.put, List.setIfInBounds_toArray, List.set_cons_zero, List.set_cons_succ, i64_w, i32_w]
  rfl
 refine one_ (i := 17) (N := some 78) #[true, true, true, true, true, true, true, true, true, true, true, true, true, true, true, true, true, true, false, false, false] rfl rfl (by kernel_rfl) (by decide) (fun K hK => ?_)
 refine goes_ Try.func12 (by kernel_rfl) rfl #[.pointer (some ⟨t2, 0, none⟩), .agg p.arr, .int .u32 1] (by rfl) rfl rfl (by (try simp only [List.map_toArray, List.map_cons, List.map_nil]); first | done | rfl) ?_
 refine (answerL hHeld.2.2.1 (by first | omega | (simp; omega)) p 1).mono ?_
 rintro e w13 ⟨rfl, hB⟩
 rw [HCV.out, ← HR.out]
 refine ⟨_, rfl, ?_⟩
 refine hK.out _ _ (T2.step hHeld hB) (fun hHeld => ?_)
 clear hK K
 refine norm_ (a' := ?_) ?_ ?_
 rotate_left
 ·show Act.put _ (some 78) _ = _
  simp only [Act.put, List.setIfInBounds_toArray, List.set_cons_zero, List.set_cons_succ, i64_w, i32_w]
  rfl
 refine pure_ (i := 18) (N := some 79) (v := ?_) (a' := ?_) #[true, true, true, true, true, true, true, true, true, true, true, true, true, true, true, true, true, true, true, false, false] rfl rfl (by kernel_rfl) (fun _ _ _ h => h) (Or.inl ⟨by rfl, ?_⟩) ?_ ?_
 rotate_left
 ·intro w'
  go_simp
  with_reducible rfl
 rotate_left
 ·simp only [Act.put, List.setIfInBounds_toArray, List.set_cons_zero, List.set_cons_succ, i64_w, i32_w]
  rfl
 refine pure_ (i := 19) (N := some 80) (v := ?_) (a' := ?_) #[true, true, true, true, true, true, true, true, true, true, true, true, true, true, true, true, true, true, true, true, false] rfl rfl (by kernel_rfl) (fun _ _ _ h => h) (Or.inl ⟨by rfl, ?_⟩) ?_ ?_
 rotate_left
 ·intro w'
  go_simp
  with_reducible rfl
 rotate_left
 ·simp only [Act.put, List.setIfInBounds_toArray, List.set_cons_zero, List.set_cons_succ, i64_w, i32_w]
  rfl
 refine pure_ (i := 20) (N := some 6) (v := ?_) (a' := ?_) #[true, true, true, true, true, true, true, true, true, true, true, true, true, true, true, true, true, true, true, true, true] rfl rfl (by kernel_rfl) (fun _ _ _ h => h) (Or.inl ⟨by rfl, ?_⟩) ?_ ?_
 rotate_left
 ·intro w'
  go_simp
  with_reducible rfl
 rotate_left
 ·simp only [Act.put, List.setIfInBounds_toArray, List.set_cons_zero, List.set_cons_succ, i64_w, i32_w]
  rfl
 refine done_ (by kernel_rfl) ?_
 go_wp2
 go_ret
 exact ⟨rfl, hHeld.2.2.2⟩

end Go.Proofs.Ytllahlgnjeeliaa.Ad
end

section
set_option linter.unusedVariables false
set_option linter.unusedSimpArgs false
namespace Go.Proofs.Ytllahlgnjeeliaa.Ad
open Go.ChangeShapes Go.WideShapes Go.Deep Go.RowKit Go.Proofs.YtllahlgnjeeliaaW.PrintWords Go.Proofs.YtllahlgnjeeliaaW.PrintLast Go.Proofs.YtllahlgnjeeliaaW.PrintMore Go.Proofs.Ytllahlgnjeeliaa.PT

theorem listedV {α : Type} {Q : Nat → α → Prop} : ∀ (n : Nat), (∀ i, i < n → ∃ x, Q i x) → ∃ l : List α, l.length = n ∧ ∀ i x, l[i]? = some x → Q i x
 | 0, _ => ⟨[], rfl, fun i x h => by simp at h⟩
 | n + 1, h => by
  obtain ⟨l, hl, hq⟩ := listedV n (fun i hi => h i (by omega))
  obtain ⟨x, hx⟩ := h n (by omega)
  refine ⟨l ++ [x], by simp [hl], fun i y hy => ?_⟩
  by_cases hi : i < n
  ·rw [List.getElem?_append_left (by omega)] at hy
   exact hq i y hy
  ·rw [List.getElem?_append_right (by omega)] at hy
   have : i - l.length = 0 := by
    by_cases h0 : i - l.length = 0
    ·exact h0
    ·rw [List.getElem?_eq_none (by simp; omega)] at hy
     cases hy
   rw [this] at hy
   simp at hy
   subst hy
   rw [show i = n by omega]
   exact hx
section
variable {H : Type} {enc : TypeId × Value → H} {w : World} {base : Nat} {held : Bool}
set_option maxRecDepth 100000 in
theorem openA_f {fuel : Nat} {cs : List Value} {x : DataW H × List MemPlace} (h : DataW.trod enc Try.prog w base (fun _ => true) held fuel 23 cs = some x) :
 ∃ a : A16, cs = a.cells := by
 obtain ⟨xs, n, hn, _, hl, hlen, hf⟩ := DataW.trod_array Try.underlying23 h
 have hl : cs.length = 16 := hl
 have c1 : Try.prog.cellsOf 5 = 1 := by kernel_rfl
 rw [c1] at hf
 obtain ⟨l, hll, hq⟩ := listedV (Q := fun i (m : Int) => (cs.drop (i * 1)).take 1 = [.int .u8 m] ∧ (Lit.int .u8 m).wf = true) 16 (fun i hi => by
  have hi' := hf i hi
  rw [List.getElem?_eq_getElem (by omega)] at hi'
  obtain ⟨m, e, _, b⟩ := DataW.trod_int Try.underlying5 hi'
  exact ⟨m, e, b⟩)
 refine ⟨⟨l, hll, fun x hx => ?_⟩, ?_⟩
 ·obtain ⟨j, hj⟩ := List.mem_iff_getElem?.1 hx
  have := (hq j x hj).2
  simp [Lit.wf, IntKind.min, IntKind.max, IntKind.signed, IntKind.bits] at this
  omega
 ·apply List.ext_getElem
  ·rw [hl, A16.cells_len]
  ·intro i h1 h2
   have := (hq i l[i] (List.getElem?_eq_getElem (by omega))).1
   rw [Nat.mul_one, List.drop_eq_getElem_cons h1, List.take_succ_cons, List.take_zero] at this
   injection this with this
   rw [this]
   simp [A16.cells]
set_option maxRecDepth 100000 in
theorem openP_f {fuel : Nat} {cs : List Value} {x : DataW H × List MemPlace} (h : DataW.trod enc Try.prog w base (fun _ => true) held fuel 25 cs = some x) :
 ∃ p : Pfx, cs = p.cells ∧ (Lit.int .i64 p.n).wf = true := by
 obtain ⟨xs, n, hn, _, hl, hlen, hf⟩ := DataW.trod_struct Try.underlying25 h
 have hl : cs.length = 18 := hl
 match xs, hlen with
 | [y0, y1, y2], _ =>
 have h0 := hf 0 _ rfl
 have h1 := hf 1 _ rfl
 have h2 := hf 2 _ rfl
 replace h0 : DataW.trod enc Try.prog w base (fun _ => true) held n 4 (cs.take 1) = some y0 := h0
 replace h1 : DataW.trod enc Try.prog w base (fun _ => true) held n 23 ((cs.drop 1).take 16) = some y1 := h1
 replace h2 : DataW.trod enc Try.prog w base (fun _ => true) held n 3 ((cs.drop 17).take 1) = some y2 := h2
 obtain ⟨b, e0, _⟩ := DataW.trod_bool Try.underlying4 h0
 obtain ⟨a, e1⟩ := openA_f h1
 obtain ⟨m, e2, _, wf⟩ := DataW.trod_int Try.underlying3 h2
 refine ⟨⟨b, a, m⟩, ?_, wf⟩
 have k1 : cs = cs.take 1 ++ ((cs.drop 1).take 16 ++ (cs.drop 17).take 1) := by
  rw [List.take_of_length_le (l := cs.drop 17) (by simp; omega), show cs.drop 17 = (cs.drop 1).drop 16 by rw [List.drop_drop], List.take_append_drop, List.take_append_drop]
 rw [k1, e0, e1, e2]
 rfl
set_option maxRecDepth 100000 in
theorem openW_f {fuel : Nat} {cs : List Value} {x : DataW H × List MemPlace} (h : DataW.trod enc Try.prog w base (fun _ => true) held fuel 39 cs = some x) :
 ∃ v : Vrp, cs = v.cells := by
 obtain ⟨xs, n, hn, _, hl, hlen, hf⟩ := DataW.trod_struct Try.underlying39 h
 have hl : cs.length = 20 := hl
 match xs, hlen with
 | [y0, y1, y2], _ =>
 have h0 := hf 0 _ rfl
 have h1 := hf 1 _ rfl
 have h2 := hf 2 _ rfl
 replace h0 : DataW.trod enc Try.prog w base (fun _ => true) held n 26 (cs.take 1) = some y0 := h0
 replace h1 : DataW.trod enc Try.prog w base (fun _ => true) held n 25 ((cs.drop 1).take 18) = some y1 := h1
 replace h2 : DataW.trod enc Try.prog w base (fun _ => true) held n 3 ((cs.drop 19).take 1) = some y2 := h2
 obtain ⟨b, e0, _, _⟩ := DataW.trod_int Try.underlying26 h0
 obtain ⟨p, e1, _⟩ := openP_f h1
 obtain ⟨m, e2, _, wf⟩ := DataW.trod_int Try.underlying3 h2
 refine ⟨⟨b, p, m⟩, ?_⟩
 have k1 : cs = cs.take 1 ++ ((cs.drop 1).take 18 ++ (cs.drop 19).take 1) := by
  rw [List.take_of_length_le (l := cs.drop 19) (by simp; omega), show cs.drop 19 = (cs.drop 1).drop 18 by rw [List.drop_drop], List.take_append_drop, List.take_append_drop]
 rw [k1, e0, e1, e2]
 rfl
/-- A prefix that came in. -/
theorem openP {r : Reach} {b0 : Nat} {v : Value} {d : DataW H} {p : List MemPlace} (hv : Value.okWide Try.prog w r b0 25 v) (h : DataW.Trod enc Try.prog w base (fun _ => true) held 25 v d p) :
 ∃ p : Pfx, v = .agg p.arr := by
 obtain ⟨cs, rfl, hsz⟩ := okWide_struct Try.underlying25 hv
 obtain ⟨fuel, hf⟩ := h
 obtain ⟨p, e, _⟩ := openP_f hf
 obtain ⟨l⟩ := cs
 have e : l = p.cells := e
 exact ⟨p, by rw [e]; rfl⟩
set_option maxRecDepth 100000 in
/-- A row that came in. -/
theorem openV {r : Reach} {b0 : Nat} {v : Value} {d : DataW H} {p : List MemPlace} {ts : List TypeId} {ds : List (DataW H)} {j : Nat}
 (hsz : (DataW.weightsEach Try.prog ts ds).all (· ≤ reachBytes) = true) (ht : ts[j]? = some 22) (hd : ds[j]? = some d)
 (hv : Value.okWide Try.prog w r b0 22 v) (h : DataW.Trod enc Try.prog w base (fun _ => true) held 22 v d p) :
 ∃ (A : Option Addr) (c : Nat) (l : List Vrp), v = .slice A l.length c ∧ kV.C w A l.length l ∧ l.length ≤ c ∧ l.length * 48 ≤ 140737488351232 := by
 obtain ⟨a, len, cap, rfl⟩ := okWide_slice Try.underlying22 hv
 obtain ⟨fuel, hf⟩ := h
 rcases DataW.trod_slice Try.underlying22 hf with ⟨hcs, _⟩ | ⟨a', len', cap', elems, rest, n2, hn2, hcs, hx, _, hle, hm, hel, hget, _, _⟩
 ·simp [Value.cells] at hcs
  obtain ⟨rfl, rfl, rfl⟩ := hcs
  exact ⟨none, 0, [], rfl, ⟨rfl, by simp, fun h => absurd rfl (Nat.ne_of_gt h)⟩, Nat.le_refl _, by simp⟩
 ·simp [Value.cells] at hcs
  obtain ⟨rfl, rfl, rfl⟩ := hcs
  obtain ⟨hx, _⟩ := Prod.mk.inj hx
  subst hx
  have z := sized_slice hsz ht hd Try.underlying22
  have hB : Try.prog.bytesOf 39 = 48 := by kernel_rfl
  rw [hB] at z
  obtain ⟨l, hl, hq⟩ := listedV (Q := fun i (s : Vrp) => w.cells? base (a'.add (i * Try.prog.cellsOf 39)) (Try.prog.cellsOf 39) = some s.cells) len (fun i hil => by
   have hi := hget i hil
   rw [List.getElem?_eq_getElem (by omega)] at hi
   obtain ⟨cs', g1, g2⟩ := Option.bind_eq_some_iff.1 hi
   obtain ⟨s, e⟩ := openW_f g2
   exact ⟨s, e ▸ g1⟩)
  subst hl
  have hC : Try.prog.cellsOf 39 = 20 := by kernel_rfl
  rw [hC] at hq
  refine ⟨some a', cap, l, rfl, ⟨rfl, (by have h9 : maxLen ≤ 9223372036854775807 := (by decide); show l.length ≤ 9223372036854775807; omega), fun _ => ⟨a', rfl, fun j s hj => ?_⟩⟩, hle, ?_⟩
  ·obtain ⟨_, _, hat⟩ := World.cells?_some (hq j s hj)
   refine ⟨s.cells, Vrp.cells_len _, rfl, fun i u hu => ?_⟩
   have hi : i < 20 := by
    by_cases h : i < 20
    ·exact h
    ·rw [List.getElem?_eq_none (by rw [Vrp.cells_len]; omega)] at hu; cases hu
   have := hat i hi
   rw [Go.Deep.add_add] at this
   exact this.trans hu
  ·have h1 : (elems.map (·.1)).length = l.length := by rw [List.length_map, hel]
   have h2 := Nat.le_trans (Nat.mul_le_mul_right 48 (Nat.le_add_right _ _)) z
   rw [h1] at h2
   exact h2
end
end Go.Proofs.Ytllahlgnjeeliaa.Ad
end
