/- Merged by a program of this session (wip/tools/pack.py). -/
import Derived.Test.YtllahlgnjeeliaaKTrieMore1
import Derived.Deep.Slices
import Derived.Deep.Fields
import Derived.ChangeSame
import Derived.OpenShut
import Derived.SizedLaws
section
set_option linter.unusedVariables false
set_option linter.unusedSimpArgs false
namespace Go.Proofs.Ytllahlgnjeeliaa.Ad
open Go.RowKit Go.Proofs.YtllahlgnjeeliaaW.PrintWords Go.Proofs.YtllahlgnjeeliaaW.PrintLast Go.Proofs.YtllahlgnjeeliaaW.PrintMore Go.Proofs.Ytllahlgnjeeliaa.PT

set_option maxHeartbeats 4000000 in
set_option maxRecDepth 100000 in
theorem more_any (A : Option Addr) (c : Nat) (l : List Vrp) (v : Vrp) (p : Pfx) (w : World) (hC : kV.C w A l.length l) (hl : l.length * 48 ≤ 140737488351232) :
 Calls Try.prog 4 #[.slice A l.length c, .agg v.arr, .agg p.arr] w fun e w' => e = .returned (.bool true) ∧ Below w.heap.size w w' := by
 have hHV := Has.new w v.arr 39
 have HV0 := Lib.hid (hHV.below ((Below.refl _ _).alloc (Nat.le_refl _) (.cells p.arr 25)))
 have hHP := Has.new (w.alloc (.cells v.arr 39)) p.arr 25
 rw [show (w.alloc (.cells v.arr 39)).heap.size = w.heap.size + 1 by simp] at hHP
 have HP0 := Lib.hid hHP
 have hB0 := (show Below w.heap.size w (w.alloc (.cells v.arr 39)) from (Below.refl _ _).alloc (Nat.le_refl _) _)
 have HB0 := Lib.hid (hB0.alloc hB0.size (.cells p.arr 25))
 clear hHV hB0 hHP
 have HC0 := Lib.hid (Kd.C_below hC HB0.out)
 clear hC
 go_enter Try.func4, Try.ntmps4
 go_upto_region 1 with (fail)
 generalize (w.alloc (.cells v.arr 39)).alloc (.cells p.arr 25) = W at HV0 HP0 HB0 HC0 ⊢
 go_wp2_with fail
 refine (awake_walk W).mono ?_
 rintro e w1 ⟨rfl, hB1⟩
 have HV1 := Lib.hid (HV0.out.below hB1)
 have HP1 := Lib.hid (HP0.out.below hB1)
 have HB1 := Lib.hid (HB0.out.trans (hB1.mono HB0.out.size))
 have HC1 := Lib.hid (Kd.C_below HC0.out hB1)
 clear hB1 HV0 HP0 HB0 HC0
 by_cases hlen : 200 < l.length
 ·have hd1 : decide (200 < l.length) = true := decide_eq_true hlen
  have hd2 : decide ((200 : Int) < (l.length : Int)) = true := decide_eq_true (by omega)
  go_wp2
  go_ret
  exact ⟨rfl, HB1.out⟩
 have hd1 : decide (200 < l.length) = false := decide_eq_false hlen
 have hd2 : decide ((200 : Int) < (l.length : Int)) = false := decide_eq_false (by omega)
 go_wp2_with fail
 clear hd1 hd2
 refine (newL A c l w1 HC1.out hl).mono ?_
 rintro e wo ⟨t1, rfl, hT, hB⟩
 have HT3 := Lib.hid hT
 have HV3 := Lib.hid (HV1.out.below hB)
 have HP3 := Lib.hid (HP1.out.below hB)
 have HB3 := Lib.hid (HB1.out.trans (hB.mono HB1.out.size))
 have HC3 := Lib.hid (Kd.C_below HC1.out hB)
 clear hB hT HV1 HP1 HB1 HC1
 go_wp2
 refine start_ (n := 8) (S := fun W => Below wo.heap.size wo W) (ds := []) #[false, false, false, false, false, false, false, false] (by kernel_rfl) rfl rfl (Below.refl _ _).drew (fun hHeld => ?_)
 refine pure_ (i := 1) (N := some 21) (v := ?_) (a' := ?_) #[false, true, false, false, false, false, false, false] rfl rfl (by kernel_rfl) (fun _ _ _ h => h) (Or.inl ⟨by rfl, ?_⟩) ?_ ?_
 rotate_left
 ·intro w'
  go_simp
  with_reducible rfl
 rotate_left
 ·simp only [Act.put, List.setIfInBounds_toArray, List.set_cons_zero, List.set_cons_succ, i64_w, i32_w]
  rfl
 refine take_ (i := 3) (N := some 23) (v := .agg v.arr) (a' := ?_) #[false, true, false, true, false, false, false, false] rfl rfl (by kernel_rfl) (fun _ _ _ h => h) ?_ hHeld ?_ ?_
 ·exact yV (by rfl) rfl v w.heap.size 0 rfl (fun W h => (HV3.out.below h).rv)
 rotate_left
 ·simp only [Act.put, List.setIfInBounds_toArray, List.set_cons_zero, List.set_cons_succ, i64_w, i32_w]
  rfl
 generalize wo.drew = wz at hHeld ⊢
 refine join_ (σ := Value × Value × Value × Value × Nat) 1 #[true, true, true, true, true, true, true, false] (fun s => [(20, s.1), (22, s.2.1), (24, s.2.2.1), (25, s.2.2.2.1), (26, .pointer (some ⟨s.2.2.2.2, 0, none⟩))]) (fun s W => Below wo.heap.size wo W ∧ TrieOf W s.2.2.2.2 (l ++ [v])) ?_ ?_
 rotate_left
 ·intro hJ
  simp only [putAll, Act.put, List.setIfInBounds_toArray, List.set_cons_zero, List.set_cons_succ, i64_w, i32_w] at hJ
  refine two_ (i := 0) (j := 4) (Ni := some 20) (Nj := some 24) #[true, true, false, true, false, false, false, false] #[false, true, false, true, true, false, false, false] rfl rfl rfl rfl (by kernel_rfl) (by decide) (by decide) (fun K hK => ?_) (fun K hK => ?_)
  ·refine event_step (by rfl) (v := .slice (some ⟨wz.heap.size, 0, none⟩) 0 0) (w1 := wz.alloc (.cells #[] 39)) (by go_simp; try rfl) ?_
   have hR := R_none wz wo.heap.size hHeld.size
   refine hK.out _ _ (hHeld.trans ((show Below wz.heap.size wz (wz.alloc (.cells #[] 39)) from ((Below.refl _ _).alloc (Nat.le_refl _) _)).mono hHeld.size)) (fun hHeld => ?_)
   clear hK K
   refine norm_ (a' := ?_) ?_ ?_
   rotate_left
   ·show Act.put _ (some 20) _ = _
    simp only [Act.put, List.setIfInBounds_toArray, List.set_cons_zero, List.set_cons_succ, i64_w, i32_w]
    rfl
   generalize wz.alloc (.cells #[] 39) = wa20 at hHeld hR ⊢
   refine two_ (i := 2) (j := 4) (Ni := some 22) (Nj := some 24) #[true, true, true, true, false, false, false, false] #[true, true, false, true, true, false, false, false] rfl rfl rfl rfl (by kernel_rfl) (by decide) (by decide) (fun K hK => ?_) (fun K hK => ?_)
   ·refine appRows (w0 := wo) wo.heap.size (by rfl) (.tmp 20) (.tmp 21) rfl (.slice (some ⟨wz.heap.size, 0, none⟩) 0 0 : Value) [] l A l.length c rfl rfl hR (Kd.C_below HC3.out hHeld) hHeld hHeld.size (by first | omega | (simp; omega)) ?_
    intro v22 wb22 hR' hB' hg hat
    clear hR hg hat
    have hR := hR'
    clear hR'
    rw [List.nil_append] at hR
    refine hK.out _ _ hB' (fun hHeld => ?_)
    clear hK K
    refine norm_ (a' := ?_) ?_ ?_
    rotate_left
    ·show Act.put _ (some 22) _ = _
     simp only [Act.put, List.setIfInBounds_toArray, List.set_cons_zero, List.set_cons_succ, i64_w, i32_w]
     rfl
    clear hB'
    refine one_ (i := 4) (N := some 24) #[true, true, true, true, true, false, false, false] rfl rfl (by kernel_rfl) (by decide) (fun K hK => ?_)
    refine event_step (by rfl) (v := .slice (some ⟨wb22.heap.size, 0, none⟩) 1 1) (w1 := wb22.alloc (.cells v.arr 39)) (exec_buildV v rfl _) ?_
    have hne : some wb22.heap.size ≠ v22.ownBlock := fun e => absurd (R_own hR _ e.symm) (Nat.lt_irrefl _)
    replace hR := Kd.R_below hR (show Below wb22.heap.size wb22 (wb22.alloc (.cells v.arr 39)) from ((Below.refl _ _).alloc (Nat.le_refl _) _))
    have hV := Has.new wb22 v.arr 39
    refine hK.out _ _ (hHeld.trans ((show Below wb22.heap.size wb22 (wb22.alloc (.cells v.arr 39)) from ((Below.refl _ _).alloc (Nat.le_refl _) _)).mono hHeld.size)) (fun hHeld => ?_)
    clear hK K
    refine norm_ (a' := ?_) ?_ ?_
    rotate_left
    ·show Act.put _ (some 24) _ = _
     simp only [Act.put, List.setIfInBounds_toArray, List.set_cons_zero, List.set_cons_succ, i64_w, i32_w]
     rfl
    generalize wb22.alloc (.cells v.arr 39) = wc24 at hHeld hR hV ⊢
    refine one_ (i := 5) (N := some 25) #[true, true, true, true, true, true, false, false] rfl rfl (by kernel_rfl) (by decide) (fun K hK => ?_)
    refine appRows (w0 := wo) wo.heap.size (by rfl) (.tmp 22) (.tmp 24) rfl v22 l [v] (some ⟨wb22.heap.size, 0, none⟩) 1 1 rfl rfl hR (C_one hV) hHeld hHeld.size (by first | omega | (simp; omega)) ?_
    intro v25 wd25 hR' hB' hg hat
    clear hR hg hat
    have hR := hR'
    clear hR'
    refine hK.out _ _ hB' (fun hHeld => ?_)
    clear hK K
    refine norm_ (a' := ?_) ?_ ?_
    rotate_left
    ·show Act.put _ (some 25) _ = _
     simp only [Act.put, List.setIfInBounds_toArray, List.set_cons_zero, List.set_cons_succ, i64_w, i32_w]
     rfl
    clear hB'
    obtain ⟨A9, c9, e9, hc9, hC9⟩ := Kd.R_reads hR
    subst e9
    refine one_ (i := 6) (N := some 26) #[true, true, true, true, true, true, true, false] rfl rfl (by kernel_rfl) (by decide) (fun K hK => ?_)
    refine goes_ Try.func8 (by kernel_rfl) rfl #[.slice A9 (l ++ [v]).length c9] (by rfl) rfl rfl (by (try simp only [List.map_toArray, List.map_cons, List.map_nil]); first | done | rfl) ?_
    refine (newL A9 c9 (l ++ [v]) _ hC9 (by simp; omega)).mono ?_
    rintro e w9 ⟨t2, rfl, hT9, hB9⟩
    refine ⟨_, rfl, ?_⟩
    refine hK.out _ _ (hHeld.trans (hB9.mono hHeld.size)) (fun hHeld => ?_)
    clear hK K
    refine norm_ (a' := ?_) ?_ ?_
    rotate_left
    ·show Act.put _ (some 26) _ = _
     simp only [Act.put, List.setIfInBounds_toArray, List.set_cons_zero, List.set_cons_succ, i64_w, i32_w]
     rfl
    exact hJ (_, _, _, _, t2) _ ⟨hHeld, hT9⟩
   ·refine event_step (by rfl) (v := .slice (some ⟨wa20.heap.size, 0, none⟩) 1 1) (w1 := wa20.alloc (.cells v.arr 39)) (exec_buildV v rfl _) ?_
    have hne : some wa20.heap.size ≠ (.slice (some ⟨wz.heap.size, 0, none⟩) 0 0 : Value).ownBlock := fun e => absurd (R_own hR _ e.symm) (Nat.lt_irrefl _)
    replace hR := Kd.R_below hR (show Below wa20.heap.size wa20 (wa20.alloc (.cells v.arr 39)) from ((Below.refl _ _).alloc (Nat.le_refl _) _))
    have hV := Has.new wa20 v.arr 39
    refine hK.out _ _ (hHeld.trans ((show Below wa20.heap.size wa20 (wa20.alloc (.cells v.arr 39)) from ((Below.refl _ _).alloc (Nat.le_refl _) _)).mono hHeld.size)) (fun hHeld => ?_)
    clear hK K
    refine norm_ (a' := ?_) ?_ ?_
    rotate_left
    ·show Act.put _ (some 24) _ = _
     simp only [Act.put, List.setIfInBounds_toArray, List.set_cons_zero, List.set_cons_succ, i64_w, i32_w]
     rfl
    generalize wa20.alloc (.cells v.arr 39) = wb24 at hHeld hR hV ⊢
    refine one_ (i := 2) (N := some 22) #[true, true, true, true, true, false, false, false] rfl rfl (by kernel_rfl) (by decide) (fun K hK => ?_)
    refine appRows (w0 := wo) wo.heap.size (by rfl) (.tmp 20) (.tmp 21) rfl (.slice (some ⟨wz.heap.size, 0, none⟩) 0 0 : Value) [] l A l.length c rfl rfl hR (Kd.C_below HC3.out hHeld) hHeld hHeld.size (by first | omega | (simp; omega)) ?_
    intro v22 wc22 hR' hB' hg hat
    have hne' : some wa20.heap.size ≠ v22.ownBlock := by
     rcases hat with e | ⟨b, e, hb⟩
     ·rw [e]; exact hne
     ·rw [e]; have := hV.lt; simp only [ne_eq, Option.some.injEq]; omega
    replace hV : Has wc22 wa20.heap.size v.arr 39 := (hg.block _ hV.lt hne).trans hV
    clear hne
    have hne := hne'
    clear hne'
    clear hR hg hat
    have hR := hR'
    clear hR'
    rw [List.nil_append] at hR
    refine hK.out _ _ hB' (fun hHeld => ?_)
    clear hK K
    refine norm_ (a' := ?_) ?_ ?_
    rotate_left
    ·show Act.put _ (some 22) _ = _
     simp only [Act.put, List.setIfInBounds_toArray, List.set_cons_zero, List.set_cons_succ, i64_w, i32_w]
     rfl
    clear hB'
    refine one_ (i := 5) (N := some 25) #[true, true, true, true, true, true, false, false] rfl rfl (by kernel_rfl) (by decide) (fun K hK => ?_)
    refine appRows (w0 := wo) wo.heap.size (by rfl) (.tmp 22) (.tmp 24) rfl v22 l [v] (some ⟨wa20.heap.size, 0, none⟩) 1 1 rfl rfl hR (C_one hV) hHeld hHeld.size (by first | omega | (simp; omega)) ?_
    intro v25 wd25 hR' hB' hg hat
    clear hR hg hat
    have hR := hR'
    clear hR'
    refine hK.out _ _ hB' (fun hHeld => ?_)
    clear hK K
    refine norm_ (a' := ?_) ?_ ?_
    rotate_left
    ·show Act.put _ (some 25) _ = _
     simp only [Act.put, List.setIfInBounds_toArray, List.set_cons_zero, List.set_cons_succ, i64_w, i32_w]
     rfl
    clear hB'
    obtain ⟨A9, c9, e9, hc9, hC9⟩ := Kd.R_reads hR
    subst e9
    refine one_ (i := 6) (N := some 26) #[true, true, true, true, true, true, true, false] rfl rfl (by kernel_rfl) (by decide) (fun K hK => ?_)
    refine goes_ Try.func8 (by kernel_rfl) rfl #[.slice A9 (l ++ [v]).length c9] (by rfl) rfl rfl (by (try simp only [List.map_toArray, List.map_cons, List.map_nil]); first | done | rfl) ?_
    refine (newL A9 c9 (l ++ [v]) _ hC9 (by simp; omega)).mono ?_
    rintro e w9 ⟨t2, rfl, hT9, hB9⟩
    refine ⟨_, rfl, ?_⟩
    refine hK.out _ _ (hHeld.trans (hB9.mono hHeld.size)) (fun hHeld => ?_)
    clear hK K
    refine norm_ (a' := ?_) ?_ ?_
    rotate_left
    ·show Act.put _ (some 26) _ = _
     simp only [Act.put, List.setIfInBounds_toArray, List.set_cons_zero, List.set_cons_succ, i64_w, i32_w]
     rfl
    exact hJ (_, _, _, _, t2) _ ⟨hHeld, hT9⟩
  ·refine event_step (by rfl) (v := .slice (some ⟨wz.heap.size, 0, none⟩) 1 1) (w1 := wz.alloc (.cells v.arr 39)) (exec_buildV v rfl _) ?_
   have hV := Has.new wz v.arr 39
   refine hK.out _ _ (hHeld.trans ((show Below wz.heap.size wz (wz.alloc (.cells v.arr 39)) from ((Below.refl _ _).alloc (Nat.le_refl _) _)).mono hHeld.size)) (fun hHeld => ?_)
   clear hK K
   refine norm_ (a' := ?_) ?_ ?_
   rotate_left
   ·show Act.put _ (some 24) _ = _
    simp only [Act.put, List.setIfInBounds_toArray, List.set_cons_zero, List.set_cons_succ, i64_w, i32_w]
    rfl
   generalize wz.alloc (.cells v.arr 39) = wa24 at hHeld hV ⊢
   refine one_ (i := 0) (N := some 20) #[true, true, false, true, true, false, false, false] rfl rfl (by kernel_rfl) (by decide) (fun K hK => ?_)
   refine event_step (by rfl) (v := .slice (some ⟨wa24.heap.size, 0, none⟩) 0 0) (w1 := wa24.alloc (.cells #[] 39)) (by go_simp; try rfl) ?_
   have hne : some wz.heap.size ≠ (.slice (some ⟨wa24.heap.size, 0, none⟩) 0 0 : Value).ownBlock := by have := hV.lt; simp only [Value.ownBlock, ne_eq, Option.some.injEq]; omega
   replace hV := hV.alloc (.cells #[] 39)
   have hR := R_none wa24 wo.heap.size hHeld.size
   refine hK.out _ _ (hHeld.trans ((show Below wa24.heap.size wa24 (wa24.alloc (.cells #[] 39)) from ((Below.refl _ _).alloc (Nat.le_refl _) _)).mono hHeld.size)) (fun hHeld => ?_)
   clear hK K
   refine norm_ (a' := ?_) ?_ ?_
   rotate_left
   ·show Act.put _ (some 20) _ = _
    simp only [Act.put, List.setIfInBounds_toArray, List.set_cons_zero, List.set_cons_succ, i64_w, i32_w]
    rfl
   generalize wa24.alloc (.cells #[] 39) = wb20 at hHeld hR hV ⊢
   refine one_ (i := 2) (N := some 22) #[true, true, true, true, true, false, false, false] rfl rfl (by kernel_rfl) (by decide) (fun K hK => ?_)
   refine appRows (w0 := wo) wo.heap.size (by rfl) (.tmp 20) (.tmp 21) rfl (.slice (some ⟨wa24.heap.size, 0, none⟩) 0 0 : Value) [] l A l.length c rfl rfl hR (Kd.C_below HC3.out hHeld) hHeld hHeld.size (by first | omega | (simp; omega)) ?_
   intro v22 wc22 hR' hB' hg hat
   have hne' : some wz.heap.size ≠ v22.ownBlock := by
    rcases hat with e | ⟨b, e, hb⟩
    ·rw [e]; exact hne
    ·rw [e]; have := hV.lt; simp only [ne_eq, Option.some.injEq]; omega
   replace hV : Has wc22 wz.heap.size v.arr 39 := (hg.block _ hV.lt hne).trans hV
   clear hne
   have hne := hne'
   clear hne'
   clear hR hg hat
   have hR := hR'
   clear hR'
   rw [List.nil_append] at hR
   refine hK.out _ _ hB' (fun hHeld => ?_)
   clear hK K
   refine norm_ (a' := ?_) ?_ ?_
   rotate_left
   ·show Act.put _ (some 22) _ = _
    simp only [Act.put, List.setIfInBounds_toArray, List.set_cons_zero, List.set_cons_succ, i64_w, i32_w]
    rfl
   clear hB'
   refine one_ (i := 5) (N := some 25) #[true, true, true, true, true, true, false, false] rfl rfl (by kernel_rfl) (by decide) (fun K hK => ?_)
   refine appRows (w0 := wo) wo.heap.size (by rfl) (.tmp 22) (.tmp 24) rfl v22 l [v] (some ⟨wz.heap.size, 0, none⟩) 1 1 rfl rfl hR (C_one hV) hHeld hHeld.size (by first | omega | (simp; omega)) ?_
   intro v25 wd25 hR' hB' hg hat
   clear hR hg hat
   have hR := hR'
   clear hR'
   refine hK.out _ _ hB' (fun hHeld => ?_)
   clear hK K
   refine norm_ (a' := ?_) ?_ ?_
   rotate_left
   ·show Act.put _ (some 25) _ = _
    simp only [Act.put, List.setIfInBounds_toArray, List.set_cons_zero, List.set_cons_succ, i64_w, i32_w]
    rfl
   clear hB'
   obtain ⟨A9, c9, e9, hc9, hC9⟩ := Kd.R_reads hR
   subst e9
   refine one_ (i := 6) (N := some 26) #[true, true, true, true, true, true, true, false] rfl rfl (by kernel_rfl) (by decide) (fun K hK => ?_)
   refine goes_ Try.func8 (by kernel_rfl) rfl #[.slice A9 (l ++ [v]).length c9] (by rfl) rfl rfl (by (try simp only [List.map_toArray, List.map_cons, List.map_nil]); first | done | rfl) ?_
   refine (newL A9 c9 (l ++ [v]) _ hC9 (by simp; omega)).mono ?_
   rintro e w9 ⟨t2, rfl, hT9, hB9⟩
   refine ⟨_, rfl, ?_⟩
   refine hK.out _ _ (hHeld.trans (hB9.mono hHeld.size)) (fun hHeld => ?_)
   clear hK K
   refine norm_ (a' := ?_) ?_ ?_
   rotate_left
   ·show Act.put _ (some 26) _ = _
    simp only [Act.put, List.setIfInBounds_toArray, List.set_cons_zero, List.set_cons_succ, i64_w, i32_w]
    rfl
   exact hJ (_, _, _, _, t2) _ ⟨hHeld, hT9⟩
 rintro ⟨x1, x2, x3, x4, t2⟩ w5 ⟨hHeld, hT5⟩
 simp only [putAll, Act.put, List.setIfInBounds_toArray, List.set_cons_zero, List.set_cons_succ, i64_w, i32_w]
 replace hT5 := Lib.hid hT5
 refine pure_ (i := 7) (N := some 9) (v := ?_) (a' := ?_) #[true, true, true, true, true, true, true, true] rfl rfl (by kernel_rfl) (fun _ _ _ h => h) (Or.inl ⟨by rfl, ?_⟩) ?_ ?_
 rotate_left
 ·intro w'
  go_simp
  with_reducible rfl
 rotate_left
 ·simp only [Act.put, List.setIfInBounds_toArray, List.set_cons_zero, List.set_cons_succ, i64_w, i32_w]
  rfl
 refine done_ (by kernel_rfl) ?_
 have HT6 : Hid (T2 w (w.heap.size + 1) t1 t2 l (l ++ [v]) p w5) := Lib.hid ⟨HP3.out.below hHeld, HT3.out.below hHeld, hT5.out, HB3.out.trans (hHeld.mono HB3.out.size)⟩
 clear hHeld hT5 HT3 HV3 HP3 HB3 HC3
 obtain ⟨rp, hrp⟩ : ∃ r, r = rightB p := ⟨_, rfl⟩
 have HRP := Lib.hid hrp
 obtain ⟨n1, hn1⟩ : ∃ n, n = (rowP l).length := ⟨_, rfl⟩
 obtain ⟨n2, hn2⟩ : ∃ n, n = (rowP (l ++ [v])).length := ⟨_, rfl⟩
 obtain ⟨k1, hk1⟩ : ∃ n, n = (coversP l p).length := ⟨_, rfl⟩
 obtain ⟨k2, hk2⟩ : ∃ n, n = (coversP (l ++ [v]) p).length := ⟨_, rfl⟩
 have hle1 : n2 ≤ n1 + 1 := by rw [hn1, hn2]; exact row_more l v
 have hle2 : k2 ≤ k1 + 1 := by rw [hk1, hk2]; exact cov_more l v p
 have hn200 : n1 ≤ l.length := by rw [hn1, ← acc_row_len]; exact acc_len l
 have hk200 : k1 ≤ l.length := by rw [hk1]; exact Nat.le_trans (List.length_filter_le _ _) (by rw [← acc_row_len]; exact acc_len l)
 have HN1 := Lib.hid hn1
 have HN2 := Lib.hid hn2
 have HK1 := Lib.hid hk1
 have HK2 := Lib.hid hk2
 clear hrp hn1 hn2 hk1 hk2
 go_wp2
 go_loopw [10] (fun av wr => ∃ k : Nat, k ≤ 4 ∧ av = .int .u32 k ∧ Hid (T2 w (w.heap.size + 1) t1 t2 l (l ++ [v]) p wr)) (fun av _ => 4 - (intOf av).toNat)
 case atStart => exact ⟨0, by omega, rfl, HT6⟩
 case round =>
  obtain ⟨k, hk, rfl, HX⟩ := hrel
  by_cases hk4 : k < 4
  ·obtain ⟨x, hx⟩ : ∃ x, x = answerP (coversP l p) p (k : Int) := ⟨_, rfl⟩
   obtain ⟨y, hy⟩ : ∃ y, y = answerP (coversP (l ++ [v]) p) p (k : Int) := ⟨_, rfl⟩
   have HF : Hid ((x = 0 ∨ x = 1 ∨ x = 2) ∧ (y = 0 ∨ y = 1 ∨ y = 2) ∧ (x = 2 → y = 2) ∧ (x ≠ 0 → y ≠ 0) ∧ (k = 0 → y ≠ 2) ∧ (rp = false → y = 0)) := by
    refine Lib.hid ⟨by rw [hx]; exact answer_range _ _ _, by rw [hy]; exact answer_range _ _ _, by rw [hx, hy]; exact (answer_more l v p k).1, by rw [hx, hy]; exact (answer_more l v p k).2, fun h => by rw [hy, h]; exact answer_zero _ _, fun h => by rw [hy]; exact answer_wrong _ _ (by rw [← HRP.out]; exact h)⟩
   have HXX := Lib.hid hx
   have HYY := Lib.hid hy
   clear hx hy
   have hd1 := eq_true (show (k : Int) < 4 by omega)
   have hd2 : decide ((k : Int) < 4) = true := decide_eq_true (by omega)
   have hd3 : decide (k < 4) = true := decide_eq_true hk4
   go_wp2_with ((with_reducible refine at_dst 38 ?_); refine loadP p (w.heap.size + 1) 0 rfl HX.out.1.rp ?_)
   clear hd1 hd2 hd3
   refine (answerL HX.out.2.1 (by omega) p k).mono ?_
   rintro e w7 ⟨rfl, hB⟩
   rw [← HXX.out]
   have HX7 := Lib.hid (HX.out.step hB)
   clear hB HX
   go_wp2_with ((with_reducible refine at_dst 42 ?_); refine loadP p (w.heap.size + 1) 0 rfl HX7.out.1.rp ?_)
   refine (answerL HX7.out.2.2.1 (by simp; omega) p k).mono ?_
   rintro e w8 ⟨rfl, hB⟩
   rw [← HYY.out]
   have HX8 := Lib.hid (HX7.out.step hB)
   clear hB HX7 HXX HYY
   obtain ⟨h1, h2, h3, h4, h5, h6⟩ := HF.out
   clear HF
   have hR : ∀ W, Calls Try.prog 16 #[.agg p.arr] W fun e w' => e = .returned (.bool rp) ∧ Below W.heap.size W w' := fun W => right_walk p rp HRP.out.symm W
   cases rp
   ·have hy := h6 rfl
    have hx : x = 0 := by
     by_cases h : x = 0
     ·exact h
     ·exact absurd hy (h4 h)
    subst hx hy
    clear h1 h2 h3 h4 h5 h6
    by_cases hk0 : k = 0
    ·have he1 := eq_true (show (k : Int) = 0 by omega)
     have he2 : decide ((k : Int) = 0) = true := decide_eq_true (by omega)
     have he3 : decide (k = 0) = true := decide_eq_true hk0
     go_wp2_with ((with_reducible refine at_dst 67 ?_); refine loadP p (w.heap.size + 1) 0 rfl HX8.out.1.rp ?_)
     refine (hR _).mono ?_
     rintro e w9 ⟨rfl, hB⟩
     have HX9 := Lib.hid (HX8.out.step hB)
     clear hB HX8
     go_wp2
     go_roundw
     case rel => exact ⟨k + 1, by omega, by go_num, HX9⟩
     case measure => simp [intOf]; omega
    ·have he1 := eq_false (show ¬ (k : Int) = 0 by omega)
     have he2 : decide ((k : Int) = 0) = false := decide_eq_false (by omega)
     have he3 : decide (k = 0) = false := decide_eq_false hk0
     go_wp2_with ((with_reducible refine at_dst 67 ?_); refine loadP p (w.heap.size + 1) 0 rfl HX8.out.1.rp ?_)
     refine (hR _).mono ?_
     rintro e w9 ⟨rfl, hB⟩
     have HX9 := Lib.hid (HX8.out.step hB)
     clear hB HX8
     go_wp2
     go_roundw
     case rel => exact ⟨k + 1, by omega, by go_num, HX9⟩
     case measure => simp [intOf]; omega
   ·clear h6
    by_cases hk0 : k = 0
    ·have he1 := eq_true (show (k : Int) = 0 by omega)
     have he2 : decide ((k : Int) = 0) = true := decide_eq_true (by omega)
     have he3 : decide (k = 0) = true := decide_eq_true hk0
     have h5' := h5 hk0
     clear h5
     rcases h1 with rfl | rfl | rfl <;> rcases h2 with rfl | rfl | rfl
     all_goals try (exfalso; omega)
     all_goals clear h3 h4 h5'
     all_goals (
      go_wp2_with ((with_reducible refine at_dst 67 ?_); refine loadP p (w.heap.size + 1) 0 rfl HX8.out.1.rp ?_)
      refine (hR _).mono ?_
      rintro e w9 ⟨rfl, hB⟩
      have HX9 := Lib.hid (HX8.out.step hB)
      clear hB HX8
      go_wp2
      go_roundw
      case rel => exact ⟨k + 1, by omega, by go_num, HX9⟩
      case measure => simp [intOf]; omega
      )
    ·have he1 := eq_false (show ¬ (k : Int) = 0 by omega)
     have he2 : decide ((k : Int) = 0) = false := decide_eq_false (by omega)
     have he3 : decide (k = 0) = false := decide_eq_false hk0
     clear h5
     rcases h1 with rfl | rfl | rfl <;> rcases h2 with rfl | rfl | rfl
     all_goals try (exfalso; omega)
     all_goals clear h3 h4
     all_goals (
      go_wp2_with ((with_reducible refine at_dst 67 ?_); refine loadP p (w.heap.size + 1) 0 rfl HX8.out.1.rp ?_)
      refine (hR _).mono ?_
      rintro e w9 ⟨rfl, hB⟩
      have HX9 := Lib.hid (HX8.out.step hB)
      clear hB HX8
      go_wp2
      go_roundw
      case rel => exact ⟨k + 1, by omega, by go_num, HX9⟩
      case measure => simp [intOf]; omega
      )
  ·have hk4 : k = 4 := by omega
   subst hk4
   clear hk
   go_wp2
   have hw1 : Go.RowKit.wrap64 ((n1 : Int) + 1) = (n1 : Int) + 1 := by unfold Go.RowKit.wrap64; omega
   have hw2 : Go.RowKit.wrap64 ((k1 : Int) + 1) = (k1 : Int) + 1 := by unfold Go.RowKit.wrap64; omega
   have hd1 := eq_true (show (n2 : Int) ≤ (n1 : Int) + 1 by omega)
   have hd2 := eq_true (show (k2 : Int) ≤ (k1 : Int) + 1 by omega)
   have hd3 : decide ((n2 : Int) ≤ (n1 : Int) + 1) = true := decide_eq_true (by omega)
   have hd4 : decide ((k2 : Int) ≤ (k1 : Int) + 1) = true := decide_eq_true (by omega)
   refine start_ (n := 22) (S := T2 w (w.heap.size + 1) t1 t2 l (l ++ [v]) p) (ds := []) #[false, false, false, false, false, false, false, false, false, false, false, false, false, false, false, false, false, false, false, false, false, false] (by kernel_rfl) rfl rfl (HX.out.step (show Below wr.heap.size wr wr.drew from (Below.refl _ _).drew)) (fun hHeld => ?_)
   refine pure_ (i := 0) (N := some 74) (v := ?_) (a' := ?_) #[true, false, false, false, false, false, false, false, false, false, false, false, false, false, false, false, false, false, false, false, false, false] rfl rfl (by kernel_rfl) (fun _ _ _ h => h) (Or.inl ⟨by rfl, ?_⟩) ?_ ?_
   rotate_left
   ·intro w'
    go_simp
    with_reducible rfl
   rotate_left
   ·simp only [Act.put, List.setIfInBounds_toArray, List.set_cons_zero, List.set_cons_succ, i64_w, i32_w]
    rfl
   refine pure_ (i := 1) (N := some 75) (v := ?_) (a' := ?_) #[true, true, false, false, false, false, false, false, false, false, false, false, false, false, false, false, false, false, false, false, false, false] rfl rfl (by kernel_rfl) (fun _ _ _ h => h) (Or.inl ⟨by rfl, ?_⟩) ?_ ?_
   rotate_left
   ·intro w'
    go_simp
    with_reducible rfl
   rotate_left
   ·simp only [Act.put, List.setIfInBounds_toArray, List.set_cons_zero, List.set_cons_succ, i64_w, i32_w]
    rfl
   refine pure_ (i := 2) (N := some 76) (v := ?_) (a' := ?_) #[true, true, true, false, false, false, false, false, false, false, false, false, false, false, false, false, false, false, false, false, false, false] rfl rfl (by kernel_rfl) (fun _ _ _ h => h) (Or.inl ⟨by rfl, ?_⟩) ?_ ?_
   rotate_left
   ·intro w'
    go_simp
    with_reducible rfl
   rotate_left
   ·simp only [Act.put, List.setIfInBounds_toArray, List.set_cons_zero, List.set_cons_succ, i64_w, i32_w]
    rfl
   refine pure_ (i := 4) (N := some 78) (v := ?_) (a' := ?_) #[true, true, true, false, true, false, false, false, false, false, false, false, false, false, false, false, false, false, false, false, false, false] rfl rfl (by kernel_rfl) (fun _ _ _ h => h) (Or.inl ⟨by rfl, ?_⟩) ?_ ?_
   rotate_left
   ·intro w'
    go_simp
    with_reducible rfl
   rotate_left
   ·simp only [Act.put, List.setIfInBounds_toArray, List.set_cons_zero, List.set_cons_succ, i64_w, i32_w]
    rfl
   refine one_ (i := 3) (N := some 77) #[true, true, true, true, true, false, false, false, false, false, false, false, false, false, false, false, false, false, false, false, false, false] rfl rfl (by kernel_rfl) (by decide) (fun K hK => ?_)
   refine goes_ Try.func14 (by kernel_rfl) rfl #[.pointer (some ⟨t2, 0, none⟩)] (by rfl) rfl rfl (by (try simp only [List.map_toArray, List.map_cons, List.map_nil]); first | done | rfl) ?_
   refine (lenL hHeld.2.2.1).mono ?_
   rintro e w8 ⟨rfl, hw8⟩
   rw [hw8, ← HN2.out]
   refine ⟨_, rfl, ?_⟩
   refine hK.out _ _ hHeld (fun hHeld => ?_)
   clear hK K
   refine norm_ (a' := ?_) ?_ ?_
   rotate_left
   ·show Act.put _ (some 77) _ = _
    simp only [Act.put, List.setIfInBounds_toArray, List.set_cons_zero, List.set_cons_succ, i64_w, i32_w]
    rfl
   refine one_ (i := 5) (N := some 79) #[true, true, true, true, true, true, false, false, false, false, false, false, false, false, false, false, false, false, false, false, false, false] rfl rfl (by kernel_rfl) (by decide) (fun K hK => ?_)
   refine goes_ Try.func14 (by kernel_rfl) rfl #[.pointer (some ⟨t1, 0, none⟩)] (by rfl) rfl rfl (by (try simp only [List.map_toArray, List.map_cons, List.map_nil]); first | done | rfl) ?_
   refine (lenL hHeld.2.1).mono ?_
   rintro e w8 ⟨rfl, hw8⟩
   rw [hw8, ← HN1.out]
   refine ⟨_, rfl, ?_⟩
   refine hK.out _ _ hHeld (fun hHeld => ?_)
   clear hK K
   refine norm_ (a' := ?_) ?_ ?_
   rotate_left
   ·show Act.put _ (some 79) _ = _
    simp only [Act.put, List.setIfInBounds_toArray, List.set_cons_zero, List.set_cons_succ, i64_w, i32_w]
    rfl
   refine pure_ (i := 6) (N := some 80) (v := ?_) (a' := ?_) #[true, true, true, true, true, true, true, false, false, false, false, false, false, false, false, false, false, false, false, false, false, false] rfl rfl (by kernel_rfl) (fun _ _ _ h => h) (Or.inl ⟨by rfl, ?_⟩) ?_ ?_
   rotate_left
   ·intro w'
    go_simp
    with_reducible rfl
   rotate_left
   ·simp only [Act.put, List.setIfInBounds_toArray, List.set_cons_zero, List.set_cons_succ, i64_w, i32_w]
    rfl
   refine pure_ (i := 7) (N := some 81) (v := ?_) (a' := ?_) #[true, true, true, true, true, true, true, true, false, false, false, false, false, false, false, false, false, false, false, false, false, false] rfl rfl (by kernel_rfl) (fun _ _ _ h => h) (Or.inl ⟨by rfl, ?_⟩) ?_ ?_
   rotate_left
   ·intro w'
    go_simp
    with_reducible rfl
   rotate_left
   ·simp only [Act.put, List.setIfInBounds_toArray, List.set_cons_zero, List.set_cons_succ, i64_w, i32_w]
    rfl
   refine pure_ (i := 8) (N := some 82) (v := ?_) (a' := ?_) #[true, true, true, true, true, true, true, true, true, false, false, false, false, false, false, false, false, false, false, false, false, false] rfl rfl (by kernel_rfl) (fun _ _ _ h => h) (Or.inl ⟨by rfl, ?_⟩) ?_ ?_
   rotate_left
   ·intro w'
    go_simp
    with_reducible rfl
   rotate_left
   ·simp only [Act.put, List.setIfInBounds_toArray, List.set_cons_zero, List.set_cons_succ, i64_w, i32_w]
    rfl
   refine pure_ (i := 9) (N := some 83) (v := ?_) (a' := ?_) #[true, true, true, true, true, true, true, true, true, true, false, false, false, false, false, false, false, false, false, false, false, false] rfl rfl (by kernel_rfl) (fun _ _ _ h => h) (Or.inl ⟨by rfl, ?_⟩) ?_ ?_
   rotate_left
   ·intro w'
    go_simp
    with_reducible rfl
   rotate_left
   ·simp only [Act.put, List.setIfInBounds_toArray, List.set_cons_zero, List.set_cons_succ, i64_w, i32_w]
    rfl
   refine pure_ (i := 10) (N := some 84) (v := ?_) (a' := ?_) #[true, true, true, true, true, true, true, true, true, true, true, false, false, false, false, false, false, false, false, false, false, false] rfl rfl (by kernel_rfl) (fun _ _ _ h => h) (Or.inl ⟨by rfl, ?_⟩) ?_ ?_
   rotate_left
   ·intro w'
    go_simp
    with_reducible rfl
   rotate_left
   ·simp only [Act.put, List.setIfInBounds_toArray, List.set_cons_zero, List.set_cons_succ, i64_w, i32_w]
    rfl
   refine pure_ (i := 14) (N := some 88) (v := ?_) (a' := ?_) #[true, true, true, true, true, true, true, true, true, true, true, false, false, false, true, false, false, false, false, false, false, false] rfl rfl (by kernel_rfl) (fun _ _ _ h => h) (Or.inl ⟨by rfl, ?_⟩) ?_ ?_
   rotate_left
   ·intro w'
    go_simp
    with_reducible rfl
   rotate_left
   ·simp only [Act.put, List.setIfInBounds_toArray, List.set_cons_zero, List.set_cons_succ, i64_w, i32_w]
    rfl
   refine take_ (i := 11) (N := some 85) (v := .agg p.arr) (a' := ?_) #[true, true, true, true, true, true, true, true, true, true, true, true, false, false, true, false, false, false, false, false, false, false] rfl rfl (by kernel_rfl) (fun _ _ _ h => h) ?_ hHeld ?_ ?_
   ·exact yP (by rfl) rfl p (w.heap.size + 1) 0 rfl (fun W h => h.1.rp)
   rotate_left
   ·simp only [Act.put, List.setIfInBounds_toArray, List.set_cons_zero, List.set_cons_succ, i64_w, i32_w]
    rfl
   refine take_ (i := 15) (N := some 89) (v := .agg p.arr) (a' := ?_) #[true, true, true, true, true, true, true, true, true, true, true, true, false, false, true, true, false, false, false, false, false, false] rfl rfl (by kernel_rfl) (fun _ _ _ h => h) ?_ hHeld ?_ ?_
   ·exact yP (by rfl) rfl p (w.heap.size + 1) 0 rfl (fun W h => h.1.rp)
   rotate_left
   ·simp only [Act.put, List.setIfInBounds_toArray, List.set_cons_zero, List.set_cons_succ, i64_w, i32_w]
    rfl
   refine one_ (i := 12) (N := some 86) #[true, true, true, true, true, true, true, true, true, true, true, true, true, false, true, true, false, false, false, false, false, false] rfl rfl (by kernel_rfl) (by decide) (fun K hK => ?_)
   refine goes_ Try.func10 (by kernel_rfl) rfl #[.pointer (some ⟨t2, 0, none⟩), .agg p.arr] (by rfl) rfl rfl (by (try simp only [List.map_toArray, List.map_cons, List.map_nil]); first | done | rfl) ?_
   refine (coversL hHeld.2.2.1 (by first | omega | (simp; omega)) p).mono ?_
   rintro e w7 ⟨A7, c7, rfl, hc7, hC7, hB⟩
   rw [← HK2.out]
   refine ⟨_, rfl, ?_⟩
   refine hK.out _ _ (T2.step hHeld hB) (fun hHeld => ?_)
   clear hK K
   refine norm_ (a' := ?_) ?_ ?_
   rotate_left
   ·show Act.put _ (some 86) _ = _
    simp only [Act.put, List.setIfInBounds_toArray, List.set_cons_zero, List.set_cons_succ, i64_w, i32_w]
    rfl
   refine pure_ (i := 13) (N := some 87) (v := ?_) (a' := ?_) #[true, true, true, true, true, true, true, true, true, true, true, true, true, true, true, true, false, false, false, false, false, false] rfl rfl (by kernel_rfl) (fun _ _ _ h => h) (Or.inl ⟨by rfl, ?_⟩) ?_ ?_
   rotate_left
   ·intro w'
    go_simp
    with_reducible rfl
   rotate_left
   ·simp only [Act.put, List.setIfInBounds_toArray, List.set_cons_zero, List.set_cons_succ, i64_w, i32_w]
    rfl
   refine one_ (i := 16) (N := some 90) #[true, true, true, true, true, true, true, true, true, true, true, true, true, true, true, true, true, false, false, false, false, false] rfl rfl (by kernel_rfl) (by decide) (fun K hK => ?_)
   refine goes_ Try.func10 (by kernel_rfl) rfl #[.pointer (some ⟨t1, 0, none⟩), .agg p.arr] (by rfl) rfl rfl (by (try simp only [List.map_toArray, List.map_cons, List.map_nil]); first | done | rfl) ?_
   refine (coversL hHeld.2.1 (by first | omega | (simp; omega)) p).mono ?_
   rintro e w8 ⟨A8, c8, rfl, hc8, hC8, hB⟩
   rw [← HK1.out]
   refine ⟨_, rfl, ?_⟩
   refine hK.out _ _ (T2.step hHeld hB) (fun hHeld => ?_)
   clear hK K
   refine norm_ (a' := ?_) ?_ ?_
   rotate_left
   ·show Act.put _ (some 90) _ = _
    simp only [Act.put, List.setIfInBounds_toArray, List.set_cons_zero, List.set_cons_succ, i64_w, i32_w]
    rfl
   refine pure_ (i := 17) (N := some 91) (v := ?_) (a' := ?_) #[true, true, true, true, true, true, true, true, true, true, true, true, true, true, true, true, true, true, false, false, false, false] rfl rfl (by kernel_rfl) (fun _ _ _ h => h) (Or.inl ⟨by rfl, ?_⟩) ?_ ?_
   rotate_left
   ·intro w'
    go_simp
    with_reducible rfl
   rotate_left
   ·simp only [Act.put, List.setIfInBounds_toArray, List.set_cons_zero, List.set_cons_succ, i64_w, i32_w]
    rfl
   refine pure_ (i := 18) (N := some 92) (v := ?_) (a' := ?_) #[true, true, true, true, true, true, true, true, true, true, true, true, true, true, true, true, true, true, true, false, false, false] rfl rfl (by kernel_rfl) (fun _ _ _ h => h) (Or.inl ⟨by rfl, ?_⟩) ?_ ?_
   rotate_left
   ·intro w'
    go_simp
    with_reducible rfl
   rotate_left
   ·simp only [Act.put, List.setIfInBounds_toArray, List.set_cons_zero, List.set_cons_succ, i64_w, i32_w]
    rfl
   refine pure_ (i := 19) (N := some 93) (v := ?_) (a' := ?_) #[true, true, true, true, true, true, true, true, true, true, true, true, true, true, true, true, true, true, true, true, false, false] rfl rfl (by kernel_rfl) (fun _ _ _ h => h) (Or.inl ⟨by rfl, ?_⟩) ?_ ?_
   rotate_left
   ·intro w'
    go_simp
    with_reducible rfl
   rotate_left
   ·simp only [Act.put, List.setIfInBounds_toArray, List.set_cons_zero, List.set_cons_succ, i64_w, i32_w]
    rfl
   refine pure_ (i := 20) (N := some 94) (v := ?_) (a' := ?_) #[true, true, true, true, true, true, true, true, true, true, true, true, true, true, true, true, true, true, true, true, true, false] rfl rfl (by kernel_rfl) (fun _ _ _ h => h) (Or.inl ⟨by rfl, ?_⟩) ?_ ?_
   rotate_left
   ·intro w'
    go_simp
    with_reducible rfl
   rotate_left
   ·simp only [Act.put, List.setIfInBounds_toArray, List.set_cons_zero, List.set_cons_succ, i64_w, i32_w]
    rfl
   refine pure_ (i := 21) (N := some 6) (v := ?_) (a' := ?_) #[true, true, true, true, true, true, true, true, true, true, true, true, true, true, true, true, true, true, true, true, true, true] rfl rfl (by kernel_rfl) (fun _ _ _ h => h) (Or.inl ⟨by rfl, ?_⟩) ?_ ?_
   rotate_left
   ·intro w'
    go_simp
    with_reducible rfl
   rotate_left
   ·simp only [Act.put, List.setIfInBounds_toArray, List.set_cons_zero, List.set_cons_succ, i64_w, i32_w]
    rfl
   refine done_ (by kernel_rfl) ?_
   go_wp2
   go_ret
   exact ⟨rfl, hHeld.2.2.2⟩

end Go.Proofs.Ytllahlgnjeeliaa.Ad
end

section
set_option linter.unusedVariables false
set_option linter.unusedSimpArgs false
namespace Go.Proofs.Ytllahlgnjeeliaa.Ad
open Go.ChangeShapes Go.WideShapes Go.Deep Go.RowKit Go.Proofs.YtllahlgnjeeliaaW.PrintWords Go.Proofs.YtllahlgnjeeliaaW.PrintLast Go.Proofs.YtllahlgnjeeliaaW.PrintMore Go.Proofs.Ytllahlgnjeeliaa.PT

theorem listedV {α : Type} {Q : Nat → α → Prop} : ∀ (n : Nat), (∀ i, i < n → ∃ x, Q i x) → ∃ l : List α, l.length = n ∧ ∀ i x, l[i]? = some x → Q i x
 | 0, _ => ⟨[], rfl, fun i x h => by simp at h⟩
 | n + 1, h => by
  obtain ⟨l, hl, hq⟩ := listedV n (fun i hi => h i (by omega))
  obtain ⟨x, hx⟩ := h n (by omega)
  refine ⟨l ++ [x], by simp [hl], fun i y hy => ?_⟩
  by_cases hi : i < n
  ·rw [List.getElem?_append_left (by omega)] at hy
   exact hq i y hy
  ·rw [List.getElem?_append_right (by omega)] at hy
   have : i - l.length = 0 := by
    by_cases h0 : i - l.length = 0
    ·exact h0
    ·rw [List.getElem?_eq_none (by simp; omega)] at hy
     cases hy
   rw [this] at hy
   simp at hy
   subst hy
   rw [show i = n by omega]
   exact hx
section
variable {H : Type} {enc : TypeId × Value → H} {w : World} {base : Nat} {held : Bool}
set_option maxRecDepth 100000 in
theorem openA_f {fuel : Nat} {cs : List Value} {x : DataW H × List MemPlace} (h : DataW.trod enc Try.prog w base (fun _ => true) held fuel 23 cs = some x) :
 ∃ a : A16, cs = a.cells := by
 obtain ⟨xs, n, hn, _, hl, hlen, hf⟩ := DataW.trod_array Try.underlying23 h
 have hl : cs.length = 16 := hl
 have c1 : Try.prog.cellsOf 5 = 1 := by kernel_rfl
 rw [c1] at hf
 obtain ⟨l, hll, hq⟩ := listedV (Q := fun i (m : Int) => (cs.drop (i * 1)).take 1 = [.int .u8 m] ∧ (Lit.int .u8 m).wf = true) 16 (fun i hi => by
  have hi' := hf i hi
  rw [List.getElem?_eq_getElem (by omega)] at hi'
  obtain ⟨m, e, _, b⟩ := DataW.trod_int Try.underlying5 hi'
  exact ⟨m, e, b⟩)
 refine ⟨⟨l, hll, fun x hx => ?_⟩, ?_⟩
 ·obtain ⟨j, hj⟩ := List.mem_iff_getElem?.1 hx
  have := (hq j x hj).2
  simp [Lit.wf, IntKind.min, IntKind.max, IntKind.signed, IntKind.bits] at this
  omega
 ·apply List.ext_getElem
  ·rw [hl, A16.cells_len]
  ·intro i h1 h2
   have := (hq i l[i] (List.getElem?_eq_getElem (by omega))).1
   rw [Nat.mul_one, List.drop_eq_getElem_cons h1, List.take_succ_cons, List.take_zero] at this
   injection this with this
   rw [this]
   simp [A16.cells]
set_option maxRecDepth 100000 in
theorem openP_f {fuel : Nat} {cs : List Value} {x : DataW H × List MemPlace} (h : DataW.trod enc Try.prog w base (fun _ => true) held fuel 25 cs = some x) :
 ∃ p : Pfx, cs = p.cells ∧ (Lit.int .i64 p.n).wf = true := by
 obtain ⟨xs, n, hn, _, hl, hlen, hf⟩ := DataW.trod_struct Try.underlying25 h
 have hl : cs.length = 18 := hl
 match xs, hlen with
 | [y0, y1, y2], _ =>
 have h0 := hf 0 _ rfl
 have h1 := hf 1 _ rfl
 have h2 := hf 2 _ rfl
 replace h0 : DataW.trod enc Try.prog w base (fun _ => true) held n 4 (cs.take 1) = some y0 := h0
 replace h1 : DataW.trod enc Try.prog w base (fun _ => true) held n 23 ((cs.drop 1).take 16) = some y1 := h1
 replace h2 : DataW.trod enc Try.prog w base (fun _ => true) held n 3 ((cs.drop 17).take 1) = some y2 := h2
 obtain ⟨b, e0, _⟩ := DataW.trod_bool Try.underlying4 h0
 obtain ⟨a, e1⟩ := openA_f h1
 obtain ⟨m, e2, _, wf⟩ := DataW.trod_int Try.underlying3 h2
 refine ⟨⟨b, a, m⟩, ?_, wf⟩
 have k1 : cs = cs.take 1 ++ ((cs.drop 1).take 16 ++ (cs.drop 17).take 1) := by
  rw [List.take_of_length_le (l := cs.drop 17) (by simp; omega), show cs.drop 17 = (cs.drop 1).drop 16 by rw [List.drop_drop], List.take_append_drop, List.take_append_drop]
 rw [k1, e0, e1, e2]
 rfl
set_option maxRecDepth 100000 in
theorem openW_f {fuel : Nat} {cs : List Value} {x : DataW H × List MemPlace} (h : DataW.trod enc Try.prog w base (fun _ => true) held fuel 39 cs = some x) :
 ∃ v : Vrp, cs = v.cells := by
 obtain ⟨xs, n, hn, _, hl, hlen, hf⟩ := DataW.trod_struct Try.underlying39 h
 have hl : cs.length = 20 := hl
 match xs, hlen with
 | [y0, y1, y2], _ =>
 have h0 := hf 0 _ rfl
 have h1 := hf 1 _ rfl
 have h2 := hf 2 _ rfl
 replace h0 : DataW.trod enc Try.prog w base (fun _ => true) held n 26 (cs.take 1) = some y0 := h0
 replace h1 : DataW.trod enc Try.prog w base (fun _ => true) held n 25 ((cs.drop 1).take 18) = some y1 := h1
 replace h2 : DataW.trod enc Try.prog w base (fun _ => true) held n 3 ((cs.drop 19).take 1) = some y2 := h2
 obtain ⟨b, e0, _, _⟩ := DataW.trod_int Try.underlying26 h0
 obtain ⟨p, e1, _⟩ := openP_f h1
 obtain ⟨m, e2, _, wf⟩ := DataW.trod_int Try.underlying3 h2
 refine ⟨⟨b, p, m⟩, ?_⟩
 have k1 : cs = cs.take 1 ++ ((cs.drop 1).take 18 ++ (cs.drop 19).take 1) := by
  rw [List.take_of_length_le (l := cs.drop 19) (by simp; omega), show cs.drop 19 = (cs.drop 1).drop 18 by rw [List.drop_drop], List.take_append_drop, List.take_append_drop]
 rw [k1, e0, e1, e2]
 rfl
/-- A prefix that came in. -/
theorem openP {r : Reach} {b0 : Nat} {v : Value} {d : DataW H} {p : List MemPlace} (hv : Value.okWide Try.prog w r b0 25 v) (h : DataW.Trod enc Try.prog w base (fun _ => true) held 25 v d p) :
 ∃ p : Pfx, v = .agg p.arr := by
 obtain ⟨cs, rfl, hsz⟩ := okWide_struct Try.underlying25 hv
 obtain ⟨fuel, hf⟩ := h
 obtain ⟨p, e, _⟩ := openP_f hf
 obtain ⟨l⟩ := cs
 have e : l = p.cells := e
 exact ⟨p, by rw [e]; rfl⟩
/-- What an AS may tell, that came in. -/
theorem openW {r : Reach} {b0 : Nat} {v : Value} {d : DataW H} {p : List MemPlace} (hv : Value.okWide Try.prog w r b0 39 v) (h : DataW.Trod enc Try.prog w base (fun _ => true) held 39 v d p) :
 ∃ x : Vrp, v = .agg x.arr := by
 obtain ⟨cs, rfl, hsz⟩ := okWide_struct Try.underlying39 hv
 obtain ⟨fuel, hf⟩ := h
 obtain ⟨p, e⟩ := openW_f hf
 obtain ⟨l⟩ := cs
 have e : l = p.cells := e
 exact ⟨p, by rw [e]; rfl⟩
set_option maxRecDepth 100000 in
/-- A row that came in. -/
theorem openV {r : Reach} {b0 : Nat} {v : Value} {d : DataW H} {p : List MemPlace} {ts : List TypeId} {ds : List (DataW H)} {j : Nat}
 (hsz : (DataW.weightsEach Try.prog ts ds).all (· ≤ reachBytes) = true) (ht : ts[j]? = some 22) (hd : ds[j]? = some d)
 (hv : Value.okWide Try.prog w r b0 22 v) (h : DataW.Trod enc Try.prog w base (fun _ => true) held 22 v d p) :
 ∃ (A : Option Addr) (c : Nat) (l : List Vrp), v = .slice A l.length c ∧ kV.C w A l.length l ∧ l.length ≤ c ∧ l.length * 48 ≤ 140737488351232 := by
 obtain ⟨a, len, cap, rfl⟩ := okWide_slice Try.underlying22 hv
 obtain ⟨fuel, hf⟩ := h
 rcases DataW.trod_slice Try.underlying22 hf with ⟨hcs, _⟩ | ⟨a', len', cap', elems, rest, n2, hn2, hcs, hx, _, hle, hm, hel, hget, _, _⟩
 ·simp [Value.cells] at hcs
  obtain ⟨rfl, rfl, rfl⟩ := hcs
  exact ⟨none, 0, [], rfl, ⟨rfl, by simp, fun h => absurd rfl (Nat.ne_of_gt h)⟩, Nat.le_refl _, by simp⟩
 ·simp [Value.cells] at hcs
  obtain ⟨rfl, rfl, rfl⟩ := hcs
  obtain ⟨hx, _⟩ := Prod.mk.inj hx
  subst hx
  have z := sized_slice hsz ht hd Try.underlying22
  have hB : Try.prog.bytesOf 39 = 48 := by kernel_rfl
  rw [hB] at z
  obtain ⟨l, hl, hq⟩ := listedV (Q := fun i (s : Vrp) => w.cells? base (a'.add (i * Try.prog.cellsOf 39)) (Try.prog.cellsOf 39) = some s.cells) len (fun i hil => by
   have hi := hget i hil
   rw [List.getElem?_eq_getElem (by omega)] at hi
   obtain ⟨cs', g1, g2⟩ := Option.bind_eq_some_iff.1 hi
   obtain ⟨s, e⟩ := openW_f g2
   exact ⟨s, e ▸ g1⟩)
  subst hl
  have hC : Try.prog.cellsOf 39 = 20 := by kernel_rfl
  rw [hC] at hq
  refine ⟨some a', cap, l, rfl, ⟨rfl, (by have h9 : maxLen ≤ 9223372036854775807 := (by decide); show l.length ≤ 9223372036854775807; omega), fun _ => ⟨a', rfl, fun j s hj => ?_⟩⟩, hle, ?_⟩
  ·obtain ⟨_, _, hat⟩ := World.cells?_some (hq j s hj)
   refine ⟨s.cells, Vrp.cells_len _, rfl, fun i u hu => ?_⟩
   have hi : i < 20 := by
    by_cases h : i < 20
    ·exact h
    ·rw [List.getElem?_eq_none (by rw [Vrp.cells_len]; omega)] at hu; cases hu
   have := hat i hi
   rw [Go.Deep.add_add] at this
   exact this.trans hu
  ·have h1 : (elems.map (·.1)).length = l.length := by rw [List.length_map, hel]
   have h2 := Nat.le_trans (Nat.mul_le_mul_right 48 (Nat.le_add_right _ _)) z
   rw [h1] at h2
   exact h2
end
end Go.Proofs.Ytllahlgnjeeliaa.Ad
end
