/- Merged by a program of this session (wip/tools/pack.py). -/
import Derived.Test.YtcbmjmphicfgpaaGreatDoorKTalBack4
import Derived.Deep.Slices
import Derived.Deep.Fields
import Derived.ChangeSame
import Derived.OpenShut
import Derived.SliceStrings
section
namespace Go.Proofs.YtcbmjmphicfgpaaGreatDoor.PT
open Go.RowKit Go.Proofs.YtcbmjmphicfgpaaGreatDoorW.PrintWords Go.Proofs.YtcbmjmphicfgpaaGreatDoorW.PrintLast Go.Proofs.YtcbmjmphicfgpaaGreatDoorW.PrintMore
attribute [local go_sem] max2_int min2_int max_two min_two max_three min_three max_four min_four   -- for this text's walks alone
set_option linter.unusedVariables false
set_option linter.unusedSimpArgs false

def lanyardref09_primes.f  : Option (List Int) := some (([3, 5, 7, 11, 13, 17, 19, 23, 29, 31, 37, 41, 43, 53, 61, 67, 71, 73, 79, 89, 113, 127, 131, 157, 181, 199, 211, 241, 281, 313, 331, 337, 397, 421, 463, 521, 547, 617, 631, 661, 859, 881, 911, 937, 991, 1009, 1093, 1171, 1321, 1873, 2003, 2311, 2341, 2521, 2731, 2861, 3121, 3433, 3697, 4621, 6007, 6553, 8009, 8191, 9241, 16381, 18481, 20021, 20593] : List Int))
set_option maxHeartbeats 8000000 in
set_option maxRecDepth 100000 in
theorem lanyardref09_primes.calls  (r : List Int) (w : World) (h : lanyardref09_primes.f  = some r) :
 Calls Tryz.prog 50 #[] w fun e w' => ∃ v0_ : Value, e = .returned (v0_) ∧ Kd.R (Kd.int .u32) 30 w' w.heap.size (fun _ => True) v0_ r ∧ Below w.heap.size w w' := by
 have HB := Aside0.mk (Below.refl w.heap.size w)
 have H : (some (([3, 5, 7, 11, 13, 17, 19, 23, 29, 31, 37, 41, 43, 53, 61, 67, 71, 73, 79, 89, 113, 127, 131, 157, 181, 199, 211, 241, 281, 313, 331, 337, 397, 421, 463, 521, 547, 617, 631, 661, 859, 881, 911, 937, 991, 1009, 1093, 1171, 1321, 1873, 2003, 2311, 2341, 2521, 2731, 2861, 3121, 3433, 3697, 4621, 6007, 6553, 8009, 8191, 9241, 16381, 18481, 20021, 20593] : List Int))) = some r := h
 clear h
 obtain ⟨y225, hy225⟩ : ∃ y_ : List Int, y_ = (([3, 5, 7, 11, 13, 17, 19, 23, 29, 31, 37, 41, 43, 53, 61, 67, 71, 73, 79, 89, 113, 127, 131, 157, 181, 199, 211, 241, 281, 313, 331, 337, 397, 421, 463, 521, 547, 617, 631, 661, 859, 881, 911, 937, 991, 1009, 1093, 1171, 1321, 1873, 2003, 2311, 2341, 2521, 2731, 2861, 3121, 3433, 3697, 4621, 6007, 6553, 8009, 8191, 9241, 16381, 18481, 20021, 20593] : List Int)) := ⟨_, rfl⟩
 replace H : (some y225) = some r := by first | (rw [hy225]; with_reducible exact H) | (have H2_ := (Option.bind_some _ _).symm.trans H; rw [hy225]; with_reducible exact H2_) | (have H2_ := (Option.bind_some _ _).symm.trans H; with_reducible exact H2_) | with_reducible exact H | (rw [hy225]; exact H) | exact H
 have Ny225 := Aside0.mk hy225
 clear hy225
 obtain rfl := Option.some.inj H
 go_enter Tryz.func50, Tryz.ntmps50
 go_wp2_with (first | ((with_reducible refine gate_dst (N := 1) rfl ?_); refine Kd.R_lit (Kd.int .u32) _ 30 ?hg (N := 1) ?hd (xs := ([3, 5, 7, 11, 13, 17, 19, 23, 29, 31, 37, 41, 43, 53, 61, 67, 71, 73, 79, 89, 113, 127, 131, 157, 181, 199, 211, 241, 281, 313, 331, 337, 397, 421, 463, 521, 547, 617, 631, 661, 859, 881, 911, 937, 991, 1009, 1093, 1171, 1321, 1873, 2003, 2311, 2341, 2521, 2731, 2861, 3121, 3433, 3697, 4621, 6007, 6553, 8009, 8191, 9241, 16381, 18481, 20021, 20593] : List Int)) (inner := [.int .u32 3, .int .u32 5, .int .u32 7, .int .u32 11, .int .u32 13, .int .u32 17, .int .u32 19, .int .u32 23, .int .u32 29, .int .u32 31, .int .u32 37, .int .u32 41, .int .u32 43, .int .u32 53, .int .u32 61, .int .u32 67, .int .u32 71, .int .u32 73, .int .u32 79, .int .u32 89, .int .u32 113, .int .u32 127, .int .u32 131, .int .u32 157, .int .u32 181, .int .u32 199, .int .u32 211, .int .u32 241, .int .u32 281, .int .u32 313, .int .u32 331, .int .u32 337, .int .u32 397, .int .u32 421, .int .u32 463, .int .u32 521, .int .u32 547, .int .u32 617, .int .u32 631, .int .u32 661, .int .u32 859, .int .u32 881, .int .u32 911, .int .u32 937, .int .u32 991, .int .u32 1009, .int .u32 1093, .int .u32 1171, .int .u32 1321, .int .u32 1873, .int .u32 2003, .int .u32 2311, .int .u32 2341, .int .u32 2521, .int .u32 2731, .int .u32 2861, .int .u32 3121, .int .u32 3433, .int .u32 3697, .int .u32 4621, .int .u32 6007, .int .u32 6553, .int .u32 8009, .int .u32 8191, .int .u32 9241, .int .u32 16381, .int .u32 18481, .int .u32 20021, .int .u32 20593]) (ok := fun _ => True) (okp := fun _ => True) ?hr ?hp (fun _ hk => hk) trivial (Below.refl _ _) (Nat.le_refl _) (by simp) ?_; (case hd => rfl); (case hg => rfl); (case hr => first | (go_simp; done) | (go_simp; rfl)); (case hp => exact (Reps.one (show Kd.M (Kd.int .u32) _ _ _ 3 [.int .u32 3] from rfl) (Reps.one (show Kd.M (Kd.int .u32) _ _ _ 5 [.int .u32 5] from rfl) (Reps.one (show Kd.M (Kd.int .u32) _ _ _ 7 [.int .u32 7] from rfl) (Reps.one (show Kd.M (Kd.int .u32) _ _ _ 11 [.int .u32 11] from rfl) (Reps.one (show Kd.M (Kd.int .u32) _ _ _ 13 [.int .u32 13] from rfl) (Reps.one (show Kd.M (Kd.int .u32) _ _ _ 17 [.int .u32 17] from rfl) (Reps.one (show Kd.M (Kd.int .u32) _ _ _ 19 [.int .u32 19] from rfl) (Reps.one (show Kd.M (Kd.int .u32) _ _ _ 23 [.int .u32 23] from rfl) (Reps.one (show Kd.M (Kd.int .u32) _ _ _ 29 [.int .u32 29] from rfl) (Reps.one (show Kd.M (Kd.int .u32) _ _ _ 31 [.int .u32 31] from rfl) (Reps.one (show Kd.M (Kd.int .u32) _ _ _ 37 [.int .u32 37] from rfl) (Reps.one (show Kd.M (Kd.int .u32) _ _ _ 41 [.int .u32 41] from rfl) (Reps.one (show Kd.M (Kd.int .u32) _ _ _ 43 [.int .u32 43] from rfl) (Reps.one (show Kd.M (Kd.int .u32) _ _ _ 53 [.int .u32 53] from rfl) (Reps.one (show Kd.M (Kd.int .u32) _ _ _ 61 [.int .u32 61] from rfl) (Reps.one (show Kd.M (Kd.int .u32) _ _ _ 67 [.int .u32 67] from rfl) (Reps.one (show Kd.M (Kd.int .u32) _ _ _ 71 [.int .u32 71] from rfl) (Reps.one (show Kd.M (Kd.int .u32) _ _ _ 73 [.int .u32 73] from rfl) (Reps.one (show Kd.M (Kd.int .u32) _ _ _ 79 [.int .u32 79] from rfl) (Reps.one (show Kd.M (Kd.int .u32) _ _ _ 89 [.int .u32 89] from rfl) (Reps.one (show Kd.M (Kd.int .u32) _ _ _ 113 [.int .u32 113] from rfl) (Reps.one (show Kd.M (Kd.int .u32) _ _ _ 127 [.int .u32 127] from rfl) (Reps.one (show Kd.M (Kd.int .u32) _ _ _ 131 [.int .u32 131] from rfl) (Reps.one (show Kd.M (Kd.int .u32) _ _ _ 157 [.int .u32 157] from rfl) (Reps.one (show Kd.M (Kd.int .u32) _ _ _ 181 [.int .u32 181] from rfl) (Reps.one (show Kd.M (Kd.int .u32) _ _ _ 199 [.int .u32 199] from rfl) (Reps.one (show Kd.M (Kd.int .u32) _ _ _ 211 [.int .u32 211] from rfl) (Reps.one (show Kd.M (Kd.int .u32) _ _ _ 241 [.int .u32 241] from rfl) (Reps.one (show Kd.M (Kd.int .u32) _ _ _ 281 [.int .u32 281] from rfl) (Reps.one (show Kd.M (Kd.int .u32) _ _ _ 313 [.int .u32 313] from rfl) (Reps.one (show Kd.M (Kd.int .u32) _ _ _ 331 [.int .u32 331] from rfl) (Reps.one (show Kd.M (Kd.int .u32) _ _ _ 337 [.int .u32 337] from rfl) (Reps.one (show Kd.M (Kd.int .u32) _ _ _ 397 [.int .u32 397] from rfl) (Reps.one (show Kd.M (Kd.int .u32) _ _ _ 421 [.int .u32 421] from rfl) (Reps.one (show Kd.M (Kd.int .u32) _ _ _ 463 [.int .u32 463] from rfl) (Reps.one (show Kd.M (Kd.int .u32) _ _ _ 521 [.int .u32 521] from rfl) (Reps.one (show Kd.M (Kd.int .u32) _ _ _ 547 [.int .u32 547] from rfl) (Reps.one (show Kd.M (Kd.int .u32) _ _ _ 617 [.int .u32 617] from rfl) (Reps.one (show Kd.M (Kd.int .u32) _ _ _ 631 [.int .u32 631] from rfl) (Reps.one (show Kd.M (Kd.int .u32) _ _ _ 661 [.int .u32 661] from rfl) (Reps.one (show Kd.M (Kd.int .u32) _ _ _ 859 [.int .u32 859] from rfl) (Reps.one (show Kd.M (Kd.int .u32) _ _ _ 881 [.int .u32 881] from rfl) (Reps.one (show Kd.M (Kd.int .u32) _ _ _ 911 [.int .u32 911] from rfl) (Reps.one (show Kd.M (Kd.int .u32) _ _ _ 937 [.int .u32 937] from rfl) (Reps.one (show Kd.M (Kd.int .u32) _ _ _ 991 [.int .u32 991] from rfl) (Reps.one (show Kd.M (Kd.int .u32) _ _ _ 1009 [.int .u32 1009] from rfl) (Reps.one (show Kd.M (Kd.int .u32) _ _ _ 1093 [.int .u32 1093] from rfl) (Reps.one (show Kd.M (Kd.int .u32) _ _ _ 1171 [.int .u32 1171] from rfl) (Reps.one (show Kd.M (Kd.int .u32) _ _ _ 1321 [.int .u32 1321] from rfl) (Reps.one (show Kd.M (Kd.int .u32) _ _ _ 1873 [.int .u32 1873] from rfl) (Reps.one (show Kd.M (Kd.int .u32) _ _ _ 2003 [.int .u32 2003] from rfl) (Reps.one (show Kd.M (Kd.int .u32) _ _ _ 2311 [.int .u32 2311] from rfl) (Reps.one (show Kd.M (Kd.int .u32) _ _ _ 2341 [.int .u32 2341] from rfl) (Reps.one (show Kd.M (Kd.int .u32) _ _ _ 2521 [.int .u32 2521] from rfl) (Reps.one (show Kd.M (Kd.int .u32) _ _ _ 2731 [.int .u32 2731] from rfl) (Reps.one (show Kd.M (Kd.int .u32) _ _ _ 2861 [.int .u32 2861] from rfl) (Reps.one (show Kd.M (Kd.int .u32) _ _ _ 3121 [.int .u32 3121] from rfl) (Reps.one (show Kd.M (Kd.int .u32) _ _ _ 3433 [.int .u32 3433] from rfl) (Reps.one (show Kd.M (Kd.int .u32) _ _ _ 3697 [.int .u32 3697] from rfl) (Reps.one (show Kd.M (Kd.int .u32) _ _ _ 4621 [.int .u32 4621] from rfl) (Reps.one (show Kd.M (Kd.int .u32) _ _ _ 6007 [.int .u32 6007] from rfl) (Reps.one (show Kd.M (Kd.int .u32) _ _ _ 6553 [.int .u32 6553] from rfl) (Reps.one (show Kd.M (Kd.int .u32) _ _ _ 8009 [.int .u32 8009] from rfl) (Reps.one (show Kd.M (Kd.int .u32) _ _ _ 8191 [.int .u32 8191] from rfl) (Reps.one (show Kd.M (Kd.int .u32) _ _ _ 9241 [.int .u32 9241] from rfl) (Reps.one (show Kd.M (Kd.int .u32) _ _ _ 16381 [.int .u32 16381] from rfl) (Reps.one (show Kd.M (Kd.int .u32) _ _ _ 18481 [.int .u32 18481] from rfl) (Reps.one (show Kd.M (Kd.int .u32) _ _ _ 20021 [.int .u32 20021] from rfl) (Reps.one (show Kd.M (Kd.int .u32) _ _ _ 20593 [.int .u32 20593] from rfl) (Reps.none _ _))))))))))))))))))))))))))))))))))))))))))))))))))))))))))))))))))))))); intro v226 w1 ho2 hb hg_ hnew_; clear hg_ hnew_; (first | rw [← Ny225.out] at ho2 | (simp only [Int.reduceToNat] at ho2; rw [← Ny225.out] at ho2)); have n0_ := Aside0.mk (Kd.R_lower ho2 (below_size (by repeat (first | (with_reducible first | exact HB.out | apply below_alloc | apply pw_below_drewN | apply below_drew1) | exact HB.out)))); have n1_ := Aside0.mk (below_step (by repeat (first | (with_reducible first | exact HB.out | apply below_alloc | apply pw_below_drewN | apply below_drew1) | exact HB.out)) hb); clear HB; have HO227 := n0_; have HB := n1_; clear n0_ n1_; clear hb ho2))
 go_ret
 exact ⟨_, by first | rfl | (simp [errW_none, errW_some] <;> rfl) | (simp [*, errW_none, errW_some] <;> rfl), by (with_reducible repeat (first | apply Kd.R_alloc | apply Kd.R_drewN | apply Kd.R_drew)); exact HO227.out, by repeat (first | (with_reducible first | exact HB.out | apply below_alloc | apply pw_below_drewN | apply below_drew1) | exact HB.out)⟩

end Go.Proofs.YtcbmjmphicfgpaaGreatDoor.PT
end

section
namespace Go.Proofs.YtcbmjmphicfgpaaGreatDoor.PT
open Go.RowKit Go.Proofs.YtcbmjmphicfgpaaGreatDoorW.PrintWords Go.Proofs.YtcbmjmphicfgpaaGreatDoorW.PrintLast Go.Proofs.YtcbmjmphicfgpaaGreatDoorW.PrintMore
attribute [local go_sem] max2_int min2_int max_two min_two max_three min_three max_four min_four   -- for this text's walks alone
set_option linter.unusedVariables false
set_option linter.unusedSimpArgs false

def lanyardref07_part.f (l0 : List Int) (a1 : Int) : Option (Int) := if a1 ≥ (l0.length : Int) then (some 0) else (if 0 ≤ a1 then (if a1 < (l0.length : Int) then (some (IntKind.u64.wrap (rd l0 a1))) else (none)) else (none))
set_option maxHeartbeats 8000000 in
set_option maxRecDepth 100000 in
theorem lanyardref07_part.calls (A0 : Option Addr) (c0 : Nat) (l0 : List Int) (a1 : Int) (r : Int) (w : World) (hr0 : Kd.C (Kd.int .u32) w A0 l0.length l0) (hc0 : l0.length ≤ c0) (h : lanyardref07_part.f l0 a1 = some r) :
 Calls Tryz.prog 95 #[.slice A0 l0.length c0, .int .i64 a1] w fun e w' => e = .returned (.int .u64 r) ∧ Drawn0 w w' := by
 have HR0 := Aside0.mk hr0
 have HC0 := Aside0.mk hc0
 clear hr0 hc0
 have H : (if a1 ≥ (l0.length : Int) then (some 0) else (if 0 ≤ a1 then (if a1 < (l0.length : Int) then (some (IntKind.u64.wrap (rd l0 a1))) else (none)) else (none))) = some r := h
 clear h
 by_cases c3 : a1 ≥ (l0.length : Int)
 ·rw [if_pos c3] at H
  have c3b0 : decide ((l0.length : Int) ≤ a1) = true := decide_eq_true c3
  clear c3
  obtain rfl := Option.some.inj H
  go_enter Tryz.func95, Tryz.ntmps95
  go_wp2
  go_ret
  exact ⟨by first | rfl | (simp; done) | (simp [*]; done), by repeat (first | exact Drawn0.refl _ | apply Drawn0.step)⟩
 ·rw [if_neg c3] at H
  have c3b0 : decide ((l0.length : Int) ≤ a1) = false := decide_eq_false c3
  clear c3
  by_cases c4 : 0 ≤ a1
  ·rw [if_pos c4] at H
   have c4b0 : decide (0 ≤ a1) = true := decide_eq_true c4
   clear c4
   by_cases c5 : a1 < (l0.length : Int)
   ·rw [if_pos c5] at H
    have c5b0 : decide (a1 < (l0.length : Int)) = true := decide_eq_true c5
    clear c5
    obtain rfl := Option.some.inj H
    have p228 : 0 ≤ (a1 : Int) := of_decide_eq_true (by first | (with_reducible assumption) | assumption)
    have q228 : a1 < (l0.length : Int) := of_decide_eq_true (by first | (with_reducible assumption) | assumption)
    obtain ⟨ad228, e228, hx228_0⟩ := Kd.at_int HR0.out a1 p228 q228
    cases e228
    replace p228 := eq_true p228
    replace q228 := eq_true q228
    go_enter Tryz.func95, Tryz.ntmps95
    go_wp2
    go_ret
    exact ⟨by first | rfl | (simp; done) | (simp [*]; done), by repeat (first | exact Drawn0.refl _ | apply Drawn0.step)⟩
   ·rw [if_neg c5] at H
    exact absurd H (by simp)
  ·rw [if_neg c4] at H
   exact absurd H (by simp)

end Go.Proofs.YtcbmjmphicfgpaaGreatDoor.PT
end

section
set_option linter.unusedVariables false
set_option linter.unusedSimpArgs false
namespace Go.Proofs.YtcbmjmphicfgpaaGreatDoor.Tal
open Go.RowKit Go.Proofs.YtcbmjmphicfgpaaGreatDoorW.PrintWords Go.Proofs.YtcbmjmphicfgpaaGreatDoorW.PrintLast Go.Proofs.YtcbmjmphicfgpaaGreatDoorW.PrintMore Go.Proofs.YtcbmjmphicfgpaaGreatDoor.PT

/-- Without the noughts at its end, of the first k. -/
def bareK (l : List Int) : Nat → List Int
 | 0 => []
 | k + 1 => if l.getD k 0 = 0 then bareK l k else l.take (k + 1)
theorem info32 : (Tryz.prog.info? 30).map (fun i => (i.zero, i.size, i.bytes)) = some (some (.int .u32 0), 1, 4) := by kernel_rfl
theorem R_none32 (W : World) (base : Nat) (hb : base ≤ W.heap.size) : (Kd.int .u32).R 30 (W.alloc (.cells #[] 30)) base (fun _ => True) (.slice (some ⟨W.heap.size, 0, none⟩) 0 0) [] :=
 Tlv.R_ints (k := .u32) (l := []) (heap_alloc_new W _) hb trivial (by simp)

set_option maxHeartbeats 4000000 in
set_option maxRecDepth 100000 in
theorem bare7_walk (A : Option Addr) (c : Nat) (l : List Int) (w : World) (hr : (Kd.int .u32).C w A l.length l) (hc : l.length ≤ c) (hl : l.length ≤ 1000000) :
 Calls Tryz.prog 96 #[.slice A l.length c] w fun e w' => ∃ v, e = .returned v ∧ (Kd.int .u32).R 30 w' w.heap.size (fun _ => True) v (bareK l l.length) ∧ Below w.heap.size w w' := by
 obtain ⟨i0, hi, _, hsz, _⟩ := info_parts info32
 obtain ⟨res, hres⟩ : ∃ res, res = bareK l l.length := ⟨_, rfl⟩
 rw [← hres]
 have HRES := Lib.hid hres
 have HR := Lib.hid hr
 clear hres hr
 go_enter Tryz.func96, Tryz.ntmps96
 go_wp2
 go_loop [3] (fun v => ∃ k : Nat, k ≤ l.length ∧ v = .int .i64 k ∧ Hid (res = bareK l k)) (fun v => (intOf v).toNat)
 case atStart => exact ⟨l.length, Nat.le_refl _, rfl, HRES⟩
 case round =>
  obtain ⟨k, hk, rfl, hkr⟩ := hrel
  obtain ⟨hcut, hA2, hC2⟩ := print_take_of (P := Tryz.prog) (Value.int .u32) (0 : Int) 78 30 .i64 Tryz.underlying78 hi hsz A c l (k : Int) (by omega) (by omega) hc
  simp only [Int.toNat_natCast] at hcut hA2 hC2
  have hrk := fun w1 (hB : Below w.heap.size w w1) => Kd.C_of_reads (h1 := fun _ => rfl) (hA2 w1 (Kd.reads_of_C (Kd.C_below HR.out hB)))
  have HRK := Lib.hid hrk
  have hlen : (l.take k).length = k := by simp; omega
  rw [hlen] at hcut hC2 HRK
  have HFIN : Hid (∀ v1 w1, (Kd.int .u32).R 30 w1 w.heap.size (fun _ => True) v1 ([] ++ l.take k) → res = l.take k → (Kd.int .u32).R 30 w1 w.heap.size (fun _ => True) v1 res) := Lib.hid (fun v1 w1 h e => by rw [e]; simpa using h)
  clear hA2 hrk
  have hal : Below w.heap.size w (w.alloc (.cells #[] 30)) := (Below.refl _ _).alloc (Nat.le_refl _) _
  have HAL := Lib.hid hal
  clear hal
  by_cases h0 : k = 0
  ·subst h0
   have hz : res = l.take 0 := by rw [hkr.out]; rfl
   have HZ := Lib.hid hz
   clear hz hkr
   have d0 : decide ((0 : Int) < ((0 : Nat) : Int)) = false := by decide
   go_wp2_with ((with_reducible refine Tlv.at_dst 22 ?_); (refine Kd.R_append_row (Value.int .u32) (0 : Int) (h1 := fun _ => rfl) (w0 := w) w.heap.size rfl (.tmp 18) (.tmp 21) 78 30 (.int .u32 0) 4 rfl Tryz.underlying78 info32 rfl (by decide) _ [] (l.take 0) _ _ _ (fun _ => True) rfl rfl (fun _ _ => trivial) (by exact R_none32 w w.heap.size (Nat.le_refl _)) (by exact HRK.out _ HAL.out) (by exact HAL.out) (by exact HAL.out.size) (by simp) ?_); intro v2 w2 ho2 hb2 _ _; have HO2 := Lib.hid (HFIN.out _ _ ho2 HZ.out); have HB2 := Lib.hid hb2; clear ho2 hb2)
   go_ret
   exact ⟨_, rfl, HO2.out, HB2.out⟩
  ·obtain ⟨k, rfl⟩ : ∃ m, k = m + 1 := ⟨k - 1, by omega⟩
   obtain ⟨ad, e, q0⟩ := Kd.at_int HR.out (k : Int) (by omega) (by omega)
   subst e
   simp only [Int.toNat_natCast] at q0
   have hx : rd l (k : Int) = l.getD k 0 := by simp [rd]
   rw [hx] at q0
   have hkr2 := hkr.out
   rw [bareK] at hkr2
   obtain ⟨x, hxx⟩ : ∃ x, x = l.getD k 0 := ⟨_, rfl⟩
   rw [← hxx] at q0 hkr2
   have HX := Lib.hid hkr2
   have d0 : decide ((0 : Int) < ((k + 1 : Nat) : Int)) = true := decide_eq_true (by omega)
   have d1 := eq_true (show (0 : Int) < ((k + 1 : Nat) : Int) by omega)
   have e1 : ((k + 1 : Nat) : Int) - 1 = (k : Int) := by omega
   clear hx hxx hkr hkr2
   by_cases hz : x = 0
   ·have z1 : (x == 0) = true := by simp [hz]
    have HN : Hid (res = bareK l k) := Lib.hid (by rw [HX.out, if_pos hz])
    clear hz
    go_wp2
    go_round
    case rel => exact ⟨k, by omega, by go_num, HN⟩
    case measure => simp [intOf]
   ·have z1 : (x == 0) = false := by simp [hz]
    have HN : Hid (res = l.take (k + 1)) := Lib.hid (by rw [HX.out, if_neg hz])
    clear hz
    go_wp2_with ((with_reducible refine Tlv.at_dst 22 ?_); (refine Kd.R_append_row (Value.int .u32) (0 : Int) (h1 := fun _ => rfl) (w0 := w) w.heap.size rfl (.tmp 18) (.tmp 21) 78 30 (.int .u32 0) 4 rfl Tryz.underlying78 info32 rfl (by decide) _ [] (l.take (k + 1)) _ _ _ (fun _ => True) rfl rfl (fun _ _ => trivial) (by exact R_none32 w w.heap.size (Nat.le_refl _)) (by exact HRK.out _ HAL.out) (by exact HAL.out) (by exact HAL.out.size) (by simp; omega) ?_); intro v2 w2 ho2 hb2 _ _; have HO2 := Lib.hid (HFIN.out _ _ ho2 HN.out); have HB2 := Lib.hid hb2; clear ho2 hb2)
    go_ret
    exact ⟨_, rfl, HO2.out, HB2.out⟩
end Go.Proofs.YtcbmjmphicfgpaaGreatDoor.Tal
end

section
namespace Go.Proofs.YtcbmjmphicfgpaaGreatDoor.PT
open Go.RowKit Go.Proofs.YtcbmjmphicfgpaaGreatDoorW.PrintWords Go.Proofs.YtcbmjmphicfgpaaGreatDoorW.PrintLast Go.Proofs.YtcbmjmphicfgpaaGreatDoorW.PrintMore
attribute [local go_sem] max2_int min2_int max_two min_two max_three min_three max_four min_four   -- for this text's walks alone
set_option linter.unusedVariables false
set_option linter.unusedSimpArgs false

def lanyardref07_Bare.f (l0 : List Int) : Option (List Int) := if l0.length ≤ 1000000 then some (Tal.bareK l0 l0.length) else none
theorem lanyardref07_Bare.calls (A0 : Option Addr) (c0 : Nat) (l0 : List Int) (r : List Int) (w : World) (hr0 : Kd.C (Kd.int .u32) w A0 l0.length l0) (hc0 : l0.length ≤ c0) (h : lanyardref07_Bare.f l0 = some r) :
 Calls Tryz.prog 96 #[.slice A0 l0.length c0] w fun e w' => ∃ v0_ : Value, e = .returned (v0_) ∧ Kd.R (Kd.int .u32) 30 w' w.heap.size (fun _ => True) v0_ r ∧ Below w.heap.size w w' := by
 unfold lanyardref07_Bare.f at h
 by_cases hs : l0.length ≤ 1000000
 ·rw [if_pos hs] at h
  have h2 := Option.some.inj h
  subst h2
  exact Tal.bare7_walk A0 c0 l0 w hr0 hc0 hs
 ·rw [if_neg hs] at h
  cases h

end Go.Proofs.YtcbmjmphicfgpaaGreatDoor.PT
end

section
namespace Go.Proofs.YtcbmjmphicfgpaaGreatDoor.PT
open Go.RowKit Go.Proofs.YtcbmjmphicfgpaaGreatDoorW.PrintWords Go.Proofs.YtcbmjmphicfgpaaGreatDoorW.PrintLast Go.Proofs.YtcbmjmphicfgpaaGreatDoorW.PrintMore
attribute [local go_sem] max2_int min2_int max_two min_two max_three min_three max_four min_four   -- for this text's walks alone
set_option linter.unusedVariables false
set_option linter.unusedSimpArgs false

mutual
def lanyardref07_Mul.l0 : Nat → List Int → List Int → List Int → Int → Option (List Int)
 | 0, _, _, _, _ => none
 | k + 1, x0, x1, x5, x6 => if x6 < (x0.length : Int) then (lanyardref07_Mul.l1 k x0 x1 x5 x6 0 0) else ((lanyardref07_Bare.f x5).bind fun t118 => (some t118))
def lanyardref07_Mul.l1 : Nat → List Int → List Int → List Int → Int → Int → Int → Option (List Int)
 | 0, _, _, _, _, _, _ => none
 | k + 1, x0, x1, x5, x6, x7, x8 => if x8 < (x1.length : Int) then (lanyardref07_Mul.j2 k x0 x1 x5 x6 x7 x8 true) else (lanyardref07_Mul.j2 k x0 x1 x5 x6 x7 x8 (decide (x7 > 0)))
def lanyardref07_Mul.j2 : Nat → List Int → List Int → List Int → Int → Int → Int → Bool → Option (List Int)
 | 0, _, _, _, _, _, _, _ => none
 | k + 1, x0, x1, x5, x6, x7, x8, x29 => if x29 = true then (if 0 ≤ (wrap64 (x6 + x8)) then (if (wrap64 (x6 + x8)) < (x5.length : Int) then ((lanyardref07_part.f x0 x6).bind fun t122 => ((lanyardref07_part.f x1 x8).bind fun t123 => (lanyardref07_Mul.l1 k x0 x1 (x5.set ((wrap64 (x6 + x8)) : Int).toNat ((IntKind.u64.wrap ((IntKind.u64.wrap (x7 + (IntKind.u64.wrap (rd x5 (wrap64 (x6 + x8)))))) + (IntKind.u64.wrap (t122 * t123)))) % 4294967296)) x6 ((IntKind.u64.wrap ((IntKind.u64.wrap (x7 + (IntKind.u64.wrap (rd x5 (wrap64 (x6 + x8)))))) + (IntKind.u64.wrap (t122 * t123)))) / 4294967296) (wrap64 (x8 + 1))))) else (none)) else (none)) else (lanyardref07_Mul.l0 k x0 x1 x5 (wrap64 (x6 + 1)))
end
def lanyardref07_Mul.f (k : Nat) (l0 : List Int) (l1 : List Int) : Option (List Int) := if 0 ≤ (wrap64 ((wrap64 ((l0.length : Int) + (l1.length : Int))) + 1)) then (if (wrap64 ((wrap64 ((l0.length : Int) + (l1.length : Int))) + 1) : Int).toNat ≤ 70368744177664 then (lanyardref07_Mul.l0 k l0 l1 (List.replicate (wrap64 ((wrap64 ((l0.length : Int) + (l1.length : Int))) + 1) : Int).toNat 0) 0) else (none)) else (none)
set_option maxHeartbeats 8000000 in
set_option maxRecDepth 100000 in
theorem lanyardref07_Mul.calls (k : Nat) (A0 : Option Addr) (c0 : Nat) (l0 : List Int) (A1 : Option Addr) (c1 : Nat) (l1 : List Int) (r : List Int) (w : World) (hr0 : Kd.C (Kd.int .u32) w A0 l0.length l0) (hc0 : l0.length ≤ c0) (hr1 : Kd.C (Kd.int .u32) w A1 l1.length l1) (hc1 : l1.length ≤ c1) (h : lanyardref07_Mul.f k l0 l1 = some r) :
 Calls Tryz.prog 51 #[.slice A0 l0.length c0, .slice A1 l1.length c1] w fun e w' => ∃ v0_ : Value, e = .returned (v0_) ∧ Kd.R (Kd.int .u32) 30 w' w.heap.size (fun _ => True) v0_ r ∧ Below w.heap.size w w' := by
 have HR0 := Aside0.mk hr0
 have HC0 := Aside0.mk hc0
 clear hr0 hc0
 have HR1 := Aside0.mk hr1
 have HC1 := Aside0.mk hc1
 clear hr1 hc1
 have HB := Aside0.mk (Below.refl w.heap.size w)
 have H : (if 0 ≤ (wrap64 ((wrap64 ((l0.length : Int) + (l1.length : Int))) + 1)) then (if (wrap64 ((wrap64 ((l0.length : Int) + (l1.length : Int))) + 1) : Int).toNat ≤ 70368744177664 then (lanyardref07_Mul.l0 k l0 l1 (List.replicate (wrap64 ((wrap64 ((l0.length : Int) + (l1.length : Int))) + 1) : Int).toNat 0) 0) else (none)) else (none)) = some r := h
 clear h
 obtain ⟨ji3, hji3⟩ : ∃ j_ : Int, (wrap64 ((wrap64 ((l0.length : Int) + (l1.length : Int))) + 1)) = j_ := ⟨_, rfl⟩
 replace H : (if 0 ≤ (ji3) then (if (ji3 : Int).toNat ≤ 70368744177664 then (lanyardref07_Mul.l0 k l0 l1 (List.replicate (ji3 : Int).toNat 0) 0) else (none)) else (none)) = some r := by first | (rw [hji3] at H; exact H) | (simp only [hji3] at H ⊢; exact H)
 have hji3w : (IntKind.i64.wrap ((wrap64 ((l0.length : Int) + (l1.length : Int))) + 1)) = ji3 := (i64_w _).trans hji3
 by_cases c4 : 0 ≤ (ji3)
 ·rw [if_pos c4] at H
  have c4b0 := eq_true c4
  have c4b1 : decide (0 ≤ (ji3)) = true := decide_eq_true c4
  clear c4
  by_cases c5 : (ji3 : Int).toNat ≤ 70368744177664
  ·rw [if_pos c5] at H
   have c5b0 := eq_true c5
   have c5b1 : decide ((ji3 : Int).toNat ≤ 70368744177664) = true := decide_eq_true c5
   clear c5
   obtain ⟨y115, hy115⟩ : ∃ y_ : List Int, y_ = (List.replicate (ji3 : Int).toNat 0) := ⟨_, rfl⟩
   replace H : (lanyardref07_Mul.l0 k l0 l1 y115 0) = some r := by first | (rw [hy115]; with_reducible exact H) | (have H2_ := (Option.bind_some _ _).symm.trans H; rw [hy115]; with_reducible exact H2_) | (have H2_ := (Option.bind_some _ _).symm.trans H; with_reducible exact H2_) | with_reducible exact H | (rw [hy115]; exact H) | exact H
   have Ny115 := Aside0.mk hy115
   clear hy115
   have H' := Aside0.mk H
   clear H
   go_enter Tryz.func51, Tryz.ntmps51
   go_wp2_with (first | ((with_reducible refine gate_dst (N := 15) rfl ?_); refine Kd.R_make (Kd.int .u32) _ 30 rfl (N := 15) rfl 78 _ _ rfl ji3 rfl rfl Tryz.underlying78 (.int .u32 0) 4 info30 rfl (by decide) (by omega) 0 (ok := fun _ => True) (okp := fun _ => True) rfl (fun _ hk => hk) trivial (of_decide_eq_true (by first | (with_reducible assumption) | assumption)) (Nat.le_trans (Nat.mul_le_mul_right _ (of_decide_eq_true (by first | (with_reducible assumption) | assumption) : ji3.toNat ≤ 70368744177664)) (by omega)) (Below.refl _ _) (Nat.le_refl _) ?_; intro v116 w6 ho7 hb hg_ hnew_; clear hg_ hnew_; (first | rw [← Ny115.out] at ho7 | (simp only [Int.reduceToNat] at ho7; rw [← Ny115.out] at ho7)); have n0_ := Aside0.mk (Kd.R_lower ho7 (below_size (by repeat (first | (with_reducible first | exact HB.out | apply below_alloc | apply pw_below_drewN | apply below_drew1) | exact HB.out)))); have n1_ := Aside0.mk (below_step (by repeat (first | (with_reducible first | exact HB.out | apply below_alloc | apply pw_below_drewN | apply below_drew1) | exact HB.out)) hb); clear HB; have HO117 := n0_; have HB := n1_; clear n0_ n1_; clear hb ho7))
   repeat (go_quiet (first | ((with_reducible refine gate_dst (N := 15) rfl ?_); refine Kd.R_make (Kd.int .u32) _ 30 rfl (N := 15) rfl 78 _ _ rfl ji3 rfl rfl Tryz.underlying78 (.int .u32 0) 4 info30 rfl (by decide) (by omega) 0 (ok := fun _ => True) (okp := fun _ => True) rfl (fun _ hk => hk) trivial (of_decide_eq_true (by first | (with_reducible assumption) | assumption)) (Nat.le_trans (Nat.mul_le_mul_right _ (of_decide_eq_true (by first | (with_reducible assumption) | assumption) : ji3.toNat ≤ 70368744177664)) (by omega)) (Below.refl _ _) (Nat.le_refl _) ?_; intro v116 w6 ho7 hb hg_ hnew_; clear hg_ hnew_; (first | rw [← Ny115.out] at ho7 | (simp only [Int.reduceToNat] at ho7; rw [← Ny115.out] at ho7)); have n0_ := Aside0.mk (Kd.R_lower ho7 (below_size (by repeat (first | (with_reducible first | exact HB.out | apply below_alloc | apply pw_below_drewN | apply below_drew1) | exact HB.out)))); have n1_ := Aside0.mk (below_step (by repeat (first | (with_reducible first | exact HB.out | apply below_alloc | apply pw_below_drewN | apply below_drew1) | exact HB.out)) hb); clear HB; have HO117 := n0_; have HB := n1_; clear n0_ n1_; clear hb ho7)); try go_wp2_with (first | ((with_reducible refine gate_dst (N := 15) rfl ?_); refine Kd.R_make (Kd.int .u32) _ 30 rfl (N := 15) rfl 78 _ _ rfl ji3 rfl rfl Tryz.underlying78 (.int .u32 0) 4 info30 rfl (by decide) (by omega) 0 (ok := fun _ => True) (okp := fun _ => True) rfl (fun _ hk => hk) trivial (of_decide_eq_true (by first | (with_reducible assumption) | assumption)) (Nat.le_trans (Nat.mul_le_mul_right _ (of_decide_eq_true (by first | (with_reducible assumption) | assumption) : ji3.toNat ≤ 70368744177664)) (by omega)) (Below.refl _ _) (Nat.le_refl _) ?_; intro v116 w6 ho7 hb hg_ hnew_; clear hg_ hnew_; (first | rw [← Ny115.out] at ho7 | (simp only [Int.reduceToNat] at ho7; rw [← Ny115.out] at ho7)); have n0_ := Aside0.mk (Kd.R_lower ho7 (below_size (by repeat (first | (with_reducible first | exact HB.out | apply below_alloc | apply pw_below_drewN | apply below_drew1) | exact HB.out)))); have n1_ := Aside0.mk (below_step (by repeat (first | (with_reducible first | exact HB.out | apply below_alloc | apply pw_below_drewN | apply below_drew1) | exact HB.out)) hb); clear HB; have HO117 := n0_; have HB := n1_; clear n0_ n1_; clear hb ho7)))
   go_loopg [6] k (fun kq v6 w' => ∃ (x5_1 : List Int) (x6_1 : Int), v6 = .int .i64 x6_1 ∧ Aside0 (lanyardref07_Mul.l0 kq l0 l1 x5_1 x6_1 = some r) ∧ Aside0 (kq ≤ k) ∧ Aside0 (Kd.R (Kd.int .u32) 30 w' w.heap.size (fun _ => True) v116 x5_1) ∧ Aside0 (Below w.heap.size w w'))
   case atStart => exact ⟨(y115), (0), (by first | rfl | (simp; done) | (simp [*]; done)), H', ⟨Nat.le_refl _⟩, ⟨by (with_reducible repeat (first | apply Kd.R_alloc | apply Kd.R_drewN | apply Kd.R_drew)); exact HO117.out⟩, ⟨by repeat (first | (with_reducible first | exact HB.out | apply below_alloc | apply pw_below_drewN | apply below_drew1) | exact HB.out)⟩⟩
   case round =>
    clear H'
    try clear c1
    try clear p2
    try clear c4
    try clear c4b0
    try clear c4b1
    try clear c5
    try clear c5b0
    try clear c5b1
    try clear p6
    obtain ⟨x5_1, x6_1, rfl, HA, HK1, HO_5, HB⟩ := hrel
    cases gk with
    | zero => exact absurd HA.out (by simp [lanyardref07_Mul.l0])
    | succ k1 =>
     have H := HA.out
     clear HA
     simp only [lanyardref07_Mul.l0] at H
     by_cases c8 : x6_1 < (l0.length : Int)
     ·rw [if_pos c8] at H
      have c8b0 : decide (x6_1 < (l0.length : Int)) = true := decide_eq_true c8
      clear c8
      have H' := Aside0.mk H
      clear H
      go_wp2
      repeat (go_quiet (fail); try go_wp2)
      go_loopg [7, 8] k1 (fun kq v7 v8 w' => ∃ (x5_2 : List Int) (x7_2 : Int) (x8_2 : Int), v7 = .int .u64 x7_2 ∧ v8 = .int .i64 x8_2 ∧ Aside0 (lanyardref07_Mul.l1 kq l0 l1 x5_2 x6_1 x7_2 x8_2 = some r) ∧ Aside0 (kq ≤ k1) ∧ Aside0 (Kd.R (Kd.int .u32) 30 w' w.heap.size (fun _ => True) v116 x5_2) ∧ Aside0 (Below w.heap.size w w'))
      case atStart => exact ⟨(x5_1), (0), (0), (by first | rfl | (simp; done) | (simp [*]; done)), (by first | rfl | (simp; done) | (simp [*]; done)), H', ⟨Nat.le_refl _⟩, ⟨by (with_reducible repeat (first | apply Kd.R_alloc | apply Kd.R_drewN | apply Kd.R_drew)); exact HO_5.out⟩, ⟨by repeat (first | (with_reducible first | exact HB.out | apply below_alloc | apply pw_below_drewN | apply below_drew1) | exact HB.out)⟩⟩
      case round =>
       clear H'
       try clear c1
       try clear p2
       try clear c4
       try clear c4b0
       try clear c4b1
       try clear c5
       try clear c5b0
       try clear c5b1
       try clear p6
       try clear c8
       try clear c8b0
       try clear p2
       try clear p6
       obtain ⟨x5_2, x7_2, x8_2, rfl, rfl, HA, HK2, HO_5, HB⟩ := hrel
       cases gk with
       | zero => exact absurd HA.out (by simp [lanyardref07_Mul.l1])
       | succ k2 =>
        have H := HA.out
        clear HA
        simp only [lanyardref07_Mul.l1] at H
        have HC9 := Aside0.mk H
        clear H
        go_upto_region 7 with (fail)
        repeat (go_quiet (fail); go_upto_region 7 with (fail))
        go_cut [29] (fun v29 wc => ∃ (kq : Nat) (x29_8 : Bool), v29 = .bool x29_8 ∧ Aside0 (lanyardref07_Mul.j2 kq l0 l1 x5_2 x6_1 x7_2 x8_2 x29_8 = some r) ∧ Aside0 (kq ≤ k2) ∧ Aside0 (Kd.R (Kd.int .u32) 30 wc w.heap.size (fun _ => True) v116 x5_2) ∧ Aside0 (Below w.heap.size w wc))
        case first =>
         have H := HC9.out
         clear HC9
         by_cases c10 : x8_2 < (l1.length : Int)
         ·rw [if_pos c10] at H
          have c10b0 : decide (x8_2 < (l1.length : Int)) = true := decide_eq_true c10
          clear c10
          (first | rw [c10b0] | (simp only [i64_w, i32_w]; rw [c10b0]) | skip)
          have H' := Aside0.mk H
          clear H
          go_wp2
          repeat (go_quiet (fail); try go_wp2)
          go_meet
          case rel => exact ⟨_, (true), (by first | rfl | (simp; done) | (simp [*]; done)), H', ⟨by have := HK1.out; have := HK2.out; first | omega | exact Nat.le_refl _⟩, ⟨by (with_reducible repeat (first | apply Kd.R_alloc | apply Kd.R_drewN | apply Kd.R_drew)); exact HO_5.out⟩, ⟨by repeat (first | (with_reducible first | exact HB.out | apply below_alloc | apply pw_below_drewN | apply below_drew1) | exact HB.out)⟩⟩
         ·rw [if_neg c10] at H
          have c10b0 : decide (x8_2 < (l1.length : Int)) = false := decide_eq_false c10
          clear c10
          (first | rw [c10b0] | (simp only [i64_w, i32_w]; rw [c10b0]) | skip)
          have H' := Aside0.mk H
          clear H
          go_wp2
          repeat (go_quiet (fail); try go_wp2)
          go_meet
          case rel => exact ⟨_, (decide (x7_2 > 0)), (by first | rfl | (simp; done) | (simp [*]; done)), H', ⟨by have := HK1.out; have := HK2.out; first | omega | exact Nat.le_refl _⟩, ⟨by (with_reducible repeat (first | apply Kd.R_alloc | apply Kd.R_drewN | apply Kd.R_drew)); exact HO_5.out⟩, ⟨by repeat (first | (with_reducible first | exact HB.out | apply below_alloc | apply pw_below_drewN | apply below_drew1) | exact HB.out)⟩⟩
        case rest =>
         clear HC9
         try clear c1
         try clear p2
         try clear c4
         try clear c4b0
         try clear c4b1
         try clear c5
         try clear c5b0
         try clear c5b1
         try clear p6
         try clear c8
         try clear c8b0
         try clear c10
         try clear c10b0
         try clear p2
         try clear p6
         obtain ⟨kq, x29_8, rfl, HA, HJ8, HO_5, HB⟩ := hcut
         cases kq with
         | zero => exact absurd HA.out (by simp [lanyardref07_Mul.j2])
         | succ kj8 =>
          have H := HA.out
          clear HA
          simp only [lanyardref07_Mul.j2] at H
          by_cases c11 : x29_8 = true
          ·subst c11
           have H1 : (if 0 ≤ (wrap64 (x6_1 + x8_2)) then (if (wrap64 (x6_1 + x8_2)) < (x5_2.length : Int) then ((lanyardref07_part.f l0 x6_1).bind fun t122 => ((lanyardref07_part.f l1 x8_2).bind fun t123 => (lanyardref07_Mul.l1 kj8 l0 l1 (x5_2.set ((wrap64 (x6_1 + x8_2)) : Int).toNat ((IntKind.u64.wrap ((IntKind.u64.wrap (x7_2 + (IntKind.u64.wrap (rd x5_2 (wrap64 (x6_1 + x8_2)))))) + (IntKind.u64.wrap (t122 * t123)))) % 4294967296)) x6_1 ((IntKind.u64.wrap ((IntKind.u64.wrap (x7_2 + (IntKind.u64.wrap (rd x5_2 (wrap64 (x6_1 + x8_2)))))) + (IntKind.u64.wrap (t122 * t123)))) / 4294967296) (wrap64 (x8_2 + 1))))) else (none)) else (none)) = some r := by rw [if_pos rfl] at H; exact H
           clear H
           have H := H1
           clear H1
           obtain ⟨ji12, hji12⟩ : ∃ j_ : Int, (wrap64 (x6_1 + x8_2)) = j_ := ⟨_, rfl⟩
           replace H : (if 0 ≤ (ji12) then (if (ji12) < (x5_2.length : Int) then ((lanyardref07_part.f l0 x6_1).bind fun t122 => ((lanyardref07_part.f l1 x8_2).bind fun t123 => (lanyardref07_Mul.l1 kj8 l0 l1 (x5_2.set ((ji12) : Int).toNat ((IntKind.u64.wrap ((IntKind.u64.wrap (x7_2 + (IntKind.u64.wrap (rd x5_2 (ji12))))) + (IntKind.u64.wrap (t122 * t123)))) % 4294967296)) x6_1 ((IntKind.u64.wrap ((IntKind.u64.wrap (x7_2 + (IntKind.u64.wrap (rd x5_2 (ji12))))) + (IntKind.u64.wrap (t122 * t123)))) / 4294967296) (wrap64 (x8_2 + 1))))) else (none)) else (none)) = some r := by first | (rw [hji12] at H; exact H) | (simp only [hji12] at H ⊢; exact H)
           have hji12w : (IntKind.i64.wrap (x6_1 + x8_2)) = ji12 := (i64_w _).trans hji12
           by_cases c13 : 0 ≤ (ji12)
           ·rw [if_pos c13] at H
            have c13b0 : decide (0 ≤ (ji12)) = true := decide_eq_true c13
            clear c13
            by_cases c14 : (ji12) < (x5_2.length : Int)
            ·rw [if_pos c14] at H
             have c14b0 : decide ((ji12) < (x5_2.length : Int)) = true := decide_eq_true c14
             clear c14
             replace H := Option.bind_eq_some_iff.mp H
             obtain ⟨t122, A150, H⟩ := H
             replace H : ((lanyardref07_part.f l1 x8_2).bind fun t123 => (lanyardref07_Mul.l1 kj8 l0 l1 (x5_2.set ((ji12) : Int).toNat ((IntKind.u64.wrap ((IntKind.u64.wrap (x7_2 + (IntKind.u64.wrap (rd x5_2 (ji12))))) + (IntKind.u64.wrap (t122 * t123)))) % 4294967296)) x6_1 ((IntKind.u64.wrap ((IntKind.u64.wrap (x7_2 + (IntKind.u64.wrap (rd x5_2 (ji12))))) + (IntKind.u64.wrap (t122 * t123)))) / 4294967296) (wrap64 (x8_2 + 1)))) = some r := H
             have A15 := Aside0.mk A150
             clear A150
             replace H := Option.bind_eq_some_iff.mp H
             obtain ⟨t123, A160, H⟩ := H
             replace H : (lanyardref07_Mul.l1 kj8 l0 l1 (x5_2.set ((ji12) : Int).toNat ((IntKind.u64.wrap ((IntKind.u64.wrap (x7_2 + (IntKind.u64.wrap (rd x5_2 (ji12))))) + (IntKind.u64.wrap (t122 * t123)))) % 4294967296)) x6_1 ((IntKind.u64.wrap ((IntKind.u64.wrap (x7_2 + (IntKind.u64.wrap (rd x5_2 (ji12))))) + (IntKind.u64.wrap (t122 * t123)))) / 4294967296) (wrap64 (x8_2 + 1))) = some r := H
             have A16 := Aside0.mk A160
             clear A160
             obtain ⟨y124, hy124⟩ : ∃ y_ : List Int, y_ = (x5_2.set ((ji12) : Int).toNat ((IntKind.u64.wrap ((IntKind.u64.wrap (x7_2 + (IntKind.u64.wrap (rd x5_2 (ji12))))) + (IntKind.u64.wrap (t122 * t123)))) % 4294967296)) := ⟨_, rfl⟩
             replace H : (lanyardref07_Mul.l1 kj8 l0 l1 y124 x6_1 ((IntKind.u64.wrap ((IntKind.u64.wrap (x7_2 + (IntKind.u64.wrap (rd x5_2 (ji12))))) + (IntKind.u64.wrap (t122 * t123)))) / 4294967296) (wrap64 (x8_2 + 1))) = some r := by first | (rw [hy124]; with_reducible exact H) | (have H2_ := (Option.bind_some _ _).symm.trans H; rw [hy124]; with_reducible exact H2_) | (have H2_ := (Option.bind_some _ _).symm.trans H; with_reducible exact H2_) | with_reducible exact H | (rw [hy124]; exact H) | exact H
             have Ny124 := Aside0.mk hy124
             clear hy124
             have H' := Aside0.mk H
             clear H
             obtain ⟨Ao18, co18, eo18⟩ := Kd.R_slice HO_5.out
             subst eo18
             have p121 : 0 ≤ ((ji12) : Int) := of_decide_eq_true (by first | (with_reducible assumption) | assumption)
             have q121 : (ji12) < (x5_2.length : Int) := of_decide_eq_true (by first | (with_reducible assumption) | assumption)
             obtain ⟨ad121, e121, hx121_0⟩ := Kd.at_int (Kd.R_reads' HO_5.out).2.2 (ji12) p121 q121
             cases e121
             replace p121 := eq_true p121
             replace q121 := eq_true q121
             go_wp2_with (first | (go_at_call 95; (with_reducible refine (lanyardref07_part.calls _ _ l0 x6_1 t122 _ ?side1 ?side2 A15.out).mono ?_); (case side1 => repeat (first | exact (Kd.C_below HR0.out HB.out) | (with_reducible refine Kd.C_alloc ?_ _) | (with_reducible refine Kd.C_drewN ?_ _) | (with_reducible refine Kd.C_drew ?_))); (case side2 => exact HC0.out); rintro e w' ⟨rfl, ⟨nd, rfl⟩⟩; (try first | exact ⟨rfl, _, World.drewN_drewN _ _ _⟩ | exact ⟨rfl, _, Eq.trans (World.drewN_drewN _ _ _) (congrArg (World.drewN _) (Nat.add_assoc _ _ _))⟩)) | (go_at_call 95; (with_reducible refine (lanyardref07_part.calls _ _ l1 x8_2 t123 _ ?side1 ?side2 A16.out).mono ?_); (case side1 => repeat (first | exact (Kd.C_below HR1.out (by repeat (first | (with_reducible first | exact HB.out | apply below_alloc | apply pw_below_drewN | apply below_drew1) | exact HB.out))) | (with_reducible refine Kd.C_alloc ?_ _) | (with_reducible refine Kd.C_drewN ?_ _) | (with_reducible refine Kd.C_drew ?_))); (case side2 => exact HC1.out); rintro e w' ⟨rfl, ⟨nd, rfl⟩⟩; (try first | exact ⟨rfl, _, World.drewN_drewN _ _ _⟩ | exact ⟨rfl, _, Eq.trans (World.drewN_drewN _ _ _) (congrArg (World.drewN _) (Nat.add_assoc _ _ _))⟩); have p17 : 0 ≤ ((ji12) : Int) := of_decide_eq_true (by first | (with_reducible assumption) | assumption); have q17 : ((ji12) : Int) < ((x5_2.length : Int) : Int) := of_decide_eq_true (by first | (with_reducible assumption) | assumption); obtain ⟨go17, co17, eo17, gb17, gl17, cl17, HG17⟩ := Kd.R_form HO_5.out (by omega); (first | cases eo17 | (injection eo17 with ea_ en_ ec_; (first | subst ea_ | (injection ea_ with ea_; subst ea_)); subst ec_; clear en_)); have GB17 := Aside0.mk gb17; have GG17 := Aside0.mk HG17; clear gb17 gl17 HG17; (first | simp only [add_plain] at hx121_0 | skip); obtain ⟨hx17_0, hf17_0⟩ := Kd.R_celln 0 HO_5.out ((ji12) : Int) p17 q17; replace p17 := eq_true p17; replace q17 := eq_true q17; obtain ⟨hy19_, hz19_⟩ := Kd.R_celln 0 HO_5.out ((ji12) : Int) (of_decide_eq_true (by first | (with_reducible assumption) | assumption)) (of_decide_eq_true (by first | (with_reducible assumption) | assumption)); have HP19 := Kd.R_putg HO_5.out ((ji12) : Int) ((IntKind.u64.wrap ((IntKind.u64.wrap (x7_2 + (IntKind.u64.wrap (rd x5_2 (ji12))))) + (IntKind.u64.wrap (t122 * t123)))) % 4294967296)) | ((with_reducible refine gate_store (t := 30) (p := 55) rfl ?_); (try (rw [drewN_self wc]; generalize hq_ : World.drewN wc _ = wc; have n0_ := Aside0.mk (Kd.R_at hq_ HO_5.out); have n1_ := Aside0.mk (below_at hq_ HB.out); clear hq_ HO_5 HB; have HO_5 := n0_; have HB := n1_; clear n0_ n1_; (try (obtain ⟨hy19_, hz19_⟩ := Kd.R_celln 0 HO_5.out ((ji12) : Int) (of_decide_eq_true (by first | (with_reducible assumption) | assumption)) (of_decide_eq_true (by first | (with_reducible assumption) | assumption)))); (try (have HP19 := Kd.R_putg HO_5.out ((ji12) : Int) ((IntKind.u64.wrap ((IntKind.u64.wrap (x7_2 + (IntKind.u64.wrap (rd x5_2 (ji12))))) + (IntKind.u64.wrap (t122 * t123)))) % 4294967296))))); refine store_event (t := 30) (p := 55) (v := ?vo_w20) (w1 := (wc.setCell ⟨go17, ((ji12) : Int).toNat, none⟩ (.int .u32 ((IntKind.u64.wrap ((IntKind.u64.wrap (x7_2 + (IntKind.u64.wrap (rd x5_2 (ji12))))) + (IntKind.u64.wrap (t122 * t123)))) % 4294967296)))) ?hg ?ho ?hn ?hr ?_; (case ho => rfl); (case hg => rfl); (case hn => rfl); (case hr => first | (go_simp; done) | (go_simp; rfl)); intro w20 hw; have hg : wc.grownBy w20 (some go17) := (by rw [hw]; exact HP19.2); have hp_ : Kd.R (Kd.int .u32) 30 w20 w.heap.size (fun _ => True) (.slice (some ⟨go17, 0, none⟩) x5_2.length co18) y124 := (by rw [hw, Ny124.out]; exact HP19.1); clear HP19; have n0_ := Aside0.mk (hp_); have n1_ := Aside0.mk ((by rw [hw]; exact below_set (HB.out) GB17.out : Below w.heap.size w w20)); clear HO_5; clear HB; have HO_5 := n0_; have HB := n1_; clear n0_ n1_; clear hg hw hp_))
             repeat (go_quiet (first | (go_at_call 95; (with_reducible refine (lanyardref07_part.calls _ _ l0 x6_1 t122 _ ?side1 ?side2 A15.out).mono ?_); (case side1 => repeat (first | exact (Kd.C_below HR0.out HB.out) | (with_reducible refine Kd.C_alloc ?_ _) | (with_reducible refine Kd.C_drewN ?_ _) | (with_reducible refine Kd.C_drew ?_))); (case side2 => exact HC0.out); rintro e w' ⟨rfl, ⟨nd, rfl⟩⟩; (try first | exact ⟨rfl, _, World.drewN_drewN _ _ _⟩ | exact ⟨rfl, _, Eq.trans (World.drewN_drewN _ _ _) (congrArg (World.drewN _) (Nat.add_assoc _ _ _))⟩)) | (go_at_call 95; (with_reducible refine (lanyardref07_part.calls _ _ l1 x8_2 t123 _ ?side1 ?side2 A16.out).mono ?_); (case side1 => repeat (first | exact (Kd.C_below HR1.out (by repeat (first | (with_reducible first | exact HB.out | apply below_alloc | apply pw_below_drewN | apply below_drew1) | exact HB.out))) | (with_reducible refine Kd.C_alloc ?_ _) | (with_reducible refine Kd.C_drewN ?_ _) | (with_reducible refine Kd.C_drew ?_))); (case side2 => exact HC1.out); rintro e w' ⟨rfl, ⟨nd, rfl⟩⟩; (try first | exact ⟨rfl, _, World.drewN_drewN _ _ _⟩ | exact ⟨rfl, _, Eq.trans (World.drewN_drewN _ _ _) (congrArg (World.drewN _) (Nat.add_assoc _ _ _))⟩); have p17 : 0 ≤ ((ji12) : Int) := of_decide_eq_true (by first | (with_reducible assumption) | assumption); have q17 : ((ji12) : Int) < ((x5_2.length : Int) : Int) := of_decide_eq_true (by first | (with_reducible assumption) | assumption); obtain ⟨go17, co17, eo17, gb17, gl17, cl17, HG17⟩ := Kd.R_form HO_5.out (by omega); (first | cases eo17 | (injection eo17 with ea_ en_ ec_; (first | subst ea_ | (injection ea_ with ea_; subst ea_)); subst ec_; clear en_)); have GB17 := Aside0.mk gb17; have GG17 := Aside0.mk HG17; clear gb17 gl17 HG17; (first | simp only [add_plain] at hx121_0 | skip); obtain ⟨hx17_0, hf17_0⟩ := Kd.R_celln 0 HO_5.out ((ji12) : Int) p17 q17; replace p17 := eq_true p17; replace q17 := eq_true q17; obtain ⟨hy19_, hz19_⟩ := Kd.R_celln 0 HO_5.out ((ji12) : Int) (of_decide_eq_true (by first | (with_reducible assumption) | assumption)) (of_decide_eq_true (by first | (with_reducible assumption) | assumption)); have HP19 := Kd.R_putg HO_5.out ((ji12) : Int) ((IntKind.u64.wrap ((IntKind.u64.wrap (x7_2 + (IntKind.u64.wrap (rd x5_2 (ji12))))) + (IntKind.u64.wrap (t122 * t123)))) % 4294967296)) | ((with_reducible refine gate_store (t := 30) (p := 55) rfl ?_); (try (rw [drewN_self wc]; generalize hq_ : World.drewN wc _ = wc; have n0_ := Aside0.mk (Kd.R_at hq_ HO_5.out); have n1_ := Aside0.mk (below_at hq_ HB.out); clear hq_ HO_5 HB; have HO_5 := n0_; have HB := n1_; clear n0_ n1_; (try (obtain ⟨hy19_, hz19_⟩ := Kd.R_celln 0 HO_5.out ((ji12) : Int) (of_decide_eq_true (by first | (with_reducible assumption) | assumption)) (of_decide_eq_true (by first | (with_reducible assumption) | assumption)))); (try (have HP19 := Kd.R_putg HO_5.out ((ji12) : Int) ((IntKind.u64.wrap ((IntKind.u64.wrap (x7_2 + (IntKind.u64.wrap (rd x5_2 (ji12))))) + (IntKind.u64.wrap (t122 * t123)))) % 4294967296))))); refine store_event (t := 30) (p := 55) (v := ?vo_w20) (w1 := (wc.setCell ⟨go17, ((ji12) : Int).toNat, none⟩ (.int .u32 ((IntKind.u64.wrap ((IntKind.u64.wrap (x7_2 + (IntKind.u64.wrap (rd x5_2 (ji12))))) + (IntKind.u64.wrap (t122 * t123)))) % 4294967296)))) ?hg ?ho ?hn ?hr ?_; (case ho => rfl); (case hg => rfl); (case hn => rfl); (case hr => first | (go_simp; done) | (go_simp; rfl)); intro w20 hw; have hg : wc.grownBy w20 (some go17) := (by rw [hw]; exact HP19.2); have hp_ : Kd.R (Kd.int .u32) 30 w20 w.heap.size (fun _ => True) (.slice (some ⟨go17, 0, none⟩) x5_2.length co18) y124 := (by rw [hw, Ny124.out]; exact HP19.1); clear HP19; have n0_ := Aside0.mk (hp_); have n1_ := Aside0.mk ((by rw [hw]; exact below_set (HB.out) GB17.out : Below w.heap.size w w20)); clear HO_5; clear HB; have HO_5 := n0_; have HB := n1_; clear n0_ n1_; clear hg hw hp_)); try go_wp2_with (first | (go_at_call 95; (with_reducible refine (lanyardref07_part.calls _ _ l0 x6_1 t122 _ ?side1 ?side2 A15.out).mono ?_); (case side1 => repeat (first | exact (Kd.C_below HR0.out HB.out) | (with_reducible refine Kd.C_alloc ?_ _) | (with_reducible refine Kd.C_drewN ?_ _) | (with_reducible refine Kd.C_drew ?_))); (case side2 => exact HC0.out); rintro e w' ⟨rfl, ⟨nd, rfl⟩⟩; (try first | exact ⟨rfl, _, World.drewN_drewN _ _ _⟩ | exact ⟨rfl, _, Eq.trans (World.drewN_drewN _ _ _) (congrArg (World.drewN _) (Nat.add_assoc _ _ _))⟩)) | (go_at_call 95; (with_reducible refine (lanyardref07_part.calls _ _ l1 x8_2 t123 _ ?side1 ?side2 A16.out).mono ?_); (case side1 => repeat (first | exact (Kd.C_below HR1.out (by repeat (first | (with_reducible first | exact HB.out | apply below_alloc | apply pw_below_drewN | apply below_drew1) | exact HB.out))) | (with_reducible refine Kd.C_alloc ?_ _) | (with_reducible refine Kd.C_drewN ?_ _) | (with_reducible refine Kd.C_drew ?_))); (case side2 => exact HC1.out); rintro e w' ⟨rfl, ⟨nd, rfl⟩⟩; (try first | exact ⟨rfl, _, World.drewN_drewN _ _ _⟩ | exact ⟨rfl, _, Eq.trans (World.drewN_drewN _ _ _) (congrArg (World.drewN _) (Nat.add_assoc _ _ _))⟩); have p17 : 0 ≤ ((ji12) : Int) := of_decide_eq_true (by first | (with_reducible assumption) | assumption); have q17 : ((ji12) : Int) < ((x5_2.length : Int) : Int) := of_decide_eq_true (by first | (with_reducible assumption) | assumption); obtain ⟨go17, co17, eo17, gb17, gl17, cl17, HG17⟩ := Kd.R_form HO_5.out (by omega); (first | cases eo17 | (injection eo17 with ea_ en_ ec_; (first | subst ea_ | (injection ea_ with ea_; subst ea_)); subst ec_; clear en_)); have GB17 := Aside0.mk gb17; have GG17 := Aside0.mk HG17; clear gb17 gl17 HG17; (first | simp only [add_plain] at hx121_0 | skip); obtain ⟨hx17_0, hf17_0⟩ := Kd.R_celln 0 HO_5.out ((ji12) : Int) p17 q17; replace p17 := eq_true p17; replace q17 := eq_true q17; obtain ⟨hy19_, hz19_⟩ := Kd.R_celln 0 HO_5.out ((ji12) : Int) (of_decide_eq_true (by first | (with_reducible assumption) | assumption)) (of_decide_eq_true (by first | (with_reducible assumption) | assumption)); have HP19 := Kd.R_putg HO_5.out ((ji12) : Int) ((IntKind.u64.wrap ((IntKind.u64.wrap (x7_2 + (IntKind.u64.wrap (rd x5_2 (ji12))))) + (IntKind.u64.wrap (t122 * t123)))) % 4294967296)) | ((with_reducible refine gate_store (t := 30) (p := 55) rfl ?_); (try (rw [drewN_self wc]; generalize hq_ : World.drewN wc _ = wc; have n0_ := Aside0.mk (Kd.R_at hq_ HO_5.out); have n1_ := Aside0.mk (below_at hq_ HB.out); clear hq_ HO_5 HB; have HO_5 := n0_; have HB := n1_; clear n0_ n1_; (try (obtain ⟨hy19_, hz19_⟩ := Kd.R_celln 0 HO_5.out ((ji12) : Int) (of_decide_eq_true (by first | (with_reducible assumption) | assumption)) (of_decide_eq_true (by first | (with_reducible assumption) | assumption)))); (try (have HP19 := Kd.R_putg HO_5.out ((ji12) : Int) ((IntKind.u64.wrap ((IntKind.u64.wrap (x7_2 + (IntKind.u64.wrap (rd x5_2 (ji12))))) + (IntKind.u64.wrap (t122 * t123)))) % 4294967296))))); refine store_event (t := 30) (p := 55) (v := ?vo_w20) (w1 := (wc.setCell ⟨go17, ((ji12) : Int).toNat, none⟩ (.int .u32 ((IntKind.u64.wrap ((IntKind.u64.wrap (x7_2 + (IntKind.u64.wrap (rd x5_2 (ji12))))) + (IntKind.u64.wrap (t122 * t123)))) % 4294967296)))) ?hg ?ho ?hn ?hr ?_; (case ho => rfl); (case hg => rfl); (case hn => rfl); (case hr => first | (go_simp; done) | (go_simp; rfl)); intro w20 hw; have hg : wc.grownBy w20 (some go17) := (by rw [hw]; exact HP19.2); have hp_ : Kd.R (Kd.int .u32) 30 w20 w.heap.size (fun _ => True) (.slice (some ⟨go17, 0, none⟩) x5_2.length co18) y124 := (by rw [hw, Ny124.out]; exact HP19.1); clear HP19; have n0_ := Aside0.mk (hp_); have n1_ := Aside0.mk ((by rw [hw]; exact below_set (HB.out) GB17.out : Below w.heap.size w w20)); clear HO_5; clear HB; have HO_5 := n0_; have HB := n1_; clear n0_ n1_; clear hg hw hp_)))
             go_roundg kj8
             case measure => have := HK1.out; have := HK2.out; have := HJ8.out; omega
             case rel => exact ⟨(y124), ((IntKind.u64.wrap ((IntKind.u64.wrap (x7_2 + (IntKind.u64.wrap (rd x5_2 (ji12))))) + (IntKind.u64.wrap (t122 * t123)))) / 4294967296), (wrap64 (x8_2 + 1)), (by first | rfl | (simp; done) | (simp only [← hji12] <;> (first | rfl | simp)) | (simp [*]; done)), (by first | rfl | (simp; done) | (simp [*]; done)), H', ⟨by have := HK1.out; have := HK2.out; have := HJ8.out; omega⟩, ⟨by (with_reducible repeat (first | apply Kd.R_alloc | apply Kd.R_drewN | apply Kd.R_drew)); exact HO_5.out⟩, ⟨by repeat (first | (with_reducible first | exact HB.out | apply below_alloc | apply pw_below_drewN | apply below_drew1) | exact HB.out)⟩⟩
            ·rw [if_neg c14] at H
             exact absurd H (by simp)
           ·rw [if_neg c13] at H
            exact absurd H (by simp)
          ·replace c11 := Bool.eq_false_iff.mpr c11
           subst c11
           have H1 : (lanyardref07_Mul.l0 kj8 l0 l1 x5_2 (wrap64 (x6_1 + 1))) = some r := by rw [if_neg (show ¬ (false = true) by decide)] at H; exact H
           clear H
           have H := H1
           clear H1
           have H' := Aside0.mk H
           clear H
           go_wp2
           repeat (go_quiet (fail); try go_wp2)
           go_roundg kj8
           case measure => have := HK1.out; have := HK2.out; have := HJ8.out; omega
           case rel => exact ⟨(x5_2), (wrap64 (x6_1 + 1)), (by first | rfl | (simp; done) | (simp [*]; done)), H', ⟨by have := HK1.out; have := HK2.out; have := HJ8.out; omega⟩, ⟨by (with_reducible repeat (first | apply Kd.R_alloc | apply Kd.R_drewN | apply Kd.R_drew)); exact HO_5.out⟩, ⟨by repeat (first | (with_reducible first | exact HB.out | apply below_alloc | apply pw_below_drewN | apply below_drew1) | exact HB.out)⟩⟩
     ·rw [if_neg c8] at H
      have c8b0 : decide (x6_1 < (l0.length : Int)) = false := decide_eq_false c8
      clear c8
      replace H := Option.bind_eq_some_iff.mp H
      obtain ⟨t118, A210, H⟩ := H
      replace H : (some t118) = some r := H
      have A21 := Aside0.mk A210
      clear A210
      obtain rfl := Option.some.inj H
      obtain ⟨Ao22, co22, eo22⟩ := Kd.R_slice HO_5.out
      subst eo22
      go_wp2_with (first | (go_at_call 96; (with_reducible refine (lanyardref07_Bare.calls _ _ x5_1 t118 _ ?side1 ?side2 A21.out).mono ?_); (case side1 => repeat (first | exact (Kd.R_reads' HO_5.out).2.2 | (with_reducible refine Kd.C_alloc ?_ _) | (with_reducible refine Kd.C_drewN ?_ _) | (with_reducible refine Kd.C_drew ?_))); (case side2 => exact (Kd.R_reads' HO_5.out).2.1); rintro e w23 ⟨v119, rfl, ho0, hb⟩; have n0_ := Aside0.mk (Kd.R_elder' (by (with_reducible repeat (first | apply Kd.R_alloc | apply Kd.R_drewN | apply Kd.R_drew)); exact HO_5.out) (Kd.R_base ho0) hb); have n1_ := Aside0.mk (Kd.R_lower (Kd.R_new' ho0 (Kd.R_lt (by (with_reducible repeat (first | apply Kd.R_alloc | apply Kd.R_drewN | apply Kd.R_drew)); exact HO_5.out))) (below_size (by repeat (first | (with_reducible first | exact HB.out | apply below_alloc | apply pw_below_drewN | apply below_drew1) | exact HB.out)))); have n2_ := Aside0.mk (below_step (by repeat (first | (with_reducible first | exact HB.out | apply below_alloc | apply pw_below_drewN | apply below_drew1) | exact HB.out)) hb); clear HO_5; clear HB; have HO_5 := n0_; have HO120 := n1_; have HB := n2_; clear n0_ n1_ n2_; (try clear hb); (try clear hb2); (try clear hk); (try clear hi); (try clear ho0)))
      repeat (go_quiet (first | (go_at_call 96; (with_reducible refine (lanyardref07_Bare.calls _ _ x5_1 t118 _ ?side1 ?side2 A21.out).mono ?_); (case side1 => repeat (first | exact (Kd.R_reads' HO_5.out).2.2 | (with_reducible refine Kd.C_alloc ?_ _) | (with_reducible refine Kd.C_drewN ?_ _) | (with_reducible refine Kd.C_drew ?_))); (case side2 => exact (Kd.R_reads' HO_5.out).2.1); rintro e w23 ⟨v119, rfl, ho0, hb⟩; have n0_ := Aside0.mk (Kd.R_elder' (by (with_reducible repeat (first | apply Kd.R_alloc | apply Kd.R_drewN | apply Kd.R_drew)); exact HO_5.out) (Kd.R_base ho0) hb); have n1_ := Aside0.mk (Kd.R_lower (Kd.R_new' ho0 (Kd.R_lt (by (with_reducible repeat (first | apply Kd.R_alloc | apply Kd.R_drewN | apply Kd.R_drew)); exact HO_5.out))) (below_size (by repeat (first | (with_reducible first | exact HB.out | apply below_alloc | apply pw_below_drewN | apply below_drew1) | exact HB.out)))); have n2_ := Aside0.mk (below_step (by repeat (first | (with_reducible first | exact HB.out | apply below_alloc | apply pw_below_drewN | apply below_drew1) | exact HB.out)) hb); clear HO_5; clear HB; have HO_5 := n0_; have HO120 := n1_; have HB := n2_; clear n0_ n1_ n2_; (try clear hb); (try clear hb2); (try clear hk); (try clear hi); (try clear ho0))); try go_wp2_with (first | (go_at_call 96; (with_reducible refine (lanyardref07_Bare.calls _ _ x5_1 t118 _ ?side1 ?side2 A21.out).mono ?_); (case side1 => repeat (first | exact (Kd.R_reads' HO_5.out).2.2 | (with_reducible refine Kd.C_alloc ?_ _) | (with_reducible refine Kd.C_drewN ?_ _) | (with_reducible refine Kd.C_drew ?_))); (case side2 => exact (Kd.R_reads' HO_5.out).2.1); rintro e w23 ⟨v119, rfl, ho0, hb⟩; have n0_ := Aside0.mk (Kd.R_elder' (by (with_reducible repeat (first | apply Kd.R_alloc | apply Kd.R_drewN | apply Kd.R_drew)); exact HO_5.out) (Kd.R_base ho0) hb); have n1_ := Aside0.mk (Kd.R_lower (Kd.R_new' ho0 (Kd.R_lt (by (with_reducible repeat (first | apply Kd.R_alloc | apply Kd.R_drewN | apply Kd.R_drew)); exact HO_5.out))) (below_size (by repeat (first | (with_reducible first | exact HB.out | apply below_alloc | apply pw_below_drewN | apply below_drew1) | exact HB.out)))); have n2_ := Aside0.mk (below_step (by repeat (first | (with_reducible first | exact HB.out | apply below_alloc | apply pw_below_drewN | apply below_drew1) | exact HB.out)) hb); clear HO_5; clear HB; have HO_5 := n0_; have HO120 := n1_; have HB := n2_; clear n0_ n1_ n2_; (try clear hb); (try clear hb2); (try clear hk); (try clear hi); (try clear ho0))))
      go_ret
      exact ⟨_, by first | rfl | (simp [errW_none, errW_some] <;> rfl) | (simp only [← hji3]; first | rfl | (simp [errW_none, errW_some] <;> rfl)) | (simp [*, errW_none, errW_some] <;> rfl), by (with_reducible repeat (first | apply Kd.R_alloc | apply Kd.R_drewN | apply Kd.R_drew)); exact Kd.R_mono HO120.out (fun _ hk => trivial), by repeat (first | (with_reducible first | exact HB.out | apply below_alloc | apply pw_below_drewN | apply below_drew1) | exact HB.out)⟩
  ·rw [if_neg c5] at H
   exact absurd H (by simp)
 ·rw [if_neg c4] at H
  exact absurd H (by simp)

end Go.Proofs.YtcbmjmphicfgpaaGreatDoor.PT
end

section
namespace Go.Proofs.YtcbmjmphicfgpaaGreatDoor.PT
open Go.RowKit Go.Proofs.YtcbmjmphicfgpaaGreatDoorW.PrintWords Go.Proofs.YtcbmjmphicfgpaaGreatDoorW.PrintLast Go.Proofs.YtcbmjmphicfgpaaGreatDoorW.PrintMore
attribute [local go_sem] max2_int min2_int max_two min_two max_three min_three max_four min_four   -- for this text's walks alone
set_option linter.unusedVariables false
set_option linter.unusedSimpArgs false

mutual
def lanyardref07_To.l0 : Nat → List Int → List Int → Int → Option (List Int)
 | 0, _, _, _ => none
 | k + 1, x0, x3, x4 => if x4 ≥ 0 then (lanyardref07_To.l1 k x0 x3 x4 3) else (some x3)
def lanyardref07_To.l1 : Nat → List Int → List Int → Int → Int → Option (List Int)
 | 0, _, _, _, _ => none
 | k + 1, x0, x3, x4, x5 => if x5 ≥ 0 then (if 0 ≤ x4 then (if x4 < (x0.length : Int) then (if 0 ≤ (wrap64 (8 * x5)) then (if (x3.length : Int) > 0 then (if x3.length < 140737488355328 then (lanyardref07_To.l1 k x0 (x3 ++ [(shr .u32 (rd x0 x4) (wrap64 (8 * x5))) % 256]) x4 (wrap64 (x5 - 1))) else (none)) else (if ((shr .u32 (rd x0 x4) (wrap64 (8 * x5))) % 256) > 0 then (if x3.length < 140737488355328 then (lanyardref07_To.l1 k x0 (x3 ++ [(shr .u32 (rd x0 x4) (wrap64 (8 * x5))) % 256]) x4 (wrap64 (x5 - 1))) else (none)) else (lanyardref07_To.l1 k x0 x3 x4 (wrap64 (x5 - 1))))) else (none)) else (none)) else (none)) else (lanyardref07_To.l0 k x0 x3 (wrap64 (x4 - 1)))
end
def lanyardref07_To.f (k : Nat) (l0 : List Int) : Option (List Int) := lanyardref07_To.l0 k l0 ([] : List Int) (wrap64 ((l0.length : Int) - 1))
set_option maxHeartbeats 8000000 in
set_option maxRecDepth 100000 in
theorem lanyardref07_To.calls (k : Nat) (A0 : Option Addr) (c0 : Nat) (l0 : List Int) (r : List Int) (w : World) (hr0 : Kd.C (Kd.int .u32) w A0 l0.length l0) (hc0 : l0.length ≤ c0) (h : lanyardref07_To.f k l0 = some r) :
 Calls Tryz.prog 52 #[.slice A0 l0.length c0] w fun e w' => ∃ v0_ : Value, e = .returned (v0_) ∧ Kd.R (Kd.int .u8) 5 w' w.heap.size (fun _ => True) v0_ r ∧ Below w.heap.size w w' := by
 have HR0 := Aside0.mk hr0
 have HC0 := Aside0.mk hc0
 clear hr0 hc0
 have HB := Aside0.mk (Below.refl w.heap.size w)
 have H : (lanyardref07_To.l0 k l0 ([] : List Int) (wrap64 ((l0.length : Int) - 1))) = some r := h
 clear h
 have H' := Aside0.mk H
 clear H
 go_enter Tryz.func52, Tryz.ntmps52
 go_wp2
 go_loopg [3, 4] k (fun kq v3 v4 w' => ∃ (x3_1 : List Int) (x4_1 : Int), v4 = .int .i64 x4_1 ∧ Aside0 (lanyardref07_To.l0 kq l0 x3_1 x4_1 = some r) ∧ Aside0 (kq ≤ k) ∧ Aside0 (Kd.R (Kd.int .u8) 5 w' w.heap.size (fun _ => True) v3 x3_1) ∧ Aside0 (Below w.heap.size w w'))
 case atStart => exact ⟨(([] : List Int)), (wrap64 ((l0.length : Int) - 1)), (by first | rfl | (simp; done) | (simp [*]; done)), H', ⟨Nat.le_refl _⟩, ⟨by first | exact Kd.R_nil _ _ _ _ _ | exact Kd.N_nil _ _ _ _ _ | exact Kd.V_nil _ _ _ _ _ | exact Kd.Q_nil _ _ _ _ _ | exact Kd.S_nil _ _ _ _ _⟩, ⟨by repeat (first | (with_reducible first | exact HB.out | apply below_alloc | apply pw_below_drewN | apply below_drew1) | exact HB.out)⟩⟩
 case round =>
  clear H'
  obtain ⟨x3_1, x4_1, rfl, HA, HK1, HO_3, HB⟩ := hrel
  cases gk with
  | zero => exact absurd HA.out (by simp [lanyardref07_To.l0])
  | succ k1 =>
   have H := HA.out
   clear HA
   simp only [lanyardref07_To.l0] at H
   by_cases c2 : x4_1 ≥ 0
   ·rw [if_pos c2] at H
    have c2b0 : decide (0 ≤ x4_1) = true := decide_eq_true c2
    clear c2
    have H' := Aside0.mk H
    clear H
    go_wp2
    go_loopg [3, 5] k1 (fun kq v3 v5 w' => ∃ (x3_2 : List Int) (x5_2 : Int), v5 = .int .i64 x5_2 ∧ Aside0 (lanyardref07_To.l1 kq l0 x3_2 x4_1 x5_2 = some r) ∧ Aside0 (kq ≤ k1) ∧ Aside0 (Kd.R (Kd.int .u8) 5 w' w.heap.size (fun _ => True) v3 x3_2) ∧ Aside0 (Below w.heap.size w w'))
    case atStart => exact ⟨(x3_1), (3), (by first | rfl | (simp; done) | (simp [*]; done)), H', ⟨Nat.le_refl _⟩, ⟨by (with_reducible repeat (first | apply Kd.R_alloc | apply Kd.R_drewN | apply Kd.R_drew)); exact HO_3.out⟩, ⟨by repeat (first | (with_reducible first | exact HB.out | apply below_alloc | apply pw_below_drewN | apply below_drew1) | exact HB.out)⟩⟩
    case round =>
     clear H'
     try clear c2
     try clear c2b0
     try clear p2
     obtain ⟨x3_2, x5_2, rfl, HA, HK2, HO_3, HB⟩ := hrel
     cases gk with
     | zero => exact absurd HA.out (by simp [lanyardref07_To.l1])
     | succ k2 =>
      have H := HA.out
      clear HA
      simp only [lanyardref07_To.l1] at H
      by_cases c3 : x5_2 ≥ 0
      ·rw [if_pos c3] at H
       have c3b0 : decide (0 ≤ x5_2) = true := decide_eq_true c3
       clear c3
       by_cases c4 : 0 ≤ x4_1
       ·rw [if_pos c4] at H
        have c4b0 : decide (0 ≤ x4_1) = true := decide_eq_true c4
        clear c4
        by_cases c5 : x4_1 < (l0.length : Int)
        ·rw [if_pos c5] at H
         have c5b0 : decide (x4_1 < (l0.length : Int)) = true := decide_eq_true c5
         clear c5
         obtain ⟨ji6, hji6⟩ : ∃ j_ : Int, (wrap64 (8 * x5_2)) = j_ := ⟨_, rfl⟩
         replace H : (if 0 ≤ (ji6) then (if (x3_2.length : Int) > 0 then (if x3_2.length < 140737488355328 then (lanyardref07_To.l1 k2 l0 (x3_2 ++ [(shr .u32 (rd l0 x4_1) (ji6)) % 256]) x4_1 (wrap64 (x5_2 - 1))) else (none)) else (if ((shr .u32 (rd l0 x4_1) (ji6)) % 256) > 0 then (if x3_2.length < 140737488355328 then (lanyardref07_To.l1 k2 l0 (x3_2 ++ [(shr .u32 (rd l0 x4_1) (ji6)) % 256]) x4_1 (wrap64 (x5_2 - 1))) else (none)) else (lanyardref07_To.l1 k2 l0 x3_2 x4_1 (wrap64 (x5_2 - 1))))) else (none)) = some r := by first | (rw [hji6] at H; exact H) | (simp only [hji6] at H ⊢; exact H)
         have hji6w : (IntKind.i64.wrap (8 * x5_2)) = ji6 := (i64_w _).trans hji6
         by_cases c7 : 0 ≤ (ji6)
         ·rw [if_pos c7] at H
          have c7b0 := eq_true c7
          have c7b1 : decide (0 ≤ (ji6)) = true := decide_eq_true c7
          clear c7
          obtain ⟨ji8, hji8⟩ : ∃ j_ : Int, (shr .u32 (rd l0 x4_1) (ji6)) = j_ := ⟨_, rfl⟩
          replace H : (if (x3_2.length : Int) > 0 then (if x3_2.length < 140737488355328 then (lanyardref07_To.l1 k2 l0 (x3_2 ++ [(ji8) % 256]) x4_1 (wrap64 (x5_2 - 1))) else (none)) else (if ((ji8) % 256) > 0 then (if x3_2.length < 140737488355328 then (lanyardref07_To.l1 k2 l0 (x3_2 ++ [(ji8) % 256]) x4_1 (wrap64 (x5_2 - 1))) else (none)) else (lanyardref07_To.l1 k2 l0 x3_2 x4_1 (wrap64 (x5_2 - 1))))) = some r := by first | (rw [hji8] at H; exact H) | (simp only [hji8] at H ⊢; exact H)
          have hji8_ : ((rd l0 x4_1) / 2 ^ min (ji6).toNat 32) = ji8 := hji8
          have hji8z : (ji6) ≤ 32 → ((rd l0 x4_1) / 2 ^ (ji6).toNat) = ji8 := shr_small hji8
          by_cases c9 : (x3_2.length : Int) > 0
          ·rw [if_pos c9] at H
           have c9b0 : decide (0 < (x3_2.length : Int)) = true := decide_eq_true c9
           have c9b1 : decide (0 < x3_2.length) = true := decide_eq_true (by omega)
           clear c9
           by_cases c10 : x3_2.length < 140737488355328
           ·rw [if_pos c10] at H
            have LMc10 := Aside0.mk c10
            clear c10
            obtain ⟨y255, hy255⟩ : ∃ y_ : List Int, y_ = (x3_2 ++ [(ji8) % 256]) := ⟨_, rfl⟩
            replace H : (lanyardref07_To.l1 k2 l0 y255 x4_1 (wrap64 (x5_2 - 1))) = some r := by first | (rw [hy255]; with_reducible exact H) | (have H2_ := (Option.bind_some _ _).symm.trans H; rw [hy255]; with_reducible exact H2_) | (have H2_ := (Option.bind_some _ _).symm.trans H; with_reducible exact H2_) | with_reducible exact H | (rw [hy255]; exact H) | exact H
            have Ny255 := Aside0.mk hy255
            clear hy255
            have H' := Aside0.mk H
            clear H
            have p254 : 0 ≤ (x4_1 : Int) := of_decide_eq_true (by first | (with_reducible assumption) | assumption)
            have q254 : x4_1 < (l0.length : Int) := of_decide_eq_true (by first | (with_reducible assumption) | assumption)
            obtain ⟨ad254, e254, hx254_0⟩ := Kd.at_int HR0.out x4_1 p254 q254
            cases e254
            replace hx254_0 := (HB.out.cell (World.block_lt_of_cell? w _ hx254_0)).trans hx254_0
            replace p254 := eq_true p254
            replace q254 := eq_true q254
            obtain ⟨Ao11, co11, eo11⟩ := Kd.R_slice HO_3.out
            subst eo11
            go_wp2_with (first | ((with_reducible refine gate_builtin (b := .append) (xs := #[.tmp 33, .tmp 35]) rfl ?_); at_builtin; refine Kd.R_append (Kd.int .u8) (w0 := w) w.heap.size rfl (.tmp 33) (.tmp 35) 29 5 (.int .u8 0) 1 rfl Tryz.underlying29 info5 rfl (by decide) (by omega) (.slice Ao11 x3_2.length co11) x3_2 ((ji8) % 256) [.int .u8 ((ji8) % 256)] (fun _ => True) (fun _ => False) rfl rfl ?aP (fun _ hk => hk.elim) ?aF ?aO ?aB ?aS ?aL ?_; (case aP => exact rfl); (case aB => exact (by repeat (first | (with_reducible first | exact HB.out | apply below_alloc | apply pw_below_drewN | apply below_drew1) | exact HB.out))); (case aF => exact (fun _ _ => trivial)); (case aO => exact (by (with_reducible repeat (first | apply Kd.R_alloc | apply Kd.R_drewN | apply Kd.R_drew)); exact HO_3.out)); (case aS => exact (below_size (by repeat (first | (with_reducible first | exact HB.out | apply below_alloc | apply pw_below_drewN | apply below_drew1) | exact HB.out)))); (case aL => have := LMc10.out; omega); intro v256 w12 ho hb hg hat; rw [← Ny255.out] at ho; have n0_ := Aside0.mk (hb); have n1_ := Aside0.mk (ho); clear HB; clear HO_3; have HB := n0_; have HO257 := n1_; clear n0_ n1_; clear ho hb hg hat))
            go_roundg k2
            case measure => have := HK1.out; have := HK2.out; omega
            case rel => exact ⟨(y255), (wrap64 (x5_2 - 1)), (by first | rfl | (simp; done) | (simp [*]; done)), H', ⟨by have := HK1.out; have := HK2.out; omega⟩, ⟨by (with_reducible repeat (first | apply Kd.R_alloc | apply Kd.R_drewN | apply Kd.R_drew)); exact HO257.out⟩, ⟨by repeat (first | (with_reducible first | exact HB.out | apply below_alloc | apply pw_below_drewN | apply below_drew1) | exact HB.out)⟩⟩
           ·rw [if_neg c10] at H
            exact absurd H (by simp)
          ·rw [if_neg c9] at H
           have c9b0 : decide (0 < (x3_2.length : Int)) = false := decide_eq_false c9
           have c9b1 : decide (0 < x3_2.length) = false := decide_eq_false (by omega)
           clear c9
           by_cases c13 : ((ji8) % 256) > 0
           ·rw [if_pos c13] at H
            have c13b0 : decide (0 < ((ji8) % 256)) = true := decide_eq_true c13
            clear c13
            by_cases c14 : x3_2.length < 140737488355328
            ·rw [if_pos c14] at H
             have LMc14 := Aside0.mk c14
             clear c14
             obtain ⟨y258, hy258⟩ : ∃ y_ : List Int, y_ = (x3_2 ++ [(ji8) % 256]) := ⟨_, rfl⟩
             replace H : (lanyardref07_To.l1 k2 l0 y258 x4_1 (wrap64 (x5_2 - 1))) = some r := by first | (rw [hy258]; with_reducible exact H) | (have H2_ := (Option.bind_some _ _).symm.trans H; rw [hy258]; with_reducible exact H2_) | (have H2_ := (Option.bind_some _ _).symm.trans H; with_reducible exact H2_) | with_reducible exact H | (rw [hy258]; exact H) | exact H
             have Ny258 := Aside0.mk hy258
             clear hy258
             have H' := Aside0.mk H
             clear H
             have p254 : 0 ≤ (x4_1 : Int) := of_decide_eq_true (by first | (with_reducible assumption) | assumption)
             have q254 : x4_1 < (l0.length : Int) := of_decide_eq_true (by first | (with_reducible assumption) | assumption)
             obtain ⟨ad254, e254, hx254_0⟩ := Kd.at_int HR0.out x4_1 p254 q254
             cases e254
             replace hx254_0 := (HB.out.cell (World.block_lt_of_cell? w _ hx254_0)).trans hx254_0
             replace p254 := eq_true p254
             replace q254 := eq_true q254
             obtain ⟨Ao15, co15, eo15⟩ := Kd.R_slice HO_3.out
             subst eo15
             go_wp2_with (first | ((with_reducible refine gate_builtin (b := .append) (xs := #[.tmp 33, .tmp 35]) rfl ?_); at_builtin; refine Kd.R_append (Kd.int .u8) (w0 := w) w.heap.size rfl (.tmp 33) (.tmp 35) 29 5 (.int .u8 0) 1 rfl Tryz.underlying29 info5 rfl (by decide) (by omega) (.slice Ao15 x3_2.length co15) x3_2 ((ji8) % 256) [.int .u8 ((ji8) % 256)] (fun _ => True) (fun _ => False) rfl rfl ?aP (fun _ hk => hk.elim) ?aF ?aO ?aB ?aS ?aL ?_; (case aP => exact rfl); (case aB => exact (by repeat (first | (with_reducible first | exact HB.out | apply below_alloc | apply pw_below_drewN | apply below_drew1) | exact HB.out))); (case aF => exact (fun _ _ => trivial)); (case aO => exact (by (with_reducible repeat (first | apply Kd.R_alloc | apply Kd.R_drewN | apply Kd.R_drew)); exact HO_3.out)); (case aS => exact (below_size (by repeat (first | (with_reducible first | exact HB.out | apply below_alloc | apply pw_below_drewN | apply below_drew1) | exact HB.out)))); (case aL => have := LMc14.out; omega); intro v259 w16 ho hb hg hat; rw [← Ny258.out] at ho; have n0_ := Aside0.mk (hb); have n1_ := Aside0.mk (ho); clear HB; clear HO_3; have HB := n0_; have HO260 := n1_; clear n0_ n1_; clear ho hb hg hat))
             go_roundg k2
             case measure => have := HK1.out; have := HK2.out; omega
             case rel => exact ⟨(y258), (wrap64 (x5_2 - 1)), (by first | rfl | (simp; done) | (simp [*]; done)), H', ⟨by have := HK1.out; have := HK2.out; omega⟩, ⟨by (with_reducible repeat (first | apply Kd.R_alloc | apply Kd.R_drewN | apply Kd.R_drew)); exact HO260.out⟩, ⟨by repeat (first | (with_reducible first | exact HB.out | apply below_alloc | apply pw_below_drewN | apply below_drew1) | exact HB.out)⟩⟩
            ·rw [if_neg c14] at H
             exact absurd H (by simp)
           ·rw [if_neg c13] at H
            have c13b0 : decide (0 < ((ji8) % 256)) = false := decide_eq_false c13
            clear c13
            have H' := Aside0.mk H
            clear H
            have p254 : 0 ≤ (x4_1 : Int) := of_decide_eq_true (by first | (with_reducible assumption) | assumption)
            have q254 : x4_1 < (l0.length : Int) := of_decide_eq_true (by first | (with_reducible assumption) | assumption)
            obtain ⟨ad254, e254, hx254_0⟩ := Kd.at_int HR0.out x4_1 p254 q254
            cases e254
            replace hx254_0 := (HB.out.cell (World.block_lt_of_cell? w _ hx254_0)).trans hx254_0
            replace p254 := eq_true p254
            replace q254 := eq_true q254
            obtain ⟨Ao17, co17, eo17⟩ := Kd.R_slice HO_3.out
            subst eo17
            go_wp2
            go_roundg k2
            case measure => have := HK1.out; have := HK2.out; omega
            case rel => exact ⟨(x3_2), (wrap64 (x5_2 - 1)), (by first | rfl | (simp; done) | (simp [*]; done)), H', ⟨by have := HK1.out; have := HK2.out; omega⟩, ⟨by (with_reducible repeat (first | apply Kd.R_alloc | apply Kd.R_drewN | apply Kd.R_drew)); exact HO_3.out⟩, ⟨by repeat (first | (with_reducible first | exact HB.out | apply below_alloc | apply pw_below_drewN | apply below_drew1) | exact HB.out)⟩⟩
         ·rw [if_neg c7] at H
          exact absurd H (by simp)
        ·rw [if_neg c5] at H
         exact absurd H (by simp)
       ·rw [if_neg c4] at H
        exact absurd H (by simp)
      ·rw [if_neg c3] at H
       have c3b0 : decide (0 ≤ x5_2) = false := decide_eq_false c3
       clear c3
       have H' := Aside0.mk H
       clear H
       go_wp2
       go_roundg k2
       case measure => have := HK1.out; have := HK2.out; omega
       case rel => exact ⟨(x3_2), (wrap64 (x4_1 - 1)), (by first | rfl | (simp; done) | (simp [*]; done)), H', ⟨by have := HK1.out; have := HK2.out; omega⟩, ⟨by (with_reducible repeat (first | apply Kd.R_alloc | apply Kd.R_drewN | apply Kd.R_drew)); exact HO_3.out⟩, ⟨by repeat (first | (with_reducible first | exact HB.out | apply below_alloc | apply pw_below_drewN | apply below_drew1) | exact HB.out)⟩⟩
   ·rw [if_neg c2] at H
    have c2b0 : decide (0 ≤ x4_1) = false := decide_eq_false c2
    clear c2
    obtain rfl := Option.some.inj H
    go_wp2
    go_ret
    exact ⟨_, by first | rfl | (simp [errW_none, errW_some] <;> rfl) | (simp [*, errW_none, errW_some] <;> rfl), by (with_reducible repeat (first | apply Kd.R_alloc | apply Kd.R_drewN | apply Kd.R_drew)); exact HO_3.out, by repeat (first | (with_reducible first | exact HB.out | apply below_alloc | apply pw_below_drewN | apply below_drew1) | exact HB.out)⟩

end Go.Proofs.YtcbmjmphicfgpaaGreatDoor.PT
end

section
namespace Go.Proofs.YtcbmjmphicfgpaaGreatDoor.PT
open Go.RowKit Go.Proofs.YtcbmjmphicfgpaaGreatDoorW.PrintWords Go.Proofs.YtcbmjmphicfgpaaGreatDoorW.PrintLast Go.Proofs.YtcbmjmphicfgpaaGreatDoorW.PrintMore
attribute [local go_sem] max2_int min2_int max_two min_two max_three min_three max_four min_four   -- for this text's walks alone
set_option linter.unusedVariables false
set_option linter.unusedSimpArgs false

def lanyardref09_Key.l0 : Nat → Int → List Int → List Int → Int → Option (List Int × Int)
 | 0, _, _, _, _ => none
 | k + 1, x0, x3, x4, x5 => if x5 < (x3.length : Int) then (if (Int.tmod x5 8) = (Int.tmod x0 8) then (lanyardref09_Key.l0 k x0 x3 x4 (wrap64 (x5 + 1))) else (if 0 ≤ x5 then ((lanyardref07_Mul.f k x4 (([rd x3 x5] : List Int))).bind fun t143 => (lanyardref09_Key.l0 k x0 x3 t143 (wrap64 (x5 + 1)))) else (none))) else ((lanyardref07_To.f k x4).bind fun t146 => (some (t146, 65537)))
def lanyardref09_Key.f (k : Nat) (a0 : Int) : Option (List Int × Int) := (lanyardref09_primes.f).bind fun t133 => (lanyardref09_Key.l0 k a0 t133 (([1] : List Int)) 0)
set_option maxHeartbeats 8000000 in
set_option maxRecDepth 100000 in
theorem lanyardref09_Key.calls (k : Nat) (a0 : Int) (r1 : List Int) (r2 : Int) (w : World) (h : lanyardref09_Key.f k a0 = some (r1, r2)) :
 Calls Tryz.prog 21 #[.int .i64 a0] w fun e w' => ∃ v0_ : Value, e = .returned (.agg #[v0_, .int .u32 r2]) ∧ Kd.R (Kd.int .u8) 5 w' w.heap.size (fun _ => True) v0_ r1 ∧ Below w.heap.size w w' := by
 have hu32 := Tryz.underlying32
 have HB := Aside0.mk (Below.refl w.heap.size w)
 have H : ((lanyardref09_primes.f).bind fun t133 => (lanyardref09_Key.l0 k a0 t133 (([1] : List Int)) 0)) = some (r1, r2) := h
 clear h
 replace H := Option.bind_eq_some_iff.mp H
 obtain ⟨t133, A20, H⟩ := H
 replace H : (lanyardref09_Key.l0 k a0 t133 (([1] : List Int)) 0) = some (r1, r2) := H
 have A2 := Aside0.mk A20
 clear A20
 obtain ⟨y136, hy136⟩ : ∃ y_ : List Int, y_ = (([1] : List Int)) := ⟨_, rfl⟩
 replace H : (lanyardref09_Key.l0 k a0 t133 y136 0) = some (r1, r2) := by first | (rw [hy136]; with_reducible exact H) | (have H2_ := (Option.bind_some _ _).symm.trans H; rw [hy136]; with_reducible exact H2_) | (have H2_ := (Option.bind_some _ _).symm.trans H; with_reducible exact H2_) | with_reducible exact H | (rw [hy136]; exact H) | exact H
 have Ny136 := Aside0.mk hy136
 clear hy136
 have H' := Aside0.mk H
 clear H
 go_enter Tryz.func21, Tryz.ntmps21
 go_wp2_with (first | ((with_reducible refine gate_dst (N := 2) rfl ?_); refine box_event ?hg (N := 2) ?hd (cs := #[.slice none 0 0, .int .u32 0]) (t := 32) ?hr ?_; (case hd => rfl); (case hg => rfl); (case hr => first | (go_simp; done) | (go_simp; rfl)); intro gb132 hg w3 hbox hb; have n0_ := Aside0.mk (below_step (by repeat (first | (with_reducible first | exact HB.out | apply below_alloc | apply pw_below_drewN | apply below_drew1) | exact HB.out)) hb); have n1_ := Aside0.mk (hbox); have n2_ := Aside0.mk ((by rw [hg]; exact (below_size (by repeat (first | (with_reducible first | exact HB.out | apply below_alloc | apply pw_below_drewN | apply below_drew1) | exact HB.out))) : w.heap.size ≤ gb132)); have n3_ := Aside0.mk ((by rw [hg]; exact (below_size (by repeat (first | (with_reducible first | exact HB.out | apply below_alloc | apply pw_below_drewN | apply below_drew1) | exact HB.out))) : w.heap.size ≤ gb132)); clear HB; have HB := n0_; have BK132 := n1_; have GW132 := n2_; have GE132 := n3_; clear n0_ n1_ n2_ n3_; clear hb hbox hg) | ((with_reducible refine gate_callee (f := 50) rfl ?_); refine goesL_ (some 6) rfl rfl Tryz.func50 (by kernel_rfl) rfl #[] rfl (by (try simp only [List.map_toArray, List.map_cons, List.map_nil]); first | done | rfl | (simp only [List.length_drop, List.length_take]; rfl)) ?_; (with_reducible refine (lanyardref09_primes.calls  t133 _ A2.out).mono ?_); rintro e w4 ⟨v134, rfl, ho0, hb⟩; refine ⟨_, rfl, ?_⟩; have n0_ := Aside0.mk (Kd.R_lower ho0 (below_size (by repeat (first | (with_reducible first | exact HB.out | apply below_alloc | apply pw_below_drewN | apply below_drew1 | refine below_set ?_ GE132.out) | exact HB.out)))); have n1_ := Aside0.mk (blk_below (g := gb132) (o := .cells #[.slice none 0 0, .int .u32 0] 32 (0, 0)) (by (with_reducible repeat (first | refine blk_drewN ?_ _ | refine blk_drew ?_ | refine blk_alloc ?_ _)); exact BK132.out) hb); have n2_ := Aside0.mk (below_step (by repeat (first | (with_reducible first | exact HB.out | apply below_alloc | apply pw_below_drewN | apply below_drew1 | refine below_set ?_ GE132.out) | exact HB.out)) hb); clear BK132; clear HB; have HO135 := n0_; have BK132 := n1_; have HB := n2_; clear n0_ n1_ n2_; (try clear hb); (try clear hb2); (try clear hk); (try clear hi); (try clear ho0)) | ((with_reducible refine gate_dst (N := 7) rfl ?_); refine Kd.R_lit (Kd.int .u32) _ 30 ?hg (N := 7) ?hd (xs := ([1] : List Int)) (inner := [.int .u32 1]) (ok := fun _ => True) (okp := fun _ => True) ?hr ?hp (fun _ hk => hk) trivial (Below.refl _ _) (Nat.le_refl _) (by simp) ?_; (case hd => rfl); (case hg => rfl); (case hr => first | (go_simp; done) | (go_simp; rfl)); (case hp => exact (Reps.one (show Kd.M (Kd.int .u32) _ _ _ 1 [.int .u32 1] from rfl) (Reps.none _ _))); intro v137 w5 ho6 hb hg_ hnew_; clear hg_ hnew_; (first | rw [← Ny136.out] at ho6 | (simp only [Int.reduceToNat] at ho6; rw [← Ny136.out] at ho6)); have n0_ := Aside0.mk (Kd.R_elder' (by (with_reducible repeat (first | apply Kd.R_alloc | apply Kd.R_drewN | apply Kd.R_drew)); exact HO135.out) (Kd.R_base ho6) hb); have n1_ := Aside0.mk (Kd.R_lower (Kd.R_new' ho6 (Kd.R_lt (by (with_reducible repeat (first | apply Kd.R_alloc | apply Kd.R_drewN | apply Kd.R_drew)); exact HO135.out))) (below_size (by repeat (first | (with_reducible first | exact HB.out | apply below_alloc | apply pw_below_drewN | apply below_drew1 | refine below_set ?_ GE132.out) | exact HB.out)))); have n2_ := Aside0.mk (blk_below (g := gb132) (o := .cells #[.slice none 0 0, .int .u32 0] 32 (0, 0)) (by (with_reducible repeat (first | refine blk_drewN ?_ _ | refine blk_drew ?_ | refine blk_alloc ?_ _)); exact BK132.out) hb); have n3_ := Aside0.mk (below_step (by repeat (first | (with_reducible first | exact HB.out | apply below_alloc | apply pw_below_drewN | apply below_drew1 | refine below_set ?_ GE132.out) | exact HB.out)) hb); clear HO135; clear BK132; clear HB; have HO135 := n0_; have HO138 := n1_; have BK132 := n2_; have HB := n3_; clear n0_ n1_ n2_ n3_; clear hb ho6))
 go_loopg [4, 5] k (fun kq v4 v5 w' => ∃ (x4_1 : List Int) (x5_1 : Int), v5 = .int .i64 x5_1 ∧ Aside0 (lanyardref09_Key.l0 kq a0 t133 x4_1 x5_1 = some (r1, r2)) ∧ Aside0 (kq ≤ k) ∧ Aside0 (Kd.R (Kd.int .u32) 30 w' w.heap.size (fun k_ => some k_ ≠ (v4 : Value).ownBlock) v134 t133) ∧ Aside0 (Kd.R (Kd.int .u32) 30 w' w.heap.size (fun k_ => some k_ ≠ (v134 : Value).ownBlock) v4 x4_1) ∧ Aside0 (w'.heap[gb132]? = some (.cells #[(.slice none 0 0), .int .u32 0] 32 (0, 0))) ∧ Aside0 (Below w.heap.size w w'))
 case atStart => exact ⟨(y136), (0), (by first | rfl | (simp; done) | (simp [*]; done)), H', ⟨Nat.le_refl _⟩, ⟨by (with_reducible repeat (first | apply Kd.R_alloc | apply Kd.R_drewN | apply Kd.R_drew)); exact Kd.R_mono HO135.out (fun _ hk => hk.2)⟩, ⟨by (with_reducible repeat (first | apply Kd.R_alloc | apply Kd.R_drewN | apply Kd.R_drew)); exact Kd.R_mono HO138.out (fun _ hk => hk.2)⟩, ⟨by (with_reducible repeat (first | refine blk_drewN ?_ _ | refine blk_drew ?_ | refine blk_alloc ?_ _)); exact BK132.out⟩, ⟨by repeat (first | (with_reducible first | exact HB.out | apply below_alloc | apply pw_below_drewN | apply below_drew1 | refine below_set ?_ GE132.out) | exact HB.out)⟩⟩
 case round =>
  clear H'
  try clear c2
  try clear p2
  try clear c5
  obtain ⟨x4_1, x5_1, rfl, HA, HK1, HO_3, HO_4, BK132, HB⟩ := hrel
  cases gk with
  | zero => exact absurd HA.out (by simp [lanyardref09_Key.l0])
  | succ k1 =>
   have H := HA.out
   clear HA
   simp only [lanyardref09_Key.l0] at H
   by_cases c7 : x5_1 < (t133.length : Int)
   ·rw [if_pos c7] at H
    have c7b0 : decide (x5_1 < (t133.length : Int)) = true := decide_eq_true c7
    clear c7
    by_cases c8 : (Int.tmod x5_1 8) = (Int.tmod a0 8)
    ·rw [if_pos c8] at H
     have c8b0 : ((Int.tmod x5_1 8) == (Int.tmod a0 8)) = true := beq_iff_eq.mpr c8
     have c8b1 : ((Int.tmod x5_1 8) != (Int.tmod a0 8)) = false := bne_eq_false_iff_eq.mpr c8
     clear c8
     have H' := Aside0.mk H
     clear H
     obtain ⟨Ao9, co9, eo9⟩ := Kd.R_slice HO_3.out
     subst eo9
     go_wp2
     go_roundg k1
     case measure => have := HK1.out; omega
     case rel => exact ⟨(x4_1), (wrap64 (x5_1 + 1)), (by first | rfl | (simp; done) | (simp [*]; done)), H', ⟨by have := HK1.out; omega⟩, ⟨by (with_reducible repeat (first | apply Kd.R_alloc | apply Kd.R_drewN | apply Kd.R_drew)); exact HO_3.out⟩, ⟨by (with_reducible repeat (first | apply Kd.R_alloc | apply Kd.R_drewN | apply Kd.R_drew)); exact HO_4.out⟩, ⟨by (with_reducible repeat (first | refine blk_drewN ?_ _ | refine blk_drew ?_ | refine blk_alloc ?_ _)); exact BK132.out⟩, ⟨by repeat (first | (with_reducible first | exact HB.out | apply below_alloc | apply pw_below_drewN | apply below_drew1 | refine below_set ?_ GE132.out) | exact HB.out)⟩⟩
    ·rw [if_neg c8] at H
     have c8b0 : ((Int.tmod x5_1 8) == (Int.tmod a0 8)) = false := beq_eq_false_iff_ne.mpr c8
     have c8b1 : ((Int.tmod x5_1 8) != (Int.tmod a0 8)) = true := bne_iff_ne.mpr c8
     by_cases c10 : 0 ≤ x5_1
     ·rw [if_pos c10] at H
      have c10b0 : decide (0 ≤ x5_1) = true := decide_eq_true c10
      clear c10
      obtain ⟨y140, hy140⟩ : ∃ y_ : List Int, y_ = (([rd t133 x5_1] : List Int)) := ⟨_, rfl⟩
      replace H : ((lanyardref07_Mul.f k1 x4_1 y140).bind fun t143 => (lanyardref09_Key.l0 k1 a0 t133 t143 (wrap64 (x5_1 + 1)))) = some (r1, r2) := by first | (rw [hy140]; with_reducible exact H) | (have H2_ := (Option.bind_some _ _).symm.trans H; rw [hy140]; with_reducible exact H2_) | (have H2_ := (Option.bind_some _ _).symm.trans H; with_reducible exact H2_) | with_reducible exact H | (rw [hy140]; exact H) | exact H
      have Ny140 := Aside0.mk hy140
      clear hy140
      replace H := Option.bind_eq_some_iff.mp H
      obtain ⟨t143, A110, H⟩ := H
      replace H : (lanyardref09_Key.l0 k1 a0 t133 t143 (wrap64 (x5_1 + 1))) = some (r1, r2) := H
      have A11 := Aside0.mk A110
      clear A110
      have H' := Aside0.mk H
      clear H
      obtain ⟨Ao12, co12, eo12⟩ := Kd.R_slice HO_3.out
      subst eo12
      have p139 : 0 ≤ (x5_1 : Int) := of_decide_eq_true (by first | (with_reducible assumption) | assumption)
      have q139 : x5_1 < (t133.length : Int) := of_decide_eq_true (by first | (with_reducible assumption) | assumption)
      obtain ⟨ad139, e139, hx139_0⟩ := Kd.at_int (Kd.R_reads' HO_3.out).2.2 x5_1 p139 q139
      cases e139
      replace p139 := eq_true p139
      replace q139 := eq_true q139
      go_wp2_with (first | ((with_reducible refine gate_dst (N := 24) rfl ?_); refine Kd.R_lit (Kd.int .u32) _ 30 ?hg (N := 24) ?hd (xs := ([rd t133 x5_1] : List Int)) (inner := [.int .u32 (rd t133 x5_1)]) (ok := fun _ => True) (okp := fun _ => True) ?hr ?hp (fun _ hk => hk) trivial (Below.refl _ _) (Nat.le_refl _) (by simp) ?_; (case hd => rfl); (case hg => rfl); (case hr => first | (go_simp; done) | (go_simp; rfl)); (case hp => exact (Reps.one (show Kd.M (Kd.int .u32) _ _ _ (rd t133 x5_1) [.int .u32 (rd t133 x5_1)] from rfl) (Reps.none _ _))); intro v141 w13 ho14 hb hg_ hnew_; clear hg_ hnew_; (first | rw [← Ny140.out] at ho14 | (simp only [Int.reduceToNat] at ho14; rw [← Ny140.out] at ho14)); have n0_ := Aside0.mk (Kd.R_elder' (by (with_reducible repeat (first | apply Kd.R_alloc | apply Kd.R_drewN | apply Kd.R_drew)); exact HO_3.out) (Kd.R_base ho14) hb); have n1_ := Aside0.mk (Kd.R_elder' (by (with_reducible repeat (first | apply Kd.R_alloc | apply Kd.R_drewN | apply Kd.R_drew)); exact HO_4.out) (Kd.R_base ho14) hb); have n2_ := Aside0.mk (Kd.R_lower (Kd.R_new' (Kd.R_new' ho14 (Kd.R_lt (by (with_reducible repeat (first | apply Kd.R_alloc | apply Kd.R_drewN | apply Kd.R_drew)); exact HO_3.out))) (Kd.R_lt (by (with_reducible repeat (first | apply Kd.R_alloc | apply Kd.R_drewN | apply Kd.R_drew)); exact HO_4.out))) (below_size (by repeat (first | (with_reducible first | exact HB.out | apply below_alloc | apply pw_below_drewN | apply below_drew1 | refine below_set ?_ GE132.out) | exact HB.out)))); have n3_ := Aside0.mk (blk_below (g := gb132) (o := .cells #[.slice none 0 0, .int .u32 0] 32 (0, 0)) (by (with_reducible repeat (first | refine blk_drewN ?_ _ | refine blk_drew ?_ | refine blk_alloc ?_ _)); exact BK132.out) hb); have n4_ := Aside0.mk (below_step (by repeat (first | (with_reducible first | exact HB.out | apply below_alloc | apply pw_below_drewN | apply below_drew1 | refine below_set ?_ GE132.out) | exact HB.out)) hb); clear HO_3; clear HO_4; clear BK132; clear HB; have HO_3 := n0_; have HO_4 := n1_; have HO142 := n2_; have BK132 := n3_; have HB := n4_; clear n0_ n1_ n2_ n3_ n4_; clear hb ho14; obtain ⟨Ao15, co15, eo15⟩ := Kd.R_slice HO_4.out; subst eo15; obtain ⟨Ao16, co16, eo16⟩ := Kd.R_slice HO142.out; subst eo16) | ((with_reducible refine gate_callee (f := 51) rfl ?_); refine goesL_ (some 25) rfl rfl Tryz.func51 (by kernel_rfl) rfl #[.slice Ao15 x4_1.length co15, .slice Ao16 y140.length co16] rfl (by (try simp only [List.map_toArray, List.map_cons, List.map_nil]); first | done | rfl | (simp only [List.length_drop, List.length_take]; rfl)) ?_; (with_reducible refine (lanyardref07_Mul.calls k1 _ _ x4_1 _ _ y140 t143 _ ?side1 ?side2 ?side3 ?side4 A11.out).mono ?_); (case side1 => repeat (first | exact (Kd.R_reads' HO_4.out).2.2 | (with_reducible refine Kd.C_alloc ?_ _) | (with_reducible refine Kd.C_drewN ?_ _) | (with_reducible refine Kd.C_drew ?_))); (case side2 => exact (Kd.R_reads' HO_4.out).2.1); (case side3 => repeat (first | exact (Kd.R_reads' HO142.out).2.2 | (with_reducible refine Kd.C_alloc ?_ _) | (with_reducible refine Kd.C_drewN ?_ _) | (with_reducible refine Kd.C_drew ?_))); (case side4 => exact (Kd.R_reads' HO142.out).2.1); rintro e w17 ⟨v144, rfl, ho0, hb⟩; refine ⟨_, rfl, ?_⟩; have n0_ := Aside0.mk (Kd.R_elder' (by (with_reducible repeat (first | apply Kd.R_alloc | apply Kd.R_drewN | apply Kd.R_drew)); exact HO_3.out) (Kd.R_base ho0) hb); have n1_ := Aside0.mk (Kd.R_elder' (by (with_reducible repeat (first | apply Kd.R_alloc | apply Kd.R_drewN | apply Kd.R_drew)); exact HO_4.out) (Kd.R_base ho0) hb); have n2_ := Aside0.mk (Kd.R_elder' (by (with_reducible repeat (first | apply Kd.R_alloc | apply Kd.R_drewN | apply Kd.R_drew)); exact HO142.out) (Kd.R_base ho0) hb); have n3_ := Aside0.mk (Kd.R_lower (Kd.R_new' (Kd.R_new' (Kd.R_new' ho0 (Kd.R_lt (by (with_reducible repeat (first | apply Kd.R_alloc | apply Kd.R_drewN | apply Kd.R_drew)); exact HO_3.out))) (Kd.R_lt (by (with_reducible repeat (first | apply Kd.R_alloc | apply Kd.R_drewN | apply Kd.R_drew)); exact HO_4.out))) (Kd.R_lt (by (with_reducible repeat (first | apply Kd.R_alloc | apply Kd.R_drewN | apply Kd.R_drew)); exact HO142.out))) (below_size (by repeat (first | (with_reducible first | exact HB.out | apply below_alloc | apply pw_below_drewN | apply below_drew1 | refine below_set ?_ GE132.out) | exact HB.out)))); have n4_ := Aside0.mk (blk_below (g := gb132) (o := .cells #[.slice none 0 0, .int .u32 0] 32 (0, 0)) (by (with_reducible repeat (first | refine blk_drewN ?_ _ | refine blk_drew ?_ | refine blk_alloc ?_ _)); exact BK132.out) hb); have n5_ := Aside0.mk (below_step (by repeat (first | (with_reducible first | exact HB.out | apply below_alloc | apply pw_below_drewN | apply below_drew1 | refine below_set ?_ GE132.out) | exact HB.out)) hb); clear HO_3; clear HO_4; clear HO142; clear BK132; clear HB; have HO_3 := n0_; have HO_4 := n1_; have HO142 := n2_; have HO145 := n3_; have BK132 := n4_; have HB := n5_; clear n0_ n1_ n2_ n3_ n4_ n5_; (try clear hb); (try clear hb2); (try clear hk); (try clear hi); (try clear ho0)))
      go_roundg k1
      case measure => have := HK1.out; omega
      case rel => exact ⟨(t143), (wrap64 (x5_1 + 1)), (by first | rfl | (simp; done) | (simp [*]; done)), H', ⟨by have := HK1.out; omega⟩, ⟨by (with_reducible repeat (first | apply Kd.R_alloc | apply Kd.R_drewN | apply Kd.R_drew)); exact Kd.R_mono HO_3.out (fun _ hk => hk.2)⟩, ⟨by (with_reducible repeat (first | apply Kd.R_alloc | apply Kd.R_drewN | apply Kd.R_drew)); exact Kd.R_mono HO145.out (fun _ hk => hk.1.1.2)⟩, ⟨by (with_reducible repeat (first | refine blk_drewN ?_ _ | refine blk_drew ?_ | refine blk_alloc ?_ _)); exact BK132.out⟩, ⟨by repeat (first | (with_reducible first | exact HB.out | apply below_alloc | apply pw_below_drewN | apply below_drew1 | refine below_set ?_ GE132.out) | exact HB.out)⟩⟩
     ·rw [if_neg c10] at H
      exact absurd H (by simp)
   ·rw [if_neg c7] at H
    have c7b0 : decide (x5_1 < (t133.length : Int)) = false := decide_eq_false c7
    clear c7
    replace H := Option.bind_eq_some_iff.mp H
    obtain ⟨t146, A180, H⟩ := H
    replace H : (some (t146, 65537)) = some (r1, r2) := H
    have A18 := Aside0.mk A180
    clear A180
    simp only [Option.some.injEq, Prod.mk.injEq] at H
    obtain ⟨rfl, rfl⟩ := H
    obtain ⟨Ao19, co19, eo19⟩ := Kd.R_slice HO_3.out
    subst eo19
    obtain ⟨Ao20, co20, eo20⟩ := Kd.R_slice HO_4.out
    subst eo20
    go_wp2_with (first | ((with_reducible refine gate_callee (f := 52) rfl ?_); refine goesL_ (some 27) rfl rfl Tryz.func52 (by kernel_rfl) rfl #[.slice Ao20 x4_1.length co20] rfl (by (try simp only [List.map_toArray, List.map_cons, List.map_nil]); first | done | rfl | (simp only [List.length_drop, List.length_take]; rfl)) ?_; (with_reducible refine (lanyardref07_To.calls k1 _ _ x4_1 t146 _ ?side1 ?side2 A18.out).mono ?_); (case side1 => repeat (first | exact (Kd.R_reads' HO_4.out).2.2 | (with_reducible refine Kd.C_alloc ?_ _) | (with_reducible refine Kd.C_drewN ?_ _) | (with_reducible refine Kd.C_drew ?_))); (case side2 => exact (Kd.R_reads' HO_4.out).2.1); rintro e w21 ⟨v147, rfl, ho0, hb⟩; refine ⟨_, rfl, ?_⟩; have n0_ := Aside0.mk (Kd.R_below (by (with_reducible repeat (first | apply Kd.R_alloc | apply Kd.R_drewN | apply Kd.R_drew)); exact HO_3.out) hb); have n1_ := Aside0.mk (Kd.R_below (by (with_reducible repeat (first | apply Kd.R_alloc | apply Kd.R_drewN | apply Kd.R_drew)); exact HO_4.out) hb); have n2_ := Aside0.mk (Kd.R_lower ho0 (below_size (by repeat (first | (with_reducible first | exact HB.out | apply below_alloc | apply pw_below_drewN | apply below_drew1 | refine below_set ?_ GE132.out) | exact HB.out)))); have n3_ := Aside0.mk (blk_below (g := gb132) (o := .cells #[.slice none 0 0, .int .u32 0] 32 (0, 0)) (by (with_reducible repeat (first | refine blk_drewN ?_ _ | refine blk_drew ?_ | refine blk_alloc ?_ _)); exact BK132.out) hb); have n4_ := Aside0.mk (below_step (by repeat (first | (with_reducible first | exact HB.out | apply below_alloc | apply pw_below_drewN | apply below_drew1 | refine below_set ?_ GE132.out) | exact HB.out)) hb); clear HO_3; clear HO_4; clear BK132; clear HB; have HO_3 := n0_; have HO_4 := n1_; have HO148 := n2_; have BK132 := n3_; have HB := n4_; clear n0_ n1_ n2_ n3_ n4_; (try clear hb); (try clear hb2); (try clear hk); (try clear hi); (try clear ho0); obtain ⟨Ao22, co22, eo22⟩ := Kd.R_slice HO148.out; subst eo22; have hcz23_0 : w21.cell? ⟨gb132, 0, none⟩ = some (.slice none 0 0) := (blk_cell BK132.out 0).trans rfl; have hcz23_1 : w21.cell? ⟨gb132, 1, none⟩ = some (.int .u32 0) := (blk_cell BK132.out 1).trans rfl; have hfz23_0 := blk_frozen BK132.out 0; have hfz23_1 := blk_frozen BK132.out 1))
    refine bodyPost_ret (results_cell_row rfl _ _ gb132 32 #[.slice Ao22 t146.length co22, .int .u32 65537] (0, 0) _ rfl (by (with_reducible repeat (first | refine blk_drewN ?_ _ | refine blk_drew ?_ | refine blk_alloc ?_ _)); refine blk_put (cs := #[.slice Ao22 t146.length co22, .int .u32 0]) ?_ 1 _ rfl; (with_reducible repeat (first | refine blk_drewN ?_ _ | refine blk_drew ?_ | refine blk_alloc ?_ _)); refine blk_put (cs := #[.slice none 0 0, .int .u32 0]) ?_ 0 _ rfl; (with_reducible repeat (first | refine blk_drewN ?_ _ | refine blk_drew ?_ | refine blk_alloc ?_ _)); exact BK132.out) Tryz.underlying32 rfl (by kernel_rfl)) rfl ?_
    exact ⟨_, by first | rfl | (simp [errW_none, errW_some] <;> rfl) | (simp [*, errW_none, errW_some] <;> rfl), by (with_reducible repeat (first | apply Kd.R_alloc | apply Kd.R_drewN | apply Kd.R_drew)); exact Kd.R_mono (Kd.R_far (p := ⟨gb132, 1, none⟩) (Kd.R_far (p := ⟨gb132, 0, none⟩) (Kd.R_types HO148.out BK132.out (by decide)) (fun _ hk => hk.2) (.slice Ao22 t146.length co22)) (fun _ hk => hk.2) (.int .u32 65537)) (fun _ hk => trivial), by repeat (first | (with_reducible first | exact HB.out | apply below_alloc | apply pw_below_drewN | apply below_drew1 | refine below_set ?_ GE132.out) | exact HB.out)⟩

end Go.Proofs.YtcbmjmphicfgpaaGreatDoor.PT
end

section
set_option linter.unusedVariables false
set_option linter.unusedSimpArgs false
namespace Go.Proofs.YtcbmjmphicfgpaaGreatDoor.Tal
open Go.RowKit Go.Proofs.YtcbmjmphicfgpaaGreatDoorW.PrintWords Go.Proofs.YtcbmjmphicfgpaaGreatDoorW.PrintLast Go.Proofs.YtcbmjmphicfgpaaGreatDoorW.PrintMore Go.Proofs.YtcbmjmphicfgpaaGreatDoor.PT

def keyN : List Int := [7, 107, 176, 228, 108, 97, 125, 161, 87, 55, 40, 208, 251, 91, 219, 143, 118, 76, 43, 118, 14, 96, 157, 141, 246, 204, 12, 166, 22, 103, 36, 182, 40, 8, 34, 84, 222, 7, 218, 23, 220, 10, 164, 43, 81, 123, 210, 115, 161, 55, 108, 73, 59, 167, 27, 83, 178, 225, 153, 58, 250, 157, 58, 77, 250, 157]
theorem key0 : lanyardref09_Key.f 200 0 = some (keyN, 65537) := by decide +kernel
theorem key0r : Tlv.rightK keyN 65537 = true := by decide +kernel
theorem key0v : ∀ v ∈ keyN, 0 ≤ v ∧ v < 256 := by decide
def dir0 : ByteArray := ⟨#[114, 115, 121, 110, 99, 58, 47, 47, 97, 47]⟩
def uri0 : ByteArray := ⟨#[114, 115, 121, 110, 99, 58, 47, 47, 97, 47, 120, 46, 99, 101, 114]⟩
theorem uri0_r : uriB uri0 = true := by decide +kernel
theorem join0_ok : joinB dir0 ⟨#[120, 46, 99, 101, 114]⟩ = true := by decide +kernel
theorem join0_r : joinR dir0 ⟨#[120, 46, 99, 101, 114]⟩ = (uri0, 0) := by
 unfold joinR
 rw [if_pos join0_ok]
 rfl
theorem right0 : rightU [uri0] = true := by
 unfold rightU
 rw [List.all_cons, uri0_r]
 rfl
theorem text0 : textR [uri0] keyN 65537 = (textB [uri0] keyN 65537, 0) := by
 unfold textR
 rw [key0r, right0]
 rfl
theorem back0 : readB (textB [uri0] keyN 65537) = some ([uri0], keyN, 65537) := text_back _ _ _ (by decide) key0v (by decide) (by decide) key0r right0

set_option maxHeartbeats 4000000 in
set_option maxRecDepth 100000 in
theorem awake_walk (w : World) : Calls Tryz.prog 7 #[] w fun e w' => e = .returned (.bool true) ∧ Below w.heap.size w w' := by
 have HJ := Lib.hid (join_walk dir0 ⟨#[120, 46, 99, 101, 114]⟩ w (by decide))
 rw [join0_r] at HJ
 have HU : Hid (uri0 = ⟨#[114, 115, 121, 110, 99, 58, 47, 47, 97, 47, 120, 46, 99, 101, 114]⟩) := Lib.hid rfl
 have HTX := Lib.hid text0
 have HBK := Lib.hid back0
 have hts := text_size [uri0] keyN 65537 (by decide) key0v (by decide) (by decide) right0
 have HKL : Hid (keyN.length ≤ 140 ∧ (∀ v ∈ keyN, 0 ≤ v ∧ v < 256)) := Lib.hid ⟨by decide, key0v⟩
 have HK := Lib.hid (fun w1 => lanyardref09_Key.calls 200 0 keyN 65537 w1 key0)
 have HUS : Hid (uri0.size ≤ 200) := Lib.hid (by decide)
 generalize textB [uri0] keyN 65537 = tx at HTX HBK hts
 generalize keyN = kn at HTX HBK HKL HK
 have hue : (uri0.toList == [114, 115, 121, 110, 99, 58, 47, 47, 97, 47, 120, 46, 99, 101, 114]) = true := by decide +kernel
 have hue2 : uri0.toList = [114, 115, 121, 110, 99, 58, 47, 47, 97, 47, 120, 46, 99, 101, 114] := by decide +kernel
 have HUE := Lib.hid (And.intro hue hue2)
 clear hue hue2
 generalize uri0 = u at HJ HU HTX HBK HUS HUE
 go_enter Tryz.func7, Tryz.ntmps7
 go_wp2_with (fail)
 refine HJ.out.mono ?_
 rintro e w1 ⟨rfl, hb1⟩
 have hal : Below w1.heap.size w1 (w1.alloc (.cells #[.string u] 9)) := (Below.refl _ _).alloc (Nat.le_refl _) _
 have HB1 := Lib.hid (hb1.trans (hal.mono hb1.size))
 have HC := Lib.hid (one_str u w1)
 clear hb1 hal HJ
 go_wp2_with (fail)
 refine (HK.out _).mono ?_
 rintro e w2 ⟨v2, rfl, ho, hb2⟩
 obtain ⟨A, c, rfl⟩ := Kd.R_slice ho
 have hr2 := Kd.R_reads' ho
 have HT := Lib.hid (text_walk _ 1 [u] A c kn 65537 w2 (Kd.C_below HC.out hb2) (by simp) (by simp) (fun x hx => by rw [List.mem_singleton.1 hx]; have := HUS.out; omega) hr2.2.2 hr2.2.1 HKL.out.1 HKL.out.2 (by decide) (by decide))
 have HB2 := Lib.hid (HB1.out.trans (hb2.mono HB1.out.size))
 clear ho hb2 hr2 HB1 HC HK
 go_wp2_with (fail)
 refine HT.out.mono ?_
 rw [HTX.out]
 rintro e w3 ⟨rfl, hb3⟩
 have HB3 := Lib.hid (HB2.out.trans (hb3.mono HB2.out.size))
 have HRD := Lib.hid (talread_walk tx w3 (by omega))
 clear hb3 HB2 HT
 go_wp2_with (fail)
 refine HRD.out.mono ?_
 intro e w4 hp
 unfold TalPost at hp
 rw [HBK.out] at hp
 obtain ⟨V, us, c4, A4, l4, d4, E4, x4, rfl, hcase, hV, hV2, hA, hA2, hb4⟩ := hp
 obtain ⟨rfl, hus⟩ : x4 = 0 ∧ us.length = 1 := by
  rcases hcase with ⟨_, h, _⟩ | ⟨h1, h2⟩
  ·cases h
  ·injection h2 with h2
   injection h2 with h3 _
   exact ⟨h1, by rw [← h3]; rfl⟩
 have hal : Below w4.heap.size w4 (w4.alloc (.cells #[.slice V us.length c4, .slice A4 l4.length d4, .int .u32 E4] 34)) := (Below.refl _ _).alloc (Nat.le_refl _) _
 have hg : (w4.alloc (.cells #[.slice V us.length c4, .slice A4 l4.length d4, .int .u32 E4] 34)).heap[w4.heap.size]? = some (.cells #[.slice V us.length c4, .slice A4 l4.length d4, .int .u32 E4] 34 (0, 0)) := heap_alloc_new w4 _
 have hbx := HB3.out.trans (hb4.mono HB3.out.size)
 have HBF := Lib.hid (hbx.trans (hal.mono hbx.size))
 rw [hus] at hg HBF ⊢
 have g0 := Lib.cell_of_heap hg 0
 have q1 := HUE.out.1
 have q2 := HUE.out.2
 have q3 := decide_eq_true q2
 clear hcase hV hV2 hA hA2 hb4 hbx hal hg HRD HB3 hus
 go_wp2
 go_ret
 exact ⟨by first | rfl | (simp; done) | decide, HBF.out⟩
end Go.Proofs.YtcbmjmphicfgpaaGreatDoor.Tal
end

section
namespace Go.Proofs.YtcbmjmphicfgpaaGreatDoor.PT
open Go.RowKit Go.Proofs.YtcbmjmphicfgpaaGreatDoorW.PrintWords Go.Proofs.YtcbmjmphicfgpaaGreatDoorW.PrintLast Go.Proofs.YtcbmjmphicfgpaaGreatDoorW.PrintMore
attribute [local go_sem] max2_int min2_int max_two min_two max_three min_three max_four min_four   -- for this text's walks alone
set_option linter.unusedVariables false
set_option linter.unusedSimpArgs false

def lanyardref09_LightKey.f (l0_0 : List Int) (a0_1 : Int) : Option (Bool) := some (decide ((l0_0.length : Int) ≤ 140))
set_option maxHeartbeats 8000000 in
set_option maxRecDepth 100000 in
theorem lanyardref09_LightKey.calls (A0_0 : Option Addr) (c0_0 : Nat) (l0_0 : List Int) (a0_1 : Int) (r : Bool) (w : World) (hr0_0 : Kd.C (Kd.int .u8) w A0_0 l0_0.length l0_0) (hc0_0 : l0_0.length ≤ c0_0) (h : lanyardref09_LightKey.f l0_0 a0_1 = some r) :
 Calls Tryz.prog 28 #[.agg #[.slice A0_0 l0_0.length c0_0, .int .u32 a0_1]] w fun e w' => e = .returned (.bool r) ∧ Below w.heap.size w w' := by
 have hu32 := Tryz.underlying32
 have HR0_0 := Aside0.mk hr0_0
 have HC0_0 := Aside0.mk hc0_0
 clear hr0_0 hc0_0
 have HB := Aside0.mk (Below.refl w.heap.size w)
 have H : (some (decide ((l0_0.length : Int) ≤ 140))) = some r := h
 clear h
 obtain rfl := Option.some.inj H
 go_enter Tryz.func28, Tryz.ntmps28
 go_wp2_with (first | ((with_reducible refine gate_dst (N := 1) rfl ?_); refine box_event ?hg (N := 1) ?hd (cs := #[.slice A0_0 l0_0.length c0_0, .int .u32 a0_1]) (t := 32) ?hr ?_; (case hd => rfl); (case hg => rfl); (case hr => first | (go_simp; done) | (go_simp; rfl)); intro gb103 hg w2 hbox hb; have n0_ := Aside0.mk (below_step (by repeat (first | (with_reducible first | exact HB.out | apply below_alloc | apply pw_below_drewN | apply below_drew1) | exact HB.out)) hb); have n1_ := Aside0.mk (hbox); have n2_ := Aside0.mk ((by rw [hg]; exact (below_size (by repeat (first | (with_reducible first | exact HB.out | apply below_alloc | apply pw_below_drewN | apply below_drew1) | exact HB.out))) : w.heap.size ≤ gb103)); have n3_ := Aside0.mk ((by rw [hg]; exact (below_size (by repeat (first | (with_reducible first | exact HB.out | apply below_alloc | apply pw_below_drewN | apply below_drew1) | exact HB.out))) : w.heap.size ≤ gb103)); clear HB; have HB := n0_; have BK103 := n1_; have GW103 := n2_; have GE103 := n3_; clear n0_ n1_ n2_ n3_; clear hb hbox hg; have hcz3_0 : w2.cell? ⟨gb103, 0, none⟩ = some (.slice A0_0 l0_0.length c0_0) := (blk_cell BK103.out 0).trans rfl; have hcz3_1 : w2.cell? ⟨gb103, 1, none⟩ = some (.int .u32 a0_1) := (blk_cell BK103.out 1).trans rfl; have hfz3_0 := blk_frozen BK103.out 0; have hfz3_1 := blk_frozen BK103.out 1))
 go_ret
 exact ⟨by first | rfl | (simp [errW_none, errW_some] <;> rfl) | (simp [*, errW_none, errW_some] <;> rfl), by repeat (first | (with_reducible first | exact HB.out | apply below_alloc | apply pw_below_drewN | apply below_drew1 | refine below_set ?_ GE103.out) | exact HB.out)⟩

end Go.Proofs.YtcbmjmphicfgpaaGreatDoor.PT
end

section
namespace Go.Proofs.YtcbmjmphicfgpaaGreatDoor.PT
open Go.RowKit Go.Proofs.YtcbmjmphicfgpaaGreatDoorW.PrintWords Go.Proofs.YtcbmjmphicfgpaaGreatDoorW.PrintLast Go.Proofs.YtcbmjmphicfgpaaGreatDoorW.PrintMore
attribute [local go_sem] max2_int min2_int max_two min_two max_three min_three max_four min_four   -- for this text's walks alone
set_option linter.unusedVariables false
set_option linter.unusedSimpArgs false

def lanyardlaw20_light.l0 : Nat → Int → Int → List ByteArray → List Int → Int → Option (Bool)
 | 0, _, _, _, _, _ => none
 | k + 1, x3, x4, x297000, x297001, x297002 => if x4 < (x297000.length : Int) then (if x4 < 20 then (if 0 ≤ x4 then (lanyardlaw20_light.l0 k (wrap64 (x3 + (mn ((rdOf ByteArray.empty x297000 x4).size : Int) 5000))) (wrap64 (x4 + 1)) x297000 x297001 x297002) else (none)) else ((lanyardref09_LightKey.f x297001 x297002).bind fun t298 => (if t298 = true then (if (x297000.length : Int) < 20 then (some (decide (x3 < 5000))) else (some false)) else (some false)))) else ((lanyardref09_LightKey.f x297001 x297002).bind fun t299 => (if t299 = true then (if (x297000.length : Int) < 20 then (some (decide (x3 < 5000))) else (some false)) else (some false)))
def lanyardlaw20_light.f (k : Nat) (l0_0 : List ByteArray) (l0_1 : List Int) (a0_2 : Int) : Option (Bool) := lanyardlaw20_light.l0 k 0 0 l0_0 l0_1 a0_2
set_option maxHeartbeats 8000000 in
set_option maxRecDepth 100000 in
theorem lanyardlaw20_light.calls (k : Nat) (A0_0 : Option Addr) (c0_0 : Nat) (l0_0 : List ByteArray) (A0_1 : Option Addr) (c0_1 : Nat) (l0_1 : List Int) (a0_2 : Int) (r : Bool) (w : World) (hr0_0 : Kd.C Kd.string w A0_0 l0_0.length l0_0) (hc0_0 : l0_0.length ≤ c0_0) (hr0_1 : Kd.C (Kd.int .u8) w A0_1 l0_1.length l0_1) (hc0_1 : l0_1.length ≤ c0_1) (h : lanyardlaw20_light.f k l0_0 l0_1 a0_2 = some r) :
 Calls Tryz.prog 14 #[.agg #[.slice A0_0 l0_0.length c0_0, .slice A0_1 l0_1.length c0_1, .int .u32 a0_2]] w fun e w' => e = .returned (.bool r) ∧ Below w.heap.size w w' := by
 have hu34 := Tryz.underlying34
 have hu32 := Tryz.underlying32
 have HR0_0 := Aside0.mk hr0_0
 have HC0_0 := Aside0.mk hc0_0
 clear hr0_0 hc0_0
 have HR0_1 := Aside0.mk hr0_1
 have HC0_1 := Aside0.mk hc0_1
 clear hr0_1 hc0_1
 have HB := Aside0.mk (Below.refl w.heap.size w)
 have H : (lanyardlaw20_light.l0 k 0 0 l0_0 l0_1 a0_2) = some r := h
 clear h
 have H' := Aside0.mk H
 clear H
 go_enter Tryz.func14, Tryz.ntmps14
 go_wp2_with (first | ((with_reducible refine gate_dst (N := 1) rfl ?_); (try (refine gate_guard (by rfl) ?_; dsimp only)); refine box_event ?hg (N := 1) ?hd (cs := #[.slice A0_0 l0_0.length c0_0, .slice A0_1 l0_1.length c0_1, .int .u32 a0_2]) (t := 34) ?hr ?_; (case hd => rfl); (case hg => rfl); (case hr => first | (go_simp; done) | (go_simp; rfl)); intro gb296 hg w2 hbox hb; have n0_ := Aside0.mk (below_step (by repeat (first | (with_reducible first | exact HB.out | apply below_alloc | apply pw_below_drewN | apply below_drew1) | exact HB.out)) hb); have n1_ := Aside0.mk (hbox); have n2_ := Aside0.mk ((by rw [hg]; exact (below_size (by repeat (first | (with_reducible first | exact HB.out | apply below_alloc | apply pw_below_drewN | apply below_drew1) | exact HB.out))) : w.heap.size ≤ gb296)); have n3_ := Aside0.mk ((by rw [hg]; exact (below_size (by repeat (first | (with_reducible first | exact HB.out | apply below_alloc | apply pw_below_drewN | apply below_drew1) | exact HB.out))) : w.heap.size ≤ gb296)); clear HB; have HB := n0_; have BK296 := n1_; have GW296 := n2_; have GE296 := n3_; clear n0_ n1_ n2_ n3_; clear hb hbox hg))
 go_loopg [3, 4] k (fun kq v3 v4 w' => ∃ (x3_1 : Int) (x4_1 : Int), v3 = .int .i64 x3_1 ∧ v4 = .int .i64 x4_1 ∧ Aside0 (lanyardlaw20_light.l0 kq x3_1 x4_1 l0_0 l0_1 a0_2 = some r) ∧ Aside0 (kq ≤ k) ∧ Aside0 (w'.heap[gb296]? = some (.cells #[(.slice A0_0 l0_0.length c0_0), (.slice A0_1 l0_1.length c0_1), .int .u32 a0_2] 34 (0, 0))) ∧ Aside0 (Below w.heap.size w w'))
 case atStart => exact ⟨(0), (0), (by first | rfl | (simp; done) | (simp [*]; done)), (by first | rfl | (simp; done) | (simp [*]; done)), H', ⟨Nat.le_refl _⟩, ⟨by (with_reducible repeat (first | refine blk_drewN ?_ _ | refine blk_drew ?_ | refine blk_alloc ?_ _)); exact BK296.out⟩, ⟨by repeat (first | (with_reducible first | exact HB.out | apply below_alloc | apply pw_below_drewN | apply below_drew1 | refine below_set ?_ GE296.out) | exact HB.out)⟩⟩
 case round =>
  clear H'
  try clear c1
  try clear p2
  obtain ⟨x3_1, x4_1, rfl, rfl, HA, HK1, BK296, HB⟩ := hrel
  cases gk with
  | zero => exact absurd HA.out (by simp [lanyardlaw20_light.l0])
  | succ k1 =>
   have H := HA.out
   clear HA
   simp only [lanyardlaw20_light.l0] at H
   by_cases c3 : x4_1 < (l0_0.length : Int)
   ·rw [if_pos c3] at H
    have c3b0 : decide (x4_1 < (l0_0.length : Int)) = true := decide_eq_true c3
    clear c3
    by_cases c4 : x4_1 < 20
    ·rw [if_pos c4] at H
     have c4b0 : decide (x4_1 < 20) = true := decide_eq_true c4
     clear c4
     by_cases c5 : 0 ≤ x4_1
     ·rw [if_pos c5] at H
      have c5b0 : decide (0 ≤ x4_1) = true := decide_eq_true c5
      clear c5
      obtain ⟨ji6, hji6⟩ : ∃ j_ : Int, (mn ((rdOf ByteArray.empty l0_0 x4_1).size : Int) 5000) = j_ := ⟨_, rfl⟩
      replace H : (lanyardlaw20_light.l0 k1 (wrap64 (x3_1 + (ji6))) (wrap64 (x4_1 + 1)) l0_0 l0_1 a0_2) = some r := by first | (rw [hji6] at H; exact H) | (simp only [hji6] at H ⊢; exact H)
      have hji6_ : (if 5000 < ((rdOf ByteArray.empty l0_0 x4_1).size : Int) then 5000 else ((rdOf ByteArray.empty l0_0 x4_1).size : Int)) = ji6 := hji6
      have H' := Aside0.mk H
      clear H
      have hcz7_0 : wr.cell? ⟨gb296, 0, none⟩ = some (.slice A0_0 l0_0.length c0_0) := (blk_cell BK296.out 0).trans rfl
      have hcz7_1 : wr.cell? ⟨gb296, 1, none⟩ = some (.slice A0_1 l0_1.length c0_1) := (blk_cell BK296.out 1).trans rfl
      have hcz7_2 : wr.cell? ⟨gb296, 2, none⟩ = some (.int .u32 a0_2) := (blk_cell BK296.out 2).trans rfl
      have hfz7_0 := blk_frozen BK296.out 0
      have hfz7_1 := blk_frozen BK296.out 1
      have hfz7_2 := blk_frozen BK296.out 2
      have p297 : 0 ≤ (x4_1 : Int) := of_decide_eq_true (by first | (with_reducible assumption) | assumption)
      have q297 : x4_1 < (l0_0.length : Int) := of_decide_eq_true (by first | (with_reducible assumption) | assumption)
      obtain ⟨ad297, e297, hx297_0⟩ := Kd.at_string HR0_0.out x4_1 p297 q297
      cases e297
      replace hx297_0 := (HB.out.cell (World.block_lt_of_cell? w _ hx297_0)).trans hx297_0
      replace p297 := eq_true p297
      replace q297 := eq_true q297
      go_wp2
      go_roundg k1
      case measure => have := HK1.out; omega
      case rel => exact ⟨(wrap64 (x3_1 + (ji6))), (wrap64 (x4_1 + 1)), (by first | rfl | (simp; done) | (simp only [← hji6] <;> (first | rfl | simp)) | (simp [*]; done)), (by first | rfl | (simp; done) | (simp [*]; done)), H', ⟨by have := HK1.out; omega⟩, ⟨by (with_reducible repeat (first | refine blk_drewN ?_ _ | refine blk_drew ?_ | refine blk_alloc ?_ _)); exact BK296.out⟩, ⟨by repeat (first | (with_reducible first | exact HB.out | apply below_alloc | apply pw_below_drewN | apply below_drew1 | refine below_set ?_ GE296.out) | exact HB.out)⟩⟩
     ·rw [if_neg c5] at H
      exact absurd H (by simp)
    ·rw [if_neg c4] at H
     have c4b0 : decide (x4_1 < 20) = false := decide_eq_false c4
     clear c4
     replace H := Option.bind_eq_some_iff.mp H
     obtain ⟨t298, A80, H⟩ := H
     replace H : (if t298 = true then (if (l0_0.length : Int) < 20 then (some (decide (x3_1 < 5000))) else (some false)) else (some false)) = some r := H
     have A8 := Aside0.mk A80
     clear A80
     by_cases c9 : t298 = true
     ·subst c9
      have H1 : (if (l0_0.length : Int) < 20 then (some (decide (x3_1 < 5000))) else (some false)) = some r := by rw [if_pos rfl] at H; exact H
      clear H
      have H := H1
      clear H1
      by_cases c10 : (l0_0.length : Int) < 20
      ·rw [if_pos c10] at H
       have c10b0 : decide ((l0_0.length : Int) < 20) = true := decide_eq_true c10
       have c10b1 : decide (l0_0.length < 20) = true := decide_eq_true (by omega)
       clear c10
       obtain rfl := Option.some.inj H
       have hcz11_0 : wr.cell? ⟨gb296, 0, none⟩ = some (.slice A0_0 l0_0.length c0_0) := (blk_cell BK296.out 0).trans rfl
       have hcz11_1 : wr.cell? ⟨gb296, 1, none⟩ = some (.slice A0_1 l0_1.length c0_1) := (blk_cell BK296.out 1).trans rfl
       have hcz11_2 : wr.cell? ⟨gb296, 2, none⟩ = some (.int .u32 a0_2) := (blk_cell BK296.out 2).trans rfl
       have hfz11_0 := blk_frozen BK296.out 0
       have hfz11_1 := blk_frozen BK296.out 1
       have hfz11_2 := blk_frozen BK296.out 2
       go_wp2_with (first | ((with_reducible refine gate_callee (f := 28) rfl ?_); refine goesL_ (some 28) rfl rfl Tryz.func28 (by kernel_rfl) rfl #[.agg #[.slice A0_1 l0_1.length c0_1, .int .u32 a0_2]] rfl (by (try simp only [List.map_toArray, List.map_cons, List.map_nil]); first | done | rfl | (simp only [List.length_drop, List.length_take]; rfl)) ?_; (with_reducible refine (lanyardref09_LightKey.calls _ _ l0_1 a0_2 true _ ?side1 ?side2 A8.out).mono ?_); (case side1 => repeat (first | exact (Kd.C_below HR0_1.out HB.out) | (with_reducible refine Kd.C_alloc ?_ _) | (with_reducible refine Kd.C_drewN ?_ _) | (with_reducible refine Kd.C_drew ?_))); (case side2 => exact HC0_1.out); rintro e w12 ⟨rfl, hb⟩; refine ⟨_, rfl, ?_⟩; have n0_ := Aside0.mk (blk_below (g := gb296) (o := .cells #[.slice A0_0 l0_0.length c0_0, .slice A0_1 l0_1.length c0_1, .int .u32 a0_2] 34 (0, 0)) (by (with_reducible repeat (first | refine blk_drewN ?_ _ | refine blk_drew ?_ | refine blk_alloc ?_ _)); exact BK296.out) hb); have n1_ := Aside0.mk (below_step (by repeat (first | (with_reducible first | exact HB.out | apply below_alloc | apply pw_below_drewN | apply below_drew1 | refine below_set ?_ GE296.out) | exact HB.out)) hb); clear BK296; clear HB; have BK296 := n0_; have HB := n1_; clear n0_ n1_; (try clear hb); (try clear hb2); (try clear hk); (try clear hi); have hcz13_0 : w12.cell? ⟨gb296, 0, none⟩ = some (.slice A0_0 l0_0.length c0_0) := (blk_cell BK296.out 0).trans rfl; have hcz13_1 : w12.cell? ⟨gb296, 1, none⟩ = some (.slice A0_1 l0_1.length c0_1) := (blk_cell BK296.out 1).trans rfl; have hcz13_2 : w12.cell? ⟨gb296, 2, none⟩ = some (.int .u32 a0_2) := (blk_cell BK296.out 2).trans rfl; have hfz13_0 := blk_frozen BK296.out 0; have hfz13_1 := blk_frozen BK296.out 1; have hfz13_2 := blk_frozen BK296.out 2))
       go_ret
       exact ⟨by first | rfl | (simp [errW_none, errW_some] <;> rfl) | (simp [*, errW_none, errW_some] <;> rfl), by repeat (first | (with_reducible first | exact HB.out | apply below_alloc | apply pw_below_drewN | apply below_drew1 | refine below_set ?_ GE296.out) | exact HB.out)⟩
      ·rw [if_neg c10] at H
       have c10b0 : decide ((l0_0.length : Int) < 20) = false := decide_eq_false c10
       have c10b1 : decide (l0_0.length < 20) = false := decide_eq_false (by omega)
       clear c10
       obtain rfl := Option.some.inj H
       have hcz14_0 : wr.cell? ⟨gb296, 0, none⟩ = some (.slice A0_0 l0_0.length c0_0) := (blk_cell BK296.out 0).trans rfl
       have hcz14_1 : wr.cell? ⟨gb296, 1, none⟩ = some (.slice A0_1 l0_1.length c0_1) := (blk_cell BK296.out 1).trans rfl
       have hcz14_2 : wr.cell? ⟨gb296, 2, none⟩ = some (.int .u32 a0_2) := (blk_cell BK296.out 2).trans rfl
       have hfz14_0 := blk_frozen BK296.out 0
       have hfz14_1 := blk_frozen BK296.out 1
       have hfz14_2 := blk_frozen BK296.out 2
       go_wp2_with (first | ((with_reducible refine gate_callee (f := 28) rfl ?_); refine goesL_ (some 28) rfl rfl Tryz.func28 (by kernel_rfl) rfl #[.agg #[.slice A0_1 l0_1.length c0_1, .int .u32 a0_2]] rfl (by (try simp only [List.map_toArray, List.map_cons, List.map_nil]); first | done | rfl | (simp only [List.length_drop, List.length_take]; rfl)) ?_; (with_reducible refine (lanyardref09_LightKey.calls _ _ l0_1 a0_2 true _ ?side1 ?side2 A8.out).mono ?_); (case side1 => repeat (first | exact (Kd.C_below HR0_1.out HB.out) | (with_reducible refine Kd.C_alloc ?_ _) | (with_reducible refine Kd.C_drewN ?_ _) | (with_reducible refine Kd.C_drew ?_))); (case side2 => exact HC0_1.out); rintro e w15 ⟨rfl, hb⟩; refine ⟨_, rfl, ?_⟩; have n0_ := Aside0.mk (blk_below (g := gb296) (o := .cells #[.slice A0_0 l0_0.length c0_0, .slice A0_1 l0_1.length c0_1, .int .u32 a0_2] 34 (0, 0)) (by (with_reducible repeat (first | refine blk_drewN ?_ _ | refine blk_drew ?_ | refine blk_alloc ?_ _)); exact BK296.out) hb); have n1_ := Aside0.mk (below_step (by repeat (first | (with_reducible first | exact HB.out | apply below_alloc | apply pw_below_drewN | apply below_drew1 | refine below_set ?_ GE296.out) | exact HB.out)) hb); clear BK296; clear HB; have BK296 := n0_; have HB := n1_; clear n0_ n1_; (try clear hb); (try clear hb2); (try clear hk); (try clear hi); have hcz16_0 : w15.cell? ⟨gb296, 0, none⟩ = some (.slice A0_0 l0_0.length c0_0) := (blk_cell BK296.out 0).trans rfl; have hcz16_1 : w15.cell? ⟨gb296, 1, none⟩ = some (.slice A0_1 l0_1.length c0_1) := (blk_cell BK296.out 1).trans rfl; have hcz16_2 : w15.cell? ⟨gb296, 2, none⟩ = some (.int .u32 a0_2) := (blk_cell BK296.out 2).trans rfl; have hfz16_0 := blk_frozen BK296.out 0; have hfz16_1 := blk_frozen BK296.out 1; have hfz16_2 := blk_frozen BK296.out 2))
       go_ret
       exact ⟨by first | rfl | (simp [errW_none, errW_some] <;> rfl) | (simp [*, errW_none, errW_some] <;> rfl), by repeat (first | (with_reducible first | exact HB.out | apply below_alloc | apply pw_below_drewN | apply below_drew1 | refine below_set ?_ GE296.out) | exact HB.out)⟩
     ·replace c9 := Bool.eq_false_iff.mpr c9
      subst c9
      have H1 : (some false) = some r := by rw [if_neg (show ¬ (false = true) by decide)] at H; exact H
      clear H
      have H := H1
      clear H1
      obtain rfl := Option.some.inj H
      have hcz17_0 : wr.cell? ⟨gb296, 0, none⟩ = some (.slice A0_0 l0_0.length c0_0) := (blk_cell BK296.out 0).trans rfl
      have hcz17_1 : wr.cell? ⟨gb296, 1, none⟩ = some (.slice A0_1 l0_1.length c0_1) := (blk_cell BK296.out 1).trans rfl
      have hcz17_2 : wr.cell? ⟨gb296, 2, none⟩ = some (.int .u32 a0_2) := (blk_cell BK296.out 2).trans rfl
      have hfz17_0 := blk_frozen BK296.out 0
      have hfz17_1 := blk_frozen BK296.out 1
      have hfz17_2 := blk_frozen BK296.out 2
      go_wp2_with (first | ((with_reducible refine gate_callee (f := 28) rfl ?_); refine goesL_ (some 28) rfl rfl Tryz.func28 (by kernel_rfl) rfl #[.agg #[.slice A0_1 l0_1.length c0_1, .int .u32 a0_2]] rfl (by (try simp only [List.map_toArray, List.map_cons, List.map_nil]); first | done | rfl | (simp only [List.length_drop, List.length_take]; rfl)) ?_; (with_reducible refine (lanyardref09_LightKey.calls _ _ l0_1 a0_2 false _ ?side1 ?side2 A8.out).mono ?_); (case side1 => repeat (first | exact (Kd.C_below HR0_1.out HB.out) | (with_reducible refine Kd.C_alloc ?_ _) | (with_reducible refine Kd.C_drewN ?_ _) | (with_reducible refine Kd.C_drew ?_))); (case side2 => exact HC0_1.out); rintro e w18 ⟨rfl, hb⟩; refine ⟨_, rfl, ?_⟩; have n0_ := Aside0.mk (blk_below (g := gb296) (o := .cells #[.slice A0_0 l0_0.length c0_0, .slice A0_1 l0_1.length c0_1, .int .u32 a0_2] 34 (0, 0)) (by (with_reducible repeat (first | refine blk_drewN ?_ _ | refine blk_drew ?_ | refine blk_alloc ?_ _)); exact BK296.out) hb); have n1_ := Aside0.mk (below_step (by repeat (first | (with_reducible first | exact HB.out | apply below_alloc | apply pw_below_drewN | apply below_drew1 | refine below_set ?_ GE296.out) | exact HB.out)) hb); clear BK296; clear HB; have BK296 := n0_; have HB := n1_; clear n0_ n1_; (try clear hb); (try clear hb2); (try clear hk); (try clear hi)))
      go_ret
      exact ⟨by first | rfl | (simp [errW_none, errW_some] <;> rfl) | (simp [*, errW_none, errW_some] <;> rfl), by repeat (first | (with_reducible first | exact HB.out | apply below_alloc | apply pw_below_drewN | apply below_drew1 | refine below_set ?_ GE296.out) | exact HB.out)⟩
   ·rw [if_neg c3] at H
    have c3b0 : decide (x4_1 < (l0_0.length : Int)) = false := decide_eq_false c3
    clear c3
    replace H := Option.bind_eq_some_iff.mp H
    obtain ⟨t299, A190, H⟩ := H
    replace H : (if t299 = true then (if (l0_0.length : Int) < 20 then (some (decide (x3_1 < 5000))) else (some false)) else (some false)) = some r := H
    have A19 := Aside0.mk A190
    clear A190
    by_cases c20 : t299 = true
    ·subst c20
     have H1 : (if (l0_0.length : Int) < 20 then (some (decide (x3_1 < 5000))) else (some false)) = some r := by rw [if_pos rfl] at H; exact H
     clear H
     have H := H1
     clear H1
     by_cases c21 : (l0_0.length : Int) < 20
     ·rw [if_pos c21] at H
      have c21b0 : decide ((l0_0.length : Int) < 20) = true := decide_eq_true c21
      have c21b1 : decide (l0_0.length < 20) = true := decide_eq_true (by omega)
      clear c21
      obtain rfl := Option.some.inj H
      have hcz22_0 : wr.cell? ⟨gb296, 0, none⟩ = some (.slice A0_0 l0_0.length c0_0) := (blk_cell BK296.out 0).trans rfl
      have hcz22_1 : wr.cell? ⟨gb296, 1, none⟩ = some (.slice A0_1 l0_1.length c0_1) := (blk_cell BK296.out 1).trans rfl
      have hcz22_2 : wr.cell? ⟨gb296, 2, none⟩ = some (.int .u32 a0_2) := (blk_cell BK296.out 2).trans rfl
      have hfz22_0 := blk_frozen BK296.out 0
      have hfz22_1 := blk_frozen BK296.out 1
      have hfz22_2 := blk_frozen BK296.out 2
      go_wp2_with (first | ((with_reducible refine gate_callee (f := 28) rfl ?_); refine goesL_ (some 28) rfl rfl Tryz.func28 (by kernel_rfl) rfl #[.agg #[.slice A0_1 l0_1.length c0_1, .int .u32 a0_2]] rfl (by (try simp only [List.map_toArray, List.map_cons, List.map_nil]); first | done | rfl | (simp only [List.length_drop, List.length_take]; rfl)) ?_; (with_reducible refine (lanyardref09_LightKey.calls _ _ l0_1 a0_2 true _ ?side1 ?side2 A19.out).mono ?_); (case side1 => repeat (first | exact (Kd.C_below HR0_1.out HB.out) | (with_reducible refine Kd.C_alloc ?_ _) | (with_reducible refine Kd.C_drewN ?_ _) | (with_reducible refine Kd.C_drew ?_))); (case side2 => exact HC0_1.out); rintro e w23 ⟨rfl, hb⟩; refine ⟨_, rfl, ?_⟩; have n0_ := Aside0.mk (blk_below (g := gb296) (o := .cells #[.slice A0_0 l0_0.length c0_0, .slice A0_1 l0_1.length c0_1, .int .u32 a0_2] 34 (0, 0)) (by (with_reducible repeat (first | refine blk_drewN ?_ _ | refine blk_drew ?_ | refine blk_alloc ?_ _)); exact BK296.out) hb); have n1_ := Aside0.mk (below_step (by repeat (first | (with_reducible first | exact HB.out | apply below_alloc | apply pw_below_drewN | apply below_drew1 | refine below_set ?_ GE296.out) | exact HB.out)) hb); clear BK296; clear HB; have BK296 := n0_; have HB := n1_; clear n0_ n1_; (try clear hb); (try clear hb2); (try clear hk); (try clear hi); have hcz24_0 : w23.cell? ⟨gb296, 0, none⟩ = some (.slice A0_0 l0_0.length c0_0) := (blk_cell BK296.out 0).trans rfl; have hcz24_1 : w23.cell? ⟨gb296, 1, none⟩ = some (.slice A0_1 l0_1.length c0_1) := (blk_cell BK296.out 1).trans rfl; have hcz24_2 : w23.cell? ⟨gb296, 2, none⟩ = some (.int .u32 a0_2) := (blk_cell BK296.out 2).trans rfl; have hfz24_0 := blk_frozen BK296.out 0; have hfz24_1 := blk_frozen BK296.out 1; have hfz24_2 := blk_frozen BK296.out 2))
      go_ret
      exact ⟨by first | rfl | (simp [errW_none, errW_some] <;> rfl) | (simp [*, errW_none, errW_some] <;> rfl), by repeat (first | (with_reducible first | exact HB.out | apply below_alloc | apply pw_below_drewN | apply below_drew1 | refine below_set ?_ GE296.out) | exact HB.out)⟩
     ·rw [if_neg c21] at H
      have c21b0 : decide ((l0_0.length : Int) < 20) = false := decide_eq_false c21
      have c21b1 : decide (l0_0.length < 20) = false := decide_eq_false (by omega)
      clear c21
      obtain rfl := Option.some.inj H
      have hcz25_0 : wr.cell? ⟨gb296, 0, none⟩ = some (.slice A0_0 l0_0.length c0_0) := (blk_cell BK296.out 0).trans rfl
      have hcz25_1 : wr.cell? ⟨gb296, 1, none⟩ = some (.slice A0_1 l0_1.length c0_1) := (blk_cell BK296.out 1).trans rfl
      have hcz25_2 : wr.cell? ⟨gb296, 2, none⟩ = some (.int .u32 a0_2) := (blk_cell BK296.out 2).trans rfl
      have hfz25_0 := blk_frozen BK296.out 0
      have hfz25_1 := blk_frozen BK296.out 1
      have hfz25_2 := blk_frozen BK296.out 2
      go_wp2_with (first | ((with_reducible refine gate_callee (f := 28) rfl ?_); refine goesL_ (some 28) rfl rfl Tryz.func28 (by kernel_rfl) rfl #[.agg #[.slice A0_1 l0_1.length c0_1, .int .u32 a0_2]] rfl (by (try simp only [List.map_toArray, List.map_cons, List.map_nil]); first | done | rfl | (simp only [List.length_drop, List.length_take]; rfl)) ?_; (with_reducible refine (lanyardref09_LightKey.calls _ _ l0_1 a0_2 true _ ?side1 ?side2 A19.out).mono ?_); (case side1 => repeat (first | exact (Kd.C_below HR0_1.out HB.out) | (with_reducible refine Kd.C_alloc ?_ _) | (with_reducible refine Kd.C_drewN ?_ _) | (with_reducible refine Kd.C_drew ?_))); (case side2 => exact HC0_1.out); rintro e w26 ⟨rfl, hb⟩; refine ⟨_, rfl, ?_⟩; have n0_ := Aside0.mk (blk_below (g := gb296) (o := .cells #[.slice A0_0 l0_0.length c0_0, .slice A0_1 l0_1.length c0_1, .int .u32 a0_2] 34 (0, 0)) (by (with_reducible repeat (first | refine blk_drewN ?_ _ | refine blk_drew ?_ | refine blk_alloc ?_ _)); exact BK296.out) hb); have n1_ := Aside0.mk (below_step (by repeat (first | (with_reducible first | exact HB.out | apply below_alloc | apply pw_below_drewN | apply below_drew1 | refine below_set ?_ GE296.out) | exact HB.out)) hb); clear BK296; clear HB; have BK296 := n0_; have HB := n1_; clear n0_ n1_; (try clear hb); (try clear hb2); (try clear hk); (try clear hi); have hcz27_0 : w26.cell? ⟨gb296, 0, none⟩ = some (.slice A0_0 l0_0.length c0_0) := (blk_cell BK296.out 0).trans rfl; have hcz27_1 : w26.cell? ⟨gb296, 1, none⟩ = some (.slice A0_1 l0_1.length c0_1) := (blk_cell BK296.out 1).trans rfl; have hcz27_2 : w26.cell? ⟨gb296, 2, none⟩ = some (.int .u32 a0_2) := (blk_cell BK296.out 2).trans rfl; have hfz27_0 := blk_frozen BK296.out 0; have hfz27_1 := blk_frozen BK296.out 1; have hfz27_2 := blk_frozen BK296.out 2))
      go_ret
      exact ⟨by first | rfl | (simp [errW_none, errW_some] <;> rfl) | (simp [*, errW_none, errW_some] <;> rfl), by repeat (first | (with_reducible first | exact HB.out | apply below_alloc | apply pw_below_drewN | apply below_drew1 | refine below_set ?_ GE296.out) | exact HB.out)⟩
    ·replace c20 := Bool.eq_false_iff.mpr c20
     subst c20
     have H1 : (some false) = some r := by rw [if_neg (show ¬ (false = true) by decide)] at H; exact H
     clear H
     have H := H1
     clear H1
     obtain rfl := Option.some.inj H
     have hcz28_0 : wr.cell? ⟨gb296, 0, none⟩ = some (.slice A0_0 l0_0.length c0_0) := (blk_cell BK296.out 0).trans rfl
     have hcz28_1 : wr.cell? ⟨gb296, 1, none⟩ = some (.slice A0_1 l0_1.length c0_1) := (blk_cell BK296.out 1).trans rfl
     have hcz28_2 : wr.cell? ⟨gb296, 2, none⟩ = some (.int .u32 a0_2) := (blk_cell BK296.out 2).trans rfl
     have hfz28_0 := blk_frozen BK296.out 0
     have hfz28_1 := blk_frozen BK296.out 1
     have hfz28_2 := blk_frozen BK296.out 2
     go_wp2_with (first | ((with_reducible refine gate_callee (f := 28) rfl ?_); refine goesL_ (some 28) rfl rfl Tryz.func28 (by kernel_rfl) rfl #[.agg #[.slice A0_1 l0_1.length c0_1, .int .u32 a0_2]] rfl (by (try simp only [List.map_toArray, List.map_cons, List.map_nil]); first | done | rfl | (simp only [List.length_drop, List.length_take]; rfl)) ?_; (with_reducible refine (lanyardref09_LightKey.calls _ _ l0_1 a0_2 false _ ?side1 ?side2 A19.out).mono ?_); (case side1 => repeat (first | exact (Kd.C_below HR0_1.out HB.out) | (with_reducible refine Kd.C_alloc ?_ _) | (with_reducible refine Kd.C_drewN ?_ _) | (with_reducible refine Kd.C_drew ?_))); (case side2 => exact HC0_1.out); rintro e w29 ⟨rfl, hb⟩; refine ⟨_, rfl, ?_⟩; have n0_ := Aside0.mk (blk_below (g := gb296) (o := .cells #[.slice A0_0 l0_0.length c0_0, .slice A0_1 l0_1.length c0_1, .int .u32 a0_2] 34 (0, 0)) (by (with_reducible repeat (first | refine blk_drewN ?_ _ | refine blk_drew ?_ | refine blk_alloc ?_ _)); exact BK296.out) hb); have n1_ := Aside0.mk (below_step (by repeat (first | (with_reducible first | exact HB.out | apply below_alloc | apply pw_below_drewN | apply below_drew1 | refine below_set ?_ GE296.out) | exact HB.out)) hb); clear BK296; clear HB; have BK296 := n0_; have HB := n1_; clear n0_ n1_; (try clear hb); (try clear hb2); (try clear hk); (try clear hi)))
     go_ret
     exact ⟨by first | rfl | (simp [errW_none, errW_some] <;> rfl) | (simp [*, errW_none, errW_some] <;> rfl), by repeat (first | (with_reducible first | exact HB.out | apply below_alloc | apply pw_below_drewN | apply below_drew1 | refine below_set ?_ GE296.out) | exact HB.out)⟩

end Go.Proofs.YtcbmjmphicfgpaaGreatDoor.PT
end

section
namespace Go.Proofs.YtcbmjmphicfgpaaGreatDoor.PT
open Go.RowKit Go.Proofs.YtcbmjmphicfgpaaGreatDoorW.PrintWords Go.Proofs.YtcbmjmphicfgpaaGreatDoorW.PrintLast Go.Proofs.YtcbmjmphicfgpaaGreatDoorW.PrintMore
attribute [local go_sem] max2_int min2_int max_two min_two max_three min_three max_four min_four   -- for this text's walks alone
set_option linter.unusedVariables false
set_option linter.unusedSimpArgs false

def lanyardref14_Same.f (l0_0 : List Int) (a0_1 : Int) (l1_0 : List Int) (a1_1 : Int) : Option (Bool) := if (strOfNums l0_0).toList = (strOfNums l1_0).toList then (some (a0_1 == a1_1)) else (some false)
set_option maxHeartbeats 8000000 in
set_option maxRecDepth 100000 in
theorem lanyardref14_Same.calls (A0_0 : Option Addr) (c0_0 : Nat) (l0_0 : List Int) (a0_1 : Int) (A1_0 : Option Addr) (c1_0 : Nat) (l1_0 : List Int) (a1_1 : Int) (r : Bool) (w : World) (hr0_0 : Kd.C (Kd.int .u8) w A0_0 l0_0.length l0_0) (hc0_0 : l0_0.length ≤ c0_0) (hr1_0 : Kd.C (Kd.int .u8) w A1_0 l1_0.length l1_0) (hc1_0 : l1_0.length ≤ c1_0) (h : lanyardref14_Same.f l0_0 a0_1 l1_0 a1_1 = some r) :
 Calls Tryz.prog 49 #[.agg #[.slice A0_0 l0_0.length c0_0, .int .u32 a0_1], .agg #[.slice A1_0 l1_0.length c1_0, .int .u32 a1_1]] w fun e w' => e = .returned (.bool r) ∧ Below w.heap.size w w' := by
 have hu32 := Tryz.underlying32
 have HR0_0 := Aside0.mk hr0_0
 have HC0_0 := Aside0.mk hc0_0
 clear hr0_0 hc0_0
 have HR1_0 := Aside0.mk hr1_0
 have HC1_0 := Aside0.mk hc1_0
 clear hr1_0 hc1_0
 have HB := Aside0.mk (Below.refl w.heap.size w)
 have H : (if (strOfNums l0_0).toList = (strOfNums l1_0).toList then (some (a0_1 == a1_1)) else (some false)) = some r := h
 clear h
 by_cases c3 : (strOfNums l0_0).toList = (strOfNums l1_0).toList
 ·rw [if_pos c3] at H
  have c3b0 : ((strOfNums l0_0).toList == (strOfNums l1_0).toList) = true := beq_iff_eq.mpr c3
  have c3b1 : ((strOfNums l0_0).toList != (strOfNums l1_0).toList) = false := bne_eq_false_iff_eq.mpr c3
  clear c3
  obtain rfl := Option.some.inj H
  go_enter Tryz.func49, Tryz.ntmps49
  go_wp2_with (first | ((with_reducible refine gate_dst (N := 2) rfl ?_); refine box_event ?hg (N := 2) ?hd (cs := #[.slice A0_0 l0_0.length c0_0, .int .u32 a0_1]) (t := 32) ?hr ?_; (case hd => rfl); (case hg => rfl); (case hr => first | (go_simp; done) | (go_simp; rfl)); intro gb101 hg w4 hbox hb; have n0_ := Aside0.mk (below_step (by repeat (first | (with_reducible first | exact HB.out | apply below_alloc | apply pw_below_drewN | apply below_drew1) | exact HB.out)) hb); have n1_ := Aside0.mk (hbox); have n2_ := Aside0.mk ((by rw [hg]; exact (below_size (by repeat (first | (with_reducible first | exact HB.out | apply below_alloc | apply pw_below_drewN | apply below_drew1) | exact HB.out))) : w.heap.size ≤ gb101)); have n3_ := Aside0.mk ((by rw [hg]; exact (below_size (by repeat (first | (with_reducible first | exact HB.out | apply below_alloc | apply pw_below_drewN | apply below_drew1) | exact HB.out))) : w.heap.size ≤ gb101)); clear HB; have HB := n0_; have BK101 := n1_; have GW101 := n2_; have GE101 := n3_; clear n0_ n1_ n2_ n3_; clear hb hbox hg) | ((with_reducible refine gate_dst (N := 3) rfl ?_); refine box_event ?hg (N := 3) ?hd (cs := #[.slice A1_0 l1_0.length c1_0, .int .u32 a1_1]) (t := 32) ?hr ?_; (case hd => rfl); (case hg => rfl); (case hr => first | (go_simp; done) | (go_simp; rfl)); intro gb102 hg w5 hbox hb; have n0_ := Aside0.mk (blk_below (g := gb101) (o := .cells #[.slice A0_0 l0_0.length c0_0, .int .u32 a0_1] 32 (0, 0)) (by (with_reducible repeat (first | refine blk_drewN ?_ _ | refine blk_drew ?_ | refine blk_alloc ?_ _)); exact BK101.out) hb); have n1_ := Aside0.mk (below_step (by repeat (first | (with_reducible first | exact HB.out | apply below_alloc | apply pw_below_drewN | apply below_drew1 | refine below_set ?_ GE101.out) | exact HB.out)) hb); have n2_ := Aside0.mk (hbox); have n3_ := Aside0.mk ((by rw [hg]; exact (below_size (by repeat (first | (with_reducible first | exact HB.out | apply below_alloc | apply pw_below_drewN | apply below_drew1 | refine below_set ?_ GE101.out) | exact HB.out))) : w.heap.size ≤ gb102)); have n4_ := Aside0.mk ((by rw [hg]; exact (below_size (by repeat (first | (with_reducible first | exact HB.out | apply below_alloc | apply pw_below_drewN | apply below_drew1 | refine below_set ?_ GE101.out) | exact HB.out))) : w.heap.size ≤ gb102)); have n5_ := Aside0.mk ((by rw [hg]; exact Nat.ne_of_lt (blk_lt (g := gb101) (o := .cells #[.slice A0_0 l0_0.length c0_0, .int .u32 a0_1] 32 (0, 0)) (by (with_reducible repeat (first | refine blk_drewN ?_ _ | refine blk_drew ?_ | refine blk_alloc ?_ _)); exact BK101.out)) : gb101 ≠ gb102)); have n6_ := Aside0.mk ((by rw [hg]; exact Nat.ne_of_gt (blk_lt (g := gb101) (o := .cells #[.slice A0_0 l0_0.length c0_0, .int .u32 a0_1] 32 (0, 0)) (by (with_reducible repeat (first | refine blk_drewN ?_ _ | refine blk_drew ?_ | refine blk_alloc ?_ _)); exact BK101.out)) : gb102 ≠ gb101)); clear BK101; clear HB; have BK101 := n0_; have HB := n1_; have BK102 := n2_; have GW102 := n3_; have GE102 := n4_; have NB101_102 := n5_; have NB102_101 := n6_; clear n0_ n1_ n2_ n3_ n4_ n5_ n6_; clear hb hbox hg; have hnb6 := NB101_102.out; have hnc6 := NB102_101.out; have hcz7_0 : w5.cell? ⟨gb101, 0, none⟩ = some (.slice A0_0 l0_0.length c0_0) := (blk_cell BK101.out 0).trans rfl; have hcz7_1 : w5.cell? ⟨gb101, 1, none⟩ = some (.int .u32 a0_1) := (blk_cell BK101.out 1).trans rfl; have hfz7_0 := blk_frozen BK101.out 0; have hfz7_1 := blk_frozen BK101.out 1; have hcv8 := Kd.C_string (P := Tryz.prog) (A := A0_0) (c := c0_0) Tryz.underlying29 Tryz.underlying5 Tryz.underlying9 (Kd.C_below HR0_0.out HB.out); have hcz9_0 : w5.cell? ⟨gb102, 0, none⟩ = some (.slice A1_0 l1_0.length c1_0) := (blk_cell BK102.out 0).trans rfl; have hcz9_1 : w5.cell? ⟨gb102, 1, none⟩ = some (.int .u32 a1_1) := (blk_cell BK102.out 1).trans rfl; have hfz9_0 := blk_frozen BK102.out 0; have hfz9_1 := blk_frozen BK102.out 1; have hcv10 := Kd.C_string (P := Tryz.prog) (A := A1_0) (c := c1_0) Tryz.underlying29 Tryz.underlying5 Tryz.underlying9 (Kd.C_below HR1_0.out HB.out)))
  go_ret
  exact ⟨by first | rfl | (simp [errW_none, errW_some] <;> rfl) | (simp [*, errW_none, errW_some] <;> rfl), by repeat (first | (with_reducible first | exact HB.out | apply below_alloc | apply pw_below_drewN | apply below_drew1 | refine below_set ?_ GE101.out | refine below_set ?_ GE102.out) | exact HB.out)⟩
 ·rw [if_neg c3] at H
  have c3b0 : ((strOfNums l0_0).toList == (strOfNums l1_0).toList) = false := beq_eq_false_iff_ne.mpr c3
  have c3b1 : ((strOfNums l0_0).toList != (strOfNums l1_0).toList) = true := bne_iff_ne.mpr c3
  obtain rfl := Option.some.inj H
  go_enter Tryz.func49, Tryz.ntmps49
  go_wp2_with (first | ((with_reducible refine gate_dst (N := 2) rfl ?_); refine box_event ?hg (N := 2) ?hd (cs := #[.slice A0_0 l0_0.length c0_0, .int .u32 a0_1]) (t := 32) ?hr ?_; (case hd => rfl); (case hg => rfl); (case hr => first | (go_simp; done) | (go_simp; rfl)); intro gb101 hg w11 hbox hb; have n0_ := Aside0.mk (below_step (by repeat (first | (with_reducible first | exact HB.out | apply below_alloc | apply pw_below_drewN | apply below_drew1) | exact HB.out)) hb); have n1_ := Aside0.mk (hbox); have n2_ := Aside0.mk ((by rw [hg]; exact (below_size (by repeat (first | (with_reducible first | exact HB.out | apply below_alloc | apply pw_below_drewN | apply below_drew1) | exact HB.out))) : w.heap.size ≤ gb101)); have n3_ := Aside0.mk ((by rw [hg]; exact (below_size (by repeat (first | (with_reducible first | exact HB.out | apply below_alloc | apply pw_below_drewN | apply below_drew1) | exact HB.out))) : w.heap.size ≤ gb101)); clear HB; have HB := n0_; have BK101 := n1_; have GW101 := n2_; have GE101 := n3_; clear n0_ n1_ n2_ n3_; clear hb hbox hg) | ((with_reducible refine gate_dst (N := 3) rfl ?_); refine box_event ?hg (N := 3) ?hd (cs := #[.slice A1_0 l1_0.length c1_0, .int .u32 a1_1]) (t := 32) ?hr ?_; (case hd => rfl); (case hg => rfl); (case hr => first | (go_simp; done) | (go_simp; rfl)); intro gb102 hg w12 hbox hb; have n0_ := Aside0.mk (blk_below (g := gb101) (o := .cells #[.slice A0_0 l0_0.length c0_0, .int .u32 a0_1] 32 (0, 0)) (by (with_reducible repeat (first | refine blk_drewN ?_ _ | refine blk_drew ?_ | refine blk_alloc ?_ _)); exact BK101.out) hb); have n1_ := Aside0.mk (below_step (by repeat (first | (with_reducible first | exact HB.out | apply below_alloc | apply pw_below_drewN | apply below_drew1 | refine below_set ?_ GE101.out) | exact HB.out)) hb); have n2_ := Aside0.mk (hbox); have n3_ := Aside0.mk ((by rw [hg]; exact (below_size (by repeat (first | (with_reducible first | exact HB.out | apply below_alloc | apply pw_below_drewN | apply below_drew1 | refine below_set ?_ GE101.out) | exact HB.out))) : w.heap.size ≤ gb102)); have n4_ := Aside0.mk ((by rw [hg]; exact (below_size (by repeat (first | (with_reducible first | exact HB.out | apply below_alloc | apply pw_below_drewN | apply below_drew1 | refine below_set ?_ GE101.out) | exact HB.out))) : w.heap.size ≤ gb102)); have n5_ := Aside0.mk ((by rw [hg]; exact Nat.ne_of_lt (blk_lt (g := gb101) (o := .cells #[.slice A0_0 l0_0.length c0_0, .int .u32 a0_1] 32 (0, 0)) (by (with_reducible repeat (first | refine blk_drewN ?_ _ | refine blk_drew ?_ | refine blk_alloc ?_ _)); exact BK101.out)) : gb101 ≠ gb102)); have n6_ := Aside0.mk ((by rw [hg]; exact Nat.ne_of_gt (blk_lt (g := gb101) (o := .cells #[.slice A0_0 l0_0.length c0_0, .int .u32 a0_1] 32 (0, 0)) (by (with_reducible repeat (first | refine blk_drewN ?_ _ | refine blk_drew ?_ | refine blk_alloc ?_ _)); exact BK101.out)) : gb102 ≠ gb101)); clear BK101; clear HB; have BK101 := n0_; have HB := n1_; have BK102 := n2_; have GW102 := n3_; have GE102 := n4_; have NB101_102 := n5_; have NB102_101 := n6_; clear n0_ n1_ n2_ n3_ n4_ n5_ n6_; clear hb hbox hg; have hnb13 := NB101_102.out; have hnc13 := NB102_101.out; have hcz14_0 : w12.cell? ⟨gb101, 0, none⟩ = some (.slice A0_0 l0_0.length c0_0) := (blk_cell BK101.out 0).trans rfl; have hcz14_1 : w12.cell? ⟨gb101, 1, none⟩ = some (.int .u32 a0_1) := (blk_cell BK101.out 1).trans rfl; have hfz14_0 := blk_frozen BK101.out 0; have hfz14_1 := blk_frozen BK101.out 1; have hcv15 := Kd.C_string (P := Tryz.prog) (A := A0_0) (c := c0_0) Tryz.underlying29 Tryz.underlying5 Tryz.underlying9 (Kd.C_below HR0_0.out HB.out); have hcz16_0 : w12.cell? ⟨gb102, 0, none⟩ = some (.slice A1_0 l1_0.length c1_0) := (blk_cell BK102.out 0).trans rfl; have hcz16_1 : w12.cell? ⟨gb102, 1, none⟩ = some (.int .u32 a1_1) := (blk_cell BK102.out 1).trans rfl; have hfz16_0 := blk_frozen BK102.out 0; have hfz16_1 := blk_frozen BK102.out 1; have hcv17 := Kd.C_string (P := Tryz.prog) (A := A1_0) (c := c1_0) Tryz.underlying29 Tryz.underlying5 Tryz.underlying9 (Kd.C_below HR1_0.out HB.out)))
  go_ret
  exact ⟨by first | rfl | (simp [errW_none, errW_some] <;> rfl) | (simp [*, errW_none, errW_some] <;> rfl), by repeat (first | (with_reducible first | exact HB.out | apply below_alloc | apply pw_below_drewN | apply below_drew1 | refine below_set ?_ GE101.out | refine below_set ?_ GE102.out) | exact HB.out)⟩

end Go.Proofs.YtcbmjmphicfgpaaGreatDoor.PT
end

section
namespace Go.Proofs.YtcbmjmphicfgpaaGreatDoor.PT
open Go.RowKit Go.Proofs.YtcbmjmphicfgpaaGreatDoorW.PrintWords Go.Proofs.YtcbmjmphicfgpaaGreatDoorW.PrintLast Go.Proofs.YtcbmjmphicfgpaaGreatDoorW.PrintMore
attribute [local go_sem] max2_int min2_int max_two min_two max_three min_three max_four min_four   -- for this text's walks alone
set_option linter.unusedVariables false
set_option linter.unusedSimpArgs false

def lanyardref20_Same.f (k : Nat) (l0_0 : List ByteArray) (l0_1 : List Int) (a0_2 : Int) (l1_0 : List ByteArray) (l1_1 : List Int) (a1_2 : Int) : Option (Bool) := (lanyardref02_Same.f k l0_0 l1_0).bind fun t294 => (if t294 = true then ((lanyardref14_Same.f l0_1 a0_2 l1_1 a1_2).bind fun t295 => (some t295)) else (some false))
set_option maxHeartbeats 8000000 in
set_option maxRecDepth 100000 in
theorem lanyardref20_Same.calls (k : Nat) (A0_0 : Option Addr) (c0_0 : Nat) (l0_0 : List ByteArray) (A0_1 : Option Addr) (c0_1 : Nat) (l0_1 : List Int) (a0_2 : Int) (A1_0 : Option Addr) (c1_0 : Nat) (l1_0 : List ByteArray) (A1_1 : Option Addr) (c1_1 : Nat) (l1_1 : List Int) (a1_2 : Int) (r : Bool) (w : World) (hr0_0 : Kd.C Kd.string w A0_0 l0_0.length l0_0) (hc0_0 : l0_0.length ≤ c0_0) (hr0_1 : Kd.C (Kd.int .u8) w A0_1 l0_1.length l0_1) (hc0_1 : l0_1.length ≤ c0_1) (hr1_0 : Kd.C Kd.string w A1_0 l1_0.length l1_0) (hc1_0 : l1_0.length ≤ c1_0) (hr1_1 : Kd.C (Kd.int .u8) w A1_1 l1_1.length l1_1) (hc1_1 : l1_1.length ≤ c1_1) (h : lanyardref20_Same.f k l0_0 l0_1 a0_2 l1_0 l1_1 a1_2 = some r) :
 Calls Tryz.prog 19 #[.agg #[.slice A0_0 l0_0.length c0_0, .slice A0_1 l0_1.length c0_1, .int .u32 a0_2], .agg #[.slice A1_0 l1_0.length c1_0, .slice A1_1 l1_1.length c1_1, .int .u32 a1_2]] w fun e w' => e = .returned (.bool r) ∧ Below w.heap.size w w' := by
 have hu34 := Tryz.underlying34
 have hu32 := Tryz.underlying32
 have HR0_0 := Aside0.mk hr0_0
 have HC0_0 := Aside0.mk hc0_0
 clear hr0_0 hc0_0
 have HR0_1 := Aside0.mk hr0_1
 have HC0_1 := Aside0.mk hc0_1
 clear hr0_1 hc0_1
 have HR1_0 := Aside0.mk hr1_0
 have HC1_0 := Aside0.mk hc1_0
 clear hr1_0 hc1_0
 have HR1_1 := Aside0.mk hr1_1
 have HC1_1 := Aside0.mk hc1_1
 clear hr1_1 hc1_1
 have HB := Aside0.mk (Below.refl w.heap.size w)
 have H : ((lanyardref02_Same.f k l0_0 l1_0).bind fun t294 => (if t294 = true then ((lanyardref14_Same.f l0_1 a0_2 l1_1 a1_2).bind fun t295 => (some t295)) else (some false))) = some r := h
 clear h
 replace H := Option.bind_eq_some_iff.mp H
 obtain ⟨t294, A30, H⟩ := H
 replace H : (if t294 = true then ((lanyardref14_Same.f l0_1 a0_2 l1_1 a1_2).bind fun t295 => (some t295)) else (some false)) = some r := H
 have A3 := Aside0.mk A30
 clear A30
 by_cases c4 : t294 = true
 ·subst c4
  have H1 : ((lanyardref14_Same.f l0_1 a0_2 l1_1 a1_2).bind fun t295 => (some t295)) = some r := by rw [if_pos rfl] at H; exact H
  clear H
  have H := H1
  clear H1
  replace H := Option.bind_eq_some_iff.mp H
  obtain ⟨t295, A50, H⟩ := H
  replace H : (some t295) = some r := H
  have A5 := Aside0.mk A50
  clear A50
  obtain rfl := Option.some.inj H
  go_enter Tryz.func19, Tryz.ntmps19
  go_wp2_with (first | ((with_reducible refine gate_dst (N := 2) rfl ?_); refine box_event ?hg (N := 2) ?hd (cs := #[.slice A0_0 l0_0.length c0_0, .slice A0_1 l0_1.length c0_1, .int .u32 a0_2]) (t := 34) ?hr ?_; (case hd => rfl); (case hg => rfl); (case hr => first | (go_simp; done) | (go_simp; rfl)); intro gb292 hg w6 hbox hb; have n0_ := Aside0.mk (below_step (by repeat (first | (with_reducible first | exact HB.out | apply below_alloc | apply pw_below_drewN | apply below_drew1) | exact HB.out)) hb); have n1_ := Aside0.mk (hbox); have n2_ := Aside0.mk ((by rw [hg]; exact (below_size (by repeat (first | (with_reducible first | exact HB.out | apply below_alloc | apply pw_below_drewN | apply below_drew1) | exact HB.out))) : w.heap.size ≤ gb292)); have n3_ := Aside0.mk ((by rw [hg]; exact (below_size (by repeat (first | (with_reducible first | exact HB.out | apply below_alloc | apply pw_below_drewN | apply below_drew1) | exact HB.out))) : w.heap.size ≤ gb292)); clear HB; have HB := n0_; have BK292 := n1_; have GW292 := n2_; have GE292 := n3_; clear n0_ n1_ n2_ n3_; clear hb hbox hg) | ((with_reducible refine gate_dst (N := 3) rfl ?_); refine box_event ?hg (N := 3) ?hd (cs := #[.slice A1_0 l1_0.length c1_0, .slice A1_1 l1_1.length c1_1, .int .u32 a1_2]) (t := 34) ?hr ?_; (case hd => rfl); (case hg => rfl); (case hr => first | (go_simp; done) | (go_simp; rfl)); intro gb293 hg w7 hbox hb; have n0_ := Aside0.mk (blk_below (g := gb292) (o := .cells #[.slice A0_0 l0_0.length c0_0, .slice A0_1 l0_1.length c0_1, .int .u32 a0_2] 34 (0, 0)) (by (with_reducible repeat (first | refine blk_drewN ?_ _ | refine blk_drew ?_ | refine blk_alloc ?_ _)); exact BK292.out) hb); have n1_ := Aside0.mk (below_step (by repeat (first | (with_reducible first | exact HB.out | apply below_alloc | apply pw_below_drewN | apply below_drew1 | refine below_set ?_ GE292.out) | exact HB.out)) hb); have n2_ := Aside0.mk (hbox); have n3_ := Aside0.mk ((by rw [hg]; exact (below_size (by repeat (first | (with_reducible first | exact HB.out | apply below_alloc | apply pw_below_drewN | apply below_drew1 | refine below_set ?_ GE292.out) | exact HB.out))) : w.heap.size ≤ gb293)); have n4_ := Aside0.mk ((by rw [hg]; exact (below_size (by repeat (first | (with_reducible first | exact HB.out | apply below_alloc | apply pw_below_drewN | apply below_drew1 | refine below_set ?_ GE292.out) | exact HB.out))) : w.heap.size ≤ gb293)); have n5_ := Aside0.mk ((by rw [hg]; exact Nat.ne_of_lt (blk_lt (g := gb292) (o := .cells #[.slice A0_0 l0_0.length c0_0, .slice A0_1 l0_1.length c0_1, .int .u32 a0_2] 34 (0, 0)) (by (with_reducible repeat (first | refine blk_drewN ?_ _ | refine blk_drew ?_ | refine blk_alloc ?_ _)); exact BK292.out)) : gb292 ≠ gb293)); have n6_ := Aside0.mk ((by rw [hg]; exact Nat.ne_of_gt (blk_lt (g := gb292) (o := .cells #[.slice A0_0 l0_0.length c0_0, .slice A0_1 l0_1.length c0_1, .int .u32 a0_2] 34 (0, 0)) (by (with_reducible repeat (first | refine blk_drewN ?_ _ | refine blk_drew ?_ | refine blk_alloc ?_ _)); exact BK292.out)) : gb293 ≠ gb292)); clear BK292; clear HB; have BK292 := n0_; have HB := n1_; have BK293 := n2_; have GW293 := n3_; have GE293 := n4_; have NB292_293 := n5_; have NB293_292 := n6_; clear n0_ n1_ n2_ n3_ n4_ n5_ n6_; clear hb hbox hg; have hnb8 := NB292_293.out; have hnc8 := NB293_292.out; have hcz9_0 : w7.cell? ⟨gb292, 0, none⟩ = some (.slice A0_0 l0_0.length c0_0) := (blk_cell BK292.out 0).trans rfl; have hcz9_1 : w7.cell? ⟨gb292, 1, none⟩ = some (.slice A0_1 l0_1.length c0_1) := (blk_cell BK292.out 1).trans rfl; have hcz9_2 : w7.cell? ⟨gb292, 2, none⟩ = some (.int .u32 a0_2) := (blk_cell BK292.out 2).trans rfl; have hfz9_0 := blk_frozen BK292.out 0; have hfz9_1 := blk_frozen BK292.out 1; have hfz9_2 := blk_frozen BK292.out 2; have hcz10_0 : w7.cell? ⟨gb293, 0, none⟩ = some (.slice A1_0 l1_0.length c1_0) := (blk_cell BK293.out 0).trans rfl; have hcz10_1 : w7.cell? ⟨gb293, 1, none⟩ = some (.slice A1_1 l1_1.length c1_1) := (blk_cell BK293.out 1).trans rfl; have hcz10_2 : w7.cell? ⟨gb293, 2, none⟩ = some (.int .u32 a1_2) := (blk_cell BK293.out 2).trans rfl; have hfz10_0 := blk_frozen BK293.out 0; have hfz10_1 := blk_frozen BK293.out 1; have hfz10_2 := blk_frozen BK293.out 2) | ((with_reducible refine gate_callee (f := 48) rfl ?_); refine goesL_ (some 9) rfl rfl Tryz.func48 (by kernel_rfl) rfl #[.slice A0_0 l0_0.length c0_0, .slice A1_0 l1_0.length c1_0] rfl (by (try simp only [List.map_toArray, List.map_cons, List.map_nil]); first | done | rfl | (simp only [List.length_drop, List.length_take]; rfl)) ?_; (with_reducible refine (lanyardref02_Same.calls k _ _ l0_0 _ _ l1_0 true _ ?side1 ?side2 ?side3 ?side4 A3.out).mono ?_); (case side1 => repeat (first | exact (Kd.C_below HR0_0.out HB.out) | (with_reducible refine Kd.C_alloc ?_ _) | (with_reducible refine Kd.C_drewN ?_ _) | (with_reducible refine Kd.C_drew ?_))); (case side2 => exact HC0_0.out); (case side3 => repeat (first | exact (Kd.C_below HR1_0.out HB.out) | (with_reducible refine Kd.C_alloc ?_ _) | (with_reducible refine Kd.C_drewN ?_ _) | (with_reducible refine Kd.C_drew ?_))); (case side4 => exact HC1_0.out); rintro e w' ⟨rfl, ⟨nd, rfl⟩⟩; refine ⟨_, rfl, ?_⟩) | (go_at_call 49; (with_reducible refine (lanyardref14_Same.calls _ _ l0_1 a0_2 _ _ l1_1 a1_2 t295 _ ?side1 ?side2 ?side3 ?side4 A5.out).mono ?_); (case side1 => repeat (first | exact (Kd.C_below HR0_1.out (by repeat (first | (with_reducible first | exact HB.out | apply below_alloc | apply pw_below_drewN | apply below_drew1 | refine below_set ?_ GE292.out | refine below_set ?_ GE293.out) | exact HB.out))) | (with_reducible refine Kd.C_alloc ?_ _) | (with_reducible refine Kd.C_drewN ?_ _) | (with_reducible refine Kd.C_drew ?_))); (case side2 => exact HC0_1.out); (case side3 => repeat (first | exact (Kd.C_below HR1_1.out (by repeat (first | (with_reducible first | exact HB.out | apply below_alloc | apply pw_below_drewN | apply below_drew1 | refine below_set ?_ GE292.out | refine below_set ?_ GE293.out) | exact HB.out))) | (with_reducible refine Kd.C_alloc ?_ _) | (with_reducible refine Kd.C_drewN ?_ _) | (with_reducible refine Kd.C_drew ?_))); (case side4 => exact HC1_1.out); rintro e w11 ⟨rfl, hb⟩; have n0_ := Aside0.mk (blk_below (g := gb292) (o := .cells #[.slice A0_0 l0_0.length c0_0, .slice A0_1 l0_1.length c0_1, .int .u32 a0_2] 34 (0, 0)) (by (with_reducible repeat (first | refine blk_drewN ?_ _ | refine blk_drew ?_ | refine blk_alloc ?_ _)); exact BK292.out) hb); have n1_ := Aside0.mk (blk_below (g := gb293) (o := .cells #[.slice A1_0 l1_0.length c1_0, .slice A1_1 l1_1.length c1_1, .int .u32 a1_2] 34 (0, 0)) (by (with_reducible repeat (first | refine blk_drewN ?_ _ | refine blk_drew ?_ | refine blk_alloc ?_ _)); exact BK293.out) hb); have n2_ := Aside0.mk (below_step (by repeat (first | (with_reducible first | exact HB.out | apply below_alloc | apply pw_below_drewN | apply below_drew1 | refine below_set ?_ GE292.out | refine below_set ?_ GE293.out) | exact HB.out)) hb); clear BK292; clear BK293; clear HB; have BK292 := n0_; have BK293 := n1_; have HB := n2_; clear n0_ n1_ n2_; (try clear hb); (try clear hb2); (try clear hk); (try clear hi)))
  go_ret
  exact ⟨by first | rfl | (simp [errW_none, errW_some] <;> rfl) | (simp [*, errW_none, errW_some] <;> rfl), by repeat (first | (with_reducible first | exact HB.out | apply below_alloc | apply pw_below_drewN | apply below_drew1 | refine below_set ?_ GE292.out | refine below_set ?_ GE293.out) | exact HB.out)⟩
 ·replace c4 := Bool.eq_false_iff.mpr c4
  subst c4
  have H1 : (some false) = some r := by rw [if_neg (show ¬ (false = true) by decide)] at H; exact H
  clear H
  have H := H1
  clear H1
  obtain rfl := Option.some.inj H
  go_enter Tryz.func19, Tryz.ntmps19
  go_wp2_with (first | ((with_reducible refine gate_dst (N := 2) rfl ?_); refine box_event ?hg (N := 2) ?hd (cs := #[.slice A0_0 l0_0.length c0_0, .slice A0_1 l0_1.length c0_1, .int .u32 a0_2]) (t := 34) ?hr ?_; (case hd => rfl); (case hg => rfl); (case hr => first | (go_simp; done) | (go_simp; rfl)); intro gb292 hg w12 hbox hb; have n0_ := Aside0.mk (below_step (by repeat (first | (with_reducible first | exact HB.out | apply below_alloc | apply pw_below_drewN | apply below_drew1) | exact HB.out)) hb); have n1_ := Aside0.mk (hbox); have n2_ := Aside0.mk ((by rw [hg]; exact (below_size (by repeat (first | (with_reducible first | exact HB.out | apply below_alloc | apply pw_below_drewN | apply below_drew1) | exact HB.out))) : w.heap.size ≤ gb292)); have n3_ := Aside0.mk ((by rw [hg]; exact (below_size (by repeat (first | (with_reducible first | exact HB.out | apply below_alloc | apply pw_below_drewN | apply below_drew1) | exact HB.out))) : w.heap.size ≤ gb292)); clear HB; have HB := n0_; have BK292 := n1_; have GW292 := n2_; have GE292 := n3_; clear n0_ n1_ n2_ n3_; clear hb hbox hg) | ((with_reducible refine gate_dst (N := 3) rfl ?_); refine box_event ?hg (N := 3) ?hd (cs := #[.slice A1_0 l1_0.length c1_0, .slice A1_1 l1_1.length c1_1, .int .u32 a1_2]) (t := 34) ?hr ?_; (case hd => rfl); (case hg => rfl); (case hr => first | (go_simp; done) | (go_simp; rfl)); intro gb293 hg w13 hbox hb; have n0_ := Aside0.mk (blk_below (g := gb292) (o := .cells #[.slice A0_0 l0_0.length c0_0, .slice A0_1 l0_1.length c0_1, .int .u32 a0_2] 34 (0, 0)) (by (with_reducible repeat (first | refine blk_drewN ?_ _ | refine blk_drew ?_ | refine blk_alloc ?_ _)); exact BK292.out) hb); have n1_ := Aside0.mk (below_step (by repeat (first | (with_reducible first | exact HB.out | apply below_alloc | apply pw_below_drewN | apply below_drew1 | refine below_set ?_ GE292.out) | exact HB.out)) hb); have n2_ := Aside0.mk (hbox); have n3_ := Aside0.mk ((by rw [hg]; exact (below_size (by repeat (first | (with_reducible first | exact HB.out | apply below_alloc | apply pw_below_drewN | apply below_drew1 | refine below_set ?_ GE292.out) | exact HB.out))) : w.heap.size ≤ gb293)); have n4_ := Aside0.mk ((by rw [hg]; exact (below_size (by repeat (first | (with_reducible first | exact HB.out | apply below_alloc | apply pw_below_drewN | apply below_drew1 | refine below_set ?_ GE292.out) | exact HB.out))) : w.heap.size ≤ gb293)); have n5_ := Aside0.mk ((by rw [hg]; exact Nat.ne_of_lt (blk_lt (g := gb292) (o := .cells #[.slice A0_0 l0_0.length c0_0, .slice A0_1 l0_1.length c0_1, .int .u32 a0_2] 34 (0, 0)) (by (with_reducible repeat (first | refine blk_drewN ?_ _ | refine blk_drew ?_ | refine blk_alloc ?_ _)); exact BK292.out)) : gb292 ≠ gb293)); have n6_ := Aside0.mk ((by rw [hg]; exact Nat.ne_of_gt (blk_lt (g := gb292) (o := .cells #[.slice A0_0 l0_0.length c0_0, .slice A0_1 l0_1.length c0_1, .int .u32 a0_2] 34 (0, 0)) (by (with_reducible repeat (first | refine blk_drewN ?_ _ | refine blk_drew ?_ | refine blk_alloc ?_ _)); exact BK292.out)) : gb293 ≠ gb292)); clear BK292; clear HB; have BK292 := n0_; have HB := n1_; have BK293 := n2_; have GW293 := n3_; have GE293 := n4_; have NB292_293 := n5_; have NB293_292 := n6_; clear n0_ n1_ n2_ n3_ n4_ n5_ n6_; clear hb hbox hg; have hnb14 := NB292_293.out; have hnc14 := NB293_292.out; have hcz15_0 : w13.cell? ⟨gb292, 0, none⟩ = some (.slice A0_0 l0_0.length c0_0) := (blk_cell BK292.out 0).trans rfl; have hcz15_1 : w13.cell? ⟨gb292, 1, none⟩ = some (.slice A0_1 l0_1.length c0_1) := (blk_cell BK292.out 1).trans rfl; have hcz15_2 : w13.cell? ⟨gb292, 2, none⟩ = some (.int .u32 a0_2) := (blk_cell BK292.out 2).trans rfl; have hfz15_0 := blk_frozen BK292.out 0; have hfz15_1 := blk_frozen BK292.out 1; have hfz15_2 := blk_frozen BK292.out 2; have hcz16_0 : w13.cell? ⟨gb293, 0, none⟩ = some (.slice A1_0 l1_0.length c1_0) := (blk_cell BK293.out 0).trans rfl; have hcz16_1 : w13.cell? ⟨gb293, 1, none⟩ = some (.slice A1_1 l1_1.length c1_1) := (blk_cell BK293.out 1).trans rfl; have hcz16_2 : w13.cell? ⟨gb293, 2, none⟩ = some (.int .u32 a1_2) := (blk_cell BK293.out 2).trans rfl; have hfz16_0 := blk_frozen BK293.out 0; have hfz16_1 := blk_frozen BK293.out 1; have hfz16_2 := blk_frozen BK293.out 2) | ((with_reducible refine gate_callee (f := 48) rfl ?_); refine goesL_ (some 9) rfl rfl Tryz.func48 (by kernel_rfl) rfl #[.slice A0_0 l0_0.length c0_0, .slice A1_0 l1_0.length c1_0] rfl (by (try simp only [List.map_toArray, List.map_cons, List.map_nil]); first | done | rfl | (simp only [List.length_drop, List.length_take]; rfl)) ?_; (with_reducible refine (lanyardref02_Same.calls k _ _ l0_0 _ _ l1_0 false _ ?side1 ?side2 ?side3 ?side4 A3.out).mono ?_); (case side1 => repeat (first | exact (Kd.C_below HR0_0.out HB.out) | (with_reducible refine Kd.C_alloc ?_ _) | (with_reducible refine Kd.C_drewN ?_ _) | (with_reducible refine Kd.C_drew ?_))); (case side2 => exact HC0_0.out); (case side3 => repeat (first | exact (Kd.C_below HR1_0.out HB.out) | (with_reducible refine Kd.C_alloc ?_ _) | (with_reducible refine Kd.C_drewN ?_ _) | (with_reducible refine Kd.C_drew ?_))); (case side4 => exact HC1_0.out); rintro e w' ⟨rfl, ⟨nd, rfl⟩⟩; refine ⟨_, rfl, ?_⟩))
  go_ret
  exact ⟨by first | rfl | (simp [errW_none, errW_some] <;> rfl) | (simp [*, errW_none, errW_some] <;> rfl), by repeat (first | (with_reducible first | exact HB.out | apply below_alloc | apply pw_below_drewN | apply below_drew1 | refine below_set ?_ GE292.out | refine below_set ?_ GE293.out) | exact HB.out)⟩

end Go.Proofs.YtcbmjmphicfgpaaGreatDoor.PT
end

section
set_option linter.unusedVariables false
set_option linter.unusedSimpArgs false
namespace Go.Proofs.YtcbmjmphicfgpaaGreatDoor.Tal
open Go.RowKit Go.Proofs.YtcbmjmphicfgpaaGreatDoorW.PrintWords Go.Proofs.YtcbmjmphicfgpaaGreatDoorW.PrintLast Go.Proofs.YtcbmjmphicfgpaaGreatDoorW.PrintMore Go.Proofs.YtcbmjmphicfgpaaGreatDoor.PT

theorem app_data2 (a b : ByteArray) : (a ++ b).data.toList = a.data.toList ++ b.data.toList := by simp
theorem light_l0 (us : List ByteArray) (l : List Int) (E : Int) : ∀ (n i : Nat) (x : Int), i + n = 20 → ∃ ok, lanyardlaw20_light.l0 (n + 1) x (i : Int) us l E = some ok ∧ (ok = true → l.length ≤ 140 ∧ us.length < 20)
 | 0, i, x, h => by
  rw [lanyardlaw20_light.l0]
  have hi : ¬ (i : Int) < 20 := by omega
  have leaf : ∃ ok, ((lanyardref09_LightKey.f l E).bind fun t298 => (if t298 = true then (if (us.length : Int) < 20 then (some (decide (x < 5000))) else (some false)) else (some false))) = some ok ∧ (ok = true → l.length ≤ 140 ∧ us.length < 20) := by
   have e : lanyardref09_LightKey.f l E = some (decide ((l.length : Int) ≤ 140)) := rfl
   rw [e, Option.bind_some]
   by_cases h1 : (l.length : Int) ≤ 140
   ·rw [decide_eq_true h1, if_pos rfl]
    by_cases h2 : (us.length : Int) < 20
    ·rw [if_pos h2]; exact ⟨_, rfl, fun _ => ⟨by omega, by omega⟩⟩
    ·rw [if_neg h2]; exact ⟨_, rfl, fun h => by cases h⟩
   ·rw [decide_eq_false h1, if_neg (by simp)]; exact ⟨_, rfl, fun h => by cases h⟩
  by_cases hh : (i : Int) < (us.length : Int)
  ·rw [if_pos hh, if_neg hi]; exact leaf
  ·rw [if_neg hh]; exact leaf
 | n + 1, i, x, h => by
  rw [lanyardlaw20_light.l0]
  have hi : (i : Int) < 20 := by omega
  have leaf : ∃ ok, ((lanyardref09_LightKey.f l E).bind fun t298 => (if t298 = true then (if (us.length : Int) < 20 then (some (decide (x < 5000))) else (some false)) else (some false))) = some ok ∧ (ok = true → l.length ≤ 140 ∧ us.length < 20) := by
   have e : lanyardref09_LightKey.f l E = some (decide ((l.length : Int) ≤ 140)) := rfl
   rw [e, Option.bind_some]
   by_cases h1 : (l.length : Int) ≤ 140
   ·rw [decide_eq_true h1, if_pos rfl]
    by_cases h2 : (us.length : Int) < 20
    ·rw [if_pos h2]; exact ⟨_, rfl, fun _ => ⟨by omega, by omega⟩⟩
    ·rw [if_neg h2]; exact ⟨_, rfl, fun h => by cases h⟩
   ·rw [decide_eq_false h1, if_neg (by simp)]; exact ⟨_, rfl, fun h => by cases h⟩
  by_cases hh : (i : Int) < (us.length : Int)
  ·rw [if_pos hh, if_pos hi, if_pos (by omega), wsucc i (by omega)]
   exact light_l0 us l E n (i + 1) _ (by omega)
  ·rw [if_neg hh]; exact leaf
theorem light_f (us : List ByteArray) (l : List Int) (E : Int) : ∃ ok, lanyardlaw20_light.f 21 us l E = some ok ∧ (ok = true → l.length ≤ 140 ∧ us.length < 20) := light_l0 us l E 20 0 0 (by omega)
theorem same20_f (us : List ByteArray) (l : List Int) (E : Int) (hu : us.length ≤ 100) : lanyardref20_Same.f 200 us l E us l E = some true := by
 unfold lanyardref20_Same.f
 rw [LinQ.same_f us (by omega) 200 (by omega), Option.bind_some, if_pos rfl]
 unfold lanyardref14_Same.f
 split
 ·rw [Option.bind_some]; congr 1; exact beq_self_eq_true _
 ·rename_i h; exact absurd rfl h
theorem trim_hash (c : List UInt8) : ∃ c', Lin.trimCR (35 :: c) = 35 :: c' := by
 unfold Lin.trimCR
 split
 ·rename_i h
  cases c with
  | nil => simp at h
  | cons x c => exact ⟨_, rfl⟩
 ·exact ⟨c, rfl⟩
theorem ended_snocE (e : List UInt8) (L : List ByteArray) (k : Nat) (h : k < L.length) : Lin.ended e ((L.take (k + 1)).map (·.data.toList)) = Lin.ended e ((L.take k).map (·.data.toList)) ++ (L[k].data.toList ++ e) := by
 rw [← List.take_append_getElem h, List.map_append, ended_app]
 simp [Lin.ended]
theorem flat_take (L : List ByteArray) (k : Nat) (h : k < L.length) : (flatB (L.take (k + 1))).size = (flatB (L.take k)).size + L[k].size := by
 rw [← List.take_append_getElem h, flat_app]
 congr 1
 rw [← size_len, flatB_data]
 simp
theorem flat_take_le (L : List ByteArray) (k : Nat) : (flatB (L.take k)).size ≤ (flatB L).size := by
 have := flat_app (L.take k) (L.drop k)
 rw [List.take_append_drop] at this
 omega
def endL (long : Bool) : List UInt8 := if long = true then [13, 10] else [10]
theorem x_read (us : List ByteArray) (l : List Int) (E : Int) (hl : l.length ≤ 140) (hv : ∀ v ∈ l, 0 ≤ v ∧ v < 256) (h0 : 0 ≤ E) (h1 : E < 4294967296) (hk : Tlv.rightK l E = true) (hu : rightU us = true) (c x : ByteArray) (long : Bool) (hc : ∀ b, b ∈ c.data.toList → b ≠ 10)
 (hx : x.data.toList = (35 :: c.data.toList) ++ 10 :: Lin.ended (endL long) (linesK us l E)) : readB x = some (us, l, E) := by
 refine read_lines us l E hl hv h0 h1 hk hu x ?_
 have hcl := lines_clear us l E hl hv h0 h1 hu
 have hno : ∀ b, b ∈ 35 :: c.data.toList → b ≠ 10 := by
  intro b hb
  rcases List.mem_cons.1 hb with rfl | hb
  ·decide
  ·exact hc b hb
 obtain ⟨c', hc'⟩ := trim_hash c.data.toList
 rw [Spl.linesR_data, hx, Lin.lines_cut _ _ hno, hc', parts_comment]
 cases long with
 | true => rw [show endL true = [13, 10] from rfl, Lin.lines_ended_long _ hcl]
 | false => rw [show endL false = [10] from rfl, Lin.lines_ended_short _ hcl]

set_option maxHeartbeats 8000000 in
set_option maxRecDepth 100000 in
theorem back_walk (U : Option Addr) (cu : Nat) (us : List ByteArray) (A : Option Addr) (ca : Nat) (l : List Int) (E : Int) (c : ByteArray) (long : Bool) (w : World) (hU : Kd.string.C w U us.length us) (hcu : us.length ≤ cu) (huz : ∀ x ∈ us, x.size ≤ 9223372036854775807)
 (hA : (Kd.int .u8).C w A l.length l) (hca : l.length ≤ ca) (hv : ∀ v ∈ l, 0 ≤ v ∧ v < 256) (h0 : 0 ≤ E) (h1 : E < 4294967296) :
 Calls Tryz.prog 5 #[.agg #[.slice U us.length cu, .slice A l.length ca, .int .u32 E], .string c, .bool long] w fun e w' => e = .returned (.bool true) ∧ Below w.heap.size w w' := by
 have hnot : ∀ (x : Bool) (w : World), (Op.unary .not (.bool x)).run Tryz.prog w = .ok (.bool (!x)) w := fun _ _ => rfl
 have hal : Below w.heap.size w (w.alloc (.cells #[.slice U us.length cu, .slice A l.length ca, .int .u32 E] 34)) := (Below.refl _ _).alloc (Nat.le_refl _) _
 have hbx : RB w (w.alloc (.cells #[.slice U us.length cu, .slice A l.length ca, .int .u32 E] 34)) (.slice U us.length cu) (.slice A l.length ca) (.int .u32 E) := ⟨heap_alloc_new w _, hal⟩
 have HBX := Lib.hid hbx
 have HU := Lib.hid (fun w1 (h : Below w.heap.size w w1) => Kd.C_below hU h)
 have HA := Lib.hid (fun w1 (h : Below w.heap.size w w1) => Kd.C_below hA h)
 have HV := Lib.hid (And.intro hv (And.intro h0 h1))
 have HUZ := Lib.hid huz
 obtain ⟨ok, hok, hlight⟩ := light_f us l E
 have HOK := Lib.hid hlight
 have HLI := Lib.hid (fun w1 (h : Below w.heap.size w w1) => lanyardlaw20_light.calls 21 U cu us A ca l E ok w1 (Kd.C_below hU h) hcu (Kd.C_below hA h) hca hok)
 clear hal hbx hU hA hv h0 h1 huz hok hlight
 go_enter Tryz.func5, Tryz.ntmps5
 go_wp2_with (fail)
 refine (awake_walk _).mono ?_
 rintro e w1 ⟨rfl, hb1⟩
 have HB1 := Lib.hid (HBX.out.step hb1)
 clear hb1 HBX
 have a0 := Lib.cell_of_heap HB1.out.h 0
 have a1 := Lib.cell_of_heap HB1.out.h 1
 have a2 := Lib.cell_of_heap HB1.out.h 2
 go_wp2_with (fail)
 refine (HLI.out w1 HB1.out.b).mono ?_
 rintro e w2 ⟨rfl, hb2⟩
 have HB2 := Lib.hid (HB1.out.step hb2)
 clear hb2 HB1 HLI a0 a1 a2
 by_cases hgo : ok = true ∧ c.size ≤ 200
 ·obtain ⟨rfl, hc2⟩ := hgo
  obtain ⟨hl, hul⟩ := HOK.out rfl
  have d1 : decide ((200 : Int) < (c.size : Int)) = false := decide_eq_false (by omega)
  have d1' := eq_false (show ¬ (200 : Int) < (c.size : Int) by omega)
  have HTX := Lib.hid (text_walk U cu us A ca l E w2 (HU.out w2 HB2.out.b) hcu (by omega) HUZ.out (HA.out w2 HB2.out.b) hca hl HV.out.1 HV.out.2.1 HV.out.2.2)
  have a0 := Lib.cell_of_heap HB2.out.h 0
  have a1 := Lib.cell_of_heap HB2.out.h 1
  have a2 := Lib.cell_of_heap HB2.out.h 2
  clear HOK
  cases hgood : (Tlv.rightK l E && rightU us) with
  | false =>
   have hr : textR us l E = (⟨#[]⟩, 1) := by unfold textR; rw [hgood]; rfl
   rw [hr] at HTX
   clear hr hgood
   go_wp2_with (fail)
   refine HTX.out.mono ?_
   rintro e w3 ⟨rfl, hb3⟩
   have HB3 := Lib.hid (HB2.out.step hb3).b
   clear hb3
   go_wp2
   go_ret
   exact ⟨by first | rfl | (simp; done) | decide, HB3.out⟩
  | true =>
   rw [Bool.and_eq_true] at hgood
   obtain ⟨hk, hu⟩ := hgood
   have hr : textR us l E = (textB us l E, 0) := by unfold textR; rw [hk, hu]; rfl
   rw [hr] at HTX
   have hsz := text_size us l E hl HV.out.1 HV.out.2.1 HV.out.2.2 hu
   have HTL := Lib.hid (text_lines us l E hl HV.out.1 HV.out.2.1 HV.out.2.2 hu)
   have HTB := Lib.hid (text_back us l E hl HV.out.1 HV.out.2.1 HV.out.2.2 hk hu)
   have HXR := Lib.hid (fun x hc hx => x_read us l E hl HV.out.1 HV.out.2.1 HV.out.2.2 hk hu c x long hc hx)
   generalize textB us l E = s at HTX hsz HTL HTB
   clear hr hk hu
   go_wp2_with (fail)
   refine HTX.out.mono ?_
   rintro e w3 ⟨rfl, hb3⟩
   have HB3 := Lib.hid (HB2.out.step hb3)
   clear hb3 HB2 HTX a0 a1 a2
   go_wp2
   go_loop [11] (fun iv => ∃ j : Nat, j ≤ c.size ∧ iv = .int .i64 j ∧ Hid (∀ b, b ∈ c.data.toList.take j → b ≠ 10)) (fun iv => c.size - (intOf iv).toNat)
   case atStart => exact ⟨0, by omega, rfl, Lib.hid (by simp)⟩
   case round =>
    obtain ⟨j, hj, rfl, hcj⟩ := hrel
    by_cases hjl : j < c.size
    ·have hbt : ∀ h : j < c.size, ((c[j]'h).toNat : Int) = bt c (j : Int) := fun h => by have := bt_at c j; simpa using this h
     have hnext : ¬ bt c (j : Int) = 10 → ∀ b, b ∈ c.data.toList.take (j + 1) → b ≠ 10 := by
      intro h10 b hb
      have hlt : j < c.data.toList.length := by rw [size_len]; exact hjl
      rw [List.take_succ_eq_append_getElem hlt] at hb
      rcases List.mem_append.1 hb with hb | hb
      ·exact hcj.out b hb
      ·rw [List.mem_singleton.1 hb]
       intro e
       rw [bt_list c j hjl, e] at h10
       exact h10 rfl
     generalize bt c (j : Int) = y at hbt hnext
     by_cases h10 : y = 10
     ·have e10 : (y == 10) = true := by simp [h10]
      clear hnext h10
      go_wp2
      try rw [Exit.noGoto_ret]
      go_ret
      exact ⟨rfl, HB3.out.b⟩
     ·have e10 : (y == 10) = false := by simp [h10]
      have HN := Lib.hid (hnext h10)
      clear hnext h10
      go_wp2
      go_round
      case rel => exact ⟨j + 1, by omega, by go_num, HN⟩
      case measure => simp [intOf]; omega
    ·obtain rfl : j = c.size := by omega
     have hcc : ∀ b, b ∈ c.data.toList → b ≠ 10 := by have := hcj.out; rwa [List.take_of_length_le (by rw [size_len]; omega)] at this
     have HCC := Lib.hid hcc
     obtain ⟨kl, hkl⟩ := LinQ.reflines_f s (by omega)
     have HLN := Lib.hid (fun w1 => lanyardref02_Lines.calls kl s (Spl.linesR s) w1 hkl)
     have hll := lines_len s
     have HFL := Lib.hid (lines_sum s)
     generalize Spl.linesR s = L at HLN hll HFL HTL
     clear hcj hcc hkl
     go_wp2_with (fail)
     refine (HLN.out _).mono ?_
     rintro e w4 ⟨v4, rfl, ho, hb4⟩
     obtain ⟨V4, c4, rfl⟩ := Kd.R_slice ho
     have HL4 := Lib.hid (Kd.R_reads' ho).2.2
     have HB4 := Lib.hid (HB3.out.step hb4)
     clear ho hb4 HLN
     have z1 : decide ((⟨#[35]⟩ : ByteArray).size + c.size ≤ 9223372036854775807) = true := decide_eq_true (by rw [show (⟨#[35]⟩ : ByteArray).size = 1 from rfl]; omega)
     have hst : Hid (((⟨#[35]⟩ ++ c) ++ ⟨#[10]⟩ : ByteArray).data.toList = (35 :: c.data.toList) ++ 10 :: Lin.ended (endL long) (((L.take 0)).map (·.data.toList))) := Lib.hid (by rw [app_data2, app_data2]; simp [Lin.ended])
     have hsz0 : ((⟨#[35]⟩ ++ c) ++ ⟨#[10]⟩ : ByteArray).size ≤ 202 := by rw [ByteArray.size_append, ByteArray.size_append, show (⟨#[35]⟩ : ByteArray).size = 1 from rfl, show (⟨#[10]⟩ : ByteArray).size = 1 from rfl]; omega
     go_wp2
     go_loop [13, 14] (fun xv iv => ∃ (k : Nat) (x : ByteArray), k ≤ L.length ∧ iv = .int .i64 k ∧ xv = .string x ∧ Hid (x.data.toList = (35 :: c.data.toList) ++ 10 :: Lin.ended (endL long) ((L.take k).map (·.data.toList))) ∧ x.size ≤ 202 + (flatB (L.take k)).size + 2 * k) (fun _ iv => L.length - (intOf iv).toNat)
     case atStart => exact ⟨0, _, by omega, rfl, rfl, hst, by omega⟩
     case round =>
      obtain ⟨k, x, hk, rfl, rfl, hxd, hxs⟩ := hrel
      clear hst hsz0 z1
      have hfk := flat_take_le L k
      have hfl := HFL.out
      by_cases hlt : k < L.length
      ·obtain ⟨ad, e, q0⟩ := Kd.at_string HL4.out (k : Int) (by omega) (by omega)
       subst e
       have hx0 : rdOf ByteArray.empty L (k : Int) = L[k] := by simp [rdOf, List.getD_eq_getElem?_getD, List.getElem?_eq_getElem hlt]
       rw [hx0] at q0
       simp only [Int.toNat_natCast] at q0
       have hes := fun e => ended_snocE e L k hlt
       have hft := flat_take L k hlt
       have hmz := flat_mem (List.getElem_mem hlt)
       obtain ⟨y, hy⟩ : ∃ y, L[k] = y := ⟨_, rfl⟩
       rw [hy] at q0 hft hmz
       have HES : Hid (∀ e, Lin.ended e ((L.take (k + 1)).map (·.data.toList)) = Lin.ended e ((L.take k).map (·.data.toList)) ++ (y.data.toList ++ e)) := Lib.hid (fun e => by rw [hes e, hy])
       have HFT := Lib.hid hft
       have z2 : decide (x.size + y.size ≤ 9223372036854775807) = true := decide_eq_true (by omega)
       clear hx0 hes hy hft
       cases long with
       | true =>
        have HN : Hid ((((x ++ y) ++ ⟨#[13, 10]⟩ : ByteArray)).data.toList = (35 :: c.data.toList) ++ 10 :: Lin.ended (endL true) ((L.take (k + 1)).map (·.data.toList))) := Lib.hid (by rw [app_data2, app_data2, HES.out, hxd.out]; simp [endL])
        have HNS : Hid (((x ++ y) ++ ⟨#[13, 10]⟩ : ByteArray).size = x.size + y.size + 2) := Lib.hid (by rw [ByteArray.size_append, ByteArray.size_append]; rfl)
        go_wp2
        go_round
        case rel => exact ⟨k + 1, _, by omega, by go_num, rfl, HN, by rw [HNS.out, HFT.out]; omega⟩
        case measure => simp [intOf]; omega
       | false =>
        have HN : Hid ((((x ++ y) ++ ⟨#[10]⟩ : ByteArray)).data.toList = (35 :: c.data.toList) ++ 10 :: Lin.ended (endL false) ((L.take (k + 1)).map (·.data.toList))) := Lib.hid (by rw [app_data2, app_data2, HES.out, hxd.out]; simp [endL])
        have HNS : Hid (((x ++ y) ++ ⟨#[10]⟩ : ByteArray).size = x.size + y.size + 1) := Lib.hid (by rw [ByteArray.size_append, ByteArray.size_append]; rfl)
        go_wp2
        go_round
        case rel => exact ⟨k + 1, _, by omega, by go_num, rfl, HN, by rw [HNS.out, HFT.out]; omega⟩
        case measure => simp [intOf]; omega
      ·obtain rfl : k = L.length := by omega
       have hxr : readB x = some (us, l, E) := HXR.out x HCC.out (by rw [hxd.out, List.take_length, HTL.out])
       have HXB := Lib.hid hxr
       have HR1 := Lib.hid (talread_walk x w4 (by omega))
       clear hxr hxd
       go_wp2_with (fail)
       refine HR1.out.mono ?_
       intro e w5 hp
       unfold TalPost at hp
       rw [HXB.out] at hp
       obtain ⟨X1, us1, x1, Y1, l1, y1, E1, f1, rfl, hcase, hX1, hx1, hY1, hy1, hb5⟩ := hp
       obtain ⟨rfl, rfl, rfl, rfl⟩ : f1 = 0 ∧ us = us1 ∧ l = l1 ∧ E = E1 := by
        rcases hcase with ⟨_, h, _⟩ | ⟨h1, h2⟩
        ·cases h
        ·injection h2 with h2
         injection h2 with h3 h4
         injection h4 with h4 h5
         exact ⟨h1, h3, h4, h5⟩
       have hal5 : Below w5.heap.size w5 (w5.alloc (.cells #[.slice X1 us.length x1, .slice Y1 l.length y1, .int .u32 E] 34)) := (Below.refl _ _).alloc (Nat.le_refl _) _
       have hg5 : (w5.alloc (.cells #[.slice X1 us.length x1, .slice Y1 l.length y1, .int .u32 E] 34)).heap[w5.heap.size]? = some (.cells #[.slice X1 us.length x1, .slice Y1 l.length y1, .int .u32 E] 34 (0, 0)) := heap_alloc_new w5 _
       have HB5 := Lib.hid ((HB4.out.step hb5).step hal5)
       have HC5 := Lib.hid (And.intro (Kd.C_below hX1 hal5) (Kd.C_below hY1 hal5))
       have HG5 := Lib.hid hg5
       have HR2 := Lib.hid (talread_walk s (w5.alloc (.cells #[.slice X1 us.length x1, .slice Y1 l.length y1, .int .u32 E] 34)) (by omega))
       clear hcase hX1 hY1 hb5 hal5 hg5 HR1 HXB HXR HB4 HL4
       go_wp2_with (fail)
       refine HR2.out.mono ?_
       intro e w6 hp
       unfold TalPost at hp
       rw [HTB.out] at hp
       obtain ⟨X2, us2, x2, Y2, l2, y2, E2, f2, rfl, hcase, hX2, hx2, hY2, hy2, hb6⟩ := hp
       obtain ⟨rfl, rfl, rfl, rfl⟩ : f2 = 0 ∧ us = us2 ∧ l = l2 ∧ E = E2 := by
        rcases hcase with ⟨_, h, _⟩ | ⟨h1, h2⟩
        ·cases h
        ·injection h2 with h2
         injection h2 with h3 h4
         injection h4 with h4 h5
         exact ⟨h1, h3, h4, h5⟩
       have hal6 : Below w6.heap.size w6 (w6.alloc (.cells #[.slice X2 us.length x2, .slice Y2 l.length y2, .int .u32 E] 34)) := (Below.refl _ _).alloc (Nat.le_refl _) _
       have hg6 : (w6.alloc (.cells #[.slice X2 us.length x2, .slice Y2 l.length y2, .int .u32 E] 34)).heap[w6.heap.size]? = some (.cells #[.slice X2 us.length x2, .slice Y2 l.length y2, .int .u32 E] 34 (0, 0)) := heap_alloc_new w6 _
       have hB6 := (HB5.out.step hb6).step hal6
       have HB6 := Lib.hid hB6
       have HC6 := Lib.hid (And.intro (Kd.C_below hX2 hal6) (Kd.C_below hY2 hal6))
       have HC56 := Lib.hid (And.intro (Kd.C_below (Kd.C_below HC5.out.1 hb6) hal6) (Kd.C_below (Kd.C_below HC5.out.2 hb6) hal6))
       have hq5 := (hb6.block _ (Tlv.heap_lt HG5.out)).trans HG5.out
       have hp5 := (hal6.block _ (Tlv.heap_lt hq5)).trans hq5
       have HG56 := Lib.hid hp5
       have HG6 := Lib.hid hg6
       have a0 := Lib.cell_of_heap hB6.h 0
       have a1 := Lib.cell_of_heap hB6.h 1
       have a2 := Lib.cell_of_heap hB6.h 2
       have b0 := Lib.cell_of_heap hp5 0
       have b1 := Lib.cell_of_heap hp5 1
       have b2 := Lib.cell_of_heap hp5 2
       have HS1 := Lib.hid (lanyardref20_Same.calls 200 U cu us A ca l E X1 x1 us Y1 y1 l E true _ (HU.out _ hB6.b) hcu (HA.out _ hB6.b) hca HC56.out.1 hx1 HC56.out.2 hy1 (same20_f us l E (by omega)))
       clear hcase hX2 hY2 hb6 hal6 hg6 HR2 HB5 HC5 HG5 hB6 hq5 hp5
       go_wp2_with (fail)
       refine HS1.out.mono ?_
       rintro e w7 ⟨rfl, hb7⟩
       have hB7 := HB6.out.step hb7
       have hg7 := (hb7.block _ (Tlv.heap_lt HG6.out)).trans HG6.out
       have HB7 := Lib.hid hB7
       have HS2 := Lib.hid (lanyardref20_Same.calls 200 U cu us A ca l E X2 x2 us Y2 y2 l E true w7 (HU.out _ hB7.b) hcu (HA.out _ hB7.b) hca (Kd.C_below HC6.out.1 hb7) hx2 (Kd.C_below HC6.out.2 hb7) hy2 (same20_f us l E (by omega)))
       clear a0 a1 a2 b0 b1 b2
       have a0 := Lib.cell_of_heap hB7.h 0
       have a1 := Lib.cell_of_heap hB7.h 1
       have a2 := Lib.cell_of_heap hB7.h 2
       have g0 := Lib.cell_of_heap hg7 0
       have g1 := Lib.cell_of_heap hg7 1
       have g2 := Lib.cell_of_heap hg7 2
       clear hb7 hB7 hg7 HS1 HB6 HG6 HG56
       go_wp2_with (fail)
       refine HS2.out.mono ?_
       rintro e w8 ⟨rfl, hb8⟩
       have HB8 := Lib.hid (HB7.out.step hb8).b
       clear hb8 HS2 HB7 a0 a1 a2 g0 g1 g2
       go_wp2
       go_ret
       exact ⟨by first | rfl | (simp; done) | decide, HB8.out⟩
 ·have hor : ok = false ∨ (ok = true ∧ (200 : Int) < (c.size : Int)) := by
   cases ok with
   | false => exact .inl rfl
   | true =>
    refine .inr ⟨rfl, ?_⟩
    by_cases h : c.size ≤ 200
    ·exact absurd ⟨rfl, h⟩ hgo
    ·omega
  clear hgo HOK
  rcases hor with rfl | ⟨rfl, h2⟩
  ·go_wp2
   go_ret
   exact ⟨rfl, HB2.out.b⟩
  ·have d1 := decide_eq_true h2
   go_wp2
   go_ret
   exact ⟨rfl, HB2.out.b⟩
end Go.Proofs.YtcbmjmphicfgpaaGreatDoor.Tal
end

section
set_option linter.unusedVariables false
set_option linter.unusedSimpArgs false
namespace Go.Proofs.YtcbmjmphicfgpaaGreatDoor.Tlv
open Go.ChangeShapes Go.WideShapes Go.Deep Go.RowKit Go.Proofs.YtcbmjmphicfgpaaGreatDoorW.PrintWords Go.Proofs.YtcbmjmphicfgpaaGreatDoorW.PrintLast Go.Proofs.YtcbmjmphicfgpaaGreatDoorW.PrintMore Go.Proofs.YtcbmjmphicfgpaaGreatDoor.PT

section
variable {H : Type} {enc : TypeId × Value → H} {w : World} {base : Nat} {held : Bool}
set_option maxRecDepth 100000 in
theorem openB_f {fuel : Nat} {cs : List Value} {x : DataW H × List MemPlace} (h : DataW.trod enc Tryz.prog w base (fun _ => true) held fuel 29 cs = some x) :
 ∃ (A : Option Addr) (c : Nat) (l : List Int), cs = [.slice A l.length c] ∧ (Kd.int .u8).C w A l.length l ∧ l.length ≤ c ∧ ∀ v ∈ l, 0 ≤ v ∧ v < 256 := by
 have hz : ∃ (a : Option Addr) (len cap : Nat) (zs : List Int), cs = [.slice a len cap] ∧ ((a = none ∧ len = 0 ∧ cap = 0 ∧ zs = []) ∨ ∃ x, a = some x ∧ len ≤ cap ∧ cap ≤ maxLen ∧ zs.length = cap ∧ (∀ i, i < zs.length → w.cell? (x.add i) = some (.int .u8 (zs.getD i 0))) ∧ ∀ n ∈ zs, (Lit.int .u8 n).wf = true) := by
  rcases open_ints Tryz.underlying29 Tryz.underlying5 (by kernel_rfl) h with ⟨hcs, _⟩ | ⟨x, l, c, zs, hcs, _, hl, hm, hz, _, hcell, hwz⟩
  ·exact ⟨none, 0, 0, [], hcs, .inl ⟨rfl, rfl, rfl, rfl⟩⟩
  ·exact ⟨some x, l, c, zs, hcs, .inr ⟨_, rfl, hl, hm, by simpa using hz, hcell, hwz⟩⟩
 obtain ⟨a, len, cap, zs, rfl, w0⟩ := hz
 obtain ⟨l0, rfl, hr0, hm0, hw0, hc0⟩ := ReadsInt.ofRowC w0
 refine ⟨a, cap, l0, rfl, C_of_reads hr0 rfl, hc0, fun v hv => ?_⟩
 have := hw0 v hv
 simp [Lit.wf, IntKind.min, IntKind.max, IntKind.signed, IntKind.bits] at this
 omega
end

end Go.Proofs.YtcbmjmphicfgpaaGreatDoor.Tlv
end

section
set_option linter.unusedVariables false
set_option linter.unusedSimpArgs false
namespace Go.Proofs.YtcbmjmphicfgpaaGreatDoor.Tlv
open Go.ChangeShapes Go.WideShapes Go.Deep Go.RowKit Go.Proofs.YtcbmjmphicfgpaaGreatDoorW.PrintWords Go.Proofs.YtcbmjmphicfgpaaGreatDoorW.PrintLast Go.Proofs.YtcbmjmphicfgpaaGreatDoorW.PrintMore Go.Proofs.YtcbmjmphicfgpaaGreatDoor.PT

section
variable {H : Type} {enc : TypeId × Value → H} {w : World} {base : Nat} {held : Bool}
set_option maxRecDepth 100000 in
theorem openS_f {fuel : Nat} {cs : List Value} {x : DataW H × List MemPlace} (h : DataW.trod enc Tryz.prog w base (fun _ => true) held fuel 28 cs = some x) :
 ∃ (A : Option Addr) (c : Nat) (l : List ByteArray), cs = [.slice A l.length c] ∧ Kd.string.C w A l.length l ∧ l.length ≤ c ∧ (∀ s ∈ l, s.size ≤ 9223372036854775807) := by
 rcases open_strings Tryz.underlying28 Tryz.underlying9 (by kernel_rfl) h with ⟨hcs, _⟩ | ⟨a, len, cap, ss, hcs, _, hl, hm, hz, _, hcell, hsz⟩
 ·exact ⟨none, 0, [], hcs, C_nil _ _ _, Nat.le_refl _, by simp⟩
 ·have hz' : ss.length = cap := by simpa using hz
  have hlen : (ss.take len).length = len := by rw [List.length_take]; omega
  refine ⟨some a, cap, ss.take len, by rw [hlen]; exact hcs, ?_, by omega, fun s hs => hsz s (List.mem_of_mem_take hs)⟩
  refine Kd.C_of_reads (d := ByteArray.empty) ⟨rfl, by have h9 : maxLen ≤ 9223372036854775807 := (by decide); omega, fun _ => ⟨a, rfl, fun j hj => ?_⟩⟩
  have hj2 : j < len := by omega
  rw [hcell j (by omega)]
  congr 2
  rw [List.getD_eq_getElem?_getD, List.getD_eq_getElem?_getD, List.getElem?_take, if_pos hj2]
set_option maxRecDepth 100000 in
theorem openK_f {fuel : Nat} {cs : List Value} {x : DataW H × List MemPlace} (hl : cs.length = 2) (hf : DataW.trod enc Tryz.prog w base (fun _ => true) held fuel 32 cs = some x) :
 ∃ (A : Option Addr) (c : Nat) (l : List Int) (E : Int), cs = [.slice A l.length c, .int .u32 E] ∧ (Kd.int .u8).C w A l.length l ∧ l.length ≤ c ∧ (∀ v ∈ l, 0 ≤ v ∧ v < 256) ∧ 0 ≤ E ∧ E < 4294967296 := by
 obtain ⟨xs, n, hn, _, _, hlen, hf⟩ := DataW.trod_struct Tryz.underlying32 hf
 match cs, hl with
 | [v0, v1], _ =>
 match xs, hlen with
 | [y0, y1], _ =>
 have h0 := hf 0 _ rfl
 have h1 := hf 1 _ rfl
 replace h0 : DataW.trod enc Tryz.prog w base (fun _ => true) held n 29 [v0] = some y0 := h0
 replace h1 : DataW.trod enc Tryz.prog w base (fun _ => true) held n 30 [v1] = some y1 := h1
 obtain ⟨m0, e0, _, b0⟩ := DataW.trod_int Tryz.underlying30 h1
 obtain ⟨A1, c1, l1, e1, k1, g1, hb1⟩ := openB_f h0
 injection e0 with e0
 injection e1 with e1
 subst e0 e1
 refine ⟨A1, c1, l1, m0, rfl, k1, g1, hb1, ?_⟩
 simp [Lit.wf, IntKind.min, IntKind.max, IntKind.signed, IntKind.bits] at b0
 omega
set_option maxRecDepth 100000 in
/-- Where trust begins, that came in. -/
theorem openT {r : Reach} {b0 : Nat} {v : Value} {d : DataW H} {p : List MemPlace} (hv : Value.okWide Tryz.prog w r b0 34 v) (h : DataW.Trod enc Tryz.prog w base (fun _ => true) held 34 v d p) :
 ∃ (U : Option Addr) (cu : Nat) (us : List ByteArray) (A : Option Addr) (c : Nat) (l : List Int) (E : Int), v = .agg #[.slice U us.length cu, .slice A l.length c, .int .u32 E] ∧ Kd.string.C w U us.length us ∧ us.length ≤ cu ∧ (∀ s ∈ us, s.size ≤ 9223372036854775807) ∧ (Kd.int .u8).C w A l.length l ∧ l.length ≤ c ∧ (∀ v ∈ l, 0 ≤ v ∧ v < 256) ∧ 0 ≤ E ∧ E < 4294967296 := by
 obtain ⟨cs, rfl, hsz⟩ := okWide_struct Tryz.underlying34 hv
 obtain ⟨fuel, hf⟩ := h
 obtain ⟨cs⟩ := cs
 obtain ⟨xs, n, hn, _, hl, hlen, hf⟩ := DataW.trod_struct Tryz.underlying34 hf
 have hl : cs.length = 3 := hl
 match cs, hl with
 | [v0, v1, v2], _ =>
 match xs, hlen with
 | [y0, y1], _ =>
 have h0 := hf 0 _ rfl
 have h1 := hf 1 _ rfl
 replace h0 : DataW.trod enc Tryz.prog w base (fun _ => true) held n 28 [v0] = some y0 := h0
 replace h1 : DataW.trod enc Tryz.prog w base (fun _ => true) held n 32 [v1, v2] = some y1 := h1
 obtain ⟨U, cu, us, e0, k0, g0, s0⟩ := openS_f h0
 obtain ⟨A, c, l, E, e1, k1, g1, b1, b2, b3⟩ := openK_f rfl h1
 injection e0 with e0
 injection e1 with e1 e2
 injection e2 with e2
 subst e0 e1 e2
 exact ⟨U, cu, us, A, c, l, E, rfl, k0, g0, s0, k1, g1, b1, b2, b3⟩
end
end Go.Proofs.YtcbmjmphicfgpaaGreatDoor.Tlv
end
