/- The walk of the law RadixParts. -/
import Derived.Test.YtbbikibgfpokpaaRadP
set_option linter.unusedVariables false
namespace Go.Proofs.Ytbbikibgfpokpaa.Rad
open Go.RowKit Go.Proofs.YtbbikibgfpokpaaW.PrintWords Go.Proofs.YtbbikibgfpokpaaW.PrintLast Go.Proofs.YtbbikibgfpokpaaW.PrintMore

theorem rp_own0 (W : World) (base : Nat) (hb : base ≤ W.heap.size) :
    Kd.R (Kd.int .u8) 5 (W.alloc (.cells #[] 5)) base (fun _ => True) (.slice (some ⟨W.heap.size, 0, none⟩) 0 0) [] := by
  refine Kd.R_of_own (enc := Value.int .u8) ?_ (fun _ _ => trivial)
  exact ⟨rfl, .inr ⟨W.heap.size, 0, _, rfl, hb, heap_alloc_new W _, Nat.le_refl _, by decide, rfl, rfl⟩⟩
theorem rp_law (x y : List Int) (hx : x.length % 3 = 0) : (strOfNums (Rad.enc (x ++ y))).toList = (strOfNums (Rad.enc x) ++ strOfNums (Rad.enc y)).toList := by
  rw [Rad.enc_append x y hx, Rad.str_append]
set_option maxHeartbeats 400000 in
set_option maxRecDepth 100000 in
theorem rp_main (A0 : Option Addr) (c0 : Nat) (l0 : List Int) (A1 : Option Addr) (c1 : Nat) (l1 : List Int) (w : World) (hr0 : ReadsInt w .u8 A0 l0.length l0) (hc0 : l0.length ≤ c0) (hr1 : ReadsInt w .u8 A1 l1.length l1) (hc1 : l1.length ≤ c1)
    (h0 : ∀ x ∈ l0, 0 ≤ x ∧ x < 256) (h1 : ∀ x ∈ l1, 0 ≤ x ∧ x < 256) (g0 : l0.length ≤ 900) (g1 : l1.length ≤ 900)
    (haw : ∀ w, Calls Try.prog 6 #[] w fun e w' => e = .returned (.bool true) ∧ Below w.heap.size w w') :
    Calls Try.prog 5 #[.slice A0 l0.length c0, .slice A1 l1.length c1] w fun e w' => e = .returned (.bool true) ∧ Below w.heap.size w w' := by
  have Haw := Aside0.mk haw
  clear haw
  obtain ⟨i0, hi, hz0, hz1, hz2⟩ := info_parts Bld.infoByte
  obtain ⟨m, hm⟩ : ∃ m : Nat, m = l0.length / 3 * 3 := ⟨_, rfl⟩
  have hm1 : m ≤ l0.length := by omega
  have hm2 : (l0.length : Int) / 3 * 3 = (m : Int) := by omega
  obtain ⟨hcut, hcr, hcc⟩ := print_take_int (P := Try.prog) (k := .u8) 22 5 Try.underlying22 hi hz1 A0 c0 l0 (m : Int) (by omega) (by omega) hc0
  simp only [Int.toNat_natCast] at hcut hcr hcc
  have hrx := hcr w hr0
  have hxl : (l0.take m).length = m := by rw [List.length_take]; omega
  have hx0 : ∀ x ∈ l0.take m, 0 ≤ x ∧ x < 256 := fun x hx => h0 x (List.mem_of_mem_take hx)
  have hd0 : decide (900 < l0.length) = false := decide_eq_false (by omega)
  have hd0' : decide ((900 : Int) < (l0.length : Int)) = false := decide_eq_false (by omega)
  have hd1 : decide ((900 : Int) < (l1.length : Int)) = false := decide_eq_false (by omega)
  have Hlaw := Lib.hid (rp_law (l0.take m) l1 (by rw [hxl]; omega))
  generalize l0.take m = x at hcut hcr hcc hrx hxl hx0 Hlaw
  have Hxl := Lib.hid hxl
  rw [hxl] at hrx
  have Hm := Lib.hid hm
  rw [hxl] at hcut
  clear hm hxl hcr
  go_enter Try.func5, Try.ntmps5
  go_wp2_with (fail)
  refine (Haw.out _).mono ?_
  rintro e w1 ⟨rfl, hb⟩
  have hrx1 := ReadsInt.below hrx hb
  have hr11 := ReadsInt.below hr1 hb
  go_wp2_with (first
    | ((with_reducible refine at_dst 26 ?_); refine Kd.R_append_row (Value.int .u8) (0 : Int) (h1 := fun _ => rfl) (w0 := w) w.heap.size rfl (.tmp 24) (.tmp 25) 22 5 (.int .u8 0) 1 rfl Try.underlying22 Bld.infoByte rfl (by decide) _ [] x _ _ _ (fun _ => True) rfl rfl (fun _ _ => trivial) (by exact rp_own0 w1 _ hb.size) (by exact Kd.C_of_reads (d := (0 : Int)) (ReadsInt.below hrx1 (below_alloc (Below.refl _ _) _))) (by exact below_alloc hb _) (by exact (below_alloc hb _).size) (by have := Hxl.out; simp; omega) ?_; intro v2 w2 ho2 hb2 _ _; have HO2 := Aside0.mk ho2; have HB2 := Aside0.mk hb2; clear ho2 hb2)
    | ((with_reducible refine at_dst 28 ?_); refine Kd.R_append_row (Value.int .u8) (0 : Int) (h1 := fun _ => rfl) (w0 := w) w.heap.size rfl (.tmp 26) (.tmp 27) 22 5 (.int .u8 0) 1 rfl Try.underlying22 Bld.infoByte rfl (by decide) _ x l1 _ _ _ (fun _ => True) rfl rfl (fun _ _ => trivial) (by exact HO2.out) (by exact Kd.C_of_reads (d := (0 : Int)) (ReadsInt.below hr1 HB2.out)) (by exact HB2.out) (by exact HB2.out.size) (by have := Hxl.out; simp; omega) ?_; intro v3 w3 ho3 hb3 _ _; have HO3 := Aside0.mk ho3; have HB3 := Aside0.mk hb3; clear ho3 hb3; obtain ⟨A3, c3, e3⟩ := Kd.R_slice HO3.out; subst e3)
    | fail)
  have hR3 := Kd.R_reads' HO3.out
  rw [← List.length_append]
  refine (encode_walk _ _ (x ++ l1) _ (by exact Kd.reads_of_C (enc := Value.int .u8) (d := (0 : Int)) (h1 := fun _ => rfl) hR3.2.2) (by exact hR3.2.1) (by exact fun y hy => (List.mem_append.1 hy).elim (hx0 y) (h1 y)) (by have := Hxl.out; simp; omega)).mono ?_
  rintro e w4 ⟨rfl, hb4⟩
  have hb4' := below_step HB3.out hb4
  have hrx4 := ReadsInt.below hrx hb4'
  have hr14 := ReadsInt.below hr1 hb4'
  have hxl := Hxl.out
  go_wp2_with (fail)
  rw [← hxl]
  refine (encode_walk A0 c0 x _ (by rw [hxl]; exact hrx4) hcc hx0 (by omega)).mono ?_
  rintro e w5 ⟨rfl, hb5⟩
  have hb5' := below_step hb4' hb5
  have hr15 := ReadsInt.below hr1 hb5'
  clear hxl
  go_wp2_with (fail)
  refine (encode_walk A1 c1 l1 _ hr15 hc1 h1 (by omega)).mono ?_
  rintro e w6 ⟨rfl, hb6⟩
  have hb6' := below_step hb5' hb6
  have hs6 : (strOfNums (enc x)).size + (strOfNums (enc l1)).size ≤ 9223372036854775807 := by
    rw [strOfNums_size, strOfNums_size, enc_length, enc_length]
    have := Hxl.out
    omega
  have hs6' : (9223372036854775807 < (strOfNums (enc x)).size + (strOfNums (enc l1)).size) = False := eq_false (Nat.not_lt.2 hs6)
  have hs7 := eq_true hs6
  clear hs6
  go_wp2
  go_ret
  exact ⟨congrArg (fun b => Ending.returned (.bool b)) (beq_iff_eq.2 Hlaw.out), hb6'⟩

end Go.Proofs.Ytbbikibgfpokpaa.Rad
