/- The document's Encode: it comes to the same text. -/
import Derived.Test.YtbbikibgfpokpaaRadP
set_option linter.unusedVariables false
namespace Go.Proofs.Ytbbikibgfpokpaa.Rad
open Go.RowKit Go.Proofs.YtbbikibgfpokpaaW.PrintWords Go.Proofs.YtbbikibgfpokpaaW.PrintLast Go.Proofs.YtbbikibgfpokpaaW.PrintMore
attribute [local go_sem] max2_int min2_int max_two min_two

def tabB : ByteArray := ⟨#[65, 66, 67, 68, 69, 70, 71, 72, 73, 74, 75, 76, 77, 78, 79, 80, 81, 82, 83, 84, 85, 86, 87, 88, 89, 90, 97, 98, 99, 100, 101, 102, 103, 104, 105, 106, 107, 108, 109, 110, 111, 112, 113, 114, 115, 116, 117, 118, 119, 120, 121, 122, 48, 49, 50, 51, 52, 53, 54, 55, 56, 57, 43, 47]⟩
theorem bt_tab : ∀ n : Fin 64, bt tabB (n.val : Int) = sg (n.val : Int) := by decide +kernel
set_option maxHeartbeats 1000000 in
set_option maxRecDepth 100000 in
theorem sign_calls (n : Int) (h : 0 ≤ n) (h1 : n < 64) (w : World) :
    Calls Try.prog 16 #[.int .i64 n] w fun e w' => e = .returned (.int .u8 (sg n)) ∧ w' = w := by
  have hb : bt tabB n = sg n := by
    obtain ⟨m, rfl⟩ := Int.eq_ofNat_of_zero_le h
    exact bt_tab ⟨m, by omega⟩
  have hx := bt_at tabB n
  rw [hb] at hx
  unfold tabB at hx
  clear hb
  go_enter Try.func16, Try.ntmps16
  go_wp2
  go_ret
  exact ⟨rfl, rfl⟩

theorem getD_range {l : List Int} (h : ∀ x ∈ l, 0 ≤ x ∧ x < 256) (i : Nat) : 0 ≤ l.getD i 0 ∧ l.getD i 0 < 256 := rd_range h (i : Int)
theorem add_pos (a : Addr) (n : Nat) (h : 0 < n) : a.add n = { block := a.block, off := a.off + n } := by unfold Addr.add; rw [if_neg (by omega)]
theorem reads_lit (W : World) (xs : List Int) (hx : xs.length ≤ 1000) : ReadsInt (W.alloc (.cells (nums .u8 xs).toArray 5)) .u8 (some ⟨W.heap.size, 0, none⟩) xs.length xs := by
  refine ⟨rfl, by omega, fun _ => ⟨_, rfl, fun j hj => ?_⟩⟩
  have hadd : (⟨W.heap.size, 0, none⟩ : Addr).add j = ⟨W.heap.size, j, none⟩ := by unfold Addr.add; split <;> simp_all
  rw [hadd, Lib.cell_of_heap (heap_alloc_new W _)]
  simp [nums, List.getD_eq_getElem?_getD, List.getElem?_eq_getElem hj]
theorem app_form {W : World} {base : Nat} {v : Value} {acc q : List Int} (h : Kd.R (Kd.int .u8) 5 W base (fun _ => True) v (acc ++ q)) (hq : q.length = 4) :
    ∃ xs g cap, xs = acc ++ q ∧ v = .slice (some ⟨g, 0, none⟩) xs.length cap ∧ 4 ≤ xs.length ∧ xs.length ≤ acc.length + 4 ∧ base ≤ g ∧ Kd.R (Kd.int .u8) 5 W base (fun _ => True) (.slice (some ⟨g, 0, none⟩) xs.length cap) xs := by
  have hl : (acc ++ q).length = acc.length + 4 := by rw [List.length_append, hq]
  obtain ⟨g, cap, rfl, hg, _⟩ := Kd.R_form h (by omega)
  exact ⟨acc ++ q, g, cap, rfl, rfl, by omega, by omega, hg, h⟩
theorem put_n {W : World} {base g n cap : Nat} {xs : List Int} (h : Kd.R (Kd.int .u8) 5 W base (fun _ => True) (.slice (some ⟨g, 0, none⟩) n cap) xs) (hn : n = xs.length) (i : Nat) (hi : i < n) (x : Int) :
    W.cell? ⟨g, i, none⟩ = some (.int .u8 (xs.getD i 0)) ∧ W.frozen? ⟨g, i, none⟩ = false ∧ Kd.R (Kd.int .u8) 5 (W.setCell ⟨g, i, none⟩ (.int .u8 x)) base (fun _ => True) (.slice (some ⟨g, 0, none⟩) n cap) (xs.set i x) := by
  subst hn
  have h1 := Kd.R_cell (enc := Value.int .u8) (h1 := fun _ => rfl) (0 : Int) h (i : Int) (by omega) (by omega)
  have h2 := Kd.R_put (enc := Value.int .u8) (h1 := fun _ => rfl) h (i : Int) x
  simp only [Int.toNat_natCast] at h1 h2
  exact ⟨h1.1, h1.2, h2.1⟩
theorem qd1' {q : Int} (h : 0 ≤ q) (h1 : q < 16777216) : qd q ((1 : Nat) : Int) = [sg (q / 262144), sg (q / 4096 % 64), 61, 61] := by
  have e : q / 262144 % 64 = q / 262144 := by omega
  simp [qd, e]
theorem qd2' {q : Int} (h : 0 ≤ q) (h1 : q < 16777216) : qd q ((2 : Nat) : Int) = [sg (q / 262144), sg (q / 4096 % 64), sg (q / 64 % 64), 61] := by
  have e : q / 262144 % 64 = q / 262144 := by omega
  simp [qd, e]
theorem qd3' {q : Int} (h : 0 ≤ q) (h1 : q < 16777216) : qd q ((3 : Nat) : Int) = [sg (q / 262144), sg (q / 4096 % 64), sg (q / 64 % 64), sg (q % 64)] := by
  have e : q / 262144 % 64 = q / 262144 := by omega
  simp [qd, e]
theorem ref_round (l : List Int) (k : Nat) (hk : k < l.length) : enc (l.drop k) = qd (l.getD k 0 * 65536 + l.getD (k + 1) 0 * 256 + l.getD (k + 2) 0) ((min 3 (l.length - k) : Nat) : Int) ++ enc (l.drop (k + 3)) := by
  have hne : l.drop k ≠ [] := by intro h; have := congrArg List.length h; simp at this; omega
  have hrd : ∀ j : Nat, rd (l.drop k) (j : Int) = l.getD (k + j) 0 := fun j => by simp [rd, List.getD_eq_getElem?_getD, List.getElem?_drop]
  have h0 := hrd 0
  have h1 := hrd 1
  have h2 := hrd 2
  rw [enc_round _ hne]
  simp only [Int.natCast_zero, Nat.add_zero] at h0
  rw [show rd (l.drop k) 0 = l.getD k 0 from h0, show rd (l.drop k) 1 = l.getD (k + 1) 0 from h1, show rd (l.drop k) 2 = l.getD (k + 2) 0 from h2, List.length_take, List.length_drop, List.drop_drop]
theorem set_end1 (acc : List Int) (a b c d x : Int) : (acc ++ [a, b, c, d]).set ((acc ++ [a, b, c, d]).length - 2) x = acc ++ [a, b, x, d] := by
  have e : (acc ++ [a, b, c, d]).length - 2 = acc.length + 2 := by simp
  rw [e, List.set_append_right _ _ (by omega), Nat.add_sub_cancel_left]
  rfl
theorem set_end2 (acc : List Int) (a b c d x : Int) : (acc ++ [a, b, c, d]).set ((acc ++ [a, b, c, d]).length - 1) x = acc ++ [a, b, c, x] := by
  have e : (acc ++ [a, b, c, d]).length - 1 = acc.length + 3 := by simp
  rw [e, List.set_append_right _ _ (by omega), Nat.add_sub_cancel_left]
  rfl
theorem getD_out (l : List Int) (i : Nat) (h : l.length ≤ i) : l.getD i 0 = 0 := by rw [List.getD_eq_getElem?_getD, List.getElem?_eq_none h]; rfl
theorem own_nil (w : World) : Kd.R (Kd.int .u8) 5 w w.heap.size (fun _ => True) (.slice none 0 0) [] := Kd.R_nil _ _ _ _ _

set_option maxHeartbeats 2000000 in
set_option maxRecDepth 100000 in
theorem refEncode_walk (A : Option Addr) (c : Nat) (l : List Int) (w : World) (hr : ReadsInt w .u8 A l.length l) (hc : l.length ≤ c) (hw : ∀ x ∈ l, 0 ≤ x ∧ x < 256) (hl : l.length ≤ 1000000000) :
    Calls Try.prog 10 #[.slice A l.length c] w fun e w' => e = .returned (.string (strOfNums (enc l))) ∧ Below w.heap.size w w' := by
  go_enter Try.func10, Try.ntmps10
  go_wp2
  go_loopw [3, 4] (fun v i wr => ∃ (k : Nat) (acc : List Int), i = .int .i64 k ∧ Hid (enc l = acc ++ enc (l.drop k)) ∧ k ≤ l.length + 2 ∧ acc.length ≤ 4 * k ∧ Aside0 (Kd.R (Kd.int .u8) 5 wr w.heap.size (fun _ => True) v acc) ∧ Below w.heap.size w wr)
    (fun _ i _ => l.length + 3 - (intOf i).toNat)
  case atStart => exact ⟨0, [], rfl, rfl, by omega, by simp, ⟨own_nil w⟩, Below.refl _ _⟩
  case round =>
    obtain ⟨k, acc, rfl, he, hk, hacc, ho, hb⟩ := hrel
    by_cases hlt : k < l.length
    · obtain ⟨ad, hA, hcell⟩ := (ReadsInt.below hr hb).2.2 (by omega)
      subst hA
      clear hr
      have hd0 : decide ((k : Int) < (l.length : Int)) = true := decide_eq_true (by omega)
      obtain ⟨x, hx⟩ : ∃ x, x = l.getD k 0 := ⟨_, rfl⟩
      have k0 := hcell k hlt
      have hx1 : 0 ≤ x ∧ x < 256 := by rw [hx]; exact getD_range hw k
      rw [← hx] at k0
      have Hx := Lib.hid hx
      clear hx
      obtain ⟨hx1, hx2⟩ := hx1
      by_cases h2 : k + 2 < l.length
      · obtain ⟨y, hy⟩ : ∃ x, x = l.getD (k + 1) 0 := ⟨_, rfl⟩
        have k1 := hcell (k + 1) (by omega)
        rw [add_pos ad (k + 1) (by omega)] at k1
        have hy1 : 0 ≤ y ∧ y < 256 := by rw [hy]; exact getD_range hw (k + 1)
        rw [← hy] at k1
        have HY := Lib.hid hy
        clear hy
        obtain ⟨hy1, hy2⟩ := hy1
        obtain ⟨z, hz⟩ : ∃ x, x = l.getD (k + 2) 0 := ⟨_, rfl⟩
        have k2 := hcell (k + 2) (by omega)
        rw [add_pos ad (k + 2) (by omega)] at k2
        have hz1 : 0 ≤ z ∧ z < 256 := by rw [hz]; exact getD_range hw (k + 2)
        rw [← hz] at k2
        have HZ := Lib.hid hz
        clear hz
        obtain ⟨hz1, hz2⟩ := hz1
        clear hcell
        have hd1 : decide ((k : Int) + 1 < (l.length : Int)) = true := decide_eq_true (by omega)
        have hd2 : decide ((k : Int) + 2 < (l.length : Int)) = true := decide_eq_true (by omega)
        obtain ⟨Q, hQ⟩ : ∃ Q, x * 65536 + y * 256 + z = Q := ⟨_, rfl⟩
        have hQ0 : 0 ≤ Q := by omega
        have hQ1 : Q < 16777216 := by omega
        have hlaw : enc l = (acc ++ [sg (Q / 262144), sg (Q / 4096 % 64), sg (Q / 64 % 64), sg (Q % 64)]) ++ enc (l.drop (k + 3)) := by
          rw [he.out, ref_round l k hlt, ← Hx.out, ← HY.out, ← HZ.out, hQ, Nat.min_eq_left (by omega), qd3' hQ0 hQ1, List.append_assoc]
        have HL := Lib.hid hlaw
        clear hlaw he
        go_wp2_with fail
        refine (sign_calls (Q / 262144) (by omega) (by omega) _).mono ?_
        rintro e w1 ⟨rfl, rfl⟩
        go_wp2_with fail
        refine (sign_calls (Q / 4096 % 64) (by omega) (by omega) _).mono ?_
        rintro e w1 ⟨rfl, rfl⟩
        clear k0 k1 k2
        go_wp2_with (((with_reducible refine at_dst 54 ?_); (refine Kd.R_append_row (Value.int .u8) (0 : Int) (h1 := fun _ => rfl) (w0 := w) w.heap.size rfl (.tmp 45) (.tmp 53) 22 5 (.int .u8 0) 1 rfl Try.underlying22 Bld.infoByte rfl (by decide) _ acc [sg (Q / 262144), sg (Q / 4096 % 64), 61, 61] _ _ _ (fun _ => True) rfl rfl (fun _ _ => trivial) (by exact Kd.R_alloc ho.out _) (by exact Kd.C_of_reads (d := (0 : Int)) (reads_lit _ [sg (Q / 262144), sg (Q / 4096 % 64), 61, 61] (by simp))) (by exact below_alloc hb _) (by exact (below_alloc hb _).size) (by omega) ?_); intro v2 w2 ho2 hb2 _ _; obtain ⟨xs, g, cap, hxs, hv2, hL, hL2, hgB, ho3⟩ := app_form ho2 rfl; subst hv2; have HO2 := Aside0.mk ho3; have HB2 := Aside0.mk hb2; have HXS := Lib.hid hxs; clear ho2 ho3 hb2 hxs))
        refine (sign_calls (Q / 64 % 64) (by omega) (by omega) _).mono ?_
        rintro e w3 ⟨rfl, rfl⟩
        obtain ⟨hc2, hf2, hp2⟩ := put_n HO2.out rfl (xs.length - 2) (by omega) (sg (Q / 64 % 64))
        have HP2 := Aside0.mk hp2
        clear hp2
        go_wp2_with fail
        refine (sign_calls (Q % 64) (by omega) (by omega) _).mono ?_
        rintro e w4 ⟨rfl, rfl⟩
        obtain ⟨hc3, hf3, hp3⟩ := put_n HP2.out (by rw [List.length_set]) (xs.length - 1) (by omega) (sg (Q % 64))
        have HP3 := Aside0.mk hp3
        clear hp3 hc2 hf2
        go_wp2
        refine ⟨⟨k + 3, (xs.set (xs.length - 2) (sg (Q / 64 % 64))).set (xs.length - 1) (sg (Q % 64)), by go_num, ?_, by omega, by rw [List.length_set, List.length_set]; omega, ⟨by exact HP3.out⟩, by exact Below.setCell (Below.setCell HB2.out (p := ⟨g, xs.length - 2, none⟩) hgB _) (p := ⟨g, xs.length - 1, none⟩) hgB _⟩, by simp [intOf]; omega⟩
        show _ = _
        rw [HXS.out, set_end1]
        have e := set_end2 acc (sg (Q / 262144)) (sg (Q / 4096 % 64)) (sg (Q / 64 % 64)) 61 (sg (Q % 64))
        rw [show (acc ++ [sg (Q / 262144), sg (Q / 4096 % 64), 61, 61]).length - 1 = (acc ++ [sg (Q / 262144), sg (Q / 4096 % 64), sg (Q / 64 % 64), 61]).length - 1 by simp, e]
        exact HL.out
      · by_cases h3 : k + 1 < l.length
        · obtain ⟨y, hy⟩ : ∃ x, x = l.getD (k + 1) 0 := ⟨_, rfl⟩
          have k1 := hcell (k + 1) (by omega)
          rw [add_pos ad (k + 1) (by omega)] at k1
          have hy1 : 0 ≤ y ∧ y < 256 := by rw [hy]; exact getD_range hw (k + 1)
          rw [← hy] at k1
          have HY := Lib.hid hy
          clear hy
          obtain ⟨hy1, hy2⟩ := hy1
          clear hcell
          have hd1 : decide ((k : Int) + 1 < (l.length : Int)) = true := decide_eq_true (by omega)
          have hd2 : decide ((k : Int) + 2 < (l.length : Int)) = false := decide_eq_false (by omega)
          obtain ⟨Q, hQ⟩ : ∃ Q, x * 65536 + y * 256 = Q := ⟨_, rfl⟩
          have hQ0 : 0 ≤ Q := by omega
          have hQ1 : Q < 16777216 := by omega
          have hlaw : enc l = (acc ++ [sg (Q / 262144), sg (Q / 4096 % 64), sg (Q / 64 % 64), 61]) ++ enc (l.drop (k + 3)) := by
            rw [he.out, ref_round l k hlt, ← Hx.out, ← HY.out, getD_out l (k + 2) (by omega), Int.add_zero, hQ, show min 3 (l.length - k) = 2 by omega, qd2' hQ0 hQ1, List.append_assoc]
          have HL := Lib.hid hlaw
          clear hlaw he
          go_wp2_with fail
          refine (sign_calls (Q / 262144) (by omega) (by omega) _).mono ?_
          rintro e w1 ⟨rfl, rfl⟩
          go_wp2_with fail
          refine (sign_calls (Q / 4096 % 64) (by omega) (by omega) _).mono ?_
          rintro e w1 ⟨rfl, rfl⟩
          clear k0 k1
          go_wp2_with (((with_reducible refine at_dst 54 ?_); (refine Kd.R_append_row (Value.int .u8) (0 : Int) (h1 := fun _ => rfl) (w0 := w) w.heap.size rfl (.tmp 45) (.tmp 53) 22 5 (.int .u8 0) 1 rfl Try.underlying22 Bld.infoByte rfl (by decide) _ acc [sg (Q / 262144), sg (Q / 4096 % 64), 61, 61] _ _ _ (fun _ => True) rfl rfl (fun _ _ => trivial) (by exact Kd.R_alloc ho.out _) (by exact Kd.C_of_reads (d := (0 : Int)) (reads_lit _ [sg (Q / 262144), sg (Q / 4096 % 64), 61, 61] (by simp))) (by exact below_alloc hb _) (by exact (below_alloc hb _).size) (by omega) ?_); intro v2 w2 ho2 hb2 _ _; obtain ⟨xs, g, cap, hxs, hv2, hL, hL2, hgB, ho3⟩ := app_form ho2 rfl; subst hv2; have HO2 := Aside0.mk ho3; have HB2 := Aside0.mk hb2; have HXS := Lib.hid hxs; clear ho2 ho3 hb2 hxs))
          refine (sign_calls (Q / 64 % 64) (by omega) (by omega) _).mono ?_
          rintro e w3 ⟨rfl, rfl⟩
          obtain ⟨hc2, hf2, hp2⟩ := put_n HO2.out rfl (xs.length - 2) (by omega) (sg (Q / 64 % 64))
          have HP2 := Aside0.mk hp2
          clear hp2
          go_wp2
          refine ⟨⟨k + 3, xs.set (xs.length - 2) (sg (Q / 64 % 64)), by go_num, ?_, by omega, by rw [List.length_set]; omega, ⟨by exact HP2.out⟩, by exact Below.setCell HB2.out (p := ⟨g, xs.length - 2, none⟩) hgB _⟩, by simp [intOf]; omega⟩
          show _ = _
          rw [HXS.out, set_end1]
          exact HL.out
        · clear hcell
          have hd1 : decide ((k : Int) + 1 < (l.length : Int)) = false := decide_eq_false (by omega)
          have hd2 : decide ((k : Int) + 2 < (l.length : Int)) = false := decide_eq_false (by omega)
          obtain ⟨Q, hQ⟩ : ∃ Q, x * 65536 = Q := ⟨_, rfl⟩
          have hQ0 : 0 ≤ Q := by omega
          have hQ1 : Q < 16777216 := by omega
          have hlaw : enc l = (acc ++ [sg (Q / 262144), sg (Q / 4096 % 64), 61, 61]) ++ enc (l.drop (k + 3)) := by
            rw [he.out, ref_round l k hlt, ← Hx.out, getD_out l (k + 1) (by omega), getD_out l (k + 2) (by omega), Int.zero_mul, Int.add_zero, Int.add_zero, hQ, show min 3 (l.length - k) = 1 by omega, qd1' hQ0 hQ1, List.append_assoc]
          have HL := Lib.hid hlaw
          clear hlaw he
          go_wp2_with fail
          refine (sign_calls (Q / 262144) (by omega) (by omega) _).mono ?_
          rintro e w1 ⟨rfl, rfl⟩
          go_wp2_with fail
          refine (sign_calls (Q / 4096 % 64) (by omega) (by omega) _).mono ?_
          rintro e w1 ⟨rfl, rfl⟩
          clear k0
          go_wp2_with (((with_reducible refine at_dst 54 ?_); (refine Kd.R_append_row (Value.int .u8) (0 : Int) (h1 := fun _ => rfl) (w0 := w) w.heap.size rfl (.tmp 45) (.tmp 53) 22 5 (.int .u8 0) 1 rfl Try.underlying22 Bld.infoByte rfl (by decide) _ acc [sg (Q / 262144), sg (Q / 4096 % 64), 61, 61] _ _ _ (fun _ => True) rfl rfl (fun _ _ => trivial) (by exact Kd.R_alloc ho.out _) (by exact Kd.C_of_reads (d := (0 : Int)) (reads_lit _ [sg (Q / 262144), sg (Q / 4096 % 64), 61, 61] (by simp))) (by exact below_alloc hb _) (by exact (below_alloc hb _).size) (by omega) ?_); intro v2 w2 ho2 hb2 _ _; obtain ⟨xs, g, cap, hxs, hv2, hL, hL2, hgB, ho3⟩ := app_form ho2 rfl; subst hv2; have HO2 := Aside0.mk ho3; have HB2 := Aside0.mk hb2; have HXS := Lib.hid hxs; clear ho2 ho3 hb2 hxs))
          refine ⟨⟨k + 3, xs, by go_num, ?_, by omega, by omega, HO2, HB2.out⟩, by simp [intOf]; omega⟩
          show _ = _
          rw [HXS.out]
          exact HL.out
    · have hA : enc l = acc := by
        have h1 := he.out
        rw [List.drop_eq_nil_of_le (by omega)] at h1
        simpa [enc] using h1
      have HA := Lib.hid hA
      clear hA he
      have hd0 : decide ((k : Int) < (l.length : Int)) = false := decide_eq_false (by omega)
      have hcv := own_string (P := Try.prog) Try.underlying22 Try.underlying5 Try.underlying9 (Kd.own_of_R ho.out)
      go_wp2
      go_ret
      exact ⟨congrArg (fun z => Ending.returned (Value.string (strOfNums z))) HA.out.symm, hb⟩

end Go.Proofs.Ytbbikibgfpokpaa.Rad
