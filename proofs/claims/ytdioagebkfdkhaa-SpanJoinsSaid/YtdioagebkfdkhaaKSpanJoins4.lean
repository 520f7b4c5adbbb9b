/- Merged by a program of this session (wip/tools/pack.py). -/
import Derived.Test.YtdioagebkfdkhaaKSpanJoins3
section
set_option linter.unusedVariables false
set_option linter.unusedSimpArgs false
namespace Go.Proofs.Ytdioagebkfdkhaa.Ad
open Go.RowKit Go.Proofs.YtdioagebkfdkhaaW.PrintWords Go.Proofs.YtdioagebkfdkhaaW.PrintLast Go.Proofs.YtdioagebkfdkhaaW.PrintMore Go.Proofs.Ytdioagebkfdkhaa.PT

theorem ra_grown {W W' : World} {row : Option Nat} {b o : Nat} {cs : List Value} (h : W.rangeAt b o cs) (hg : W.grownBy W' row) (hne : some b ≠ row) : W'.rangeAt b o cs := fun j v hv => hg.cell (h j v hv) hne
theorem RowAt.grown {W W' : World} {row : Option Nat} {base g cap : Nat} {ys : List Spn} (h : RowAt W base g cap ys) (hg : W.grownBy W' row) (hne : some g ≠ row) : RowAt W' base g cap ys := by
 obtain ⟨cur, hc, hs⟩ := h.hcell
 have hlt := (Array.getElem?_eq_some_iff.1 hc).1
 exact ⟨h.hb, ⟨cur, (hg.block g hlt hne).trans hc, hs⟩, h.hl, h.hm, fun i hi => ra_grown (h.hr i hi) hg hne⟩
theorem ra_lt {W : World} {b o : Nat} {s : Spn} (h : W.rangeAt b o s.cells) : b < W.heap.size := World.block_lt_of_cell? _ _ (rs_v6 h)
/-- The first loop: the row so far. -/
def RjI (w0 : World) (row : List Spn) (rv : Value) (W : World) : Prop := kS.R 30 W w0.heap.size (fun _ => True) rv row ∧ Below w0.heap.size w0 W
/-- The second loop, a round: the row so far, the one at hand. -/
def RkS (w3 : World) (go co m : Nat) (out : List Spn) (z : Spn) (br os : Nat) (s : Spn) (W : World) : Prop :=
 RowAt W w3.heap.size go co out ∧ W.rangeAt go (m * 33) z.cells ∧ W.rangeAt br os s.cells ∧ Below w3.heap.size w3 W ∧ br < w3.heap.size
theorem RkS.step {w3 W W1 : World} {go co m : Nat} {out : List Spn} {z : Spn} {br os : Nat} {s : Spn} (h : RkS w3 go co m out z br os s W) (hB : Below W.heap.size W W1) : RkS w3 go co m out z br os s W1 :=
 ⟨h.1.below hB, ra_below h.2.1 hB, ra_below h.2.2.1 hB, h.2.2.2.1.trans (hB.mono h.2.2.2.1.size), h.2.2.2.2⟩
theorem RkS.far {w3 W : World} {go co m : Nat} {out : List Spn} {z : Spn} {br os : Nat} {s : Spn} (h : RkS w3 go co m out z br os s W) {g : Nat} (h1 : go < g) (h2 : w3.heap.size ≤ g) (a : A16) : RkS w3 go co m out z br os s (W.setRow g a.arr) :=
 have hg := grown_setRow W g a.arr
 ⟨h.1.grown hg (fun e => absurd (Option.some.inj e) (Nat.ne_of_lt h1)), ra_grown h.2.1 hg (fun e => absurd (Option.some.inj e) (Nat.ne_of_lt h1)), ra_grown h.2.2.1 hg (fun e => absurd (Option.some.inj e) (Nat.ne_of_lt (Nat.lt_of_lt_of_le h.2.2.2.2 h2))), below_setRow h.2.2.2.1 h2 _, h.2.2.2.2⟩

set_option maxHeartbeats 16000000 in
set_option maxRecDepth 100000 in
theorem refJoin_walk : JoinC 10 100000000 := by
 intro A c l w h hl
 have HL := Lib.hid h
 clear h
 go_enter Try.func10, Try.ntmps10
 go_wp2
 go_loopw [3, 4, 5] (fun rv iv _ wr => ∃ k : Nat, k ≤ l.length ∧ iv = .int .i64 k ∧ Hid (RjI w ((l.take k).foldl rowStep []) rv wr)) (fun _ iv _ _ => l.length - (intOf iv).toNat)
 case atStart => exact ⟨0, Nat.zero_le _, rfl, Lib.hid ⟨Kd.R_nil _ _ _ _ _, Below.refl _ _⟩⟩
 case round =>
  obtain ⟨k, hk, rfl, HX⟩ := hrel
  by_cases hkl : k < l.length
  ·obtain ⟨Ar, cr, hrv, hcr, hCr⟩ := Kd.R_reads HX.out.1
   subst hrv
   obtain ⟨bl, ol, hA, hR0⟩ := C_form (Kd.C_below HL.out HX.out.2) (by omega)
   subst hA
   obtain ⟨s, hs⟩ : ∃ s, s = l[k] := ⟨_, rfl⟩
   have hq := hR0 k hkl
   rw [← hs] at hq
   have hft := row_take l k hkl
   rw [← hs] at hft
   have hol := row_len (l.take k) []
   rw [List.length_take, List.length_nil] at hol
   generalize hrow : (l.take k).foldl rowStep [] = row at hcr hCr hft hol ⊢
   have hX1 := HX.out.1
   rw [hrow] at hX1
   have H3 : Hid (RjI w row (.slice Ar row.length cr) wr ∧ kS.C wr Ar row.length row ∧ wr.rangeAt bl (ol + k * 33) s.cells) := Lib.hid ⟨⟨hX1, HX.out.2⟩, hCr, hq⟩
   have HFT := Lib.hid hft
   clear hq hs hft hrow hX1 hR0 hCr HX
   have hd1 := eq_true (show (k : Int) < (l.length : Int) by omega)
   have hd2 : decide ((k : Int) < (l.length : Int)) = true := decide_eq_true (by omega)
   have hd3 : decide (k < l.length) = true := decide_eq_true hkl
   obtain ⟨b, hb⟩ : ∃ b, b = rightS s := ⟨_, rfl⟩
   have hright : ∀ W, Calls Try.prog 31 #[.agg s.arr] W fun e w' => e = .returned (.bool b) ∧ Gw W w' := fun W => by rw [hb]; exact refRightS_walk s W
   have hst : rowStep row s = if b = true then insS row s else row := by rw [hb]; rfl
   have HST := Lib.hid hst
   clear hb hst
   go_wp2_with (first
    | ((with_reducible refine at_dst 20 ?_); refine loadS s bl (ol + k * 33) rfl H3.out.2.2 ?_))
   refine (hright _).mono ?_
   rintro e w4 ⟨rfl, hB⟩
   have H4 : Hid (RjI w row (.slice Ar row.length cr) w4 ∧ kS.C w4 Ar row.length row ∧ w4.rangeAt bl (ol + k * 33) s.cells) := Lib.hid ⟨⟨Kd.R_below H3.out.1.1 hB.below, H3.out.1.2.trans (hB.below.mono H3.out.1.2.size)⟩, Kd.C_below H3.out.2.1 hB.below, ra_below H3.out.2.2 hB.below⟩
   clear hright hB H3
   cases b
   ·go_wp2
    go_roundw
    case rel => exact ⟨k + 1, by omega, by go_num, Lib.hid (by rw [HFT.out, HST.out, if_neg (by simp)]; exact H4.out.1)⟩
    case measure => simp [intOf]; omega
   ·go_wp2
    go_loopw [5] (fun jv wi => ∃ j : Nat, j ≤ row.length ∧ jv = .int .i64 j ∧ Hid ((∀ i (hi : i < row.length), i < j → aheadS row[i] s = true) ∧ Below w4.heap.size w4 wi)) (fun jv _ => row.length - (intOf jv).toNat)
    case atStart => exact ⟨0, Nat.zero_le _, rfl, Lib.hid ⟨fun i _ h => by omega, Below.refl _ _⟩⟩
    case round =>
     obtain ⟨j, hj, rfl, HI⟩ := hrel
     have H5 : Hid (RjI w row (.slice Ar row.length cr) wr ∧ kS.C wr Ar row.length row ∧ wr.rangeAt bl (ol + k * 33) s.cells) := Lib.hid ⟨⟨Kd.R_below H4.out.1.1 HI.out.2, H4.out.1.2.trans (HI.out.2.mono H4.out.1.2.size)⟩, Kd.C_below H4.out.2.1 HI.out.2, ra_below H4.out.2.2 HI.out.2⟩
     by_cases hjr : j < row.length
     ·skip
      obtain ⟨br, orr, hAr, hrr⟩ := C_form H5.out.2.1 (by omega)
      obtain ⟨t, ht⟩ : ∃ t, t = row[j] := ⟨_, rfl⟩
      have htr := hrr j hjr
      rw [← ht] at htr
      subst hAr
      obtain ⟨q, hq⟩ : ∃ q, q = aheadS t s := ⟨_, rfl⟩
      have hahead : ∀ W, Calls Try.prog 32 #[.agg t.arr, .agg s.arr] W fun e w' => e = .returned (.bool q) ∧ Gw W w' := fun W => by rw [hq]; exact ahead_walk t s W
      have HQ := Lib.hid (And.intro hq ht)
      have hj1 := eq_true (show (j : Int) < (row.length : Int) by omega)
      have hj2 : decide ((j : Int) < (row.length : Int)) = true := decide_eq_true (by omega)
      have hj3 : decide (j < row.length) = true := decide_eq_true hjr
      have hi1 := eq_true (show (k : Int) < (l.length : Int) by omega)
      clear hrr hq ht
      go_wp2
      refine start_ (n := 15) (S := fun W => W.rangeAt br (orr + j * 33) t.cells ∧ W.rangeAt bl (ol + k * 33) s.cells ∧ Below w4.heap.size w4 W) (ds := []) #[false, false, false, false, false, false, false, false, false, false, false, false, false, false, false] (by kernel_rfl) rfl rfl ⟨htr, H5.out.2.2, HI.out.2.drew⟩ (fun hHeld => ?_)
      refine pure_ (i := 0) (N := some 23) (v := ?_) (a' := ?_) #[true, false, false, false, false, false, false, false, false, false, false, false, false, false, false] rfl rfl (by kernel_rfl) (fun _ _ _ h => h) (Or.inl ⟨by rfl, ?_⟩) ?_ ?_
      rotate_left
      ·intro w'
       go_simp
       with_reducible rfl
      rotate_left
      ·simp only [Act.put, List.setIfInBounds_toArray, List.set_cons_zero, List.set_cons_succ, i64_w, i32_w]
       rfl
      refine pure_ (i := 1) (N := some 24) (v := ?_) (a' := ?_) #[true, true, false, false, false, false, false, false, false, false, false, false, false, false, false] rfl rfl (by kernel_rfl) (fun _ _ _ h => h) (Or.inl ⟨by rfl, ?_⟩) ?_ ?_
      rotate_left
      ·intro w'
       go_simp
       with_reducible rfl
      rotate_left
      ·simp only [Act.put, List.setIfInBounds_toArray, List.set_cons_zero, List.set_cons_succ, i64_w, i32_w]
       rfl
      refine pure_ (i := 2) (N := some 25) (v := ?_) (a' := ?_) #[true, true, true, false, false, false, false, false, false, false, false, false, false, false, false] rfl rfl (by kernel_rfl) (fun _ _ _ h => h) (Or.inl ⟨by rfl, ?_⟩) ?_ ?_
      rotate_left
      ·intro w'
       go_simp
       with_reducible rfl
      rotate_left
      ·simp only [Act.put, List.setIfInBounds_toArray, List.set_cons_zero, List.set_cons_succ, i64_w, i32_w]
       rfl
      refine pure_ (i := 3) (N := some 26) (v := ?_) (a' := ?_) #[true, true, true, true, false, false, false, false, false, false, false, false, false, false, false] rfl rfl (by kernel_rfl) (fun _ _ _ h => h) (Or.inl ⟨by rfl, ?_⟩) ?_ ?_
      rotate_left
      ·intro w'
       go_simp
       with_reducible rfl
      rotate_left
      ·simp only [Act.put, List.setIfInBounds_toArray, List.set_cons_zero, List.set_cons_succ, i64_w, i32_w]
       rfl
      refine pure_ (i := 4) (N := some 27) (v := ?_) (a' := ?_) #[true, true, true, true, true, false, false, false, false, false, false, false, false, false, false] rfl rfl (by kernel_rfl) (fun _ _ _ h => h) (Or.inl ⟨by rfl, ?_⟩) ?_ ?_
      rotate_left
      ·intro w'
       go_simp
       with_reducible rfl
      rotate_left
      ·simp only [Act.put, List.setIfInBounds_toArray, List.set_cons_zero, List.set_cons_succ, i64_w, i32_w]
       rfl
      refine pure_ (i := 5) (N := some 28) (v := ?_) (a' := ?_) #[true, true, true, true, true, true, false, false, false, false, false, false, false, false, false] rfl rfl (by kernel_rfl) (fun _ _ _ h => h) (Or.inl ⟨by rfl, ?_⟩) ?_ ?_
      rotate_left
      ·intro w'
       go_simp
       with_reducible rfl
      rotate_left
      ·simp only [Act.put, List.setIfInBounds_toArray, List.set_cons_zero, List.set_cons_succ, i64_w, i32_w]
       rfl
      refine pure_ (i := 6) (N := some 29) (v := ?_) (a' := ?_) #[true, true, true, true, true, true, true, false, false, false, false, false, false, false, false] rfl rfl (by kernel_rfl) (fun _ _ _ h => h) (Or.inl ⟨by rfl, ?_⟩) ?_ ?_
      rotate_left
      ·intro w'
       go_simp
       with_reducible rfl
      rotate_left
      ·simp only [Act.put, List.setIfInBounds_toArray, List.set_cons_zero, List.set_cons_succ, i64_w, i32_w]
       rfl
      refine pure_ (i := 7) (N := some 30) (v := ?_) (a' := ?_) #[true, true, true, true, true, true, true, true, false, false, false, false, false, false, false] rfl rfl (by kernel_rfl) (fun _ _ _ h => h) (Or.inl ⟨by rfl, ?_⟩) ?_ ?_
      rotate_left
      ·intro w'
       go_simp
       with_reducible rfl
      rotate_left
      ·simp only [Act.put, List.setIfInBounds_toArray, List.set_cons_zero, List.set_cons_succ, i64_w, i32_w]
       rfl
      refine take_ (i := 8) (N := some 31) (v := .agg t.arr) (a' := ?_) #[true, true, true, true, true, true, true, true, true, false, false, false, false, false, false] rfl rfl (by kernel_rfl) (fun _ _ _ h => h) ?_ hHeld ?_ ?_
      ·exact yS (by rfl) rfl t br (orr + j * 33) rfl (fun W h => h.1)
      rotate_left
      ·simp only [Act.put, List.setIfInBounds_toArray, List.set_cons_zero, List.set_cons_succ, i64_w, i32_w]
       rfl
      refine pure_ (i := 9) (N := some 32) (v := ?_) (a' := ?_) #[true, true, true, true, true, true, true, true, true, true, false, false, false, false, false] rfl rfl (by kernel_rfl) (fun _ _ _ h => h) (Or.inl ⟨by rfl, ?_⟩) ?_ ?_
      rotate_left
      ·intro w'
       go_simp
       with_reducible rfl
      rotate_left
      ·simp only [Act.put, List.setIfInBounds_toArray, List.set_cons_zero, List.set_cons_succ, i64_w, i32_w]
       rfl
      refine pure_ (i := 10) (N := some 33) (v := ?_) (a' := ?_) #[true, true, true, true, true, true, true, true, true, true, true, false, false, false, false] rfl rfl (by kernel_rfl) (fun _ _ _ h => h) (Or.inl ⟨by rfl, ?_⟩) ?_ ?_
      rotate_left
      ·intro w'
       go_simp
       with_reducible rfl
      rotate_left
      ·simp only [Act.put, List.setIfInBounds_toArray, List.set_cons_zero, List.set_cons_succ, i64_w, i32_w]
       rfl
      refine pure_ (i := 11) (N := some 34) (v := ?_) (a' := ?_) #[true, true, true, true, true, true, true, true, true, true, true, true, false, false, false] rfl rfl (by kernel_rfl) (fun _ _ _ h => h) (Or.inl ⟨by rfl, ?_⟩) ?_ ?_
      rotate_left
      ·intro w'
       go_simp
       with_reducible rfl
      rotate_left
      ·simp only [Act.put, List.setIfInBounds_toArray, List.set_cons_zero, List.set_cons_succ, i64_w, i32_w]
       rfl
      refine take_ (i := 12) (N := some 35) (v := .agg s.arr) (a' := ?_) #[true, true, true, true, true, true, true, true, true, true, true, true, true, false, false] rfl rfl (by kernel_rfl) (fun _ _ _ h => h) ?_ hHeld ?_ ?_
      ·exact yS (by rfl) rfl s bl (ol + k * 33) rfl (fun W h => h.2.1)
      rotate_left
      ·simp only [Act.put, List.setIfInBounds_toArray, List.set_cons_zero, List.set_cons_succ, i64_w, i32_w]
       rfl
      refine one_ (i := 13) (N := some 36) #[true, true, true, true, true, true, true, true, true, true, true, true, true, true, false] rfl rfl (by kernel_rfl) (by decide) (fun K hK => ?_)
      refine goes_ Try.func32 (by kernel_rfl) rfl #[.agg t.arr, .agg s.arr] (by rfl) rfl rfl (by (try simp only [List.map_toArray, List.map_cons, List.map_nil]); first | done | rfl) ?_
      refine (hahead _).mono ?_
      rintro e w6 ⟨rfl, hB⟩
      refine ⟨_, rfl, ?_⟩
      refine hK.out _ _ ⟨ra_below hHeld.1 hB.below, ra_below hHeld.2.1 hB.below, hHeld.2.2.trans (hB.below.mono hHeld.2.2.size)⟩ (fun hHeld => ?_)
      clear hK K
      refine norm_ (a' := ?_) ?_ ?_
      rotate_left
      ·show Act.put _ (some 36) _ = _
       simp only [Act.put, List.setIfInBounds_toArray, List.set_cons_zero, List.set_cons_succ, i64_w, i32_w]
       rfl
      refine pure_ (i := 14) (N := some 37) (v := ?_) (a' := ?_) #[true, true, true, true, true, true, true, true, true, true, true, true, true, true, true] rfl rfl (by kernel_rfl) (fun _ _ _ h => h) (Or.inl ⟨by rfl, ?_⟩) ?_ ?_
      rotate_left
      ·intro w'
       go_simp
       with_reducible rfl
      rotate_left
      ·simp only [Act.put, List.setIfInBounds_toArray, List.set_cons_zero, List.set_cons_succ, i64_w, i32_w]
       rfl
      refine done_ (by kernel_rfl) ?_
      clear hahead htr
      cases q
      ·have hatj : atS row s = j := atS_of hj HI.out.1 (fun hj' => by have := HQ.out.1; rw [HQ.out.2] at this; exact this.symm)
       obtain ⟨wo, hwo⟩ : ∃ wo, wo = w6 := ⟨_, rfl⟩
       have H6 : Hid (RjI w row (.slice (some ⟨br, orr, none⟩) row.length cr) wo ∧ kS.C wo (some ⟨br, orr, none⟩) row.length row ∧ wo.rangeAt bl (ol + k * 33) s.cells ∧ atS row s = j) := by
        rw [hwo]
        exact Lib.hid ⟨⟨Kd.R_below H4.out.1.1 hHeld.2.2, H4.out.1.2.trans (hHeld.2.2.mono H4.out.1.2.size)⟩, Kd.C_below H4.out.2.1 hHeld.2.2, ra_below H4.out.2.2 hHeld.2.2, hatj⟩
       rw [← hwo]
       clear hwo hHeld hatj
       obtain ⟨A5, c5, hdr, hC5⟩ := dropS (some ⟨br, orr, none⟩) cr row j hj hcr
       have htk := takeS (some ⟨br, orr, none⟩) cr row j hj hcr
       have HCo : Hid (kS.C wo (some ⟨br, orr, none⟩) j (row.take j) ∧ kS.C wo A5 (row.length - j) (row.drop j)) := Lib.hid ⟨by have := Kd.C_take H6.out.2.1 (m := j) hj; rwa [List.length_take, Nat.min_eq_left hj] at this, hC5 wo H6.out.2.1⟩
       have hi1 := eq_true (show (k : Int) < (l.length : Int) by omega)
       clear hC5
       go_wp2
       refine start_ (n := 16) (S := fun W => Below wo.heap.size wo W) (ds := []) #[false, false, false, false, false, false, false, false, false, false, false, false, false, false, false, false] (by kernel_rfl) rfl rfl (Below.refl _ _).drew (fun hHeld => ?_)
       refine pure_ (i := 1) (N := some 41) (v := ?_) (a' := ?_) #[false, true, false, false, false, false, false, false, false, false, false, false, false, false, false, false] rfl rfl (by kernel_rfl) (fun _ _ _ h => h) (Or.inl ⟨by rfl, ?_⟩) ?_ ?_
       rotate_left
       ·intro w'
        go_simp
        with_reducible rfl
       rotate_left
       ·simp only [Act.put, List.setIfInBounds_toArray, List.set_cons_zero, List.set_cons_succ, i64_w, i32_w]
        rfl
       refine pure_ (i := 2) (N := some 42) (v := ?_) (a' := ?_) #[false, true, true, false, false, false, false, false, false, false, false, false, false, false, false, false] rfl rfl (by kernel_rfl) (fun _ _ _ h => h) (Or.inl ⟨by rfl, ?_⟩) ?_ ?_
       rotate_left
       ·intro w'
        go_simp
        with_reducible rfl
       rotate_left
       ·simp only [Act.put, List.setIfInBounds_toArray, List.set_cons_zero, List.set_cons_succ, i64_w, i32_w]
        rfl
       refine pure_ (i := 3) (N := some 43) (v := ?_) (a' := ?_) #[false, true, true, true, false, false, false, false, false, false, false, false, false, false, false, false] rfl rfl (by kernel_rfl) (fun _ _ _ h => h) (Or.inl ⟨by rfl, ?_⟩) ?_ ?_
       rotate_left
       ·intro w'
        go_simp
        with_reducible rfl
       rotate_left
       ·simp only [Act.put, List.setIfInBounds_toArray, List.set_cons_zero, List.set_cons_succ, i64_w, i32_w]
        rfl
       refine pure_ (i := 5) (N := some 45) (v := ?_) (a' := ?_) #[false, true, true, true, false, true, false, false, false, false, false, false, false, false, false, false] rfl rfl (by kernel_rfl) (fun _ _ _ h => h) (Or.inl ⟨by rfl, ?_⟩) ?_ ?_
       rotate_left
       ·intro w'
        go_simp
        with_reducible rfl
       rotate_left
       ·simp only [Act.put, List.setIfInBounds_toArray, List.set_cons_zero, List.set_cons_succ, i64_w, i32_w]
        rfl
       refine pure_ (i := 6) (N := some 46) (v := ?_) (a' := ?_) #[false, true, true, true, false, true, true, false, false, false, false, false, false, false, false, false] rfl rfl (by kernel_rfl) (fun _ _ _ h => h) (Or.inl ⟨by rfl, ?_⟩) ?_ ?_
       rotate_left
       ·intro w'
        go_simp
        with_reducible rfl
       rotate_left
       ·simp only [Act.put, List.setIfInBounds_toArray, List.set_cons_zero, List.set_cons_succ, i64_w, i32_w]
        rfl
       refine pure_ (i := 7) (N := some 47) (v := ?_) (a' := ?_) #[false, true, true, true, false, true, true, true, false, false, false, false, false, false, false, false] rfl rfl (by kernel_rfl) (fun _ _ _ h => h) (Or.inl ⟨by rfl, ?_⟩) ?_ ?_
       rotate_left
       ·intro w'
        go_simp
        with_reducible rfl
       rotate_left
       ·simp only [Act.put, List.setIfInBounds_toArray, List.set_cons_zero, List.set_cons_succ, i64_w, i32_w]
        rfl
       refine pure_ (i := 11) (N := some 51) (v := ?_) (a' := ?_) #[false, true, true, true, false, true, true, true, false, false, false, true, false, false, false, false] rfl rfl (by kernel_rfl) (fun _ _ _ h => h) (Or.inl ⟨by rfl, ?_⟩) ?_ ?_
       rotate_left
       ·intro w'
        go_simp
        with_reducible rfl
       rotate_left
       ·simp only [Act.put, List.setIfInBounds_toArray, List.set_cons_zero, List.set_cons_succ, i64_w, i32_w]
        rfl
       refine pure_ (i := 12) (N := some 52) (v := ?_) (a' := ?_) #[false, true, true, true, false, true, true, true, false, false, false, true, true, false, false, false] rfl rfl (by kernel_rfl) (fun _ _ _ h => h) (Or.inl ⟨by rfl, ?_⟩) ?_ ?_
       rotate_left
       ·intro w'
        go_simp
        with_reducible rfl
       rotate_left
       ·simp only [Act.put, List.setIfInBounds_toArray, List.set_cons_zero, List.set_cons_succ, i64_w, i32_w]
        rfl
       refine pure_ (i := 13) (N := some 53) (v := ?_) (a' := ?_) #[false, true, true, true, false, true, true, true, false, false, false, true, true, true, false, false] rfl rfl (by kernel_rfl) (fun _ _ _ h => h) (Or.inl ⟨by rfl, ?_⟩) ?_ ?_
       rotate_left
       ·intro w'
        go_simp
        with_reducible rfl
       rotate_left
       ·simp only [Act.put, List.setIfInBounds_toArray, List.set_cons_zero, List.set_cons_succ, i64_w, i32_w]
        rfl
       refine take_ (i := 8) (N := some 48) (v := .agg s.arr) (a' := ?_) #[false, true, true, true, false, true, true, true, true, false, false, true, true, true, false, false] rfl rfl (by kernel_rfl) (fun _ _ _ h => h) ?_ hHeld ?_ ?_
       ·exact yS (by rfl) rfl s bl (ol + k * 33) rfl (fun W h => ra_below H6.out.2.2.1 h)
       rotate_left
       ·simp only [Act.put, List.setIfInBounds_toArray, List.set_cons_zero, List.set_cons_succ, i64_w, i32_w]
        rfl
       generalize wo.drew = wz at hHeld ⊢
       refine join_ (σ := Value × Value × Value × Value × Value) 1 #[true, true, true, true, true, true, true, true, true, true, true, true, true, true, true, false] (fun σ => [(40, σ.1), (44, σ.2.1), (49, σ.2.2.1), (50, σ.2.2.2.1), (54, σ.2.2.2.2)]) (fun σ W => Below wo.heap.size wo W ∧ kS.R 30 W wo.heap.size (fun _ => True) σ.2.2.2.2 ((row.take j ++ [s]) ++ row.drop j)) ?_ ?_
       rotate_left
       ·intro hJ
        simp only [putAll, Act.put, List.setIfInBounds_toArray, List.set_cons_zero, List.set_cons_succ, i64_w, i32_w] at hJ
        refine two_ (i := 0) (j := 9) (Ni := some 40) (Nj := some 49) #[true, true, true, true, false, true, true, true, true, false, false, true, true, true, false, false] #[false, true, true, true, false, true, true, true, true, true, false, true, true, true, false, false] rfl rfl rfl rfl (by kernel_rfl) (by decide) (by decide) (fun K hK => ?_) (fun K hK => ?_)
        ·refine event_step (by rfl) (v := .slice (some ⟨wz.heap.size, 0, none⟩) 0 0) (w1 := wz.alloc (.cells #[] 30)) (by go_simp; try rfl) ?_
         have hR := R_none wz wo.heap.size hHeld.size
         refine hK.out _ _ (hHeld.trans ((show Below wz.heap.size wz (wz.alloc (.cells #[] 30)) from ((Below.refl _ _).alloc (Nat.le_refl _) _)).mono hHeld.size)) (fun hHeld => ?_)
         clear hK K
         refine norm_ (a' := ?_) ?_ ?_
         rotate_left
         ·show Act.put _ (some 40) _ = _
          simp only [Act.put, List.setIfInBounds_toArray, List.set_cons_zero, List.set_cons_succ, i64_w, i32_w]
          rfl
         generalize wz.alloc (.cells #[] 30) = wa40 at hHeld hR ⊢
         refine two_ (i := 4) (j := 9) (Ni := some 44) (Nj := some 49) #[true, true, true, true, true, true, true, true, true, false, false, true, true, true, false, false] #[true, true, true, true, false, true, true, true, true, true, false, true, true, true, false, false] rfl rfl rfl rfl (by kernel_rfl) (by decide) (by decide) (fun K hK => ?_) (fun K hK => ?_)
         ·refine appRows (w0 := wo) wo.heap.size (by rfl) (.tmp 40) (.tmp 43) rfl (.slice (some ⟨wz.heap.size, 0, none⟩) 0 0 : Value) [] (row.take j) (some ⟨br, orr, none⟩) j cr rfl rfl hR (Kd.C_below HCo.out.1 hHeld) hHeld hHeld.size (by first | omega | (simp; omega)) ?_
          intro v44 wb44 hR' hB' hg hat
          clear hR hg hat
          have hR := hR'
          clear hR'
          rw [List.nil_append] at hR
          refine hK.out _ _ hB' (fun hHeld => ?_)
          clear hK K
          refine norm_ (a' := ?_) ?_ ?_
          rotate_left
          ·show Act.put _ (some 44) _ = _
           simp only [Act.put, List.setIfInBounds_toArray, List.set_cons_zero, List.set_cons_succ, i64_w, i32_w]
           rfl
          clear hB'
          refine one_ (i := 9) (N := some 49) #[true, true, true, true, true, true, true, true, true, true, false, true, true, true, false, false] rfl rfl (by kernel_rfl) (by decide) (fun K hK => ?_)
          refine event_step (by rfl) (v := .slice (some ⟨wb44.heap.size, 0, none⟩) 1 1) (w1 := wb44.alloc (.cells s.arr 30)) (exec_buildS s rfl _) ?_
          have hne : some wb44.heap.size ≠ v44.ownBlock := fun e => absurd (R_own hR _ e.symm) (Nat.lt_irrefl _)
          replace hR := Kd.R_below hR (show Below wb44.heap.size wb44 (wb44.alloc (.cells s.arr 30)) from ((Below.refl _ _).alloc (Nat.le_refl _) _))
          have hV := Has.new wb44 s.arr 30
          refine hK.out _ _ (hHeld.trans ((show Below wb44.heap.size wb44 (wb44.alloc (.cells s.arr 30)) from ((Below.refl _ _).alloc (Nat.le_refl _) _)).mono hHeld.size)) (fun hHeld => ?_)
          clear hK K
          refine norm_ (a' := ?_) ?_ ?_
          rotate_left
          ·show Act.put _ (some 49) _ = _
           simp only [Act.put, List.setIfInBounds_toArray, List.set_cons_zero, List.set_cons_succ, i64_w, i32_w]
           rfl
          generalize wb44.alloc (.cells s.arr 30) = wc49 at hHeld hR hV ⊢
          refine one_ (i := 10) (N := some 50) #[true, true, true, true, true, true, true, true, true, true, true, true, true, true, false, false] rfl rfl (by kernel_rfl) (by decide) (fun K hK => ?_)
          refine appRows (w0 := wo) wo.heap.size (by rfl) (.tmp 44) (.tmp 49) rfl v44 (row.take j) [s] (some ⟨wb44.heap.size, 0, none⟩) 1 1 rfl rfl hR (C_one hV) hHeld hHeld.size (by first | omega | (simp; omega)) ?_
          intro v50 wd50 hR' hB' hg hat
          clear hR hg hat
          have hR := hR'
          clear hR'
          refine hK.out _ _ hB' (fun hHeld => ?_)
          clear hK K
          refine norm_ (a' := ?_) ?_ ?_
          rotate_left
          ·show Act.put _ (some 50) _ = _
           simp only [Act.put, List.setIfInBounds_toArray, List.set_cons_zero, List.set_cons_succ, i64_w, i32_w]
           rfl
          clear hB'
          refine one_ (i := 14) (N := some 54) #[true, true, true, true, true, true, true, true, true, true, true, true, true, true, true, false] rfl rfl (by kernel_rfl) (by decide) (fun K hK => ?_)
          refine appRows (w0 := wo) wo.heap.size (by rfl) (.tmp 50) (.tmp 53) rfl v50 ((row.take j) ++ [s]) (row.drop j) A5 (row.length - j) c5 rfl rfl hR (Kd.C_below HCo.out.2 hHeld) hHeld hHeld.size (by first | omega | (simp; omega)) ?_
          intro v54 we54 hR' hB' hg hat
          clear hR hg hat
          have hR := hR'
          clear hR'
          refine hK.out _ _ hB' (fun hHeld => ?_)
          clear hK K
          refine norm_ (a' := ?_) ?_ ?_
          rotate_left
          ·show Act.put _ (some 54) _ = _
           simp only [Act.put, List.setIfInBounds_toArray, List.set_cons_zero, List.set_cons_succ, i64_w, i32_w]
           rfl
          clear hB'
          exact hJ (_, _, _, _, _) _ ⟨hHeld, hR⟩
         ·refine event_step (by rfl) (v := .slice (some ⟨wa40.heap.size, 0, none⟩) 1 1) (w1 := wa40.alloc (.cells s.arr 30)) (exec_buildS s rfl _) ?_
          have hne : some wa40.heap.size ≠ (.slice (some ⟨wz.heap.size, 0, none⟩) 0 0 : Value).ownBlock := fun e => absurd (R_own hR _ e.symm) (Nat.lt_irrefl _)
          replace hR := Kd.R_below hR (show Below wa40.heap.size wa40 (wa40.alloc (.cells s.arr 30)) from ((Below.refl _ _).alloc (Nat.le_refl _) _))
          have hV := Has.new wa40 s.arr 30
          refine hK.out _ _ (hHeld.trans ((show Below wa40.heap.size wa40 (wa40.alloc (.cells s.arr 30)) from ((Below.refl _ _).alloc (Nat.le_refl _) _)).mono hHeld.size)) (fun hHeld => ?_)
          clear hK K
          refine norm_ (a' := ?_) ?_ ?_
          rotate_left
          ·show Act.put _ (some 49) _ = _
           simp only [Act.put, List.setIfInBounds_toArray, List.set_cons_zero, List.set_cons_succ, i64_w, i32_w]
           rfl
          generalize wa40.alloc (.cells s.arr 30) = wb49 at hHeld hR hV ⊢
          refine one_ (i := 4) (N := some 44) #[true, true, true, true, true, true, true, true, true, true, false, true, true, true, false, false] rfl rfl (by kernel_rfl) (by decide) (fun K hK => ?_)
          refine appRows (w0 := wo) wo.heap.size (by rfl) (.tmp 40) (.tmp 43) rfl (.slice (some ⟨wz.heap.size, 0, none⟩) 0 0 : Value) [] (row.take j) (some ⟨br, orr, none⟩) j cr rfl rfl hR (Kd.C_below HCo.out.1 hHeld) hHeld hHeld.size (by first | omega | (simp; omega)) ?_
          intro v44 wc44 hR' hB' hg hat
          have hne' : some wa40.heap.size ≠ v44.ownBlock := by
           rcases hat with e | ⟨b, e, hb⟩
           ·rw [e]; exact hne
           ·rw [e]; have := hV.lt; simp only [ne_eq, Option.some.injEq]; omega
          replace hV : Has wc44 wa40.heap.size s.arr 30 := (hg.block _ hV.lt hne).trans hV
          clear hne
          have hne := hne'
          clear hne'
          clear hR hg hat
          have hR := hR'
          clear hR'
          rw [List.nil_append] at hR
          refine hK.out _ _ hB' (fun hHeld => ?_)
          clear hK K
          refine norm_ (a' := ?_) ?_ ?_
          rotate_left
          ·show Act.put _ (some 44) _ = _
           simp only [Act.put, List.setIfInBounds_toArray, List.set_cons_zero, List.set_cons_succ, i64_w, i32_w]
           rfl
          clear hB'
          refine one_ (i := 10) (N := some 50) #[true, true, true, true, true, true, true, true, true, true, true, true, true, true, false, false] rfl rfl (by kernel_rfl) (by decide) (fun K hK => ?_)
          refine appRows (w0 := wo) wo.heap.size (by rfl) (.tmp 44) (.tmp 49) rfl v44 (row.take j) [s] (some ⟨wa40.heap.size, 0, none⟩) 1 1 rfl rfl hR (C_one hV) hHeld hHeld.size (by first | omega | (simp; omega)) ?_
          intro v50 wd50 hR' hB' hg hat
          clear hR hg hat
          have hR := hR'
          clear hR'
          refine hK.out _ _ hB' (fun hHeld => ?_)
          clear hK K
          refine norm_ (a' := ?_) ?_ ?_
          rotate_left
          ·show Act.put _ (some 50) _ = _
           simp only [Act.put, List.setIfInBounds_toArray, List.set_cons_zero, List.set_cons_succ, i64_w, i32_w]
           rfl
          clear hB'
          refine one_ (i := 14) (N := some 54) #[true, true, true, true, true, true, true, true, true, true, true, true, true, true, true, false] rfl rfl (by kernel_rfl) (by decide) (fun K hK => ?_)
          refine appRows (w0 := wo) wo.heap.size (by rfl) (.tmp 50) (.tmp 53) rfl v50 ((row.take j) ++ [s]) (row.drop j) A5 (row.length - j) c5 rfl rfl hR (Kd.C_below HCo.out.2 hHeld) hHeld hHeld.size (by first | omega | (simp; omega)) ?_
          intro v54 we54 hR' hB' hg hat
          clear hR hg hat
          have hR := hR'
          clear hR'
          refine hK.out _ _ hB' (fun hHeld => ?_)
          clear hK K
          refine norm_ (a' := ?_) ?_ ?_
          rotate_left
          ·show Act.put _ (some 54) _ = _
           simp only [Act.put, List.setIfInBounds_toArray, List.set_cons_zero, List.set_cons_succ, i64_w, i32_w]
           rfl
          clear hB'
          exact hJ (_, _, _, _, _) _ ⟨hHeld, hR⟩
        ·refine event_step (by rfl) (v := .slice (some ⟨wz.heap.size, 0, none⟩) 1 1) (w1 := wz.alloc (.cells s.arr 30)) (exec_buildS s rfl _) ?_
         have hV := Has.new wz s.arr 30
         refine hK.out _ _ (hHeld.trans ((show Below wz.heap.size wz (wz.alloc (.cells s.arr 30)) from ((Below.refl _ _).alloc (Nat.le_refl _) _)).mono hHeld.size)) (fun hHeld => ?_)
         clear hK K
         refine norm_ (a' := ?_) ?_ ?_
         rotate_left
         ·show Act.put _ (some 49) _ = _
          simp only [Act.put, List.setIfInBounds_toArray, List.set_cons_zero, List.set_cons_succ, i64_w, i32_w]
          rfl
         generalize wz.alloc (.cells s.arr 30) = wa49 at hHeld hV ⊢
         refine one_ (i := 0) (N := some 40) #[true, true, true, true, false, true, true, true, true, true, false, true, true, true, false, false] rfl rfl (by kernel_rfl) (by decide) (fun K hK => ?_)
         refine event_step (by rfl) (v := .slice (some ⟨wa49.heap.size, 0, none⟩) 0 0) (w1 := wa49.alloc (.cells #[] 30)) (by go_simp; try rfl) ?_
         have hne : some wz.heap.size ≠ (.slice (some ⟨wa49.heap.size, 0, none⟩) 0 0 : Value).ownBlock := by have := hV.lt; simp only [Value.ownBlock, ne_eq, Option.some.injEq]; omega
         replace hV := hV.alloc (.cells #[] 30)
         have hR := R_none wa49 wo.heap.size hHeld.size
         refine hK.out _ _ (hHeld.trans ((show Below wa49.heap.size wa49 (wa49.alloc (.cells #[] 30)) from ((Below.refl _ _).alloc (Nat.le_refl _) _)).mono hHeld.size)) (fun hHeld => ?_)
         clear hK K
         refine norm_ (a' := ?_) ?_ ?_
         rotate_left
         ·show Act.put _ (some 40) _ = _
          simp only [Act.put, List.setIfInBounds_toArray, List.set_cons_zero, List.set_cons_succ, i64_w, i32_w]
          rfl
         generalize wa49.alloc (.cells #[] 30) = wb40 at hHeld hR hV ⊢
         refine one_ (i := 4) (N := some 44) #[true, true, true, true, true, true, true, true, true, true, false, true, true, true, false, false] rfl rfl (by kernel_rfl) (by decide) (fun K hK => ?_)
         refine appRows (w0 := wo) wo.heap.size (by rfl) (.tmp 40) (.tmp 43) rfl (.slice (some ⟨wa49.heap.size, 0, none⟩) 0 0 : Value) [] (row.take j) (some ⟨br, orr, none⟩) j cr rfl rfl hR (Kd.C_below HCo.out.1 hHeld) hHeld hHeld.size (by first | omega | (simp; omega)) ?_
         intro v44 wc44 hR' hB' hg hat
         have hne' : some wz.heap.size ≠ v44.ownBlock := by
          rcases hat with e | ⟨b, e, hb⟩
          ·rw [e]; exact hne
          ·rw [e]; have := hV.lt; simp only [ne_eq, Option.some.injEq]; omega
         replace hV : Has wc44 wz.heap.size s.arr 30 := (hg.block _ hV.lt hne).trans hV
         clear hne
         have hne := hne'
         clear hne'
         clear hR hg hat
         have hR := hR'
         clear hR'
         rw [List.nil_append] at hR
         refine hK.out _ _ hB' (fun hHeld => ?_)
         clear hK K
         refine norm_ (a' := ?_) ?_ ?_
         rotate_left
         ·show Act.put _ (some 44) _ = _
          simp only [Act.put, List.setIfInBounds_toArray, List.set_cons_zero, List.set_cons_succ, i64_w, i32_w]
          rfl
         clear hB'
         refine one_ (i := 10) (N := some 50) #[true, true, true, true, true, true, true, true, true, true, true, true, true, true, false, false] rfl rfl (by kernel_rfl) (by decide) (fun K hK => ?_)
         refine appRows (w0 := wo) wo.heap.size (by rfl) (.tmp 44) (.tmp 49) rfl v44 (row.take j) [s] (some ⟨wz.heap.size, 0, none⟩) 1 1 rfl rfl hR (C_one hV) hHeld hHeld.size (by first | omega | (simp; omega)) ?_
         intro v50 wd50 hR' hB' hg hat
         clear hR hg hat
         have hR := hR'
         clear hR'
         refine hK.out _ _ hB' (fun hHeld => ?_)
         clear hK K
         refine norm_ (a' := ?_) ?_ ?_
         rotate_left
         ·show Act.put _ (some 50) _ = _
          simp only [Act.put, List.setIfInBounds_toArray, List.set_cons_zero, List.set_cons_succ, i64_w, i32_w]
          rfl
         clear hB'
         refine one_ (i := 14) (N := some 54) #[true, true, true, true, true, true, true, true, true, true, true, true, true, true, true, false] rfl rfl (by kernel_rfl) (by decide) (fun K hK => ?_)
         refine appRows (w0 := wo) wo.heap.size (by rfl) (.tmp 50) (.tmp 53) rfl v50 ((row.take j) ++ [s]) (row.drop j) A5 (row.length - j) c5 rfl rfl hR (Kd.C_below HCo.out.2 hHeld) hHeld hHeld.size (by first | omega | (simp; omega)) ?_
         intro v54 we54 hR' hB' hg hat
         clear hR hg hat
         have hR := hR'
         clear hR'
         refine hK.out _ _ hB' (fun hHeld => ?_)
         clear hK K
         refine norm_ (a' := ?_) ?_ ?_
         rotate_left
         ·show Act.put _ (some 54) _ = _
          simp only [Act.put, List.setIfInBounds_toArray, List.set_cons_zero, List.set_cons_succ, i64_w, i32_w]
          rfl
         clear hB'
         exact hJ (_, _, _, _, _) _ ⟨hHeld, hR⟩
       rintro ⟨x1, x2, x3, x4, x5⟩ w7 ⟨hHeld, hR7⟩
       simp only [putAll, Act.put, List.setIfInBounds_toArray, List.set_cons_zero, List.set_cons_succ, i64_w, i32_w]
       dsimp only at hR7
       refine pure_ (i := 15) (N := some 3) (v := ?_) (a' := ?_) #[true, true, true, true, true, true, true, true, true, true, true, true, true, true, true, true] rfl rfl (by kernel_rfl) (fun _ _ _ h => h) (Or.inl ⟨by rfl, ?_⟩) ?_ ?_
       rotate_left
       ·intro w'
        go_simp
        with_reducible rfl
       rotate_left
       ·simp only [Act.put, List.setIfInBounds_toArray, List.set_cons_zero, List.set_cons_succ, i64_w, i32_w]
        rfl
       refine done_ (by kernel_rfl) ?_
       have HR7 := Lib.hid (And.intro hR7 hHeld)
       clear hR7 hHeld
       go_wp2
       go_roundw
       case rel => exact ⟨k + 1, by omega, by go_num, Lib.hid (by
        rw [HFT.out, HST.out, if_pos (by simp)]
        unfold insS
        rw [H6.out.2.2.2]
        exact ⟨Kd.R_lower HR7.out.1 H6.out.1.2.size, H6.out.1.2.trans (HR7.out.2.mono H6.out.1.2.size)⟩)⟩
       case measure => simp [intOf]; omega
      ·have H6 := Lib.hid hHeld.2.2
       clear hHeld
       go_wp2
       go_roundw
       case rel => exact ⟨j + 1, by omega, by go_num, Lib.hid ⟨fun i hi hij => by
        by_cases e : i = j
        ·subst e; rw [← HQ.out.2]; exact HQ.out.1.symm
        ·exact HI.out.1 i hi (by omega), H6.out⟩⟩
       case measure => simp [intOf]; omega
     ·skip
      have hj1 := eq_false (show ¬ (j : Int) < (row.length : Int) by omega)
      have hj2 : decide ((j : Int) < (row.length : Int)) = false := decide_eq_false (by omega)
      have hj3 : decide (j < row.length) = false := decide_eq_false hjr
      go_wp2
      refine start_ (n := 15) (S := fun W => Below w4.heap.size w4 W) (ds := []) #[false, false, false, false, false, false, false, false, false, false, false, false, false, false, false] (by kernel_rfl) rfl rfl HI.out.2.drew (fun hHeld => ?_)
      refine pure_ (i := 0) (N := some 23) (v := ?_) (a' := ?_) #[true, false, false, false, false, false, false, false, false, false, false, false, false, false, false] rfl rfl (by kernel_rfl) (fun _ _ _ h => h) (Or.inl ⟨by rfl, ?_⟩) ?_ ?_
      rotate_left
      ·intro w'
       go_simp
       with_reducible rfl
      rotate_left
      ·simp only [Act.put, List.setIfInBounds_toArray, List.set_cons_zero, List.set_cons_succ, i64_w, i32_w]
       rfl
      refine pure_ (i := 1) (N := some 24) (v := ?_) (a' := ?_) #[true, true, false, false, false, false, false, false, false, false, false, false, false, false, false] rfl rfl (by kernel_rfl) (fun _ _ _ h => h) (Or.inl ⟨by rfl, ?_⟩) ?_ ?_
      rotate_left
      ·intro w'
       go_simp
       with_reducible rfl
      rotate_left
      ·simp only [Act.put, List.setIfInBounds_toArray, List.set_cons_zero, List.set_cons_succ, i64_w, i32_w]
       rfl
      refine pure_ (i := 2) (N := some 25) (v := ?_) (a' := ?_) #[true, true, true, false, false, false, false, false, false, false, false, false, false, false, false] rfl rfl (by kernel_rfl) (fun _ _ _ h => h) (Or.inl ⟨by rfl, ?_⟩) ?_ ?_
      rotate_left
      ·intro w'
       go_simp
       with_reducible rfl
      rotate_left
      ·simp only [Act.put, List.setIfInBounds_toArray, List.set_cons_zero, List.set_cons_succ, i64_w, i32_w]
       rfl
      refine pure_ (i := 3) (N := some 26) (v := ?_) (a' := ?_) #[true, true, true, true, false, false, false, false, false, false, false, false, false, false, false] rfl rfl (by kernel_rfl) (fun _ _ _ h => h) (Or.inl ⟨by rfl, ?_⟩) ?_ ?_
      rotate_left
      ·intro w'
       go_simp
       with_reducible rfl
      rotate_left
      ·simp only [Act.put, List.setIfInBounds_toArray, List.set_cons_zero, List.set_cons_succ, i64_w, i32_w]
       rfl
      refine pure_ (i := 4) (N := some 27) (v := ?_) (a' := ?_) #[true, true, true, true, true, false, false, false, false, false, false, false, false, false, false] rfl rfl (by kernel_rfl) (fun _ _ _ h => h) (Or.inl ⟨by rfl, ?_⟩) ?_ ?_
      rotate_left
      ·intro w'
       go_simp
       with_reducible rfl
      rotate_left
      ·simp only [Act.put, List.setIfInBounds_toArray, List.set_cons_zero, List.set_cons_succ, i64_w, i32_w]
       rfl
      refine pure_ (i := 5) (N := some 28) (v := undef) (a' := ?_) #[true, true, true, true, true, true, false, false, false, false, false, false, false, false, false] rfl rfl (by kernel_rfl) (fun _ _ _ h => h) (Or.inr ⟨by rfl, rfl⟩) ?_ ?_
      rotate_left
      ·simp only [Act.put, List.setIfInBounds_toArray, List.set_cons_zero, List.set_cons_succ, i64_w, i32_w]
       rfl
      refine pure_ (i := 6) (N := some 29) (v := undef) (a' := ?_) #[true, true, true, true, true, true, true, false, false, false, false, false, false, false, false] rfl rfl (by kernel_rfl) (fun _ _ _ h => h) (Or.inr ⟨by rfl, rfl⟩) ?_ ?_
      rotate_left
      ·simp only [Act.put, List.setIfInBounds_toArray, List.set_cons_zero, List.set_cons_succ, i64_w, i32_w]
       rfl
      refine pure_ (i := 7) (N := some 30) (v := undef) (a' := ?_) #[true, true, true, true, true, true, true, true, false, false, false, false, false, false, false] rfl rfl (by kernel_rfl) (fun _ _ _ h => h) (Or.inr ⟨by rfl, rfl⟩) ?_ ?_
      rotate_left
      ·simp only [Act.put, List.setIfInBounds_toArray, List.set_cons_zero, List.set_cons_succ, i64_w, i32_w]
       rfl
      refine pure_ (i := 8) (N := some 31) (v := undef) (a' := ?_) #[true, true, true, true, true, true, true, true, true, false, false, false, false, false, false] rfl rfl (by kernel_rfl) (fun _ _ _ h => h) (Or.inr ⟨by rfl, rfl⟩) ?_ ?_
      rotate_left
      ·simp only [Act.put, List.setIfInBounds_toArray, List.set_cons_zero, List.set_cons_succ, i64_w, i32_w]
       rfl
      refine pure_ (i := 9) (N := some 32) (v := undef) (a' := ?_) #[true, true, true, true, true, true, true, true, true, true, false, false, false, false, false] rfl rfl (by kernel_rfl) (fun _ _ _ h => h) (Or.inr ⟨by rfl, rfl⟩) ?_ ?_
      rotate_left
      ·simp only [Act.put, List.setIfInBounds_toArray, List.set_cons_zero, List.set_cons_succ, i64_w, i32_w]
       rfl
      refine pure_ (i := 10) (N := some 33) (v := undef) (a' := ?_) #[true, true, true, true, true, true, true, true, true, true, true, false, false, false, false] rfl rfl (by kernel_rfl) (fun _ _ _ h => h) (Or.inr ⟨by rfl, rfl⟩) ?_ ?_
      rotate_left
      ·simp only [Act.put, List.setIfInBounds_toArray, List.set_cons_zero, List.set_cons_succ, i64_w, i32_w]
       rfl
      refine pure_ (i := 11) (N := some 34) (v := undef) (a' := ?_) #[true, true, true, true, true, true, true, true, true, true, true, true, false, false, false] rfl rfl (by kernel_rfl) (fun _ _ _ h => h) (Or.inr ⟨by rfl, rfl⟩) ?_ ?_
      rotate_left
      ·simp only [Act.put, List.setIfInBounds_toArray, List.set_cons_zero, List.set_cons_succ, i64_w, i32_w]
       rfl
      refine pure_ (i := 12) (N := some 35) (v := undef) (a' := ?_) #[true, true, true, true, true, true, true, true, true, true, true, true, true, false, false] rfl rfl (by kernel_rfl) (fun _ _ _ h => h) (Or.inr ⟨by rfl, rfl⟩) ?_ ?_
      rotate_left
      ·simp only [Act.put, List.setIfInBounds_toArray, List.set_cons_zero, List.set_cons_succ, i64_w, i32_w]
       rfl
      refine pure_ (i := 13) (N := some 36) (v := undef) (a' := ?_) #[true, true, true, true, true, true, true, true, true, true, true, true, true, true, false] rfl rfl (by kernel_rfl) (fun _ _ _ h => h) (Or.inr ⟨by rfl, rfl⟩) ?_ ?_
      rotate_left
      ·simp only [Act.put, List.setIfInBounds_toArray, List.set_cons_zero, List.set_cons_succ, i64_w, i32_w]
       rfl
      refine pure_ (i := 14) (N := some 37) (v := ?_) (a' := ?_) #[true, true, true, true, true, true, true, true, true, true, true, true, true, true, true] rfl rfl (by kernel_rfl) (fun _ _ _ h => h) (Or.inl ⟨by rfl, ?_⟩) ?_ ?_
      rotate_left
      ·intro w'
       go_simp
       with_reducible rfl
      rotate_left
      ·simp only [Act.put, List.setIfInBounds_toArray, List.set_cons_zero, List.set_cons_succ, i64_w, i32_w]
       rfl
      refine done_ (by kernel_rfl) ?_
      have hatj : atS row s = j := atS_of hj HI.out.1 (fun hj' => absurd hj' hjr)
      obtain ⟨wo, hwo⟩ : ∃ wo, wo = wr.drew := ⟨_, rfl⟩
      have H6 : Hid (RjI w row (.slice Ar row.length cr) wo ∧ kS.C wo Ar row.length row ∧ wo.rangeAt bl (ol + k * 33) s.cells ∧ atS row s = j) := by
       rw [hwo]
       exact Lib.hid ⟨⟨Kd.R_below H4.out.1.1 hHeld, H4.out.1.2.trans (hHeld.mono H4.out.1.2.size)⟩, Kd.C_below H4.out.2.1 hHeld, ra_below H4.out.2.2 hHeld, hatj⟩
      rw [← hwo]
      clear hwo hHeld hatj
      obtain ⟨A5, c5, hdr, hC5⟩ := dropS Ar cr row j hj hcr
      have htk := takeS Ar cr row j hj hcr
      have HCo : Hid (kS.C wo Ar j (row.take j) ∧ kS.C wo A5 (row.length - j) (row.drop j)) := Lib.hid ⟨by have := Kd.C_take H6.out.2.1 (m := j) hj; rwa [List.length_take, Nat.min_eq_left hj] at this, hC5 wo H6.out.2.1⟩
      have hi1 := eq_true (show (k : Int) < (l.length : Int) by omega)
      clear hC5
      go_wp2
      refine start_ (n := 16) (S := fun W => Below wo.heap.size wo W) (ds := []) #[false, false, false, false, false, false, false, false, false, false, false, false, false, false, false, false] (by kernel_rfl) rfl rfl (Below.refl _ _).drew (fun hHeld => ?_)
      refine pure_ (i := 1) (N := some 41) (v := ?_) (a' := ?_) #[false, true, false, false, false, false, false, false, false, false, false, false, false, false, false, false] rfl rfl (by kernel_rfl) (fun _ _ _ h => h) (Or.inl ⟨by rfl, ?_⟩) ?_ ?_
      rotate_left
      ·intro w'
       go_simp
       with_reducible rfl
      rotate_left
      ·simp only [Act.put, List.setIfInBounds_toArray, List.set_cons_zero, List.set_cons_succ, i64_w, i32_w]
       rfl
      refine pure_ (i := 2) (N := some 42) (v := ?_) (a' := ?_) #[false, true, true, false, false, false, false, false, false, false, false, false, false, false, false, false] rfl rfl (by kernel_rfl) (fun _ _ _ h => h) (Or.inl ⟨by rfl, ?_⟩) ?_ ?_
      rotate_left
      ·intro w'
       go_simp
       with_reducible rfl
      rotate_left
      ·simp only [Act.put, List.setIfInBounds_toArray, List.set_cons_zero, List.set_cons_succ, i64_w, i32_w]
       rfl
      refine pure_ (i := 3) (N := some 43) (v := ?_) (a' := ?_) #[false, true, true, true, false, false, false, false, false, false, false, false, false, false, false, false] rfl rfl (by kernel_rfl) (fun _ _ _ h => h) (Or.inl ⟨by rfl, ?_⟩) ?_ ?_
      rotate_left
      ·intro w'
       go_simp
       with_reducible rfl
      rotate_left
      ·simp only [Act.put, List.setIfInBounds_toArray, List.set_cons_zero, List.set_cons_succ, i64_w, i32_w]
       rfl
      refine pure_ (i := 5) (N := some 45) (v := ?_) (a' := ?_) #[false, true, true, true, false, true, false, false, false, false, false, false, false, false, false, false] rfl rfl (by kernel_rfl) (fun _ _ _ h => h) (Or.inl ⟨by rfl, ?_⟩) ?_ ?_
      rotate_left
      ·intro w'
       go_simp
       with_reducible rfl
      rotate_left
      ·simp only [Act.put, List.setIfInBounds_toArray, List.set_cons_zero, List.set_cons_succ, i64_w, i32_w]
       rfl
      refine pure_ (i := 6) (N := some 46) (v := ?_) (a' := ?_) #[false, true, true, true, false, true, true, false, false, false, false, false, false, false, false, false] rfl rfl (by kernel_rfl) (fun _ _ _ h => h) (Or.inl ⟨by rfl, ?_⟩) ?_ ?_
      rotate_left
      ·intro w'
       go_simp
       with_reducible rfl
      rotate_left
      ·simp only [Act.put, List.setIfInBounds_toArray, List.set_cons_zero, List.set_cons_succ, i64_w, i32_w]
       rfl
      refine pure_ (i := 7) (N := some 47) (v := ?_) (a' := ?_) #[false, true, true, true, false, true, true, true, false, false, false, false, false, false, false, false] rfl rfl (by kernel_rfl) (fun _ _ _ h => h) (Or.inl ⟨by rfl, ?_⟩) ?_ ?_
      rotate_left
      ·intro w'
       go_simp
       with_reducible rfl
      rotate_left
      ·simp only [Act.put, List.setIfInBounds_toArray, List.set_cons_zero, List.set_cons_succ, i64_w, i32_w]
       rfl
      refine pure_ (i := 11) (N := some 51) (v := ?_) (a' := ?_) #[false, true, true, true, false, true, true, true, false, false, false, true, false, false, false, false] rfl rfl (by kernel_rfl) (fun _ _ _ h => h) (Or.inl ⟨by rfl, ?_⟩) ?_ ?_
      rotate_left
      ·intro w'
       go_simp
       with_reducible rfl
      rotate_left
      ·simp only [Act.put, List.setIfInBounds_toArray, List.set_cons_zero, List.set_cons_succ, i64_w, i32_w]
       rfl
      refine pure_ (i := 12) (N := some 52) (v := ?_) (a' := ?_) #[false, true, true, true, false, true, true, true, false, false, false, true, true, false, false, false] rfl rfl (by kernel_rfl) (fun _ _ _ h => h) (Or.inl ⟨by rfl, ?_⟩) ?_ ?_
      rotate_left
      ·intro w'
       go_simp
       with_reducible rfl
      rotate_left
      ·simp only [Act.put, List.setIfInBounds_toArray, List.set_cons_zero, List.set_cons_succ, i64_w, i32_w]
       rfl
      refine pure_ (i := 13) (N := some 53) (v := ?_) (a' := ?_) #[false, true, true, true, false, true, true, true, false, false, false, true, true, true, false, false] rfl rfl (by kernel_rfl) (fun _ _ _ h => h) (Or.inl ⟨by rfl, ?_⟩) ?_ ?_
      rotate_left
      ·intro w'
       go_simp
       with_reducible rfl
      rotate_left
      ·simp only [Act.put, List.setIfInBounds_toArray, List.set_cons_zero, List.set_cons_succ, i64_w, i32_w]
       rfl
      refine take_ (i := 8) (N := some 48) (v := .agg s.arr) (a' := ?_) #[false, true, true, true, false, true, true, true, true, false, false, true, true, true, false, false] rfl rfl (by kernel_rfl) (fun _ _ _ h => h) ?_ hHeld ?_ ?_
      ·exact yS (by rfl) rfl s bl (ol + k * 33) rfl (fun W h => ra_below H6.out.2.2.1 h)
      rotate_left
      ·simp only [Act.put, List.setIfInBounds_toArray, List.set_cons_zero, List.set_cons_succ, i64_w, i32_w]
       rfl
      generalize wo.drew = wz at hHeld ⊢
      refine join_ (σ := Value × Value × Value × Value × Value) 1 #[true, true, true, true, true, true, true, true, true, true, true, true, true, true, true, false] (fun σ => [(40, σ.1), (44, σ.2.1), (49, σ.2.2.1), (50, σ.2.2.2.1), (54, σ.2.2.2.2)]) (fun σ W => Below wo.heap.size wo W ∧ kS.R 30 W wo.heap.size (fun _ => True) σ.2.2.2.2 ((row.take j ++ [s]) ++ row.drop j)) ?_ ?_
      rotate_left
      ·intro hJ
       simp only [putAll, Act.put, List.setIfInBounds_toArray, List.set_cons_zero, List.set_cons_succ, i64_w, i32_w] at hJ
       refine two_ (i := 0) (j := 9) (Ni := some 40) (Nj := some 49) #[true, true, true, true, false, true, true, true, true, false, false, true, true, true, false, false] #[false, true, true, true, false, true, true, true, true, true, false, true, true, true, false, false] rfl rfl rfl rfl (by kernel_rfl) (by decide) (by decide) (fun K hK => ?_) (fun K hK => ?_)
       ·refine event_step (by rfl) (v := .slice (some ⟨wz.heap.size, 0, none⟩) 0 0) (w1 := wz.alloc (.cells #[] 30)) (by go_simp; try rfl) ?_
        have hR := R_none wz wo.heap.size hHeld.size
        refine hK.out _ _ (hHeld.trans ((show Below wz.heap.size wz (wz.alloc (.cells #[] 30)) from ((Below.refl _ _).alloc (Nat.le_refl _) _)).mono hHeld.size)) (fun hHeld => ?_)
        clear hK K
        refine norm_ (a' := ?_) ?_ ?_
        rotate_left
        ·show Act.put _ (some 40) _ = _
         simp only [Act.put, List.setIfInBounds_toArray, List.set_cons_zero, List.set_cons_succ, i64_w, i32_w]
         rfl
        generalize wz.alloc (.cells #[] 30) = wa40 at hHeld hR ⊢
        refine two_ (i := 4) (j := 9) (Ni := some 44) (Nj := some 49) #[true, true, true, true, true, true, true, true, true, false, false, true, true, true, false, false] #[true, true, true, true, false, true, true, true, true, true, false, true, true, true, false, false] rfl rfl rfl rfl (by kernel_rfl) (by decide) (by decide) (fun K hK => ?_) (fun K hK => ?_)
        ·refine appRows (w0 := wo) wo.heap.size (by rfl) (.tmp 40) (.tmp 43) rfl (.slice (some ⟨wz.heap.size, 0, none⟩) 0 0 : Value) [] (row.take j) Ar j cr rfl rfl hR (Kd.C_below HCo.out.1 hHeld) hHeld hHeld.size (by first | omega | (simp; omega)) ?_
         intro v44 wb44 hR' hB' hg hat
         clear hR hg hat
         have hR := hR'
         clear hR'
         rw [List.nil_append] at hR
         refine hK.out _ _ hB' (fun hHeld => ?_)
         clear hK K
         refine norm_ (a' := ?_) ?_ ?_
         rotate_left
         ·show Act.put _ (some 44) _ = _
          simp only [Act.put, List.setIfInBounds_toArray, List.set_cons_zero, List.set_cons_succ, i64_w, i32_w]
          rfl
         clear hB'
         refine one_ (i := 9) (N := some 49) #[true, true, true, true, true, true, true, true, true, true, false, true, true, true, false, false] rfl rfl (by kernel_rfl) (by decide) (fun K hK => ?_)
         refine event_step (by rfl) (v := .slice (some ⟨wb44.heap.size, 0, none⟩) 1 1) (w1 := wb44.alloc (.cells s.arr 30)) (exec_buildS s rfl _) ?_
         have hne : some wb44.heap.size ≠ v44.ownBlock := fun e => absurd (R_own hR _ e.symm) (Nat.lt_irrefl _)
         replace hR := Kd.R_below hR (show Below wb44.heap.size wb44 (wb44.alloc (.cells s.arr 30)) from ((Below.refl _ _).alloc (Nat.le_refl _) _))
         have hV := Has.new wb44 s.arr 30
         refine hK.out _ _ (hHeld.trans ((show Below wb44.heap.size wb44 (wb44.alloc (.cells s.arr 30)) from ((Below.refl _ _).alloc (Nat.le_refl _) _)).mono hHeld.size)) (fun hHeld => ?_)
         clear hK K
         refine norm_ (a' := ?_) ?_ ?_
         rotate_left
         ·show Act.put _ (some 49) _ = _
          simp only [Act.put, List.setIfInBounds_toArray, List.set_cons_zero, List.set_cons_succ, i64_w, i32_w]
          rfl
         generalize wb44.alloc (.cells s.arr 30) = wc49 at hHeld hR hV ⊢
         refine one_ (i := 10) (N := some 50) #[true, true, true, true, true, true, true, true, true, true, true, true, true, true, false, false] rfl rfl (by kernel_rfl) (by decide) (fun K hK => ?_)
         refine appRows (w0 := wo) wo.heap.size (by rfl) (.tmp 44) (.tmp 49) rfl v44 (row.take j) [s] (some ⟨wb44.heap.size, 0, none⟩) 1 1 rfl rfl hR (C_one hV) hHeld hHeld.size (by first | omega | (simp; omega)) ?_
         intro v50 wd50 hR' hB' hg hat
         clear hR hg hat
         have hR := hR'
         clear hR'
         refine hK.out _ _ hB' (fun hHeld => ?_)
         clear hK K
         refine norm_ (a' := ?_) ?_ ?_
         rotate_left
         ·show Act.put _ (some 50) _ = _
          simp only [Act.put, List.setIfInBounds_toArray, List.set_cons_zero, List.set_cons_succ, i64_w, i32_w]
          rfl
         clear hB'
         refine one_ (i := 14) (N := some 54) #[true, true, true, true, true, true, true, true, true, true, true, true, true, true, true, false] rfl rfl (by kernel_rfl) (by decide) (fun K hK => ?_)
         refine appRows (w0 := wo) wo.heap.size (by rfl) (.tmp 50) (.tmp 53) rfl v50 ((row.take j) ++ [s]) (row.drop j) A5 (row.length - j) c5 rfl rfl hR (Kd.C_below HCo.out.2 hHeld) hHeld hHeld.size (by first | omega | (simp; omega)) ?_
         intro v54 we54 hR' hB' hg hat
         clear hR hg hat
         have hR := hR'
         clear hR'
         refine hK.out _ _ hB' (fun hHeld => ?_)
         clear hK K
         refine norm_ (a' := ?_) ?_ ?_
         rotate_left
         ·show Act.put _ (some 54) _ = _
          simp only [Act.put, List.setIfInBounds_toArray, List.set_cons_zero, List.set_cons_succ, i64_w, i32_w]
          rfl
         clear hB'
         exact hJ (_, _, _, _, _) _ ⟨hHeld, hR⟩
        ·refine event_step (by rfl) (v := .slice (some ⟨wa40.heap.size, 0, none⟩) 1 1) (w1 := wa40.alloc (.cells s.arr 30)) (exec_buildS s rfl _) ?_
         have hne : some wa40.heap.size ≠ (.slice (some ⟨wz.heap.size, 0, none⟩) 0 0 : Value).ownBlock := fun e => absurd (R_own hR _ e.symm) (Nat.lt_irrefl _)
         replace hR := Kd.R_below hR (show Below wa40.heap.size wa40 (wa40.alloc (.cells s.arr 30)) from ((Below.refl _ _).alloc (Nat.le_refl _) _))
         have hV := Has.new wa40 s.arr 30
         refine hK.out _ _ (hHeld.trans ((show Below wa40.heap.size wa40 (wa40.alloc (.cells s.arr 30)) from ((Below.refl _ _).alloc (Nat.le_refl _) _)).mono hHeld.size)) (fun hHeld => ?_)
         clear hK K
         refine norm_ (a' := ?_) ?_ ?_
         rotate_left
         ·show Act.put _ (some 49) _ = _
          simp only [Act.put, List.setIfInBounds_toArray, List.set_cons_zero, List.set_cons_succ, i64_w, i32_w]
          rfl
         generalize wa40.alloc (.cells s.arr 30) = wb49 at hHeld hR hV ⊢
         refine one_ (i := 4) (N := some 44) #[true, true, true, true, true, true, true, true, true, true, false, true, true, true, false, false] rfl rfl (by kernel_rfl) (by decide) (fun K hK => ?_)
         refine appRows (w0 := wo) wo.heap.size (by rfl) (.tmp 40) (.tmp 43) rfl (.slice (some ⟨wz.heap.size, 0, none⟩) 0 0 : Value) [] (row.take j) Ar j cr rfl rfl hR (Kd.C_below HCo.out.1 hHeld) hHeld hHeld.size (by first | omega | (simp; omega)) ?_
         intro v44 wc44 hR' hB' hg hat
         have hne' : some wa40.heap.size ≠ v44.ownBlock := by
          rcases hat with e | ⟨b, e, hb⟩
          ·rw [e]; exact hne
          ·rw [e]; have := hV.lt; simp only [ne_eq, Option.some.injEq]; omega
         replace hV : Has wc44 wa40.heap.size s.arr 30 := (hg.block _ hV.lt hne).trans hV
         clear hne
         have hne := hne'
         clear hne'
         clear hR hg hat
         have hR := hR'
         clear hR'
         rw [List.nil_append] at hR
         refine hK.out _ _ hB' (fun hHeld => ?_)
         clear hK K
         refine norm_ (a' := ?_) ?_ ?_
         rotate_left
         ·show Act.put _ (some 44) _ = _
          simp only [Act.put, List.setIfInBounds_toArray, List.set_cons_zero, List.set_cons_succ, i64_w, i32_w]
          rfl
         clear hB'
         refine one_ (i := 10) (N := some 50) #[true, true, true, true, true, true, true, true, true, true, true, true, true, true, false, false] rfl rfl (by kernel_rfl) (by decide) (fun K hK => ?_)
         refine appRows (w0 := wo) wo.heap.size (by rfl) (.tmp 44) (.tmp 49) rfl v44 (row.take j) [s] (some ⟨wa40.heap.size, 0, none⟩) 1 1 rfl rfl hR (C_one hV) hHeld hHeld.size (by first | omega | (simp; omega)) ?_
         intro v50 wd50 hR' hB' hg hat
         clear hR hg hat
         have hR := hR'
         clear hR'
         refine hK.out _ _ hB' (fun hHeld => ?_)
         clear hK K
         refine norm_ (a' := ?_) ?_ ?_
         rotate_left
         ·show Act.put _ (some 50) _ = _
          simp only [Act.put, List.setIfInBounds_toArray, List.set_cons_zero, List.set_cons_succ, i64_w, i32_w]
          rfl
         clear hB'
         refine one_ (i := 14) (N := some 54) #[true, true, true, true, true, true, true, true, true, true, true, true, true, true, true, false] rfl rfl (by kernel_rfl) (by decide) (fun K hK => ?_)
         refine appRows (w0 := wo) wo.heap.size (by rfl) (.tmp 50) (.tmp 53) rfl v50 ((row.take j) ++ [s]) (row.drop j) A5 (row.length - j) c5 rfl rfl hR (Kd.C_below HCo.out.2 hHeld) hHeld hHeld.size (by first | omega | (simp; omega)) ?_
         intro v54 we54 hR' hB' hg hat
         clear hR hg hat
         have hR := hR'
         clear hR'
         refine hK.out _ _ hB' (fun hHeld => ?_)
         clear hK K
         refine norm_ (a' := ?_) ?_ ?_
         rotate_left
         ·show Act.put _ (some 54) _ = _
          simp only [Act.put, List.setIfInBounds_toArray, List.set_cons_zero, List.set_cons_succ, i64_w, i32_w]
          rfl
         clear hB'
         exact hJ (_, _, _, _, _) _ ⟨hHeld, hR⟩
       ·refine event_step (by rfl) (v := .slice (some ⟨wz.heap.size, 0, none⟩) 1 1) (w1 := wz.alloc (.cells s.arr 30)) (exec_buildS s rfl _) ?_
        have hV := Has.new wz s.arr 30
        refine hK.out _ _ (hHeld.trans ((show Below wz.heap.size wz (wz.alloc (.cells s.arr 30)) from ((Below.refl _ _).alloc (Nat.le_refl _) _)).mono hHeld.size)) (fun hHeld => ?_)
        clear hK K
        refine norm_ (a' := ?_) ?_ ?_
        rotate_left
        ·show Act.put _ (some 49) _ = _
         simp only [Act.put, List.setIfInBounds_toArray, List.set_cons_zero, List.set_cons_succ, i64_w, i32_w]
         rfl
        generalize wz.alloc (.cells s.arr 30) = wa49 at hHeld hV ⊢
        refine one_ (i := 0) (N := some 40) #[true, true, true, true, false, true, true, true, true, true, false, true, true, true, false, false] rfl rfl (by kernel_rfl) (by decide) (fun K hK => ?_)
        refine event_step (by rfl) (v := .slice (some ⟨wa49.heap.size, 0, none⟩) 0 0) (w1 := wa49.alloc (.cells #[] 30)) (by go_simp; try rfl) ?_
        have hne : some wz.heap.size ≠ (.slice (some ⟨wa49.heap.size, 0, none⟩) 0 0 : Value).ownBlock := by have := hV.lt; simp only [Value.ownBlock, ne_eq, Option.some.injEq]; omega
        replace hV := hV.alloc (.cells #[] 30)
        have hR := R_none wa49 wo.heap.size hHeld.size
        refine hK.out _ _ (hHeld.trans ((show Below wa49.heap.size wa49 (wa49.alloc (.cells #[] 30)) from ((Below.refl _ _).alloc (Nat.le_refl _) _)).mono hHeld.size)) (fun hHeld => ?_)
        clear hK K
        refine norm_ (a' := ?_) ?_ ?_
        rotate_left
        ·show Act.put _ (some 40) _ = _
         simp only [Act.put, List.setIfInBounds_toArray, List.set_cons_zero, List.set_cons_succ, i64_w, i32_w]
         rfl
        generalize wa49.alloc (.cells #[] 30) = wb40 at hHeld hR hV ⊢
        refine one_ (i := 4) (N := some 44) #[true, true, true, true, true, true, true, true, true, true, false, true, true, true, false, false] rfl rfl (by kernel_rfl) (by decide) (fun K hK => ?_)
        refine appRows (w0 := wo) wo.heap.size (by rfl) (.tmp 40) (.tmp 43) rfl (.slice (some ⟨wa49.heap.size, 0, none⟩) 0 0 : Value) [] (row.take j) Ar j cr rfl rfl hR (Kd.C_below HCo.out.1 hHeld) hHeld hHeld.size (by first | omega | (simp; omega)) ?_
        intro v44 wc44 hR' hB' hg hat
        have hne' : some wz.heap.size ≠ v44.ownBlock := by
         rcases hat with e | ⟨b, e, hb⟩
         ·rw [e]; exact hne
         ·rw [e]; have := hV.lt; simp only [ne_eq, Option.some.injEq]; omega
        replace hV : Has wc44 wz.heap.size s.arr 30 := (hg.block _ hV.lt hne).trans hV
        clear hne
        have hne := hne'
        clear hne'
        clear hR hg hat
        have hR := hR'
        clear hR'
        rw [List.nil_append] at hR
        refine hK.out _ _ hB' (fun hHeld => ?_)
        clear hK K
        refine norm_ (a' := ?_) ?_ ?_
        rotate_left
        ·show Act.put _ (some 44) _ = _
         simp only [Act.put, List.setIfInBounds_toArray, List.set_cons_zero, List.set_cons_succ, i64_w, i32_w]
         rfl
        clear hB'
        refine one_ (i := 10) (N := some 50) #[true, true, true, true, true, true, true, true, true, true, true, true, true, true, false, false] rfl rfl (by kernel_rfl) (by decide) (fun K hK => ?_)
        refine appRows (w0 := wo) wo.heap.size (by rfl) (.tmp 44) (.tmp 49) rfl v44 (row.take j) [s] (some ⟨wz.heap.size, 0, none⟩) 1 1 rfl rfl hR (C_one hV) hHeld hHeld.size (by first | omega | (simp; omega)) ?_
        intro v50 wd50 hR' hB' hg hat
        clear hR hg hat
        have hR := hR'
        clear hR'
        refine hK.out _ _ hB' (fun hHeld => ?_)
        clear hK K
        refine norm_ (a' := ?_) ?_ ?_
        rotate_left
        ·show Act.put _ (some 50) _ = _
         simp only [Act.put, List.setIfInBounds_toArray, List.set_cons_zero, List.set_cons_succ, i64_w, i32_w]
         rfl
        clear hB'
        refine one_ (i := 14) (N := some 54) #[true, true, true, true, true, true, true, true, true, true, true, true, true, true, true, false] rfl rfl (by kernel_rfl) (by decide) (fun K hK => ?_)
        refine appRows (w0 := wo) wo.heap.size (by rfl) (.tmp 50) (.tmp 53) rfl v50 ((row.take j) ++ [s]) (row.drop j) A5 (row.length - j) c5 rfl rfl hR (Kd.C_below HCo.out.2 hHeld) hHeld hHeld.size (by first | omega | (simp; omega)) ?_
        intro v54 we54 hR' hB' hg hat
        clear hR hg hat
        have hR := hR'
        clear hR'
        refine hK.out _ _ hB' (fun hHeld => ?_)
        clear hK K
        refine norm_ (a' := ?_) ?_ ?_
        rotate_left
        ·show Act.put _ (some 54) _ = _
         simp only [Act.put, List.setIfInBounds_toArray, List.set_cons_zero, List.set_cons_succ, i64_w, i32_w]
         rfl
        clear hB'
        exact hJ (_, _, _, _, _) _ ⟨hHeld, hR⟩
      rintro ⟨x1, x2, x3, x4, x5⟩ w7 ⟨hHeld, hR7⟩
      simp only [putAll, Act.put, List.setIfInBounds_toArray, List.set_cons_zero, List.set_cons_succ, i64_w, i32_w]
      dsimp only at hR7
      refine pure_ (i := 15) (N := some 3) (v := ?_) (a' := ?_) #[true, true, true, true, true, true, true, true, true, true, true, true, true, true, true, true] rfl rfl (by kernel_rfl) (fun _ _ _ h => h) (Or.inl ⟨by rfl, ?_⟩) ?_ ?_
      rotate_left
      ·intro w'
       go_simp
       with_reducible rfl
      rotate_left
      ·simp only [Act.put, List.setIfInBounds_toArray, List.set_cons_zero, List.set_cons_succ, i64_w, i32_w]
       rfl
      refine done_ (by kernel_rfl) ?_
      have HR7 := Lib.hid (And.intro hR7 hHeld)
      clear hR7 hHeld
      go_wp2
      go_roundw
      case rel => exact ⟨k + 1, by omega, by go_num, Lib.hid (by
       rw [HFT.out, HST.out, if_pos (by simp)]
       unfold insS
       rw [H6.out.2.2.2]
       exact ⟨Kd.R_lower HR7.out.1 H6.out.1.2.size, H6.out.1.2.trans (HR7.out.2.mono H6.out.1.2.size)⟩)⟩
      case measure => simp [intOf]; omega
  ·skip
   have hrl : (l.take k).foldl rowStep [] = rowOf l := by rw [List.take_of_length_le (by omega)]; rfl
   rw [hrl] at HX
   obtain ⟨Ar, cr, hrv, hcr, hCr⟩ := Kd.R_reads HX.out.1
   subst hrv
   have hrl2 := row_len l []
   rw [List.length_nil] at hrl2
   obtain ⟨row, hrow⟩ : ∃ row, row = rowOf l := ⟨_, rfl⟩
   have hrowl : row.length ≤ l.length := by rw [hrow]; unfold rowOf; omega
   rw [← hrow] at hCr hcr
   have HW : Hid (row = rowOf l ∧ kS.C wr Ar row.length row ∧ Below w.heap.size w wr) := Lib.hid ⟨hrow, hCr, HX.out.2⟩
   rw [← hrow]
   have hd1 := eq_false (show ¬ (k : Int) < (l.length : Int) by omega)
   have hd2 : decide ((k : Int) < (l.length : Int)) = false := decide_eq_false (by omega)
   have hd3 : decide (k < l.length) = false := decide_eq_false hkl
   clear hrl hrl2 hCr HX hrow
   generalize wr = w3 at HW ⊢
   go_wp2
   clear hd1 hd2 hd3 hkl hk
   go_loopw [6, 7, 8, 9, 10] (fun ov iv _ _ _ wr => ∃ k : Nat, k ≤ row.length ∧ iv = .int .i64 k ∧ Hid (kS.R 30 wr w3.heap.size (fun _ => True) ov ((row.take k).foldl stepS []) ∧ Below w3.heap.size w3 wr)) (fun _ iv _ _ _ _ => row.length - (intOf iv).toNat)
   case atStart => exact ⟨0, Nat.zero_le _, rfl, Lib.hid ⟨Kd.R_nil _ _ _ _ _, Below.refl _ _⟩⟩
   case round =>
    obtain ⟨k, hk, rfl, HX⟩ := hrel
    by_cases hkd : k < row.length
    ·obtain ⟨Ao, co, hov, hco, hCO⟩ := Kd.R_reads HX.out.1
     subst hov
     obtain ⟨br, orr, hA, hR0⟩ := C_form (Kd.C_below HW.out.2.1 HX.out.2) (by omega)
     subst hA
     obtain ⟨s, hs⟩ : ∃ s, s = row[k] := ⟨_, rfl⟩
     have hq := hR0 k hkd
     rw [← hs] at hq
     have hft := fold_take row k hkd
     rw [← hs] at hft
     have hol := foldS_len (row.take k) []
     rw [List.length_take, List.length_nil] at hol
     generalize hout : (row.take k).foldl stepS [] = out at hco hCO hft hol ⊢
     have hX1 := HX.out.1
     rw [hout] at hX1
     have HFT := Lib.hid hft
     have hbr : br < w3.heap.size := by
      obtain ⟨b9, o9, e9, hr9⟩ := C_form HW.out.2.1 (by omega)
      cases e9
      exact ra_lt (hr9 k hkd)
     have HE := Lib.hid (And.intro hX1 (And.intro hq HX.out.2))
     clear hq hs hft hout hX1 hR0 hCO HX
     have hd1 := eq_true (show (k : Int) < (row.length : Int) by omega)
     have hd2 : decide ((k : Int) < (row.length : Int)) = true := decide_eq_true (by omega)
     have hd3 : decide (k < row.length) = true := decide_eq_true hkd
     by_cases ho : out.length = 0
     ·have hst : stepS out s = out ++ [s] := by unfold stepS; rw [if_pos ho]
      have HST := Lib.hid hst
      have hw1 : Go.RowKit.wrap64 ((out.length : Int) - 1) = -1 := by unfold Go.RowKit.wrap64; omega
      have hw2 : IntKind.i64.wrap ((out.length : Int) - 1) = -1 := by rw [i64_w]; exact hw1
      clear hst ho
      go_wp2
      refine start_ (n := 15) (S := fun W => kS.R 30 W w3.heap.size (fun _ => True) (.slice Ao out.length co) out ∧ W.rangeAt br (orr + k * 33) s.cells ∧ Below w3.heap.size w3 W) (ds := []) #[false, false, false, false, false, false, false, false, false, false, false, false, false, false, false] (by kernel_rfl) rfl rfl ⟨Kd.R_below HE.out.1 (show Below wr.heap.size wr wr.drew from (Below.refl _ _).drew), HE.out.2.1, HE.out.2.2.drew⟩ (fun hHeld => ?_)
      refine pure_ (i := 0) (N := some 64) (v := ?_) (a' := ?_) #[true, false, false, false, false, false, false, false, false, false, false, false, false, false, false] rfl rfl (by kernel_rfl) (fun _ _ _ h => h) (Or.inl ⟨by rfl, ?_⟩) ?_ ?_
      rotate_left
      ·intro w'
       go_simp
       with_reducible rfl
      rotate_left
      ·simp only [Act.put, List.setIfInBounds_toArray, List.set_cons_zero, List.set_cons_succ, i64_w, i32_w]
       rfl
      refine pure_ (i := 1) (N := some 65) (v := ?_) (a' := ?_) #[true, true, false, false, false, false, false, false, false, false, false, false, false, false, false] rfl rfl (by kernel_rfl) (fun _ _ _ h => h) (Or.inl ⟨by rfl, ?_⟩) ?_ ?_
      rotate_left
      ·intro w'
       go_simp
       with_reducible rfl
      rotate_left
      ·simp only [Act.put, List.setIfInBounds_toArray, List.set_cons_zero, List.set_cons_succ, i64_w, i32_w]
       rfl
      refine pure_ (i := 2) (N := some 66) (v := ?_) (a' := ?_) #[true, true, true, false, false, false, false, false, false, false, false, false, false, false, false] rfl rfl (by kernel_rfl) (fun _ _ _ h => h) (Or.inl ⟨by rfl, ?_⟩) ?_ ?_
      rotate_left
      ·intro w'
       go_simp
       with_reducible rfl
      rotate_left
      ·simp only [Act.put, List.setIfInBounds_toArray, List.set_cons_zero, List.set_cons_succ, i64_w, i32_w]
       rfl
      refine pure_ (i := 3) (N := some 67) (v := undef) (a' := ?_) #[true, true, true, true, false, false, false, false, false, false, false, false, false, false, false] rfl rfl (by kernel_rfl) (fun _ _ _ h => h) (Or.inr ⟨by rfl, rfl⟩) ?_ ?_
      rotate_left
      ·simp only [Act.put, List.setIfInBounds_toArray, List.set_cons_zero, List.set_cons_succ, i64_w, i32_w]
       rfl
      refine pure_ (i := 4) (N := some 68) (v := undef) (a' := ?_) #[true, true, true, true, true, false, false, false, false, false, false, false, false, false, false] rfl rfl (by kernel_rfl) (fun _ _ _ h => h) (Or.inr ⟨by rfl, rfl⟩) ?_ ?_
      rotate_left
      ·simp only [Act.put, List.setIfInBounds_toArray, List.set_cons_zero, List.set_cons_succ, i64_w, i32_w]
       rfl
      refine pure_ (i := 5) (N := some 69) (v := undef) (a' := ?_) #[true, true, true, true, true, true, false, false, false, false, false, false, false, false, false] rfl rfl (by kernel_rfl) (fun _ _ _ h => h) (Or.inr ⟨by rfl, rfl⟩) ?_ ?_
      rotate_left
      ·simp only [Act.put, List.setIfInBounds_toArray, List.set_cons_zero, List.set_cons_succ, i64_w, i32_w]
       rfl
      refine pure_ (i := 6) (N := some 70) (v := undef) (a' := ?_) #[true, true, true, true, true, true, true, false, false, false, false, false, false, false, false] rfl rfl (by kernel_rfl) (fun _ _ _ h => h) (Or.inr ⟨by rfl, rfl⟩) ?_ ?_
      rotate_left
      ·simp only [Act.put, List.setIfInBounds_toArray, List.set_cons_zero, List.set_cons_succ, i64_w, i32_w]
       rfl
      refine pure_ (i := 7) (N := some 71) (v := undef) (a' := ?_) #[true, true, true, true, true, true, true, true, false, false, false, false, false, false, false] rfl rfl (by kernel_rfl) (fun _ _ _ h => h) (Or.inr ⟨by rfl, rfl⟩) ?_ ?_
      rotate_left
      ·simp only [Act.put, List.setIfInBounds_toArray, List.set_cons_zero, List.set_cons_succ, i64_w, i32_w]
       rfl
      refine pure_ (i := 8) (N := some 72) (v := undef) (a' := ?_) #[true, true, true, true, true, true, true, true, true, false, false, false, false, false, false] rfl rfl (by kernel_rfl) (fun _ _ _ h => h) (Or.inr ⟨by rfl, rfl⟩) ?_ ?_
      rotate_left
      ·simp only [Act.put, List.setIfInBounds_toArray, List.set_cons_zero, List.set_cons_succ, i64_w, i32_w]
       rfl
      refine pure_ (i := 9) (N := some 73) (v := undef) (a' := ?_) #[true, true, true, true, true, true, true, true, true, true, false, false, false, false, false] rfl rfl (by kernel_rfl) (fun _ _ _ h => h) (Or.inr ⟨by rfl, rfl⟩) ?_ ?_
      rotate_left
      ·simp only [Act.put, List.setIfInBounds_toArray, List.set_cons_zero, List.set_cons_succ, i64_w, i32_w]
       rfl
      refine pure_ (i := 10) (N := some 74) (v := undef) (a' := ?_) #[true, true, true, true, true, true, true, true, true, true, true, false, false, false, false] rfl rfl (by kernel_rfl) (fun _ _ _ h => h) (Or.inr ⟨by rfl, rfl⟩) ?_ ?_
      rotate_left
      ·simp only [Act.put, List.setIfInBounds_toArray, List.set_cons_zero, List.set_cons_succ, i64_w, i32_w]
       rfl
      refine pure_ (i := 11) (N := some 75) (v := undef) (a' := ?_) #[true, true, true, true, true, true, true, true, true, true, true, true, false, false, false] rfl rfl (by kernel_rfl) (fun _ _ _ h => h) (Or.inr ⟨by rfl, rfl⟩) ?_ ?_
      rotate_left
      ·simp only [Act.put, List.setIfInBounds_toArray, List.set_cons_zero, List.set_cons_succ, i64_w, i32_w]
       rfl
      refine pure_ (i := 12) (N := some 76) (v := undef) (a' := ?_) #[true, true, true, true, true, true, true, true, true, true, true, true, true, false, false] rfl rfl (by kernel_rfl) (fun _ _ _ h => h) (Or.inr ⟨by rfl, rfl⟩) ?_ ?_
      rotate_left
      ·simp only [Act.put, List.setIfInBounds_toArray, List.set_cons_zero, List.set_cons_succ, i64_w, i32_w]
       rfl
      refine pure_ (i := 13) (N := some 77) (v := undef) (a' := ?_) #[true, true, true, true, true, true, true, true, true, true, true, true, true, true, false] rfl rfl (by kernel_rfl) (fun _ _ _ h => h) (Or.inr ⟨by rfl, rfl⟩) ?_ ?_
      rotate_left
      ·simp only [Act.put, List.setIfInBounds_toArray, List.set_cons_zero, List.set_cons_succ, i64_w, i32_w]
       rfl
      refine pure_ (i := 14) (N := some 78) (v := ?_) (a' := ?_) #[true, true, true, true, true, true, true, true, true, true, true, true, true, true, true] rfl rfl (by kernel_rfl) (fun _ _ _ h => h) (Or.inl ⟨by rfl, ?_⟩) ?_ ?_
      rotate_left
      ·intro w'
       go_simp
       with_reducible rfl
      rotate_left
      ·simp only [Act.put, List.setIfInBounds_toArray, List.set_cons_zero, List.set_cons_succ, i64_w, i32_w]
       rfl
      refine done_ (by kernel_rfl) ?_
      have HE2 := Lib.hid hHeld
      clear hHeld
      obtain ⟨wy, hwy⟩ : ∃ wy, wy = wr.drew := ⟨_, rfl⟩
      have HY : Hid (kS.R 30 wy w3.heap.size (fun _ => True) (.slice Ao out.length co) out ∧ wy.rangeAt br (orr + k * 33) s.cells ∧ Below w3.heap.size w3 wy) := by
       rw [hwy]
       exact Lib.hid HE2.out
      try rw [← hwy]
      clear hwy
      go_wp2_with (first
       | ((with_reducible refine at_dst 130 ?_); refine loadS s br (orr + k * 33) rfl HY.out.2.1 ?_)
       | ((with_reducible refine at_dst 131 ?_); refine valN rfl (exec_buildS s rfl _) ?_)
       | ((with_reducible refine at_dst 132 ?_); refine appRowsL (w0 := w3) w3.heap.size rfl (.tmp 126) (.tmp 131) rfl (.slice Ao out.length co) out [s] (some ⟨wy.heap.size, 0, none⟩) 1 1 rfl rfl (Kd.R_below HY.out.1 ((Below.refl _ _).alloc (Nat.le_refl _) _)) (C_one (Has.new wy s.arr _)) (HY.out.2.2.alloc HY.out.2.2.size _) (Nat.le_trans HY.out.2.2.size ((Below.refl wy.heap.size wy).alloc (Nat.le_refl _) (.cells s.arr 30)).size) (by omega) ?_; intro v8 w8 hR8 hB8 hg8 hat8; obtain ⟨A8, c8, e8⟩ := Kd.R_slice hR8; subst e8; have HE8 := Lib.hid (And.intro hR8 hB8); clear hR8 hB8 hg8 hat8))
      go_roundw
      case rel => exact ⟨k + 1, by omega, by go_num, Lib.hid ⟨by rw [HFT.out, HST.out]; have h9 := HE8.out.1; rw [List.length_append, List.length_singleton] at h9; exact h9, HE8.out.2⟩⟩
      case measure => simp [intOf]; omega
     ·obtain ⟨m, hm⟩ : ∃ m, out.length = m + 1 := ⟨out.length - 1, by omega⟩
      rcases RowAt.of_R HE.out.1 with ⟨_, e⟩ | ⟨go, cap, e, hrow⟩
      ·rw [e] at ho; exact absurd rfl ho
      injection e with e1 _ e2
      subst e1 e2
      have hml : m < out.length := by omega
      obtain ⟨z, hz⟩ : ∃ z, z = out[m] := ⟨_, rfl⟩
      have hls : lastS out = z := by
       unfold lastS
       rw [hz, List.getD_eq_getElem?_getD, show out.length - 1 = m by omega, List.getElem?_eq_getElem hml]
       rfl
      have hqz := hrow.hr m hml
      rw [← hz] at hqz
      have HK : Hid (RkS w3 go co m out z br (orr + k * 33) s wr) := Lib.hid ⟨hrow, hqz, HE.out.2.1, HE.out.2.2, hbr⟩
      have HZ := Lib.hid hz
      have HSTP : Hid (stepS out s = if touchS z s = true then (if 0 < lexC s.hi.l z.hi.l then out.set m ⟨z.v6, z.lo, s.hi⟩ else out) else out ++ [s]) := Lib.hid (by
       unfold stepS
       rw [if_neg ho, hls, show out.length - 1 = m by omega])
      have hm1 : Go.RowKit.wrap64 ((out.length : Int) - 1) = (m : Int) := by unfold Go.RowKit.wrap64; omega
      have hm2 : IntKind.i64.wrap ((out.length : Int) - 1) = (m : Int) := by rw [i64_w]; exact hm1
      have hm3 := eq_true (show (m : Int) < (out.length : Int) by omega)
      have hm4 := eq_true (show (0 : Int) ≤ (m : Int) by omega)
      have hm5 : decide ((0 : Int) ≤ (m : Int)) = true := decide_eq_true (by omega)
      have HM := Lib.hid (And.intro ho hm)
      clear hqz hrow hz hls ho hm HE
      obtain ⟨v1, hv1⟩ : ∃ v, v = z.v6 := ⟨_, rfl⟩
      obtain ⟨v2, hv2⟩ : ∃ v, v = s.v6 := ⟨_, rfl⟩
      cases v1 <;> cases v2
      ·have c1 : wr.cell? ⟨go, m * 33, none⟩ = some (.bool false) := by rw [hv1]; exact rs_v6 HK.out.2.1
       have c2 : wr.cell? ⟨br, orr + k * 33, none⟩ = some (.bool false) := by rw [hv2]; exact rs_v6 HK.out.2.2.1
       have HV := Lib.hid (And.intro hv1 hv2)
       clear hv1 hv2
       go_wp2
       refine start_ (n := 15) (S := fun W => W.cell? ⟨go, m * 33, none⟩ = some (.bool false) ∧ W.cell? ⟨br, orr + k * 33, none⟩ = some (.bool false) ∧ RkS w3 go co m out z br (orr + k * 33) s W) (ds := []) #[false, false, false, false, false, false, false, false, false, false, false, false, false, false, false] (by kernel_rfl) rfl rfl ⟨c1, c2, HK.out.step (Below.refl _ _).drew⟩ (fun hHeld => ?_)
       refine pure_ (i := 0) (N := some 64) (v := ?_) (a' := ?_) #[true, false, false, false, false, false, false, false, false, false, false, false, false, false, false] rfl rfl (by kernel_rfl) (fun _ _ _ h => h) (Or.inl ⟨by rfl, ?_⟩) ?_ ?_
       rotate_left
       ·intro w'
        go_simp
        with_reducible rfl
       rotate_left
       ·simp only [Act.put, List.setIfInBounds_toArray, List.set_cons_zero, List.set_cons_succ, i64_w, i32_w]
        rfl
       refine pure_ (i := 1) (N := some 65) (v := ?_) (a' := ?_) #[true, true, false, false, false, false, false, false, false, false, false, false, false, false, false] rfl rfl (by kernel_rfl) (fun _ _ _ h => h) (Or.inl ⟨by rfl, ?_⟩) ?_ ?_
       rotate_left
       ·intro w'
        go_simp
        with_reducible rfl
       rotate_left
       ·simp only [Act.put, List.setIfInBounds_toArray, List.set_cons_zero, List.set_cons_succ, i64_w, i32_w]
        rfl
       refine pure_ (i := 2) (N := some 66) (v := ?_) (a' := ?_) #[true, true, true, false, false, false, false, false, false, false, false, false, false, false, false] rfl rfl (by kernel_rfl) (fun _ _ _ h => h) (Or.inl ⟨by rfl, ?_⟩) ?_ ?_
       rotate_left
       ·intro w'
        go_simp
        with_reducible rfl
       rotate_left
       ·simp only [Act.put, List.setIfInBounds_toArray, List.set_cons_zero, List.set_cons_succ, i64_w, i32_w]
        rfl
       refine pure_ (i := 3) (N := some 67) (v := ?_) (a' := ?_) #[true, true, true, true, false, false, false, false, false, false, false, false, false, false, false] rfl rfl (by kernel_rfl) (fun _ _ _ h => h) (Or.inl ⟨by rfl, ?_⟩) ?_ ?_
       rotate_left
       ·intro w'
        go_simp
        with_reducible rfl
       rotate_left
       ·simp only [Act.put, List.setIfInBounds_toArray, List.set_cons_zero, List.set_cons_succ, i64_w, i32_w]
        rfl
       refine pure_ (i := 4) (N := some 68) (v := ?_) (a' := ?_) #[true, true, true, true, true, false, false, false, false, false, false, false, false, false, false] rfl rfl (by kernel_rfl) (fun _ _ _ h => h) (Or.inl ⟨by rfl, ?_⟩) ?_ ?_
       rotate_left
       ·intro w'
        go_simp
        with_reducible rfl
       rotate_left
       ·simp only [Act.put, List.setIfInBounds_toArray, List.set_cons_zero, List.set_cons_succ, i64_w, i32_w]
        rfl
       refine pure_ (i := 5) (N := some 69) (v := ?_) (a' := ?_) #[true, true, true, true, true, true, false, false, false, false, false, false, false, false, false] rfl rfl (by kernel_rfl) (fun _ _ _ h => h) (Or.inl ⟨by rfl, ?_⟩) ?_ ?_
       rotate_left
       ·intro w'
        go_simp
        with_reducible rfl
       rotate_left
       ·simp only [Act.put, List.setIfInBounds_toArray, List.set_cons_zero, List.set_cons_succ, i64_w, i32_w]
        rfl
       refine pure_ (i := 6) (N := some 70) (v := ?_) (a' := ?_) #[true, true, true, true, true, true, true, false, false, false, false, false, false, false, false] rfl rfl (by kernel_rfl) (fun _ _ _ h => h) (Or.inl ⟨by rfl, ?_⟩) ?_ ?_
       rotate_left
       ·intro w'
        go_simp
        with_reducible rfl
       rotate_left
       ·simp only [Act.put, List.setIfInBounds_toArray, List.set_cons_zero, List.set_cons_succ, i64_w, i32_w]
        rfl
       refine take_ (i := 7) (N := some 71) (v := ?_) (a' := ?_) #[true, true, true, true, true, true, true, true, false, false, false, false, false, false, false] rfl rfl (by kernel_rfl) (fun _ _ _ h => h) (Or.inl ⟨by rfl, ?_⟩) hHeld ?_ ?_
       rotate_left
       ·rintro w' ⟨s0, s1, s2⟩
        go_simp
        with_reducible rfl
       rotate_left
       ·simp only [Act.put, List.setIfInBounds_toArray, List.set_cons_zero, List.set_cons_succ, i64_w, i32_w]
        rfl
       refine pure_ (i := 8) (N := some 72) (v := ?_) (a' := ?_) #[true, true, true, true, true, true, true, true, true, false, false, false, false, false, false] rfl rfl (by kernel_rfl) (fun _ _ _ h => h) (Or.inl ⟨by rfl, ?_⟩) ?_ ?_
       rotate_left
       ·intro w'
        go_simp
        with_reducible rfl
       rotate_left
       ·simp only [Act.put, List.setIfInBounds_toArray, List.set_cons_zero, List.set_cons_succ, i64_w, i32_w]
        rfl
       refine pure_ (i := 9) (N := some 73) (v := ?_) (a' := ?_) #[true, true, true, true, true, true, true, true, true, true, false, false, false, false, false] rfl rfl (by kernel_rfl) (fun _ _ _ h => h) (Or.inl ⟨by rfl, ?_⟩) ?_ ?_
       rotate_left
       ·intro w'
        go_simp
        with_reducible rfl
       rotate_left
       ·simp only [Act.put, List.setIfInBounds_toArray, List.set_cons_zero, List.set_cons_succ, i64_w, i32_w]
        rfl
       refine pure_ (i := 10) (N := some 74) (v := ?_) (a' := ?_) #[true, true, true, true, true, true, true, true, true, true, true, false, false, false, false] rfl rfl (by kernel_rfl) (fun _ _ _ h => h) (Or.inl ⟨by rfl, ?_⟩) ?_ ?_
       rotate_left
       ·intro w'
        go_simp
        with_reducible rfl
       rotate_left
       ·simp only [Act.put, List.setIfInBounds_toArray, List.set_cons_zero, List.set_cons_succ, i64_w, i32_w]
        rfl
       refine pure_ (i := 11) (N := some 75) (v := ?_) (a' := ?_) #[true, true, true, true, true, true, true, true, true, true, true, true, false, false, false] rfl rfl (by kernel_rfl) (fun _ _ _ h => h) (Or.inl ⟨by rfl, ?_⟩) ?_ ?_
       rotate_left
       ·intro w'
        go_simp
        with_reducible rfl
       rotate_left
       ·simp only [Act.put, List.setIfInBounds_toArray, List.set_cons_zero, List.set_cons_succ, i64_w, i32_w]
        rfl
       refine take_ (i := 12) (N := some 76) (v := ?_) (a' := ?_) #[true, true, true, true, true, true, true, true, true, true, true, true, true, false, false] rfl rfl (by kernel_rfl) (fun _ _ _ h => h) (Or.inl ⟨by rfl, ?_⟩) hHeld ?_ ?_
       rotate_left
       ·rintro w' ⟨s0, s1, s2⟩
        go_simp
        with_reducible rfl
       rotate_left
       ·simp only [Act.put, List.setIfInBounds_toArray, List.set_cons_zero, List.set_cons_succ, i64_w, i32_w]
        rfl
       refine pure_ (i := 13) (N := some 77) (v := ?_) (a' := ?_) #[true, true, true, true, true, true, true, true, true, true, true, true, true, true, false] rfl rfl (by kernel_rfl) (fun _ _ _ h => h) (Or.inl ⟨by rfl, ?_⟩) ?_ ?_
       rotate_left
       ·intro w'
        go_simp
        with_reducible rfl
       rotate_left
       ·simp only [Act.put, List.setIfInBounds_toArray, List.set_cons_zero, List.set_cons_succ, i64_w, i32_w]
        rfl
       refine pure_ (i := 14) (N := some 78) (v := ?_) (a' := ?_) #[true, true, true, true, true, true, true, true, true, true, true, true, true, true, true] rfl rfl (by kernel_rfl) (fun _ _ _ h => h) (Or.inl ⟨by rfl, ?_⟩) ?_ ?_
       rotate_left
       ·intro w'
        go_simp
        with_reducible rfl
       rotate_left
       ·simp only [Act.put, List.setIfInBounds_toArray, List.set_cons_zero, List.set_cons_succ, i64_w, i32_w]
        rfl
       refine done_ (by kernel_rfl) ?_
       have HK4 := Lib.hid (And.intro hHeld.1 hHeld.2.2)
       clear hHeld c1 c2 HK
       obtain ⟨n, hn⟩ : ∃ n, n = nextP z.v6 z.hi := ⟨_, rfl⟩
       have hnx : ∀ W, Calls Try.prog 16 #[.bool false, .agg z.hi.arr] W fun e w' => e = .returned (.tuple #[.agg n.1.arr, .bool n.2]) ∧ Below W.heap.size W w' := fun W => by rw [HV.out.1, hn]; exact refNext_walk _ _ W
       have htt : touchS z s = (!n.2 || decide (lexC s.lo.l n.1.l ≤ 0)) := by
        unfold touchS
        rw [← hn, ← HV.out.1, ← HV.out.2]
        simp
       have HTO := Lib.hid htt
       obtain ⟨n1, n2⟩ := n
       clear hn htt
       go_wp2
       refine start_ (n := 17) (S := fun W => W.cell? ⟨go, m * 33, none⟩ = some (.bool false) ∧ RkS w3 go co m out z br (orr + k * 33) s W) (ds := []) #[false, false, false, false, false, false, false, false, false, false, false, false, false, false, false, false, false] (by kernel_rfl) rfl rfl ⟨HK4.out.1, HK4.out.2.step (Below.refl _ _).drew⟩ (fun hHeld => ?_)
       refine pure_ (i := 0) (N := some 80) (v := ?_) (a' := ?_) #[true, false, false, false, false, false, false, false, false, false, false, false, false, false, false, false, false] rfl rfl (by kernel_rfl) (fun _ _ _ h => h) (Or.inl ⟨by rfl, ?_⟩) ?_ ?_
       rotate_left
       ·intro w'
        go_simp
        with_reducible rfl
       rotate_left
       ·simp only [Act.put, List.setIfInBounds_toArray, List.set_cons_zero, List.set_cons_succ, i64_w, i32_w]
        rfl
       refine pure_ (i := 1) (N := some 81) (v := ?_) (a' := ?_) #[true, true, false, false, false, false, false, false, false, false, false, false, false, false, false, false, false] rfl rfl (by kernel_rfl) (fun _ _ _ h => h) (Or.inl ⟨by rfl, ?_⟩) ?_ ?_
       rotate_left
       ·intro w'
        go_simp
        with_reducible rfl
       rotate_left
       ·simp only [Act.put, List.setIfInBounds_toArray, List.set_cons_zero, List.set_cons_succ, i64_w, i32_w]
        rfl
       refine pure_ (i := 2) (N := some 82) (v := ?_) (a' := ?_) #[true, true, true, false, false, false, false, false, false, false, false, false, false, false, false, false, false] rfl rfl (by kernel_rfl) (fun _ _ _ h => h) (Or.inl ⟨by rfl, ?_⟩) ?_ ?_
       rotate_left
       ·intro w'
        go_simp
        with_reducible rfl
       rotate_left
       ·simp only [Act.put, List.setIfInBounds_toArray, List.set_cons_zero, List.set_cons_succ, i64_w, i32_w]
        rfl
       refine pure_ (i := 3) (N := some 83) (v := ?_) (a' := ?_) #[true, true, true, true, false, false, false, false, false, false, false, false, false, false, false, false, false] rfl rfl (by kernel_rfl) (fun _ _ _ h => h) (Or.inl ⟨by rfl, ?_⟩) ?_ ?_
       rotate_left
       ·intro w'
        go_simp
        with_reducible rfl
       rotate_left
       ·simp only [Act.put, List.setIfInBounds_toArray, List.set_cons_zero, List.set_cons_succ, i64_w, i32_w]
        rfl
       refine take_ (i := 4) (N := some 84) (v := ?_) (a' := ?_) #[true, true, true, true, true, false, false, false, false, false, false, false, false, false, false, false, false] rfl rfl (by kernel_rfl) (fun _ _ _ h => h) (Or.inl ⟨by rfl, ?_⟩) hHeld ?_ ?_
       rotate_left
       ·rintro w' ⟨s0, s1⟩
        go_simp
        with_reducible rfl
       rotate_left
       ·simp only [Act.put, List.setIfInBounds_toArray, List.set_cons_zero, List.set_cons_succ, i64_w, i32_w]
        rfl
       refine pure_ (i := 5) (N := some 85) (v := ?_) (a' := ?_) #[true, true, true, true, true, true, false, false, false, false, false, false, false, false, false, false, false] rfl rfl (by kernel_rfl) (fun _ _ _ h => h) (Or.inl ⟨by rfl, ?_⟩) ?_ ?_
       rotate_left
       ·intro w'
        go_simp
        with_reducible rfl
       rotate_left
       ·simp only [Act.put, List.setIfInBounds_toArray, List.set_cons_zero, List.set_cons_succ, i64_w, i32_w]
        rfl
       refine pure_ (i := 6) (N := some 86) (v := ?_) (a' := ?_) #[true, true, true, true, true, true, true, false, false, false, false, false, false, false, false, false, false] rfl rfl (by kernel_rfl) (fun _ _ _ h => h) (Or.inl ⟨by rfl, ?_⟩) ?_ ?_
       rotate_left
       ·intro w'
        go_simp
        with_reducible rfl
       rotate_left
       ·simp only [Act.put, List.setIfInBounds_toArray, List.set_cons_zero, List.set_cons_succ, i64_w, i32_w]
        rfl
       refine pure_ (i := 7) (N := some 87) (v := ?_) (a' := ?_) #[true, true, true, true, true, true, true, true, false, false, false, false, false, false, false, false, false] rfl rfl (by kernel_rfl) (fun _ _ _ h => h) (Or.inl ⟨by rfl, ?_⟩) ?_ ?_
       rotate_left
       ·intro w'
        go_simp
        with_reducible rfl
       rotate_left
       ·simp only [Act.put, List.setIfInBounds_toArray, List.set_cons_zero, List.set_cons_succ, i64_w, i32_w]
        rfl
       refine pure_ (i := 8) (N := some 88) (v := ?_) (a' := ?_) #[true, true, true, true, true, true, true, true, true, false, false, false, false, false, false, false, false] rfl rfl (by kernel_rfl) (fun _ _ _ h => h) (Or.inl ⟨by rfl, ?_⟩) ?_ ?_
       rotate_left
       ·intro w'
        go_simp
        with_reducible rfl
       rotate_left
       ·simp only [Act.put, List.setIfInBounds_toArray, List.set_cons_zero, List.set_cons_succ, i64_w, i32_w]
        rfl
       refine take_ (i := 9) (N := some 89) (v := .agg z.hi.arr) (a' := ?_) #[true, true, true, true, true, true, true, true, true, true, false, false, false, false, false, false, false] rfl rfl (by kernel_rfl) (fun _ _ _ h => h) ?_ hHeld ?_ ?_
       ·exact yA (by rfl) rfl z.hi go (m * 33 + 17) rfl (fun W h => rhi_of_s h.2.2.1)
       rotate_left
       ·simp only [Act.put, List.setIfInBounds_toArray, List.set_cons_zero, List.set_cons_succ, i64_w, i32_w]
        rfl
       generalize wr.drew.drew = wz at hHeld ⊢
       refine join_ (σ := Nat) 2 #[true, true, true, true, true, true, true, true, true, true, true, true, true, true, true, false, false] (fun g => [(90, .tuple #[.agg n1.arr, .bool n2]), (9, .pointer (some ⟨g, 0, none⟩)), (79, .tuple #[.agg n1.arr, .bool n2]), (91, .agg n1.arr), (92, .bool n2)]) (fun g W => (fun W => W.cell? ⟨go, m * 33, none⟩ = some (.bool false) ∧ RkS w3 go co m out z br (orr + k * 33) s W) W ∧ Has W g z16.arr 28 ∧ w3.heap.size ≤ g ∧ go < g) ?_ ?_
       rotate_left
       ·intro hJn
        simp only [putAll, Act.put, List.setIfInBounds_toArray, List.set_cons_zero, List.set_cons_succ, i64_w, i32_w] at hJn
        refine two_ (i := 10) (j := 14) (Ni := some 90) (Nj := some 9) #[true, true, true, true, true, true, true, true, true, true, true, false, false, false, false, false, false] #[true, true, true, true, true, true, true, true, true, true, false, false, false, false, true, false, false] rfl rfl rfl rfl (by kernel_rfl) (by decide) (by decide) (fun K hK => ?_) (fun K hK => ?_)
        ·refine goes_ Try.func16 (by kernel_rfl) rfl #[.bool false, .agg z.hi.arr] (by rfl) rfl rfl (by (try simp only [List.map_toArray, List.map_cons, List.map_nil]); first | done | rfl) ?_
         refine (hnx _).mono ?_
         rintro e wv ⟨rfl, hB⟩
         refine ⟨_, rfl, ?_⟩
         refine hK.out _ _ (show (fun W => W.cell? ⟨go, m * 33, none⟩ = some (.bool false) ∧ RkS w3 go co m out z br (orr + k * 33) s W) _ from ⟨(hB.cell (World.block_lt_of_cell? _ _ hHeld.1)).trans hHeld.1, hHeld.2.step hB⟩) (fun hHeld => ?_)
         clear hK K hB
         refine norm_ (a' := ?_) ?_ ?_
         rotate_left
         ·show Act.put _ (some 90) _ = _
          simp only [Act.put, List.setIfInBounds_toArray, List.set_cons_zero, List.set_cons_succ, i64_w, i32_w]
          rfl
         refine pure_ (i := 11) (N := some 79) (v := ?_) (a' := ?_) #[true, true, true, true, true, true, true, true, true, true, true, true, false, false, false, false, false] rfl rfl (by kernel_rfl) (fun _ _ _ h => h) (Or.inl ⟨by rfl, ?_⟩) ?_ ?_
         rotate_left
         ·intro w'
          go_simp
          with_reducible rfl
         rotate_left
         ·simp only [Act.put, List.setIfInBounds_toArray, List.set_cons_zero, List.set_cons_succ, i64_w, i32_w]
          rfl
         refine pure_ (i := 12) (N := some 91) (v := ?_) (a' := ?_) #[true, true, true, true, true, true, true, true, true, true, true, true, true, false, false, false, false] rfl rfl (by kernel_rfl) (fun _ _ _ h => h) (Or.inl ⟨by rfl, ?_⟩) ?_ ?_
         rotate_left
         ·intro w'
          go_simp
          with_reducible rfl
         rotate_left
         ·simp only [Act.put, List.setIfInBounds_toArray, List.set_cons_zero, List.set_cons_succ, i64_w, i32_w]
          rfl
         refine pure_ (i := 13) (N := some 92) (v := ?_) (a' := ?_) #[true, true, true, true, true, true, true, true, true, true, true, true, true, true, false, false, false] rfl rfl (by kernel_rfl) (fun _ _ _ h => h) (Or.inl ⟨by rfl, ?_⟩) ?_ ?_
         rotate_left
         ·intro w'
          go_simp
          with_reducible rfl
         rotate_left
         ·simp only [Act.put, List.setIfInBounds_toArray, List.set_cons_zero, List.set_cons_succ, i64_w, i32_w]
          rfl
         refine one_ (i := 14) (N := some 9) #[true, true, true, true, true, true, true, true, true, true, true, true, true, true, true, false, false] rfl rfl (by kernel_rfl) (by decide) (fun K hK => ?_)
         refine event_step (by rfl) (v := .pointer (some ⟨wv.heap.size, 0, none⟩)) (w1 := wv.alloc (.cells z16.arr 28)) (by first | kernel_rfl | (go_simp; rfl)) ?_
         have hN := Has.new wv z16.arr 28
         have hG := hHeld.2.2.2.2.1.size
         have hbg := hHeld.2.1.lt
         have hal := (show Below wv.heap.size wv (wv.alloc (.cells z16.arr 28)) from (Below.refl _ _).alloc (Nat.le_refl _) _)
         refine hK.out _ _ (show (fun W => W.cell? ⟨go, m * 33, none⟩ = some (.bool false) ∧ RkS w3 go co m out z br (orr + k * 33) s W) _ from ⟨(hal.cell (World.block_lt_of_cell? _ _ hHeld.1)).trans hHeld.1, hHeld.2.step hal⟩) (fun hHeld => ?_)
         clear hK K hal
         refine norm_ (a' := ?_) ?_ ?_
         rotate_left
         ·show Act.put _ (some 9) _ = _
          simp only [Act.put, List.setIfInBounds_toArray, List.set_cons_zero, List.set_cons_succ, i64_w, i32_w]
          rfl
         generalize wv.heap.size = g at hN hG hbg ⊢
         generalize wv.alloc (.cells z16.arr 28) = wx at hHeld hN ⊢
         exact hJn g _ ⟨hHeld, hN, hG, hbg⟩
        ·refine event_step (by rfl) (v := .pointer (some ⟨wz.heap.size, 0, none⟩)) (w1 := wz.alloc (.cells z16.arr 28)) (by first | kernel_rfl | (go_simp; rfl)) ?_
         have hN := Has.new wz z16.arr 28
         have hG := hHeld.2.2.2.2.1.size
         have hbg := hHeld.2.1.lt
         have hal := (show Below wz.heap.size wz (wz.alloc (.cells z16.arr 28)) from (Below.refl _ _).alloc (Nat.le_refl _) _)
         refine hK.out _ _ (show (fun W => W.cell? ⟨go, m * 33, none⟩ = some (.bool false) ∧ RkS w3 go co m out z br (orr + k * 33) s W) _ from ⟨(hal.cell (World.block_lt_of_cell? _ _ hHeld.1)).trans hHeld.1, hHeld.2.step hal⟩) (fun hHeld => ?_)
         clear hK K hal
         refine norm_ (a' := ?_) ?_ ?_
         rotate_left
         ·show Act.put _ (some 9) _ = _
          simp only [Act.put, List.setIfInBounds_toArray, List.set_cons_zero, List.set_cons_succ, i64_w, i32_w]
          rfl
         generalize wz.heap.size = g at hN hG hbg ⊢
         generalize wz.alloc (.cells z16.arr 28) = wx at hHeld hN ⊢
         refine one_ (i := 10) (N := some 90) #[true, true, true, true, true, true, true, true, true, true, true, false, false, false, true, false, false] rfl rfl (by kernel_rfl) (by decide) (fun K hK => ?_)
         refine goes_ Try.func16 (by kernel_rfl) rfl #[.bool false, .agg z.hi.arr] (by rfl) rfl rfl (by (try simp only [List.map_toArray, List.map_cons, List.map_nil]); first | done | rfl) ?_
         refine (hnx _).mono ?_
         rintro e wv ⟨rfl, hB⟩
         refine ⟨_, rfl, ?_⟩
         replace hN := hN.below hB
         refine hK.out _ _ (show (fun W => W.cell? ⟨go, m * 33, none⟩ = some (.bool false) ∧ RkS w3 go co m out z br (orr + k * 33) s W) _ from ⟨(hB.cell (World.block_lt_of_cell? _ _ hHeld.1)).trans hHeld.1, hHeld.2.step hB⟩) (fun hHeld => ?_)
         clear hK K hB
         refine norm_ (a' := ?_) ?_ ?_
         rotate_left
         ·show Act.put _ (some 90) _ = _
          simp only [Act.put, List.setIfInBounds_toArray, List.set_cons_zero, List.set_cons_succ, i64_w, i32_w]
          rfl
         refine pure_ (i := 11) (N := some 79) (v := ?_) (a' := ?_) #[true, true, true, true, true, true, true, true, true, true, true, true, false, false, true, false, false] rfl rfl (by kernel_rfl) (fun _ _ _ h => h) (Or.inl ⟨by rfl, ?_⟩) ?_ ?_
         rotate_left
         ·intro w'
          go_simp
          with_reducible rfl
         rotate_left
         ·simp only [Act.put, List.setIfInBounds_toArray, List.set_cons_zero, List.set_cons_succ, i64_w, i32_w]
          rfl
         refine pure_ (i := 12) (N := some 91) (v := ?_) (a' := ?_) #[true, true, true, true, true, true, true, true, true, true, true, true, true, false, true, false, false] rfl rfl (by kernel_rfl) (fun _ _ _ h => h) (Or.inl ⟨by rfl, ?_⟩) ?_ ?_
         rotate_left
         ·intro w'
          go_simp
          with_reducible rfl
         rotate_left
         ·simp only [Act.put, List.setIfInBounds_toArray, List.set_cons_zero, List.set_cons_succ, i64_w, i32_w]
          rfl
         refine pure_ (i := 13) (N := some 92) (v := ?_) (a' := ?_) #[true, true, true, true, true, true, true, true, true, true, true, true, true, true, true, false, false] rfl rfl (by kernel_rfl) (fun _ _ _ h => h) (Or.inl ⟨by rfl, ?_⟩) ?_ ?_
         rotate_left
         ·intro w'
          go_simp
          with_reducible rfl
         rotate_left
         ·simp only [Act.put, List.setIfInBounds_toArray, List.set_cons_zero, List.set_cons_succ, i64_w, i32_w]
          rfl
         exact hJn g _ ⟨hHeld, hN, hG, hbg⟩
       intro g w6 hHeld
       try simp only [putAll, Act.put, List.setIfInBounds_toArray, List.set_cons_zero, List.set_cons_succ, i64_w, i32_w]
       have hHg := hHeld
       refine one_ (i := 15) (N := none) #[true, true, true, true, true, true, true, true, true, true, true, true, true, true, true, true, false] rfl rfl (by kernel_rfl) (by decide) (fun K hK => ?_)
       refine storeA_step (by rfl) 9 91 rfl g n1 rfl rfl hHg.2.1 ?_
       have hNs := hHg.2.1.setRow_same (c := n1.arr)
       refine hK.out _ _ (show (fun W => W.cell? ⟨go, m * 33, none⟩ = some (.bool false) ∧ RkS w3 go co m out z br (orr + k * 33) s W) _ from ⟨by rw [← hHg.1.1]; exact World.cell?_of_block ((grown_setRow w6 g n1.arr).block _ (World.block_lt_of_cell? _ _ hHg.1.1) (fun e => absurd (Option.some.inj e) (Nat.ne_of_lt hHg.2.2.2))), hHg.1.2.far hHg.2.2.2 hHg.2.2.1 n1⟩) (fun hHeld => ?_)
       clear hK K
       refine norm_ (a' := ?_) ?_ ?_
       rotate_left
       ·show Act.put _ none _ = _
        simp only [Act.put]
        rfl
       refine pure_ (i := 16) (N := some 10) (v := ?_) (a' := ?_) #[true, true, true, true, true, true, true, true, true, true, true, true, true, true, true, true, true] rfl rfl (by kernel_rfl) (fun _ _ _ h => h) (Or.inl ⟨by rfl, ?_⟩) ?_ ?_
       rotate_left
       ·intro w'
        go_simp
        with_reducible rfl
       rotate_left
       ·simp only [Act.put, List.setIfInBounds_toArray, List.set_cons_zero, List.set_cons_succ, i64_w, i32_w]
        rfl
       refine done_ (by kernel_rfl) ?_
       have HK5 := Lib.hid (And.intro hHeld.2 hNs)
       clear hHeld hHg hNs HK4 hnx
       generalize w6.setRow g n1.arr = w7 at HK5 ⊢
       cases n2
       ·have HTT : Hid (touchS z s = true) := Lib.hid (by rw [HTO.out]; rfl)
        go_wp2
        refine start_ (n := 12) (S := fun W => RkS w3 go co m out z br (orr + k * 33) s W ∧ Has W g n1.arr 28) (ds := []) #[false, false, false, false, false, false, false, false, false, false, false, false] (by kernel_rfl) rfl rfl ⟨HK5.out.1.step (Below.refl _ _).drew, HK5.out.2.drew⟩ (fun hHeld => ?_)
        refine pure_ (i := 0) (N := some 93) (v := ?_) (a' := ?_) #[true, false, false, false, false, false, false, false, false, false, false, false] rfl rfl (by kernel_rfl) (fun _ _ _ h => h) (Or.inl ⟨by rfl, ?_⟩) ?_ ?_
        rotate_left
        ·intro w'
         go_simp
         with_reducible rfl
        rotate_left
        ·simp only [Act.put, List.setIfInBounds_toArray, List.set_cons_zero, List.set_cons_succ, i64_w, i32_w]
         rfl
        refine pure_ (i := 1) (N := some 94) (v := ?_) (a' := ?_) #[true, true, false, false, false, false, false, false, false, false, false, false] rfl rfl (by kernel_rfl) (fun _ _ _ h => h) (Or.inl ⟨by rfl, ?_⟩) ?_ ?_
        rotate_left
        ·intro w'
         go_simp
         with_reducible rfl
        rotate_left
        ·simp only [Act.put, List.setIfInBounds_toArray, List.set_cons_zero, List.set_cons_succ, i64_w, i32_w]
         rfl
        refine pure_ (i := 2) (N := some 95) (v := ?_) (a' := ?_) #[true, true, true, false, false, false, false, false, false, false, false, false] rfl rfl (by kernel_rfl) (fun _ _ _ h => h) (Or.inl ⟨by rfl, ?_⟩) ?_ ?_
        rotate_left
        ·intro w'
         go_simp
         with_reducible rfl
        rotate_left
        ·simp only [Act.put, List.setIfInBounds_toArray, List.set_cons_zero, List.set_cons_succ, i64_w, i32_w]
         rfl
        refine pure_ (i := 3) (N := some 96) (v := undef) (a' := ?_) #[true, true, true, true, false, false, false, false, false, false, false, false] rfl rfl (by kernel_rfl) (fun _ _ _ h => h) (Or.inr ⟨by rfl, rfl⟩) ?_ ?_
        rotate_left
        ·simp only [Act.put, List.setIfInBounds_toArray, List.set_cons_zero, List.set_cons_succ, i64_w, i32_w]
         rfl
        refine pure_ (i := 4) (N := some 97) (v := undef) (a' := ?_) #[true, true, true, true, true, false, false, false, false, false, false, false] rfl rfl (by kernel_rfl) (fun _ _ _ h => h) (Or.inr ⟨by rfl, rfl⟩) ?_ ?_
        rotate_left
        ·simp only [Act.put, List.setIfInBounds_toArray, List.set_cons_zero, List.set_cons_succ, i64_w, i32_w]
         rfl
        refine pure_ (i := 5) (N := some 98) (v := undef) (a' := ?_) #[true, true, true, true, true, true, false, false, false, false, false, false] rfl rfl (by kernel_rfl) (fun _ _ _ h => h) (Or.inr ⟨by rfl, rfl⟩) ?_ ?_
        rotate_left
        ·simp only [Act.put, List.setIfInBounds_toArray, List.set_cons_zero, List.set_cons_succ, i64_w, i32_w]
         rfl
        refine pure_ (i := 6) (N := some 99) (v := undef) (a' := ?_) #[true, true, true, true, true, true, true, false, false, false, false, false] rfl rfl (by kernel_rfl) (fun _ _ _ h => h) (Or.inr ⟨by rfl, rfl⟩) ?_ ?_
        rotate_left
        ·simp only [Act.put, List.setIfInBounds_toArray, List.set_cons_zero, List.set_cons_succ, i64_w, i32_w]
         rfl
        refine pure_ (i := 7) (N := some 100) (v := undef) (a' := ?_) #[true, true, true, true, true, true, true, true, false, false, false, false] rfl rfl (by kernel_rfl) (fun _ _ _ h => h) (Or.inr ⟨by rfl, rfl⟩) ?_ ?_
        rotate_left
        ·simp only [Act.put, List.setIfInBounds_toArray, List.set_cons_zero, List.set_cons_succ, i64_w, i32_w]
         rfl
        refine pure_ (i := 8) (N := some 101) (v := undef) (a' := ?_) #[true, true, true, true, true, true, true, true, true, false, false, false] rfl rfl (by kernel_rfl) (fun _ _ _ h => h) (Or.inr ⟨by rfl, rfl⟩) ?_ ?_
        rotate_left
        ·simp only [Act.put, List.setIfInBounds_toArray, List.set_cons_zero, List.set_cons_succ, i64_w, i32_w]
         rfl
        refine pure_ (i := 9) (N := some 102) (v := undef) (a' := ?_) #[true, true, true, true, true, true, true, true, true, true, false, false] rfl rfl (by kernel_rfl) (fun _ _ _ h => h) (Or.inr ⟨by rfl, rfl⟩) ?_ ?_
        rotate_left
        ·simp only [Act.put, List.setIfInBounds_toArray, List.set_cons_zero, List.set_cons_succ, i64_w, i32_w]
         rfl
        refine pure_ (i := 10) (N := some 103) (v := undef) (a' := ?_) #[true, true, true, true, true, true, true, true, true, true, true, false] rfl rfl (by kernel_rfl) (fun _ _ _ h => h) (Or.inr ⟨by rfl, rfl⟩) ?_ ?_
        rotate_left
        ·simp only [Act.put, List.setIfInBounds_toArray, List.set_cons_zero, List.set_cons_succ, i64_w, i32_w]
         rfl
        refine pure_ (i := 11) (N := some 104) (v := ?_) (a' := ?_) #[true, true, true, true, true, true, true, true, true, true, true, true] rfl rfl (by kernel_rfl) (fun _ _ _ h => h) (Or.inl ⟨by rfl, ?_⟩) ?_ ?_
        rotate_left
        ·intro w'
         go_simp
         with_reducible rfl
        rotate_left
        ·simp only [Act.put, List.setIfInBounds_toArray, List.set_cons_zero, List.set_cons_succ, i64_w, i32_w]
         rfl
        refine done_ (by kernel_rfl) ?_
        have HK6 := Lib.hid hHeld.1
        clear hHeld HK5
        obtain ⟨q2, hq2⟩ : ∃ q, q = lexC s.hi.l z.hi.l := ⟨_, rfl⟩
        have hcb : ∀ W, Calls Try.prog 17 #[.agg s.hi.arr, .agg z.hi.arr] W fun e w' => e = .returned (.int .i64 q2) ∧ Gw W w' := fun W => by rw [hq2]; exact cmpAddr_walk _ _ W
        have hst2 : stepS out s = if 0 < q2 then out.set m ⟨z.v6, z.lo, s.hi⟩ else out := by rw [HSTP.out, if_pos HTT.out, hq2]
        have HST := Lib.hid hst2
        clear hst2 hq2
        go_wp2
        refine start_ (n := 12) (S := RkS w3 go co m out z br (orr + k * 33) s) (ds := []) #[false, false, false, false, false, false, false, false, false, false, false, false] (by kernel_rfl) rfl rfl (HK6.out.step (Below.refl _ _).drew) (fun hHeld => ?_)
        refine pure_ (i := 0) (N := some 105) (v := ?_) (a' := ?_) #[true, false, false, false, false, false, false, false, false, false, false, false] rfl rfl (by kernel_rfl) (fun _ _ _ h => h) (Or.inl ⟨by rfl, ?_⟩) ?_ ?_
        rotate_left
        ·intro w'
         go_simp
         with_reducible rfl
        rotate_left
        ·simp only [Act.put, List.setIfInBounds_toArray, List.set_cons_zero, List.set_cons_succ, i64_w, i32_w]
         rfl
        refine pure_ (i := 1) (N := some 106) (v := ?_) (a' := ?_) #[true, true, false, false, false, false, false, false, false, false, false, false] rfl rfl (by kernel_rfl) (fun _ _ _ h => h) (Or.inl ⟨by rfl, ?_⟩) ?_ ?_
        rotate_left
        ·intro w'
         go_simp
         with_reducible rfl
        rotate_left
        ·simp only [Act.put, List.setIfInBounds_toArray, List.set_cons_zero, List.set_cons_succ, i64_w, i32_w]
         rfl
        refine pure_ (i := 2) (N := some 107) (v := ?_) (a' := ?_) #[true, true, true, false, false, false, false, false, false, false, false, false] rfl rfl (by kernel_rfl) (fun _ _ _ h => h) (Or.inl ⟨by rfl, ?_⟩) ?_ ?_
        rotate_left
        ·intro w'
         go_simp
         with_reducible rfl
        rotate_left
        ·simp only [Act.put, List.setIfInBounds_toArray, List.set_cons_zero, List.set_cons_succ, i64_w, i32_w]
         rfl
        refine pure_ (i := 3) (N := some 108) (v := ?_) (a' := ?_) #[true, true, true, true, false, false, false, false, false, false, false, false] rfl rfl (by kernel_rfl) (fun _ _ _ h => h) (Or.inl ⟨by rfl, ?_⟩) ?_ ?_
        rotate_left
        ·intro w'
         go_simp
         with_reducible rfl
        rotate_left
        ·simp only [Act.put, List.setIfInBounds_toArray, List.set_cons_zero, List.set_cons_succ, i64_w, i32_w]
         rfl
        refine take_ (i := 4) (N := some 109) (v := .agg s.hi.arr) (a' := ?_) #[true, true, true, true, true, false, false, false, false, false, false, false] rfl rfl (by kernel_rfl) (fun _ _ _ h => h) ?_ hHeld ?_ ?_
        ·exact yA (by rfl) rfl s.hi br (orr + k * 33 + 17) rfl (fun W h => rhi_of_s h.2.2.1)
        rotate_left
        ·simp only [Act.put, List.setIfInBounds_toArray, List.set_cons_zero, List.set_cons_succ, i64_w, i32_w]
         rfl
        refine pure_ (i := 5) (N := some 110) (v := ?_) (a' := ?_) #[true, true, true, true, true, true, false, false, false, false, false, false] rfl rfl (by kernel_rfl) (fun _ _ _ h => h) (Or.inl ⟨by rfl, ?_⟩) ?_ ?_
        rotate_left
        ·intro w'
         go_simp
         with_reducible rfl
        rotate_left
        ·simp only [Act.put, List.setIfInBounds_toArray, List.set_cons_zero, List.set_cons_succ, i64_w, i32_w]
         rfl
        refine pure_ (i := 6) (N := some 111) (v := ?_) (a' := ?_) #[true, true, true, true, true, true, true, false, false, false, false, false] rfl rfl (by kernel_rfl) (fun _ _ _ h => h) (Or.inl ⟨by rfl, ?_⟩) ?_ ?_
        rotate_left
        ·intro w'
         go_simp
         with_reducible rfl
        rotate_left
        ·simp only [Act.put, List.setIfInBounds_toArray, List.set_cons_zero, List.set_cons_succ, i64_w, i32_w]
         rfl
        refine pure_ (i := 7) (N := some 112) (v := ?_) (a' := ?_) #[true, true, true, true, true, true, true, true, false, false, false, false] rfl rfl (by kernel_rfl) (fun _ _ _ h => h) (Or.inl ⟨by rfl, ?_⟩) ?_ ?_
        rotate_left
        ·intro w'
         go_simp
         with_reducible rfl
        rotate_left
        ·simp only [Act.put, List.setIfInBounds_toArray, List.set_cons_zero, List.set_cons_succ, i64_w, i32_w]
         rfl
        refine pure_ (i := 8) (N := some 113) (v := ?_) (a' := ?_) #[true, true, true, true, true, true, true, true, true, false, false, false] rfl rfl (by kernel_rfl) (fun _ _ _ h => h) (Or.inl ⟨by rfl, ?_⟩) ?_ ?_
        rotate_left
        ·intro w'
         go_simp
         with_reducible rfl
        rotate_left
        ·simp only [Act.put, List.setIfInBounds_toArray, List.set_cons_zero, List.set_cons_succ, i64_w, i32_w]
         rfl
        refine take_ (i := 9) (N := some 114) (v := .agg z.hi.arr) (a' := ?_) #[true, true, true, true, true, true, true, true, true, true, false, false] rfl rfl (by kernel_rfl) (fun _ _ _ h => h) ?_ hHeld ?_ ?_
        ·exact yA (by rfl) rfl z.hi go (m * 33 + 17) rfl (fun W h => rhi_of_s h.2.1)
        rotate_left
        ·simp only [Act.put, List.setIfInBounds_toArray, List.set_cons_zero, List.set_cons_succ, i64_w, i32_w]
         rfl
        refine one_ (i := 10) (N := some 115) #[true, true, true, true, true, true, true, true, true, true, true, false] rfl rfl (by kernel_rfl) (by decide) (fun K hK => ?_)
        refine goes_ Try.func17 (by kernel_rfl) rfl #[.agg s.hi.arr, .agg z.hi.arr] (by rfl) rfl rfl (by (try simp only [List.map_toArray, List.map_cons, List.map_nil]); first | done | rfl) ?_
        refine (hcb _).mono ?_
        rintro e w9 ⟨rfl, hB⟩
        refine ⟨_, rfl, ?_⟩
        refine hK.out _ _ (RkS.step hHeld hB.below) (fun hHeld => ?_)
        clear hK K
        refine norm_ (a' := ?_) ?_ ?_
        rotate_left
        ·show Act.put _ (some 115) _ = _
         simp only [Act.put, List.setIfInBounds_toArray, List.set_cons_zero, List.set_cons_succ, i64_w, i32_w]
         rfl
        refine pure_ (i := 11) (N := some 116) (v := ?_) (a' := ?_) #[true, true, true, true, true, true, true, true, true, true, true, true] rfl rfl (by kernel_rfl) (fun _ _ _ h => h) (Or.inl ⟨by rfl, ?_⟩) ?_ ?_
        rotate_left
        ·intro w'
         go_simp
         with_reducible rfl
        rotate_left
        ·simp only [Act.put, List.setIfInBounds_toArray, List.set_cons_zero, List.set_cons_succ, i64_w, i32_w]
         rfl
        refine done_ (by kernel_rfl) ?_
        have HK9 := Lib.hid hHeld
        clear hHeld hcb HK6
        by_cases p : 0 < q2
        ·have p1 : decide (0 < q2) = true := decide_eq_true p
         have p2 := eq_true p
         have HS9 : Hid (RowAt (w9.setCells go (m * 33 + 17) s.hi.cells) w3.heap.size go co (out.set m ⟨z.v6, z.lo, s.hi⟩) ∧ Below w3.heap.size w3 (w9.setCells go (m * 33 + 17) s.hi.cells)) := by
          refine Lib.hid ⟨?_, setCells_below _ go w3 HK9.out.1.hb _ _ _ HK9.out.2.2.2.1⟩
          have := HK9.out.1.setHi (i := m) (by omega) s.hi
          rwa [← HZ.out] at this
         go_wp2_with (first
          | ((with_reducible refine at_dst 123 ?_); refine loadA s.hi br (orr + k * 33 + 17) rfl (rhi_of_s HK9.out.2.2.1) ?_)
          | (refine wpList_store_mid rfl 28 (.tmp 125) (.tmp 123) rfl go (m * 33 + 17) s.hi.arr rfl rfl (HK9.out.1.there (by rw [s.hi.arr_size]; have := HK9.out.1.hl; omega)) (by rw [s.hi.arr_size]; exact infoA) s.hi.arr_one ?_))
         go_roundw
         case rel => exact ⟨k + 1, by omega, by go_num, Lib.hid ⟨by
          rw [HFT.out, HST.out, if_pos (by omega)]
          have := HS9.out.1.R
          rwa [List.length_set] at this, HS9.out.2⟩⟩
         case measure => simp [intOf]; omega
        ·have p1 : decide (0 < q2) = false := decide_eq_false p
         have p2 := eq_false p
         go_wp2
         go_roundw
         case rel => exact ⟨k + 1, by omega, by go_num, Lib.hid ⟨by rw [HFT.out, HST.out, if_neg (by omega)]; exact HK9.out.1.R, HK9.out.2.2.2.1⟩⟩
         case measure => simp [intOf]; omega
       ·obtain ⟨q, hq⟩ : ∃ q, q = lexC s.lo.l n1.l := ⟨_, rfl⟩
        have hca : ∀ W, Calls Try.prog 17 #[.agg s.lo.arr, .agg n1.arr] W fun e w' => e = .returned (.int .i64 q) ∧ Gw W w' := fun W => by rw [hq]; exact cmpAddr_walk _ _ W
        have HQ := Lib.hid hq
        clear hq
        go_wp2
        refine start_ (n := 12) (S := fun W => RkS w3 go co m out z br (orr + k * 33) s W ∧ Has W g n1.arr 28) (ds := []) #[false, false, false, false, false, false, false, false, false, false, false, false] (by kernel_rfl) rfl rfl ⟨HK5.out.1.step (Below.refl _ _).drew, HK5.out.2.drew⟩ (fun hHeld => ?_)
        refine pure_ (i := 0) (N := some 93) (v := ?_) (a' := ?_) #[true, false, false, false, false, false, false, false, false, false, false, false] rfl rfl (by kernel_rfl) (fun _ _ _ h => h) (Or.inl ⟨by rfl, ?_⟩) ?_ ?_
        rotate_left
        ·intro w'
         go_simp
         with_reducible rfl
        rotate_left
        ·simp only [Act.put, List.setIfInBounds_toArray, List.set_cons_zero, List.set_cons_succ, i64_w, i32_w]
         rfl
        refine pure_ (i := 1) (N := some 94) (v := ?_) (a' := ?_) #[true, true, false, false, false, false, false, false, false, false, false, false] rfl rfl (by kernel_rfl) (fun _ _ _ h => h) (Or.inl ⟨by rfl, ?_⟩) ?_ ?_
        rotate_left
        ·intro w'
         go_simp
         with_reducible rfl
        rotate_left
        ·simp only [Act.put, List.setIfInBounds_toArray, List.set_cons_zero, List.set_cons_succ, i64_w, i32_w]
         rfl
        refine pure_ (i := 2) (N := some 95) (v := ?_) (a' := ?_) #[true, true, true, false, false, false, false, false, false, false, false, false] rfl rfl (by kernel_rfl) (fun _ _ _ h => h) (Or.inl ⟨by rfl, ?_⟩) ?_ ?_
        rotate_left
        ·intro w'
         go_simp
         with_reducible rfl
        rotate_left
        ·simp only [Act.put, List.setIfInBounds_toArray, List.set_cons_zero, List.set_cons_succ, i64_w, i32_w]
         rfl
        refine pure_ (i := 3) (N := some 96) (v := ?_) (a' := ?_) #[true, true, true, true, false, false, false, false, false, false, false, false] rfl rfl (by kernel_rfl) (fun _ _ _ h => h) (Or.inl ⟨by rfl, ?_⟩) ?_ ?_
        rotate_left
        ·intro w'
         go_simp
         with_reducible rfl
        rotate_left
        ·simp only [Act.put, List.setIfInBounds_toArray, List.set_cons_zero, List.set_cons_succ, i64_w, i32_w]
         rfl
        refine pure_ (i := 4) (N := some 97) (v := ?_) (a' := ?_) #[true, true, true, true, true, false, false, false, false, false, false, false] rfl rfl (by kernel_rfl) (fun _ _ _ h => h) (Or.inl ⟨by rfl, ?_⟩) ?_ ?_
        rotate_left
        ·intro w'
         go_simp
         with_reducible rfl
        rotate_left
        ·simp only [Act.put, List.setIfInBounds_toArray, List.set_cons_zero, List.set_cons_succ, i64_w, i32_w]
         rfl
        refine pure_ (i := 5) (N := some 98) (v := ?_) (a' := ?_) #[true, true, true, true, true, true, false, false, false, false, false, false] rfl rfl (by kernel_rfl) (fun _ _ _ h => h) (Or.inl ⟨by rfl, ?_⟩) ?_ ?_
        rotate_left
        ·intro w'
         go_simp
         with_reducible rfl
        rotate_left
        ·simp only [Act.put, List.setIfInBounds_toArray, List.set_cons_zero, List.set_cons_succ, i64_w, i32_w]
         rfl
        refine pure_ (i := 6) (N := some 99) (v := ?_) (a' := ?_) #[true, true, true, true, true, true, true, false, false, false, false, false] rfl rfl (by kernel_rfl) (fun _ _ _ h => h) (Or.inl ⟨by rfl, ?_⟩) ?_ ?_
        rotate_left
        ·intro w'
         go_simp
         with_reducible rfl
        rotate_left
        ·simp only [Act.put, List.setIfInBounds_toArray, List.set_cons_zero, List.set_cons_succ, i64_w, i32_w]
         rfl
        refine take_ (i := 7) (N := some 100) (v := .agg s.lo.arr) (a' := ?_) #[true, true, true, true, true, true, true, true, false, false, false, false] rfl rfl (by kernel_rfl) (fun _ _ _ h => h) ?_ hHeld ?_ ?_
        ·exact yA (by rfl) rfl s.lo br (orr + k * 33 + 1) rfl (fun W h => rlo_of_s h.1.2.2.1)
        rotate_left
        ·simp only [Act.put, List.setIfInBounds_toArray, List.set_cons_zero, List.set_cons_succ, i64_w, i32_w]
         rfl
        refine take_ (i := 8) (N := some 101) (v := .agg n1.arr) (a' := ?_) #[true, true, true, true, true, true, true, true, true, false, false, false] rfl rfl (by kernel_rfl) (fun _ _ _ h => h) ?_ hHeld ?_ ?_
        ·exact yA (by rfl) rfl n1 g 0 rfl (fun W h => h.2.ra)
        rotate_left
        ·simp only [Act.put, List.setIfInBounds_toArray, List.set_cons_zero, List.set_cons_succ, i64_w, i32_w]
         rfl
        refine one_ (i := 9) (N := some 102) #[true, true, true, true, true, true, true, true, true, true, false, false] rfl rfl (by kernel_rfl) (by decide) (fun K hK => ?_)
        refine goes_ Try.func17 (by kernel_rfl) rfl #[.agg s.lo.arr, .agg n1.arr] (by rfl) rfl rfl (by (try simp only [List.map_toArray, List.map_cons, List.map_nil]); first | done | rfl) ?_
        refine (hca _).mono ?_
        rintro e w8 ⟨rfl, hB⟩
        refine ⟨_, rfl, ?_⟩
        refine hK.out _ _ ⟨hHeld.1.step hB.below, hHeld.2.below hB.below⟩ (fun hHeld => ?_)
        clear hK K
        refine norm_ (a' := ?_) ?_ ?_
        rotate_left
        ·show Act.put _ (some 102) _ = _
         simp only [Act.put, List.setIfInBounds_toArray, List.set_cons_zero, List.set_cons_succ, i64_w, i32_w]
         rfl
        refine pure_ (i := 10) (N := some 103) (v := ?_) (a' := ?_) #[true, true, true, true, true, true, true, true, true, true, true, false] rfl rfl (by kernel_rfl) (fun _ _ _ h => h) (Or.inl ⟨by rfl, ?_⟩) ?_ ?_
        rotate_left
        ·intro w'
         go_simp
         with_reducible rfl
        rotate_left
        ·simp only [Act.put, List.setIfInBounds_toArray, List.set_cons_zero, List.set_cons_succ, i64_w, i32_w]
         rfl
        refine pure_ (i := 11) (N := some 104) (v := ?_) (a' := ?_) #[true, true, true, true, true, true, true, true, true, true, true, true] rfl rfl (by kernel_rfl) (fun _ _ _ h => h) (Or.inl ⟨by rfl, ?_⟩) ?_ ?_
        rotate_left
        ·intro w'
         go_simp
         with_reducible rfl
        rotate_left
        ·simp only [Act.put, List.setIfInBounds_toArray, List.set_cons_zero, List.set_cons_succ, i64_w, i32_w]
         rfl
        refine done_ (by kernel_rfl) ?_
        have HK6 := Lib.hid hHeld.1
        clear hHeld hca HK5
        by_cases p : q ≤ 0
        ·have p1 : decide (q ≤ 0) = true := decide_eq_true p
         have p2 := eq_true p
         have HTT : Hid (touchS z s = true) := Lib.hid (by rw [HTO.out, ← HQ.out, p1]; rfl)
         obtain ⟨q2, hq2⟩ : ∃ q, q = lexC s.hi.l z.hi.l := ⟨_, rfl⟩
         have hcb : ∀ W, Calls Try.prog 17 #[.agg s.hi.arr, .agg z.hi.arr] W fun e w' => e = .returned (.int .i64 q2) ∧ Gw W w' := fun W => by rw [hq2]; exact cmpAddr_walk _ _ W
         have hst2 : stepS out s = if 0 < q2 then out.set m ⟨z.v6, z.lo, s.hi⟩ else out := by rw [HSTP.out, if_pos HTT.out, hq2]
         have HST := Lib.hid hst2
         clear hst2 hq2
         go_wp2
         refine start_ (n := 12) (S := RkS w3 go co m out z br (orr + k * 33) s) (ds := []) #[false, false, false, false, false, false, false, false, false, false, false, false] (by kernel_rfl) rfl rfl (HK6.out.step (Below.refl _ _).drew) (fun hHeld => ?_)
         refine pure_ (i := 0) (N := some 105) (v := ?_) (a' := ?_) #[true, false, false, false, false, false, false, false, false, false, false, false] rfl rfl (by kernel_rfl) (fun _ _ _ h => h) (Or.inl ⟨by rfl, ?_⟩) ?_ ?_
         rotate_left
         ·intro w'
          go_simp
          with_reducible rfl
         rotate_left
         ·simp only [Act.put, List.setIfInBounds_toArray, List.set_cons_zero, List.set_cons_succ, i64_w, i32_w]
          rfl
         refine pure_ (i := 1) (N := some 106) (v := ?_) (a' := ?_) #[true, true, false, false, false, false, false, false, false, false, false, false] rfl rfl (by kernel_rfl) (fun _ _ _ h => h) (Or.inl ⟨by rfl, ?_⟩) ?_ ?_
         rotate_left
         ·intro w'
          go_simp
          with_reducible rfl
         rotate_left
         ·simp only [Act.put, List.setIfInBounds_toArray, List.set_cons_zero, List.set_cons_succ, i64_w, i32_w]
          rfl
         refine pure_ (i := 2) (N := some 107) (v := ?_) (a' := ?_) #[true, true, true, false, false, false, false, false, false, false, false, false] rfl rfl (by kernel_rfl) (fun _ _ _ h => h) (Or.inl ⟨by rfl, ?_⟩) ?_ ?_
         rotate_left
         ·intro w'
          go_simp
          with_reducible rfl
         rotate_left
         ·simp only [Act.put, List.setIfInBounds_toArray, List.set_cons_zero, List.set_cons_succ, i64_w, i32_w]
          rfl
         refine pure_ (i := 3) (N := some 108) (v := ?_) (a' := ?_) #[true, true, true, true, false, false, false, false, false, false, false, false] rfl rfl (by kernel_rfl) (fun _ _ _ h => h) (Or.inl ⟨by rfl, ?_⟩) ?_ ?_
         rotate_left
         ·intro w'
          go_simp
          with_reducible rfl
         rotate_left
         ·simp only [Act.put, List.setIfInBounds_toArray, List.set_cons_zero, List.set_cons_succ, i64_w, i32_w]
          rfl
         refine take_ (i := 4) (N := some 109) (v := .agg s.hi.arr) (a' := ?_) #[true, true, true, true, true, false, false, false, false, false, false, false] rfl rfl (by kernel_rfl) (fun _ _ _ h => h) ?_ hHeld ?_ ?_
         ·exact yA (by rfl) rfl s.hi br (orr + k * 33 + 17) rfl (fun W h => rhi_of_s h.2.2.1)
         rotate_left
         ·simp only [Act.put, List.setIfInBounds_toArray, List.set_cons_zero, List.set_cons_succ, i64_w, i32_w]
          rfl
         refine pure_ (i := 5) (N := some 110) (v := ?_) (a' := ?_) #[true, true, true, true, true, true, false, false, false, false, false, false] rfl rfl (by kernel_rfl) (fun _ _ _ h => h) (Or.inl ⟨by rfl, ?_⟩) ?_ ?_
         rotate_left
         ·intro w'
          go_simp
          with_reducible rfl
         rotate_left
         ·simp only [Act.put, List.setIfInBounds_toArray, List.set_cons_zero, List.set_cons_succ, i64_w, i32_w]
          rfl
         refine pure_ (i := 6) (N := some 111) (v := ?_) (a' := ?_) #[true, true, true, true, true, true, true, false, false, false, false, false] rfl rfl (by kernel_rfl) (fun _ _ _ h => h) (Or.inl ⟨by rfl, ?_⟩) ?_ ?_
         rotate_left
         ·intro w'
          go_simp
          with_reducible rfl
         rotate_left
         ·simp only [Act.put, List.setIfInBounds_toArray, List.set_cons_zero, List.set_cons_succ, i64_w, i32_w]
          rfl
         refine pure_ (i := 7) (N := some 112) (v := ?_) (a' := ?_) #[true, true, true, true, true, true, true, true, false, false, false, false] rfl rfl (by kernel_rfl) (fun _ _ _ h => h) (Or.inl ⟨by rfl, ?_⟩) ?_ ?_
         rotate_left
         ·intro w'
          go_simp
          with_reducible rfl
         rotate_left
         ·simp only [Act.put, List.setIfInBounds_toArray, List.set_cons_zero, List.set_cons_succ, i64_w, i32_w]
          rfl
         refine pure_ (i := 8) (N := some 113) (v := ?_) (a' := ?_) #[true, true, true, true, true, true, true, true, true, false, false, false] rfl rfl (by kernel_rfl) (fun _ _ _ h => h) (Or.inl ⟨by rfl, ?_⟩) ?_ ?_
         rotate_left
         ·intro w'
          go_simp
          with_reducible rfl
         rotate_left
         ·simp only [Act.put, List.setIfInBounds_toArray, List.set_cons_zero, List.set_cons_succ, i64_w, i32_w]
          rfl
         refine take_ (i := 9) (N := some 114) (v := .agg z.hi.arr) (a' := ?_) #[true, true, true, true, true, true, true, true, true, true, false, false] rfl rfl (by kernel_rfl) (fun _ _ _ h => h) ?_ hHeld ?_ ?_
         ·exact yA (by rfl) rfl z.hi go (m * 33 + 17) rfl (fun W h => rhi_of_s h.2.1)
         rotate_left
         ·simp only [Act.put, List.setIfInBounds_toArray, List.set_cons_zero, List.set_cons_succ, i64_w, i32_w]
          rfl
         refine one_ (i := 10) (N := some 115) #[true, true, true, true, true, true, true, true, true, true, true, false] rfl rfl (by kernel_rfl) (by decide) (fun K hK => ?_)
         refine goes_ Try.func17 (by kernel_rfl) rfl #[.agg s.hi.arr, .agg z.hi.arr] (by rfl) rfl rfl (by (try simp only [List.map_toArray, List.map_cons, List.map_nil]); first | done | rfl) ?_
         refine (hcb _).mono ?_
         rintro e w9 ⟨rfl, hB⟩
         refine ⟨_, rfl, ?_⟩
         refine hK.out _ _ (RkS.step hHeld hB.below) (fun hHeld => ?_)
         clear hK K
         refine norm_ (a' := ?_) ?_ ?_
         rotate_left
         ·show Act.put _ (some 115) _ = _
          simp only [Act.put, List.setIfInBounds_toArray, List.set_cons_zero, List.set_cons_succ, i64_w, i32_w]
          rfl
         refine pure_ (i := 11) (N := some 116) (v := ?_) (a' := ?_) #[true, true, true, true, true, true, true, true, true, true, true, true] rfl rfl (by kernel_rfl) (fun _ _ _ h => h) (Or.inl ⟨by rfl, ?_⟩) ?_ ?_
         rotate_left
         ·intro w'
          go_simp
          with_reducible rfl
         rotate_left
         ·simp only [Act.put, List.setIfInBounds_toArray, List.set_cons_zero, List.set_cons_succ, i64_w, i32_w]
          rfl
         refine done_ (by kernel_rfl) ?_
         have HK9 := Lib.hid hHeld
         clear hHeld hcb HK6
         by_cases p : 0 < q2
         ·have p1 : decide (0 < q2) = true := decide_eq_true p
          have p2 := eq_true p
          have HS9 : Hid (RowAt (w9.setCells go (m * 33 + 17) s.hi.cells) w3.heap.size go co (out.set m ⟨z.v6, z.lo, s.hi⟩) ∧ Below w3.heap.size w3 (w9.setCells go (m * 33 + 17) s.hi.cells)) := by
           refine Lib.hid ⟨?_, setCells_below _ go w3 HK9.out.1.hb _ _ _ HK9.out.2.2.2.1⟩
           have := HK9.out.1.setHi (i := m) (by omega) s.hi
           rwa [← HZ.out] at this
          go_wp2_with (first
           | ((with_reducible refine at_dst 123 ?_); refine loadA s.hi br (orr + k * 33 + 17) rfl (rhi_of_s HK9.out.2.2.1) ?_)
           | (refine wpList_store_mid rfl 28 (.tmp 125) (.tmp 123) rfl go (m * 33 + 17) s.hi.arr rfl rfl (HK9.out.1.there (by rw [s.hi.arr_size]; have := HK9.out.1.hl; omega)) (by rw [s.hi.arr_size]; exact infoA) s.hi.arr_one ?_))
          go_roundw
          case rel => exact ⟨k + 1, by omega, by go_num, Lib.hid ⟨by
           rw [HFT.out, HST.out, if_pos (by omega)]
           have := HS9.out.1.R
           rwa [List.length_set] at this, HS9.out.2⟩⟩
          case measure => simp [intOf]; omega
         ·have p1 : decide (0 < q2) = false := decide_eq_false p
          have p2 := eq_false p
          go_wp2
          go_roundw
          case rel => exact ⟨k + 1, by omega, by go_num, Lib.hid ⟨by rw [HFT.out, HST.out, if_neg (by omega)]; exact HK9.out.1.R, HK9.out.2.2.2.1⟩⟩
          case measure => simp [intOf]; omega
        ·have p1 : decide (q ≤ 0) = false := decide_eq_false p
         have p2 := eq_false p
         have HST : Hid (stepS out s = out ++ [s]) := Lib.hid (by rw [HSTP.out, if_neg (by rw [HTO.out, ← HQ.out, p1]; simp)])
         obtain ⟨wy, hwy⟩ : ∃ wy, wy = w8 := ⟨_, rfl⟩
         have HY : Hid (kS.R 30 wy w3.heap.size (fun _ => True) (.slice (some ⟨go, 0, none⟩) out.length co) out ∧ wy.rangeAt br (orr + k * 33) s.cells ∧ Below w3.heap.size w3 wy) := by
          rw [hwy]
          exact Lib.hid ⟨HK6.out.1.R, HK6.out.2.2.1, HK6.out.2.2.2.1⟩
         try rw [← hwy]
         clear hwy
         go_wp2_with (first
          | ((with_reducible refine at_dst 130 ?_); refine loadS s br (orr + k * 33) rfl HY.out.2.1 ?_)
          | ((with_reducible refine at_dst 131 ?_); refine valN rfl (exec_buildS s rfl _) ?_)
          | ((with_reducible refine at_dst 132 ?_); refine appRowsL (w0 := w3) w3.heap.size rfl (.tmp 126) (.tmp 131) rfl (.slice (some ⟨go, 0, none⟩) out.length co) out [s] (some ⟨wy.heap.size, 0, none⟩) 1 1 rfl rfl (Kd.R_below HY.out.1 ((Below.refl _ _).alloc (Nat.le_refl _) _)) (C_one (Has.new wy s.arr _)) (HY.out.2.2.alloc HY.out.2.2.size _) (Nat.le_trans HY.out.2.2.size ((Below.refl wy.heap.size wy).alloc (Nat.le_refl _) (.cells s.arr 30)).size) (by omega) ?_; intro v8 w8 hR8 hB8 hg8 hat8; obtain ⟨A8, c8, e8⟩ := Kd.R_slice hR8; subst e8; have HE8 := Lib.hid (And.intro hR8 hB8); clear hR8 hB8 hg8 hat8))
         go_roundw
         case rel => exact ⟨k + 1, by omega, by go_num, Lib.hid ⟨by rw [HFT.out, HST.out]; have h9 := HE8.out.1; rw [List.length_append, List.length_singleton] at h9; exact h9, HE8.out.2⟩⟩
         case measure => simp [intOf]; omega
      ·have c1 : wr.cell? ⟨go, m * 33, none⟩ = some (.bool false) := by rw [hv1]; exact rs_v6 HK.out.2.1
       have c2 : wr.cell? ⟨br, orr + k * 33, none⟩ = some (.bool true) := by rw [hv2]; exact rs_v6 HK.out.2.2.1
       have HV := Lib.hid (And.intro hv1 hv2)
       clear hv1 hv2
       go_wp2
       refine start_ (n := 15) (S := fun W => W.cell? ⟨go, m * 33, none⟩ = some (.bool false) ∧ W.cell? ⟨br, orr + k * 33, none⟩ = some (.bool true) ∧ RkS w3 go co m out z br (orr + k * 33) s W) (ds := []) #[false, false, false, false, false, false, false, false, false, false, false, false, false, false, false] (by kernel_rfl) rfl rfl ⟨c1, c2, HK.out.step (Below.refl _ _).drew⟩ (fun hHeld => ?_)
       refine pure_ (i := 0) (N := some 64) (v := ?_) (a' := ?_) #[true, false, false, false, false, false, false, false, false, false, false, false, false, false, false] rfl rfl (by kernel_rfl) (fun _ _ _ h => h) (Or.inl ⟨by rfl, ?_⟩) ?_ ?_
       rotate_left
       ·intro w'
        go_simp
        with_reducible rfl
       rotate_left
       ·simp only [Act.put, List.setIfInBounds_toArray, List.set_cons_zero, List.set_cons_succ, i64_w, i32_w]
        rfl
       refine pure_ (i := 1) (N := some 65) (v := ?_) (a' := ?_) #[true, true, false, false, false, false, false, false, false, false, false, false, false, false, false] rfl rfl (by kernel_rfl) (fun _ _ _ h => h) (Or.inl ⟨by rfl, ?_⟩) ?_ ?_
       rotate_left
       ·intro w'
        go_simp
        with_reducible rfl
       rotate_left
       ·simp only [Act.put, List.setIfInBounds_toArray, List.set_cons_zero, List.set_cons_succ, i64_w, i32_w]
        rfl
       refine pure_ (i := 2) (N := some 66) (v := ?_) (a' := ?_) #[true, true, true, false, false, false, false, false, false, false, false, false, false, false, false] rfl rfl (by kernel_rfl) (fun _ _ _ h => h) (Or.inl ⟨by rfl, ?_⟩) ?_ ?_
       rotate_left
       ·intro w'
        go_simp
        with_reducible rfl
       rotate_left
       ·simp only [Act.put, List.setIfInBounds_toArray, List.set_cons_zero, List.set_cons_succ, i64_w, i32_w]
        rfl
       refine pure_ (i := 3) (N := some 67) (v := ?_) (a' := ?_) #[true, true, true, true, false, false, false, false, false, false, false, false, false, false, false] rfl rfl (by kernel_rfl) (fun _ _ _ h => h) (Or.inl ⟨by rfl, ?_⟩) ?_ ?_
       rotate_left
       ·intro w'
        go_simp
        with_reducible rfl
       rotate_left
       ·simp only [Act.put, List.setIfInBounds_toArray, List.set_cons_zero, List.set_cons_succ, i64_w, i32_w]
        rfl
       refine pure_ (i := 4) (N := some 68) (v := ?_) (a' := ?_) #[true, true, true, true, true, false, false, false, false, false, false, false, false, false, false] rfl rfl (by kernel_rfl) (fun _ _ _ h => h) (Or.inl ⟨by rfl, ?_⟩) ?_ ?_
       rotate_left
       ·intro w'
        go_simp
        with_reducible rfl
       rotate_left
       ·simp only [Act.put, List.setIfInBounds_toArray, List.set_cons_zero, List.set_cons_succ, i64_w, i32_w]
        rfl
       refine pure_ (i := 5) (N := some 69) (v := ?_) (a' := ?_) #[true, true, true, true, true, true, false, false, false, false, false, false, false, false, false] rfl rfl (by kernel_rfl) (fun _ _ _ h => h) (Or.inl ⟨by rfl, ?_⟩) ?_ ?_
       rotate_left
       ·intro w'
        go_simp
        with_reducible rfl
       rotate_left
       ·simp only [Act.put, List.setIfInBounds_toArray, List.set_cons_zero, List.set_cons_succ, i64_w, i32_w]
        rfl
       refine pure_ (i := 6) (N := some 70) (v := ?_) (a' := ?_) #[true, true, true, true, true, true, true, false, false, false, false, false, false, false, false] rfl rfl (by kernel_rfl) (fun _ _ _ h => h) (Or.inl ⟨by rfl, ?_⟩) ?_ ?_
       rotate_left
       ·intro w'
        go_simp
        with_reducible rfl
       rotate_left
       ·simp only [Act.put, List.setIfInBounds_toArray, List.set_cons_zero, List.set_cons_succ, i64_w, i32_w]
        rfl
       refine take_ (i := 7) (N := some 71) (v := ?_) (a' := ?_) #[true, true, true, true, true, true, true, true, false, false, false, false, false, false, false] rfl rfl (by kernel_rfl) (fun _ _ _ h => h) (Or.inl ⟨by rfl, ?_⟩) hHeld ?_ ?_
       rotate_left
       ·rintro w' ⟨s0, s1, s2⟩
        go_simp
        with_reducible rfl
       rotate_left
       ·simp only [Act.put, List.setIfInBounds_toArray, List.set_cons_zero, List.set_cons_succ, i64_w, i32_w]
        rfl
       refine pure_ (i := 8) (N := some 72) (v := ?_) (a' := ?_) #[true, true, true, true, true, true, true, true, true, false, false, false, false, false, false] rfl rfl (by kernel_rfl) (fun _ _ _ h => h) (Or.inl ⟨by rfl, ?_⟩) ?_ ?_
       rotate_left
       ·intro w'
        go_simp
        with_reducible rfl
       rotate_left
       ·simp only [Act.put, List.setIfInBounds_toArray, List.set_cons_zero, List.set_cons_succ, i64_w, i32_w]
        rfl
       refine pure_ (i := 9) (N := some 73) (v := ?_) (a' := ?_) #[true, true, true, true, true, true, true, true, true, true, false, false, false, false, false] rfl rfl (by kernel_rfl) (fun _ _ _ h => h) (Or.inl ⟨by rfl, ?_⟩) ?_ ?_
       rotate_left
       ·intro w'
        go_simp
        with_reducible rfl
       rotate_left
       ·simp only [Act.put, List.setIfInBounds_toArray, List.set_cons_zero, List.set_cons_succ, i64_w, i32_w]
        rfl
       refine pure_ (i := 10) (N := some 74) (v := ?_) (a' := ?_) #[true, true, true, true, true, true, true, true, true, true, true, false, false, false, false] rfl rfl (by kernel_rfl) (fun _ _ _ h => h) (Or.inl ⟨by rfl, ?_⟩) ?_ ?_
       rotate_left
       ·intro w'
        go_simp
        with_reducible rfl
       rotate_left
       ·simp only [Act.put, List.setIfInBounds_toArray, List.set_cons_zero, List.set_cons_succ, i64_w, i32_w]
        rfl
       refine pure_ (i := 11) (N := some 75) (v := ?_) (a' := ?_) #[true, true, true, true, true, true, true, true, true, true, true, true, false, false, false] rfl rfl (by kernel_rfl) (fun _ _ _ h => h) (Or.inl ⟨by rfl, ?_⟩) ?_ ?_
       rotate_left
       ·intro w'
        go_simp
        with_reducible rfl
       rotate_left
       ·simp only [Act.put, List.setIfInBounds_toArray, List.set_cons_zero, List.set_cons_succ, i64_w, i32_w]
        rfl
       refine take_ (i := 12) (N := some 76) (v := ?_) (a' := ?_) #[true, true, true, true, true, true, true, true, true, true, true, true, true, false, false] rfl rfl (by kernel_rfl) (fun _ _ _ h => h) (Or.inl ⟨by rfl, ?_⟩) hHeld ?_ ?_
       rotate_left
       ·rintro w' ⟨s0, s1, s2⟩
        go_simp
        with_reducible rfl
       rotate_left
       ·simp only [Act.put, List.setIfInBounds_toArray, List.set_cons_zero, List.set_cons_succ, i64_w, i32_w]
        rfl
       refine pure_ (i := 13) (N := some 77) (v := ?_) (a' := ?_) #[true, true, true, true, true, true, true, true, true, true, true, true, true, true, false] rfl rfl (by kernel_rfl) (fun _ _ _ h => h) (Or.inl ⟨by rfl, ?_⟩) ?_ ?_
       rotate_left
       ·intro w'
        go_simp
        with_reducible rfl
       rotate_left
       ·simp only [Act.put, List.setIfInBounds_toArray, List.set_cons_zero, List.set_cons_succ, i64_w, i32_w]
        rfl
       refine pure_ (i := 14) (N := some 78) (v := ?_) (a' := ?_) #[true, true, true, true, true, true, true, true, true, true, true, true, true, true, true] rfl rfl (by kernel_rfl) (fun _ _ _ h => h) (Or.inl ⟨by rfl, ?_⟩) ?_ ?_
       rotate_left
       ·intro w'
        go_simp
        with_reducible rfl
       rotate_left
       ·simp only [Act.put, List.setIfInBounds_toArray, List.set_cons_zero, List.set_cons_succ, i64_w, i32_w]
        rfl
       refine done_ (by kernel_rfl) ?_
       have HK4 := Lib.hid hHeld.2.2
       clear hHeld c1 c2 HK
       have HST : Hid (stepS out s = out ++ [s]) := Lib.hid (by
        rw [HSTP.out, if_neg]
        unfold touchS
        rw [← HV.out.1, ← HV.out.2]
        simp)
       obtain ⟨wy, hwy⟩ : ∃ wy, wy = wr.drew := ⟨_, rfl⟩
       have HY : Hid (kS.R 30 wy w3.heap.size (fun _ => True) (.slice (some ⟨go, 0, none⟩) out.length co) out ∧ wy.rangeAt br (orr + k * 33) s.cells ∧ Below w3.heap.size w3 wy) := by
        rw [hwy]
        exact Lib.hid ⟨HK4.out.1.R, HK4.out.2.2.1, HK4.out.2.2.2.1⟩
       try rw [← hwy]
       clear hwy
       go_wp2_with (first
        | ((with_reducible refine at_dst 130 ?_); refine loadS s br (orr + k * 33) rfl HY.out.2.1 ?_)
        | ((with_reducible refine at_dst 131 ?_); refine valN rfl (exec_buildS s rfl _) ?_)
        | ((with_reducible refine at_dst 132 ?_); refine appRowsL (w0 := w3) w3.heap.size rfl (.tmp 126) (.tmp 131) rfl (.slice (some ⟨go, 0, none⟩) out.length co) out [s] (some ⟨wy.heap.size, 0, none⟩) 1 1 rfl rfl (Kd.R_below HY.out.1 ((Below.refl _ _).alloc (Nat.le_refl _) _)) (C_one (Has.new wy s.arr _)) (HY.out.2.2.alloc HY.out.2.2.size _) (Nat.le_trans HY.out.2.2.size ((Below.refl wy.heap.size wy).alloc (Nat.le_refl _) (.cells s.arr 30)).size) (by omega) ?_; intro v8 w8 hR8 hB8 hg8 hat8; obtain ⟨A8, c8, e8⟩ := Kd.R_slice hR8; subst e8; have HE8 := Lib.hid (And.intro hR8 hB8); clear hR8 hB8 hg8 hat8))
       go_roundw
       case rel => exact ⟨k + 1, by omega, by go_num, Lib.hid ⟨by rw [HFT.out, HST.out]; have h9 := HE8.out.1; rw [List.length_append, List.length_singleton] at h9; exact h9, HE8.out.2⟩⟩
       case measure => simp [intOf]; omega
      ·have c1 : wr.cell? ⟨go, m * 33, none⟩ = some (.bool true) := by rw [hv1]; exact rs_v6 HK.out.2.1
       have c2 : wr.cell? ⟨br, orr + k * 33, none⟩ = some (.bool false) := by rw [hv2]; exact rs_v6 HK.out.2.2.1
       have HV := Lib.hid (And.intro hv1 hv2)
       clear hv1 hv2
       go_wp2
       refine start_ (n := 15) (S := fun W => W.cell? ⟨go, m * 33, none⟩ = some (.bool true) ∧ W.cell? ⟨br, orr + k * 33, none⟩ = some (.bool false) ∧ RkS w3 go co m out z br (orr + k * 33) s W) (ds := []) #[false, false, false, false, false, false, false, false, false, false, false, false, false, false, false] (by kernel_rfl) rfl rfl ⟨c1, c2, HK.out.step (Below.refl _ _).drew⟩ (fun hHeld => ?_)
       refine pure_ (i := 0) (N := some 64) (v := ?_) (a' := ?_) #[true, false, false, false, false, false, false, false, false, false, false, false, false, false, false] rfl rfl (by kernel_rfl) (fun _ _ _ h => h) (Or.inl ⟨by rfl, ?_⟩) ?_ ?_
       rotate_left
       ·intro w'
        go_simp
        with_reducible rfl
       rotate_left
       ·simp only [Act.put, List.setIfInBounds_toArray, List.set_cons_zero, List.set_cons_succ, i64_w, i32_w]
        rfl
       refine pure_ (i := 1) (N := some 65) (v := ?_) (a' := ?_) #[true, true, false, false, false, false, false, false, false, false, false, false, false, false, false] rfl rfl (by kernel_rfl) (fun _ _ _ h => h) (Or.inl ⟨by rfl, ?_⟩) ?_ ?_
       rotate_left
       ·intro w'
        go_simp
        with_reducible rfl
       rotate_left
       ·simp only [Act.put, List.setIfInBounds_toArray, List.set_cons_zero, List.set_cons_succ, i64_w, i32_w]
        rfl
       refine pure_ (i := 2) (N := some 66) (v := ?_) (a' := ?_) #[true, true, true, false, false, false, false, false, false, false, false, false, false, false, false] rfl rfl (by kernel_rfl) (fun _ _ _ h => h) (Or.inl ⟨by rfl, ?_⟩) ?_ ?_
       rotate_left
       ·intro w'
        go_simp
        with_reducible rfl
       rotate_left
       ·simp only [Act.put, List.setIfInBounds_toArray, List.set_cons_zero, List.set_cons_succ, i64_w, i32_w]
        rfl
       refine pure_ (i := 3) (N := some 67) (v := ?_) (a' := ?_) #[true, true, true, true, false, false, false, false, false, false, false, false, false, false, false] rfl rfl (by kernel_rfl) (fun _ _ _ h => h) (Or.inl ⟨by rfl, ?_⟩) ?_ ?_
       rotate_left
       ·intro w'
        go_simp
        with_reducible rfl
       rotate_left
       ·simp only [Act.put, List.setIfInBounds_toArray, List.set_cons_zero, List.set_cons_succ, i64_w, i32_w]
        rfl
       refine pure_ (i := 4) (N := some 68) (v := ?_) (a' := ?_) #[true, true, true, true, true, false, false, false, false, false, false, false, false, false, false] rfl rfl (by kernel_rfl) (fun _ _ _ h => h) (Or.inl ⟨by rfl, ?_⟩) ?_ ?_
       rotate_left
       ·intro w'
        go_simp
        with_reducible rfl
       rotate_left
       ·simp only [Act.put, List.setIfInBounds_toArray, List.set_cons_zero, List.set_cons_succ, i64_w, i32_w]
        rfl
       refine pure_ (i := 5) (N := some 69) (v := ?_) (a' := ?_) #[true, true, true, true, true, true, false, false, false, false, false, false, false, false, false] rfl rfl (by kernel_rfl) (fun _ _ _ h => h) (Or.inl ⟨by rfl, ?_⟩) ?_ ?_
       rotate_left
       ·intro w'
        go_simp
        with_reducible rfl
       rotate_left
       ·simp only [Act.put, List.setIfInBounds_toArray, List.set_cons_zero, List.set_cons_succ, i64_w, i32_w]
        rfl
       refine pure_ (i := 6) (N := some 70) (v := ?_) (a' := ?_) #[true, true, true, true, true, true, true, false, false, false, false, false, false, false, false] rfl rfl (by kernel_rfl) (fun _ _ _ h => h) (Or.inl ⟨by rfl, ?_⟩) ?_ ?_
       rotate_left
       ·intro w'
        go_simp
        with_reducible rfl
       rotate_left
       ·simp only [Act.put, List.setIfInBounds_toArray, List.set_cons_zero, List.set_cons_succ, i64_w, i32_w]
        rfl
       refine take_ (i := 7) (N := some 71) (v := ?_) (a' := ?_) #[true, true, true, true, true, true, true, true, false, false, false, false, false, false, false] rfl rfl (by kernel_rfl) (fun _ _ _ h => h) (Or.inl ⟨by rfl, ?_⟩) hHeld ?_ ?_
       rotate_left
       ·rintro w' ⟨s0, s1, s2⟩
        go_simp
        with_reducible rfl
       rotate_left
       ·simp only [Act.put, List.setIfInBounds_toArray, List.set_cons_zero, List.set_cons_succ, i64_w, i32_w]
        rfl
       refine pure_ (i := 8) (N := some 72) (v := ?_) (a' := ?_) #[true, true, true, true, true, true, true, true, true, false, false, false, false, false, false] rfl rfl (by kernel_rfl) (fun _ _ _ h => h) (Or.inl ⟨by rfl, ?_⟩) ?_ ?_
       rotate_left
       ·intro w'
        go_simp
        with_reducible rfl
       rotate_left
       ·simp only [Act.put, List.setIfInBounds_toArray, List.set_cons_zero, List.set_cons_succ, i64_w, i32_w]
        rfl
       refine pure_ (i := 9) (N := some 73) (v := ?_) (a' := ?_) #[true, true, true, true, true, true, true, true, true, true, false, false, false, false, false] rfl rfl (by kernel_rfl) (fun _ _ _ h => h) (Or.inl ⟨by rfl, ?_⟩) ?_ ?_
       rotate_left
       ·intro w'
        go_simp
        with_reducible rfl
       rotate_left
       ·simp only [Act.put, List.setIfInBounds_toArray, List.set_cons_zero, List.set_cons_succ, i64_w, i32_w]
        rfl
       refine pure_ (i := 10) (N := some 74) (v := ?_) (a' := ?_) #[true, true, true, true, true, true, true, true, true, true, true, false, false, false, false] rfl rfl (by kernel_rfl) (fun _ _ _ h => h) (Or.inl ⟨by rfl, ?_⟩) ?_ ?_
       rotate_left
       ·intro w'
        go_simp
        with_reducible rfl
       rotate_left
       ·simp only [Act.put, List.setIfInBounds_toArray, List.set_cons_zero, List.set_cons_succ, i64_w, i32_w]
        rfl
       refine pure_ (i := 11) (N := some 75) (v := ?_) (a' := ?_) #[true, true, true, true, true, true, true, true, true, true, true, true, false, false, false] rfl rfl (by kernel_rfl) (fun _ _ _ h => h) (Or.inl ⟨by rfl, ?_⟩) ?_ ?_
       rotate_left
       ·intro w'
        go_simp
        with_reducible rfl
       rotate_left
       ·simp only [Act.put, List.setIfInBounds_toArray, List.set_cons_zero, List.set_cons_succ, i64_w, i32_w]
        rfl
       refine take_ (i := 12) (N := some 76) (v := ?_) (a' := ?_) #[true, true, true, true, true, true, true, true, true, true, true, true, true, false, false] rfl rfl (by kernel_rfl) (fun _ _ _ h => h) (Or.inl ⟨by rfl, ?_⟩) hHeld ?_ ?_
       rotate_left
       ·rintro w' ⟨s0, s1, s2⟩
        go_simp
        with_reducible rfl
       rotate_left
       ·simp only [Act.put, List.setIfInBounds_toArray, List.set_cons_zero, List.set_cons_succ, i64_w, i32_w]
        rfl
       refine pure_ (i := 13) (N := some 77) (v := ?_) (a' := ?_) #[true, true, true, true, true, true, true, true, true, true, true, true, true, true, false] rfl rfl (by kernel_rfl) (fun _ _ _ h => h) (Or.inl ⟨by rfl, ?_⟩) ?_ ?_
       rotate_left
       ·intro w'
        go_simp
        with_reducible rfl
       rotate_left
       ·simp only [Act.put, List.setIfInBounds_toArray, List.set_cons_zero, List.set_cons_succ, i64_w, i32_w]
        rfl
       refine pure_ (i := 14) (N := some 78) (v := ?_) (a' := ?_) #[true, true, true, true, true, true, true, true, true, true, true, true, true, true, true] rfl rfl (by kernel_rfl) (fun _ _ _ h => h) (Or.inl ⟨by rfl, ?_⟩) ?_ ?_
       rotate_left
       ·intro w'
        go_simp
        with_reducible rfl
       rotate_left
       ·simp only [Act.put, List.setIfInBounds_toArray, List.set_cons_zero, List.set_cons_succ, i64_w, i32_w]
        rfl
       refine done_ (by kernel_rfl) ?_
       have HK4 := Lib.hid hHeld.2.2
       clear hHeld c1 c2 HK
       have HST : Hid (stepS out s = out ++ [s]) := Lib.hid (by
        rw [HSTP.out, if_neg]
        unfold touchS
        rw [← HV.out.1, ← HV.out.2]
        simp)
       obtain ⟨wy, hwy⟩ : ∃ wy, wy = wr.drew := ⟨_, rfl⟩
       have HY : Hid (kS.R 30 wy w3.heap.size (fun _ => True) (.slice (some ⟨go, 0, none⟩) out.length co) out ∧ wy.rangeAt br (orr + k * 33) s.cells ∧ Below w3.heap.size w3 wy) := by
        rw [hwy]
        exact Lib.hid ⟨HK4.out.1.R, HK4.out.2.2.1, HK4.out.2.2.2.1⟩
       try rw [← hwy]
       clear hwy
       go_wp2_with (first
        | ((with_reducible refine at_dst 130 ?_); refine loadS s br (orr + k * 33) rfl HY.out.2.1 ?_)
        | ((with_reducible refine at_dst 131 ?_); refine valN rfl (exec_buildS s rfl _) ?_)
        | ((with_reducible refine at_dst 132 ?_); refine appRowsL (w0 := w3) w3.heap.size rfl (.tmp 126) (.tmp 131) rfl (.slice (some ⟨go, 0, none⟩) out.length co) out [s] (some ⟨wy.heap.size, 0, none⟩) 1 1 rfl rfl (Kd.R_below HY.out.1 ((Below.refl _ _).alloc (Nat.le_refl _) _)) (C_one (Has.new wy s.arr _)) (HY.out.2.2.alloc HY.out.2.2.size _) (Nat.le_trans HY.out.2.2.size ((Below.refl wy.heap.size wy).alloc (Nat.le_refl _) (.cells s.arr 30)).size) (by omega) ?_; intro v8 w8 hR8 hB8 hg8 hat8; obtain ⟨A8, c8, e8⟩ := Kd.R_slice hR8; subst e8; have HE8 := Lib.hid (And.intro hR8 hB8); clear hR8 hB8 hg8 hat8))
       go_roundw
       case rel => exact ⟨k + 1, by omega, by go_num, Lib.hid ⟨by rw [HFT.out, HST.out]; have h9 := HE8.out.1; rw [List.length_append, List.length_singleton] at h9; exact h9, HE8.out.2⟩⟩
       case measure => simp [intOf]; omega
      ·have c1 : wr.cell? ⟨go, m * 33, none⟩ = some (.bool true) := by rw [hv1]; exact rs_v6 HK.out.2.1
       have c2 : wr.cell? ⟨br, orr + k * 33, none⟩ = some (.bool true) := by rw [hv2]; exact rs_v6 HK.out.2.2.1
       have HV := Lib.hid (And.intro hv1 hv2)
       clear hv1 hv2
       go_wp2
       refine start_ (n := 15) (S := fun W => W.cell? ⟨go, m * 33, none⟩ = some (.bool true) ∧ W.cell? ⟨br, orr + k * 33, none⟩ = some (.bool true) ∧ RkS w3 go co m out z br (orr + k * 33) s W) (ds := []) #[false, false, false, false, false, false, false, false, false, false, false, false, false, false, false] (by kernel_rfl) rfl rfl ⟨c1, c2, HK.out.step (Below.refl _ _).drew⟩ (fun hHeld => ?_)
       refine pure_ (i := 0) (N := some 64) (v := ?_) (a' := ?_) #[true, false, false, false, false, false, false, false, false, false, false, false, false, false, false] rfl rfl (by kernel_rfl) (fun _ _ _ h => h) (Or.inl ⟨by rfl, ?_⟩) ?_ ?_
       rotate_left
       ·intro w'
        go_simp
        with_reducible rfl
       rotate_left
       ·simp only [Act.put, List.setIfInBounds_toArray, List.set_cons_zero, List.set_cons_succ, i64_w, i32_w]
        rfl
       refine pure_ (i := 1) (N := some 65) (v := ?_) (a' := ?_) #[true, true, false, false, false, false, false, false, false, false, false, false, false, false, false] rfl rfl (by kernel_rfl) (fun _ _ _ h => h) (Or.inl ⟨by rfl, ?_⟩) ?_ ?_
       rotate_left
       ·intro w'
        go_simp
        with_reducible rfl
       rotate_left
       ·simp only [Act.put, List.setIfInBounds_toArray, List.set_cons_zero, List.set_cons_succ, i64_w, i32_w]
        rfl
       refine pure_ (i := 2) (N := some 66) (v := ?_) (a' := ?_) #[true, true, true, false, false, false, false, false, false, false, false, false, false, false, false] rfl rfl (by kernel_rfl) (fun _ _ _ h => h) (Or.inl ⟨by rfl, ?_⟩) ?_ ?_
       rotate_left
       ·intro w'
        go_simp
        with_reducible rfl
       rotate_left
       ·simp only [Act.put, List.setIfInBounds_toArray, List.set_cons_zero, List.set_cons_succ, i64_w, i32_w]
        rfl
       refine pure_ (i := 3) (N := some 67) (v := ?_) (a' := ?_) #[true, true, true, true, false, false, false, false, false, false, false, false, false, false, false] rfl rfl (by kernel_rfl) (fun _ _ _ h => h) (Or.inl ⟨by rfl, ?_⟩) ?_ ?_
       rotate_left
       ·intro w'
        go_simp
        with_reducible rfl
       rotate_left
       ·simp only [Act.put, List.setIfInBounds_toArray, List.set_cons_zero, List.set_cons_succ, i64_w, i32_w]
        rfl
       refine pure_ (i := 4) (N := some 68) (v := ?_) (a' := ?_) #[true, true, true, true, true, false, false, false, false, false, false, false, false, false, false] rfl rfl (by kernel_rfl) (fun _ _ _ h => h) (Or.inl ⟨by rfl, ?_⟩) ?_ ?_
       rotate_left
       ·intro w'
        go_simp
        with_reducible rfl
       rotate_left
       ·simp only [Act.put, List.setIfInBounds_toArray, List.set_cons_zero, List.set_cons_succ, i64_w, i32_w]
        rfl
       refine pure_ (i := 5) (N := some 69) (v := ?_) (a' := ?_) #[true, true, true, true, true, true, false, false, false, false, false, false, false, false, false] rfl rfl (by kernel_rfl) (fun _ _ _ h => h) (Or.inl ⟨by rfl, ?_⟩) ?_ ?_
       rotate_left
       ·intro w'
        go_simp
        with_reducible rfl
       rotate_left
       ·simp only [Act.put, List.setIfInBounds_toArray, List.set_cons_zero, List.set_cons_succ, i64_w, i32_w]
        rfl
       refine pure_ (i := 6) (N := some 70) (v := ?_) (a' := ?_) #[true, true, true, true, true, true, true, false, false, false, false, false, false, false, false] rfl rfl (by kernel_rfl) (fun _ _ _ h => h) (Or.inl ⟨by rfl, ?_⟩) ?_ ?_
       rotate_left
       ·intro w'
        go_simp
        with_reducible rfl
       rotate_left
       ·simp only [Act.put, List.setIfInBounds_toArray, List.set_cons_zero, List.set_cons_succ, i64_w, i32_w]
        rfl
       refine take_ (i := 7) (N := some 71) (v := ?_) (a' := ?_) #[true, true, true, true, true, true, true, true, false, false, false, false, false, false, false] rfl rfl (by kernel_rfl) (fun _ _ _ h => h) (Or.inl ⟨by rfl, ?_⟩) hHeld ?_ ?_
       rotate_left
       ·rintro w' ⟨s0, s1, s2⟩
        go_simp
        with_reducible rfl
       rotate_left
       ·simp only [Act.put, List.setIfInBounds_toArray, List.set_cons_zero, List.set_cons_succ, i64_w, i32_w]
        rfl
       refine pure_ (i := 8) (N := some 72) (v := ?_) (a' := ?_) #[true, true, true, true, true, true, true, true, true, false, false, false, false, false, false] rfl rfl (by kernel_rfl) (fun _ _ _ h => h) (Or.inl ⟨by rfl, ?_⟩) ?_ ?_
       rotate_left
       ·intro w'
        go_simp
        with_reducible rfl
       rotate_left
       ·simp only [Act.put, List.setIfInBounds_toArray, List.set_cons_zero, List.set_cons_succ, i64_w, i32_w]
        rfl
       refine pure_ (i := 9) (N := some 73) (v := ?_) (a' := ?_) #[true, true, true, true, true, true, true, true, true, true, false, false, false, false, false] rfl rfl (by kernel_rfl) (fun _ _ _ h => h) (Or.inl ⟨by rfl, ?_⟩) ?_ ?_
       rotate_left
       ·intro w'
        go_simp
        with_reducible rfl
       rotate_left
       ·simp only [Act.put, List.setIfInBounds_toArray, List.set_cons_zero, List.set_cons_succ, i64_w, i32_w]
        rfl
       refine pure_ (i := 10) (N := some 74) (v := ?_) (a' := ?_) #[true, true, true, true, true, true, true, true, true, true, true, false, false, false, false] rfl rfl (by kernel_rfl) (fun _ _ _ h => h) (Or.inl ⟨by rfl, ?_⟩) ?_ ?_
       rotate_left
       ·intro w'
        go_simp
        with_reducible rfl
       rotate_left
       ·simp only [Act.put, List.setIfInBounds_toArray, List.set_cons_zero, List.set_cons_succ, i64_w, i32_w]
        rfl
       refine pure_ (i := 11) (N := some 75) (v := ?_) (a' := ?_) #[true, true, true, true, true, true, true, true, true, true, true, true, false, false, false] rfl rfl (by kernel_rfl) (fun _ _ _ h => h) (Or.inl ⟨by rfl, ?_⟩) ?_ ?_
       rotate_left
       ·intro w'
        go_simp
        with_reducible rfl
       rotate_left
       ·simp only [Act.put, List.setIfInBounds_toArray, List.set_cons_zero, List.set_cons_succ, i64_w, i32_w]
        rfl
       refine take_ (i := 12) (N := some 76) (v := ?_) (a' := ?_) #[true, true, true, true, true, true, true, true, true, true, true, true, true, false, false] rfl rfl (by kernel_rfl) (fun _ _ _ h => h) (Or.inl ⟨by rfl, ?_⟩) hHeld ?_ ?_
       rotate_left
       ·rintro w' ⟨s0, s1, s2⟩
        go_simp
        with_reducible rfl
       rotate_left
       ·simp only [Act.put, List.setIfInBounds_toArray, List.set_cons_zero, List.set_cons_succ, i64_w, i32_w]
        rfl
       refine pure_ (i := 13) (N := some 77) (v := ?_) (a' := ?_) #[true, true, true, true, true, true, true, true, true, true, true, true, true, true, false] rfl rfl (by kernel_rfl) (fun _ _ _ h => h) (Or.inl ⟨by rfl, ?_⟩) ?_ ?_
       rotate_left
       ·intro w'
        go_simp
        with_reducible rfl
       rotate_left
       ·simp only [Act.put, List.setIfInBounds_toArray, List.set_cons_zero, List.set_cons_succ, i64_w, i32_w]
        rfl
       refine pure_ (i := 14) (N := some 78) (v := ?_) (a' := ?_) #[true, true, true, true, true, true, true, true, true, true, true, true, true, true, true] rfl rfl (by kernel_rfl) (fun _ _ _ h => h) (Or.inl ⟨by rfl, ?_⟩) ?_ ?_
       rotate_left
       ·intro w'
        go_simp
        with_reducible rfl
       rotate_left
       ·simp only [Act.put, List.setIfInBounds_toArray, List.set_cons_zero, List.set_cons_succ, i64_w, i32_w]
        rfl
       refine done_ (by kernel_rfl) ?_
       have HK4 := Lib.hid (And.intro hHeld.1 hHeld.2.2)
       clear hHeld c1 c2 HK
       obtain ⟨n, hn⟩ : ∃ n, n = nextP z.v6 z.hi := ⟨_, rfl⟩
       have hnx : ∀ W, Calls Try.prog 16 #[.bool true, .agg z.hi.arr] W fun e w' => e = .returned (.tuple #[.agg n.1.arr, .bool n.2]) ∧ Below W.heap.size W w' := fun W => by rw [HV.out.1, hn]; exact refNext_walk _ _ W
       have htt : touchS z s = (!n.2 || decide (lexC s.lo.l n.1.l ≤ 0)) := by
        unfold touchS
        rw [← hn, ← HV.out.1, ← HV.out.2]
        simp
       have HTO := Lib.hid htt
       obtain ⟨n1, n2⟩ := n
       clear hn htt
       go_wp2
       refine start_ (n := 17) (S := fun W => W.cell? ⟨go, m * 33, none⟩ = some (.bool true) ∧ RkS w3 go co m out z br (orr + k * 33) s W) (ds := []) #[false, false, false, false, false, false, false, false, false, false, false, false, false, false, false, false, false] (by kernel_rfl) rfl rfl ⟨HK4.out.1, HK4.out.2.step (Below.refl _ _).drew⟩ (fun hHeld => ?_)
       refine pure_ (i := 0) (N := some 80) (v := ?_) (a' := ?_) #[true, false, false, false, false, false, false, false, false, false, false, false, false, false, false, false, false] rfl rfl (by kernel_rfl) (fun _ _ _ h => h) (Or.inl ⟨by rfl, ?_⟩) ?_ ?_
       rotate_left
       ·intro w'
        go_simp
        with_reducible rfl
       rotate_left
       ·simp only [Act.put, List.setIfInBounds_toArray, List.set_cons_zero, List.set_cons_succ, i64_w, i32_w]
        rfl
       refine pure_ (i := 1) (N := some 81) (v := ?_) (a' := ?_) #[true, true, false, false, false, false, false, false, false, false, false, false, false, false, false, false, false] rfl rfl (by kernel_rfl) (fun _ _ _ h => h) (Or.inl ⟨by rfl, ?_⟩) ?_ ?_
       rotate_left
       ·intro w'
        go_simp
        with_reducible rfl
       rotate_left
       ·simp only [Act.put, List.setIfInBounds_toArray, List.set_cons_zero, List.set_cons_succ, i64_w, i32_w]
        rfl
       refine pure_ (i := 2) (N := some 82) (v := ?_) (a' := ?_) #[true, true, true, false, false, false, false, false, false, false, false, false, false, false, false, false, false] rfl rfl (by kernel_rfl) (fun _ _ _ h => h) (Or.inl ⟨by rfl, ?_⟩) ?_ ?_
       rotate_left
       ·intro w'
        go_simp
        with_reducible rfl
       rotate_left
       ·simp only [Act.put, List.setIfInBounds_toArray, List.set_cons_zero, List.set_cons_succ, i64_w, i32_w]
        rfl
       refine pure_ (i := 3) (N := some 83) (v := ?_) (a' := ?_) #[true, true, true, true, false, false, false, false, false, false, false, false, false, false, false, false, false] rfl rfl (by kernel_rfl) (fun _ _ _ h => h) (Or.inl ⟨by rfl, ?_⟩) ?_ ?_
       rotate_left
       ·intro w'
        go_simp
        with_reducible rfl
       rotate_left
       ·simp only [Act.put, List.setIfInBounds_toArray, List.set_cons_zero, List.set_cons_succ, i64_w, i32_w]
        rfl
       refine take_ (i := 4) (N := some 84) (v := ?_) (a' := ?_) #[true, true, true, true, true, false, false, false, false, false, false, false, false, false, false, false, false] rfl rfl (by kernel_rfl) (fun _ _ _ h => h) (Or.inl ⟨by rfl, ?_⟩) hHeld ?_ ?_
       rotate_left
       ·rintro w' ⟨s0, s1⟩
        go_simp
        with_reducible rfl
       rotate_left
       ·simp only [Act.put, List.setIfInBounds_toArray, List.set_cons_zero, List.set_cons_succ, i64_w, i32_w]
        rfl
       refine pure_ (i := 5) (N := some 85) (v := ?_) (a' := ?_) #[true, true, true, true, true, true, false, false, false, false, false, false, false, false, false, false, false] rfl rfl (by kernel_rfl) (fun _ _ _ h => h) (Or.inl ⟨by rfl, ?_⟩) ?_ ?_
       rotate_left
       ·intro w'
        go_simp
        with_reducible rfl
       rotate_left
       ·simp only [Act.put, List.setIfInBounds_toArray, List.set_cons_zero, List.set_cons_succ, i64_w, i32_w]
        rfl
       refine pure_ (i := 6) (N := some 86) (v := ?_) (a' := ?_) #[true, true, true, true, true, true, true, false, false, false, false, false, false, false, false, false, false] rfl rfl (by kernel_rfl) (fun _ _ _ h => h) (Or.inl ⟨by rfl, ?_⟩) ?_ ?_
       rotate_left
       ·intro w'
        go_simp
        with_reducible rfl
       rotate_left
       ·simp only [Act.put, List.setIfInBounds_toArray, List.set_cons_zero, List.set_cons_succ, i64_w, i32_w]
        rfl
       refine pure_ (i := 7) (N := some 87) (v := ?_) (a' := ?_) #[true, true, true, true, true, true, true, true, false, false, false, false, false, false, false, false, false] rfl rfl (by kernel_rfl) (fun _ _ _ h => h) (Or.inl ⟨by rfl, ?_⟩) ?_ ?_
       rotate_left
       ·intro w'
        go_simp
        with_reducible rfl
       rotate_left
       ·simp only [Act.put, List.setIfInBounds_toArray, List.set_cons_zero, List.set_cons_succ, i64_w, i32_w]
        rfl
       refine pure_ (i := 8) (N := some 88) (v := ?_) (a' := ?_) #[true, true, true, true, true, true, true, true, true, false, false, false, false, false, false, false, false] rfl rfl (by kernel_rfl) (fun _ _ _ h => h) (Or.inl ⟨by rfl, ?_⟩) ?_ ?_
       rotate_left
       ·intro w'
        go_simp
        with_reducible rfl
       rotate_left
       ·simp only [Act.put, List.setIfInBounds_toArray, List.set_cons_zero, List.set_cons_succ, i64_w, i32_w]
        rfl
       refine take_ (i := 9) (N := some 89) (v := .agg z.hi.arr) (a' := ?_) #[true, true, true, true, true, true, true, true, true, true, false, false, false, false, false, false, false] rfl rfl (by kernel_rfl) (fun _ _ _ h => h) ?_ hHeld ?_ ?_
       ·exact yA (by rfl) rfl z.hi go (m * 33 + 17) rfl (fun W h => rhi_of_s h.2.2.1)
       rotate_left
       ·simp only [Act.put, List.setIfInBounds_toArray, List.set_cons_zero, List.set_cons_succ, i64_w, i32_w]
        rfl
       generalize wr.drew.drew = wz at hHeld ⊢
       refine join_ (σ := Nat) 2 #[true, true, true, true, true, true, true, true, true, true, true, true, true, true, true, false, false] (fun g => [(90, .tuple #[.agg n1.arr, .bool n2]), (9, .pointer (some ⟨g, 0, none⟩)), (79, .tuple #[.agg n1.arr, .bool n2]), (91, .agg n1.arr), (92, .bool n2)]) (fun g W => (fun W => W.cell? ⟨go, m * 33, none⟩ = some (.bool true) ∧ RkS w3 go co m out z br (orr + k * 33) s W) W ∧ Has W g z16.arr 28 ∧ w3.heap.size ≤ g ∧ go < g) ?_ ?_
       rotate_left
       ·intro hJn
        simp only [putAll, Act.put, List.setIfInBounds_toArray, List.set_cons_zero, List.set_cons_succ, i64_w, i32_w] at hJn
        refine two_ (i := 10) (j := 14) (Ni := some 90) (Nj := some 9) #[true, true, true, true, true, true, true, true, true, true, true, false, false, false, false, false, false] #[true, true, true, true, true, true, true, true, true, true, false, false, false, false, true, false, false] rfl rfl rfl rfl (by kernel_rfl) (by decide) (by decide) (fun K hK => ?_) (fun K hK => ?_)
        ·refine goes_ Try.func16 (by kernel_rfl) rfl #[.bool true, .agg z.hi.arr] (by rfl) rfl rfl (by (try simp only [List.map_toArray, List.map_cons, List.map_nil]); first | done | rfl) ?_
         refine (hnx _).mono ?_
         rintro e wv ⟨rfl, hB⟩
         refine ⟨_, rfl, ?_⟩
         refine hK.out _ _ (show (fun W => W.cell? ⟨go, m * 33, none⟩ = some (.bool true) ∧ RkS w3 go co m out z br (orr + k * 33) s W) _ from ⟨(hB.cell (World.block_lt_of_cell? _ _ hHeld.1)).trans hHeld.1, hHeld.2.step hB⟩) (fun hHeld => ?_)
         clear hK K hB
         refine norm_ (a' := ?_) ?_ ?_
         rotate_left
         ·show Act.put _ (some 90) _ = _
          simp only [Act.put, List.setIfInBounds_toArray, List.set_cons_zero, List.set_cons_succ, i64_w, i32_w]
          rfl
         refine pure_ (i := 11) (N := some 79) (v := ?_) (a' := ?_) #[true, true, true, true, true, true, true, true, true, true, true, true, false, false, false, false, false] rfl rfl (by kernel_rfl) (fun _ _ _ h => h) (Or.inl ⟨by rfl, ?_⟩) ?_ ?_
         rotate_left
         ·intro w'
          go_simp
          with_reducible rfl
         rotate_left
         ·simp only [Act.put, List.setIfInBounds_toArray, List.set_cons_zero, List.set_cons_succ, i64_w, i32_w]
          rfl
         refine pure_ (i := 12) (N := some 91) (v := ?_) (a' := ?_) #[true, true, true, true, true, true, true, true, true, true, true, true, true, false, false, false, false] rfl rfl (by kernel_rfl) (fun _ _ _ h => h) (Or.inl ⟨by rfl, ?_⟩) ?_ ?_
         rotate_left
         ·intro w'
          go_simp
          with_reducible rfl
         rotate_left
         ·simp only [Act.put, List.setIfInBounds_toArray, List.set_cons_zero, List.set_cons_succ, i64_w, i32_w]
          rfl
         refine pure_ (i := 13) (N := some 92) (v := ?_) (a' := ?_) #[true, true, true, true, true, true, true, true, true, true, true, true, true, true, false, false, false] rfl rfl (by kernel_rfl) (fun _ _ _ h => h) (Or.inl ⟨by rfl, ?_⟩) ?_ ?_
         rotate_left
         ·intro w'
          go_simp
          with_reducible rfl
         rotate_left
         ·simp only [Act.put, List.setIfInBounds_toArray, List.set_cons_zero, List.set_cons_succ, i64_w, i32_w]
          rfl
         refine one_ (i := 14) (N := some 9) #[true, true, true, true, true, true, true, true, true, true, true, true, true, true, true, false, false] rfl rfl (by kernel_rfl) (by decide) (fun K hK => ?_)
         refine event_step (by rfl) (v := .pointer (some ⟨wv.heap.size, 0, none⟩)) (w1 := wv.alloc (.cells z16.arr 28)) (by first | kernel_rfl | (go_simp; rfl)) ?_
         have hN := Has.new wv z16.arr 28
         have hG := hHeld.2.2.2.2.1.size
         have hbg := hHeld.2.1.lt
         have hal := (show Below wv.heap.size wv (wv.alloc (.cells z16.arr 28)) from (Below.refl _ _).alloc (Nat.le_refl _) _)
         refine hK.out _ _ (show (fun W => W.cell? ⟨go, m * 33, none⟩ = some (.bool true) ∧ RkS w3 go co m out z br (orr + k * 33) s W) _ from ⟨(hal.cell (World.block_lt_of_cell? _ _ hHeld.1)).trans hHeld.1, hHeld.2.step hal⟩) (fun hHeld => ?_)
         clear hK K hal
         refine norm_ (a' := ?_) ?_ ?_
         rotate_left
         ·show Act.put _ (some 9) _ = _
          simp only [Act.put, List.setIfInBounds_toArray, List.set_cons_zero, List.set_cons_succ, i64_w, i32_w]
          rfl
         generalize wv.heap.size = g at hN hG hbg ⊢
         generalize wv.alloc (.cells z16.arr 28) = wx at hHeld hN ⊢
         exact hJn g _ ⟨hHeld, hN, hG, hbg⟩
        ·refine event_step (by rfl) (v := .pointer (some ⟨wz.heap.size, 0, none⟩)) (w1 := wz.alloc (.cells z16.arr 28)) (by first | kernel_rfl | (go_simp; rfl)) ?_
         have hN := Has.new wz z16.arr 28
         have hG := hHeld.2.2.2.2.1.size
         have hbg := hHeld.2.1.lt
         have hal := (show Below wz.heap.size wz (wz.alloc (.cells z16.arr 28)) from (Below.refl _ _).alloc (Nat.le_refl _) _)
         refine hK.out _ _ (show (fun W => W.cell? ⟨go, m * 33, none⟩ = some (.bool true) ∧ RkS w3 go co m out z br (orr + k * 33) s W) _ from ⟨(hal.cell (World.block_lt_of_cell? _ _ hHeld.1)).trans hHeld.1, hHeld.2.step hal⟩) (fun hHeld => ?_)
         clear hK K hal
         refine norm_ (a' := ?_) ?_ ?_
         rotate_left
         ·show Act.put _ (some 9) _ = _
          simp only [Act.put, List.setIfInBounds_toArray, List.set_cons_zero, List.set_cons_succ, i64_w, i32_w]
          rfl
         generalize wz.heap.size = g at hN hG hbg ⊢
         generalize wz.alloc (.cells z16.arr 28) = wx at hHeld hN ⊢
         refine one_ (i := 10) (N := some 90) #[true, true, true, true, true, true, true, true, true, true, true, false, false, false, true, false, false] rfl rfl (by kernel_rfl) (by decide) (fun K hK => ?_)
         refine goes_ Try.func16 (by kernel_rfl) rfl #[.bool true, .agg z.hi.arr] (by rfl) rfl rfl (by (try simp only [List.map_toArray, List.map_cons, List.map_nil]); first | done | rfl) ?_
         refine (hnx _).mono ?_
         rintro e wv ⟨rfl, hB⟩
         refine ⟨_, rfl, ?_⟩
         replace hN := hN.below hB
         refine hK.out _ _ (show (fun W => W.cell? ⟨go, m * 33, none⟩ = some (.bool true) ∧ RkS w3 go co m out z br (orr + k * 33) s W) _ from ⟨(hB.cell (World.block_lt_of_cell? _ _ hHeld.1)).trans hHeld.1, hHeld.2.step hB⟩) (fun hHeld => ?_)
         clear hK K hB
         refine norm_ (a' := ?_) ?_ ?_
         rotate_left
         ·show Act.put _ (some 90) _ = _
          simp only [Act.put, List.setIfInBounds_toArray, List.set_cons_zero, List.set_cons_succ, i64_w, i32_w]
          rfl
         refine pure_ (i := 11) (N := some 79) (v := ?_) (a' := ?_) #[true, true, true, true, true, true, true, true, true, true, true, true, false, false, true, false, false] rfl rfl (by kernel_rfl) (fun _ _ _ h => h) (Or.inl ⟨by rfl, ?_⟩) ?_ ?_
         rotate_left
         ·intro w'
          go_simp
          with_reducible rfl
         rotate_left
         ·simp only [Act.put, List.setIfInBounds_toArray, List.set_cons_zero, List.set_cons_succ, i64_w, i32_w]
          rfl
         refine pure_ (i := 12) (N := some 91) (v := ?_) (a' := ?_) #[true, true, true, true, true, true, true, true, true, true, true, true, true, false, true, false, false] rfl rfl (by kernel_rfl) (fun _ _ _ h => h) (Or.inl ⟨by rfl, ?_⟩) ?_ ?_
         rotate_left
         ·intro w'
          go_simp
          with_reducible rfl
         rotate_left
         ·simp only [Act.put, List.setIfInBounds_toArray, List.set_cons_zero, List.set_cons_succ, i64_w, i32_w]
          rfl
         refine pure_ (i := 13) (N := some 92) (v := ?_) (a' := ?_) #[true, true, true, true, true, true, true, true, true, true, true, true, true, true, true, false, false] rfl rfl (by kernel_rfl) (fun _ _ _ h => h) (Or.inl ⟨by rfl, ?_⟩) ?_ ?_
         rotate_left
         ·intro w'
          go_simp
          with_reducible rfl
         rotate_left
         ·simp only [Act.put, List.setIfInBounds_toArray, List.set_cons_zero, List.set_cons_succ, i64_w, i32_w]
          rfl
         exact hJn g _ ⟨hHeld, hN, hG, hbg⟩
       intro g w6 hHeld
       try simp only [putAll, Act.put, List.setIfInBounds_toArray, List.set_cons_zero, List.set_cons_succ, i64_w, i32_w]
       have hHg := hHeld
       refine one_ (i := 15) (N := none) #[true, true, true, true, true, true, true, true, true, true, true, true, true, true, true, true, false] rfl rfl (by kernel_rfl) (by decide) (fun K hK => ?_)
       refine storeA_step (by rfl) 9 91 rfl g n1 rfl rfl hHg.2.1 ?_
       have hNs := hHg.2.1.setRow_same (c := n1.arr)
       refine hK.out _ _ (show (fun W => W.cell? ⟨go, m * 33, none⟩ = some (.bool true) ∧ RkS w3 go co m out z br (orr + k * 33) s W) _ from ⟨by rw [← hHg.1.1]; exact World.cell?_of_block ((grown_setRow w6 g n1.arr).block _ (World.block_lt_of_cell? _ _ hHg.1.1) (fun e => absurd (Option.some.inj e) (Nat.ne_of_lt hHg.2.2.2))), hHg.1.2.far hHg.2.2.2 hHg.2.2.1 n1⟩) (fun hHeld => ?_)
       clear hK K
       refine norm_ (a' := ?_) ?_ ?_
       rotate_left
       ·show Act.put _ none _ = _
        simp only [Act.put]
        rfl
       refine pure_ (i := 16) (N := some 10) (v := ?_) (a' := ?_) #[true, true, true, true, true, true, true, true, true, true, true, true, true, true, true, true, true] rfl rfl (by kernel_rfl) (fun _ _ _ h => h) (Or.inl ⟨by rfl, ?_⟩) ?_ ?_
       rotate_left
       ·intro w'
        go_simp
        with_reducible rfl
       rotate_left
       ·simp only [Act.put, List.setIfInBounds_toArray, List.set_cons_zero, List.set_cons_succ, i64_w, i32_w]
        rfl
       refine done_ (by kernel_rfl) ?_
       have HK5 := Lib.hid (And.intro hHeld.2 hNs)
       clear hHeld hHg hNs HK4 hnx
       generalize w6.setRow g n1.arr = w7 at HK5 ⊢
       cases n2
       ·have HTT : Hid (touchS z s = true) := Lib.hid (by rw [HTO.out]; rfl)
        go_wp2
        refine start_ (n := 12) (S := fun W => RkS w3 go co m out z br (orr + k * 33) s W ∧ Has W g n1.arr 28) (ds := []) #[false, false, false, false, false, false, false, false, false, false, false, false] (by kernel_rfl) rfl rfl ⟨HK5.out.1.step (Below.refl _ _).drew, HK5.out.2.drew⟩ (fun hHeld => ?_)
        refine pure_ (i := 0) (N := some 93) (v := ?_) (a' := ?_) #[true, false, false, false, false, false, false, false, false, false, false, false] rfl rfl (by kernel_rfl) (fun _ _ _ h => h) (Or.inl ⟨by rfl, ?_⟩) ?_ ?_
        rotate_left
        ·intro w'
         go_simp
         with_reducible rfl
        rotate_left
        ·simp only [Act.put, List.setIfInBounds_toArray, List.set_cons_zero, List.set_cons_succ, i64_w, i32_w]
         rfl
        refine pure_ (i := 1) (N := some 94) (v := ?_) (a' := ?_) #[true, true, false, false, false, false, false, false, false, false, false, false] rfl rfl (by kernel_rfl) (fun _ _ _ h => h) (Or.inl ⟨by rfl, ?_⟩) ?_ ?_
        rotate_left
        ·intro w'
         go_simp
         with_reducible rfl
        rotate_left
        ·simp only [Act.put, List.setIfInBounds_toArray, List.set_cons_zero, List.set_cons_succ, i64_w, i32_w]
         rfl
        refine pure_ (i := 2) (N := some 95) (v := ?_) (a' := ?_) #[true, true, true, false, false, false, false, false, false, false, false, false] rfl rfl (by kernel_rfl) (fun _ _ _ h => h) (Or.inl ⟨by rfl, ?_⟩) ?_ ?_
        rotate_left
        ·intro w'
         go_simp
         with_reducible rfl
        rotate_left
        ·simp only [Act.put, List.setIfInBounds_toArray, List.set_cons_zero, List.set_cons_succ, i64_w, i32_w]
         rfl
        refine pure_ (i := 3) (N := some 96) (v := undef) (a' := ?_) #[true, true, true, true, false, false, false, false, false, false, false, false] rfl rfl (by kernel_rfl) (fun _ _ _ h => h) (Or.inr ⟨by rfl, rfl⟩) ?_ ?_
        rotate_left
        ·simp only [Act.put, List.setIfInBounds_toArray, List.set_cons_zero, List.set_cons_succ, i64_w, i32_w]
         rfl
        refine pure_ (i := 4) (N := some 97) (v := undef) (a' := ?_) #[true, true, true, true, true, false, false, false, false, false, false, false] rfl rfl (by kernel_rfl) (fun _ _ _ h => h) (Or.inr ⟨by rfl, rfl⟩) ?_ ?_
        rotate_left
        ·simp only [Act.put, List.setIfInBounds_toArray, List.set_cons_zero, List.set_cons_succ, i64_w, i32_w]
         rfl
        refine pure_ (i := 5) (N := some 98) (v := undef) (a' := ?_) #[true, true, true, true, true, true, false, false, false, false, false, false] rfl rfl (by kernel_rfl) (fun _ _ _ h => h) (Or.inr ⟨by rfl, rfl⟩) ?_ ?_
        rotate_left
        ·simp only [Act.put, List.setIfInBounds_toArray, List.set_cons_zero, List.set_cons_succ, i64_w, i32_w]
         rfl
        refine pure_ (i := 6) (N := some 99) (v := undef) (a' := ?_) #[true, true, true, true, true, true, true, false, false, false, false, false] rfl rfl (by kernel_rfl) (fun _ _ _ h => h) (Or.inr ⟨by rfl, rfl⟩) ?_ ?_
        rotate_left
        ·simp only [Act.put, List.setIfInBounds_toArray, List.set_cons_zero, List.set_cons_succ, i64_w, i32_w]
         rfl
        refine pure_ (i := 7) (N := some 100) (v := undef) (a' := ?_) #[true, true, true, true, true, true, true, true, false, false, false, false] rfl rfl (by kernel_rfl) (fun _ _ _ h => h) (Or.inr ⟨by rfl, rfl⟩) ?_ ?_
        rotate_left
        ·simp only [Act.put, List.setIfInBounds_toArray, List.set_cons_zero, List.set_cons_succ, i64_w, i32_w]
         rfl
        refine pure_ (i := 8) (N := some 101) (v := undef) (a' := ?_) #[true, true, true, true, true, true, true, true, true, false, false, false] rfl rfl (by kernel_rfl) (fun _ _ _ h => h) (Or.inr ⟨by rfl, rfl⟩) ?_ ?_
        rotate_left
        ·simp only [Act.put, List.setIfInBounds_toArray, List.set_cons_zero, List.set_cons_succ, i64_w, i32_w]
         rfl
        refine pure_ (i := 9) (N := some 102) (v := undef) (a' := ?_) #[true, true, true, true, true, true, true, true, true, true, false, false] rfl rfl (by kernel_rfl) (fun _ _ _ h => h) (Or.inr ⟨by rfl, rfl⟩) ?_ ?_
        rotate_left
        ·simp only [Act.put, List.setIfInBounds_toArray, List.set_cons_zero, List.set_cons_succ, i64_w, i32_w]
         rfl
        refine pure_ (i := 10) (N := some 103) (v := undef) (a' := ?_) #[true, true, true, true, true, true, true, true, true, true, true, false] rfl rfl (by kernel_rfl) (fun _ _ _ h => h) (Or.inr ⟨by rfl, rfl⟩) ?_ ?_
        rotate_left
        ·simp only [Act.put, List.setIfInBounds_toArray, List.set_cons_zero, List.set_cons_succ, i64_w, i32_w]
         rfl
        refine pure_ (i := 11) (N := some 104) (v := ?_) (a' := ?_) #[true, true, true, true, true, true, true, true, true, true, true, true] rfl rfl (by kernel_rfl) (fun _ _ _ h => h) (Or.inl ⟨by rfl, ?_⟩) ?_ ?_
        rotate_left
        ·intro w'
         go_simp
         with_reducible rfl
        rotate_left
        ·simp only [Act.put, List.setIfInBounds_toArray, List.set_cons_zero, List.set_cons_succ, i64_w, i32_w]
         rfl
        refine done_ (by kernel_rfl) ?_
        have HK6 := Lib.hid hHeld.1
        clear hHeld HK5
        obtain ⟨q2, hq2⟩ : ∃ q, q = lexC s.hi.l z.hi.l := ⟨_, rfl⟩
        have hcb : ∀ W, Calls Try.prog 17 #[.agg s.hi.arr, .agg z.hi.arr] W fun e w' => e = .returned (.int .i64 q2) ∧ Gw W w' := fun W => by rw [hq2]; exact cmpAddr_walk _ _ W
        have hst2 : stepS out s = if 0 < q2 then out.set m ⟨z.v6, z.lo, s.hi⟩ else out := by rw [HSTP.out, if_pos HTT.out, hq2]
        have HST := Lib.hid hst2
        clear hst2 hq2
        go_wp2
        refine start_ (n := 12) (S := RkS w3 go co m out z br (orr + k * 33) s) (ds := []) #[false, false, false, false, false, false, false, false, false, false, false, false] (by kernel_rfl) rfl rfl (HK6.out.step (Below.refl _ _).drew) (fun hHeld => ?_)
        refine pure_ (i := 0) (N := some 105) (v := ?_) (a' := ?_) #[true, false, false, false, false, false, false, false, false, false, false, false] rfl rfl (by kernel_rfl) (fun _ _ _ h => h) (Or.inl ⟨by rfl, ?_⟩) ?_ ?_
        rotate_left
        ·intro w'
         go_simp
         with_reducible rfl
        rotate_left
        ·simp only [Act.put, List.setIfInBounds_toArray, List.set_cons_zero, List.set_cons_succ, i64_w, i32_w]
         rfl
        refine pure_ (i := 1) (N := some 106) (v := ?_) (a' := ?_) #[true, true, false, false, false, false, false, false, false, false, false, false] rfl rfl (by kernel_rfl) (fun _ _ _ h => h) (Or.inl ⟨by rfl, ?_⟩) ?_ ?_
        rotate_left
        ·intro w'
         go_simp
         with_reducible rfl
        rotate_left
        ·simp only [Act.put, List.setIfInBounds_toArray, List.set_cons_zero, List.set_cons_succ, i64_w, i32_w]
         rfl
        refine pure_ (i := 2) (N := some 107) (v := ?_) (a' := ?_) #[true, true, true, false, false, false, false, false, false, false, false, false] rfl rfl (by kernel_rfl) (fun _ _ _ h => h) (Or.inl ⟨by rfl, ?_⟩) ?_ ?_
        rotate_left
        ·intro w'
         go_simp
         with_reducible rfl
        rotate_left
        ·simp only [Act.put, List.setIfInBounds_toArray, List.set_cons_zero, List.set_cons_succ, i64_w, i32_w]
         rfl
        refine pure_ (i := 3) (N := some 108) (v := ?_) (a' := ?_) #[true, true, true, true, false, false, false, false, false, false, false, false] rfl rfl (by kernel_rfl) (fun _ _ _ h => h) (Or.inl ⟨by rfl, ?_⟩) ?_ ?_
        rotate_left
        ·intro w'
         go_simp
         with_reducible rfl
        rotate_left
        ·simp only [Act.put, List.setIfInBounds_toArray, List.set_cons_zero, List.set_cons_succ, i64_w, i32_w]
         rfl
        refine take_ (i := 4) (N := some 109) (v := .agg s.hi.arr) (a' := ?_) #[true, true, true, true, true, false, false, false, false, false, false, false] rfl rfl (by kernel_rfl) (fun _ _ _ h => h) ?_ hHeld ?_ ?_
        ·exact yA (by rfl) rfl s.hi br (orr + k * 33 + 17) rfl (fun W h => rhi_of_s h.2.2.1)
        rotate_left
        ·simp only [Act.put, List.setIfInBounds_toArray, List.set_cons_zero, List.set_cons_succ, i64_w, i32_w]
         rfl
        refine pure_ (i := 5) (N := some 110) (v := ?_) (a' := ?_) #[true, true, true, true, true, true, false, false, false, false, false, false] rfl rfl (by kernel_rfl) (fun _ _ _ h => h) (Or.inl ⟨by rfl, ?_⟩) ?_ ?_
        rotate_left
        ·intro w'
         go_simp
         with_reducible rfl
        rotate_left
        ·simp only [Act.put, List.setIfInBounds_toArray, List.set_cons_zero, List.set_cons_succ, i64_w, i32_w]
         rfl
        refine pure_ (i := 6) (N := some 111) (v := ?_) (a' := ?_) #[true, true, true, true, true, true, true, false, false, false, false, false] rfl rfl (by kernel_rfl) (fun _ _ _ h => h) (Or.inl ⟨by rfl, ?_⟩) ?_ ?_
        rotate_left
        ·intro w'
         go_simp
         with_reducible rfl
        rotate_left
        ·simp only [Act.put, List.setIfInBounds_toArray, List.set_cons_zero, List.set_cons_succ, i64_w, i32_w]
         rfl
        refine pure_ (i := 7) (N := some 112) (v := ?_) (a' := ?_) #[true, true, true, true, true, true, true, true, false, false, false, false] rfl rfl (by kernel_rfl) (fun _ _ _ h => h) (Or.inl ⟨by rfl, ?_⟩) ?_ ?_
        rotate_left
        ·intro w'
         go_simp
         with_reducible rfl
        rotate_left
        ·simp only [Act.put, List.setIfInBounds_toArray, List.set_cons_zero, List.set_cons_succ, i64_w, i32_w]
         rfl
        refine pure_ (i := 8) (N := some 113) (v := ?_) (a' := ?_) #[true, true, true, true, true, true, true, true, true, false, false, false] rfl rfl (by kernel_rfl) (fun _ _ _ h => h) (Or.inl ⟨by rfl, ?_⟩) ?_ ?_
        rotate_left
        ·intro w'
         go_simp
         with_reducible rfl
        rotate_left
        ·simp only [Act.put, List.setIfInBounds_toArray, List.set_cons_zero, List.set_cons_succ, i64_w, i32_w]
         rfl
        refine take_ (i := 9) (N := some 114) (v := .agg z.hi.arr) (a' := ?_) #[true, true, true, true, true, true, true, true, true, true, false, false] rfl rfl (by kernel_rfl) (fun _ _ _ h => h) ?_ hHeld ?_ ?_
        ·exact yA (by rfl) rfl z.hi go (m * 33 + 17) rfl (fun W h => rhi_of_s h.2.1)
        rotate_left
        ·simp only [Act.put, List.setIfInBounds_toArray, List.set_cons_zero, List.set_cons_succ, i64_w, i32_w]
         rfl
        refine one_ (i := 10) (N := some 115) #[true, true, true, true, true, true, true, true, true, true, true, false] rfl rfl (by kernel_rfl) (by decide) (fun K hK => ?_)
        refine goes_ Try.func17 (by kernel_rfl) rfl #[.agg s.hi.arr, .agg z.hi.arr] (by rfl) rfl rfl (by (try simp only [List.map_toArray, List.map_cons, List.map_nil]); first | done | rfl) ?_
        refine (hcb _).mono ?_
        rintro e w9 ⟨rfl, hB⟩
        refine ⟨_, rfl, ?_⟩
        refine hK.out _ _ (RkS.step hHeld hB.below) (fun hHeld => ?_)
        clear hK K
        refine norm_ (a' := ?_) ?_ ?_
        rotate_left
        ·show Act.put _ (some 115) _ = _
         simp only [Act.put, List.setIfInBounds_toArray, List.set_cons_zero, List.set_cons_succ, i64_w, i32_w]
         rfl
        refine pure_ (i := 11) (N := some 116) (v := ?_) (a' := ?_) #[true, true, true, true, true, true, true, true, true, true, true, true] rfl rfl (by kernel_rfl) (fun _ _ _ h => h) (Or.inl ⟨by rfl, ?_⟩) ?_ ?_
        rotate_left
        ·intro w'
         go_simp
         with_reducible rfl
        rotate_left
        ·simp only [Act.put, List.setIfInBounds_toArray, List.set_cons_zero, List.set_cons_succ, i64_w, i32_w]
         rfl
        refine done_ (by kernel_rfl) ?_
        have HK9 := Lib.hid hHeld
        clear hHeld hcb HK6
        by_cases p : 0 < q2
        ·have p1 : decide (0 < q2) = true := decide_eq_true p
         have p2 := eq_true p
         have HS9 : Hid (RowAt (w9.setCells go (m * 33 + 17) s.hi.cells) w3.heap.size go co (out.set m ⟨z.v6, z.lo, s.hi⟩) ∧ Below w3.heap.size w3 (w9.setCells go (m * 33 + 17) s.hi.cells)) := by
          refine Lib.hid ⟨?_, setCells_below _ go w3 HK9.out.1.hb _ _ _ HK9.out.2.2.2.1⟩
          have := HK9.out.1.setHi (i := m) (by omega) s.hi
          rwa [← HZ.out] at this
         go_wp2_with (first
          | ((with_reducible refine at_dst 123 ?_); refine loadA s.hi br (orr + k * 33 + 17) rfl (rhi_of_s HK9.out.2.2.1) ?_)
          | (refine wpList_store_mid rfl 28 (.tmp 125) (.tmp 123) rfl go (m * 33 + 17) s.hi.arr rfl rfl (HK9.out.1.there (by rw [s.hi.arr_size]; have := HK9.out.1.hl; omega)) (by rw [s.hi.arr_size]; exact infoA) s.hi.arr_one ?_))
         go_roundw
         case rel => exact ⟨k + 1, by omega, by go_num, Lib.hid ⟨by
          rw [HFT.out, HST.out, if_pos (by omega)]
          have := HS9.out.1.R
          rwa [List.length_set] at this, HS9.out.2⟩⟩
         case measure => simp [intOf]; omega
        ·have p1 : decide (0 < q2) = false := decide_eq_false p
         have p2 := eq_false p
         go_wp2
         go_roundw
         case rel => exact ⟨k + 1, by omega, by go_num, Lib.hid ⟨by rw [HFT.out, HST.out, if_neg (by omega)]; exact HK9.out.1.R, HK9.out.2.2.2.1⟩⟩
         case measure => simp [intOf]; omega
       ·obtain ⟨q, hq⟩ : ∃ q, q = lexC s.lo.l n1.l := ⟨_, rfl⟩
        have hca : ∀ W, Calls Try.prog 17 #[.agg s.lo.arr, .agg n1.arr] W fun e w' => e = .returned (.int .i64 q) ∧ Gw W w' := fun W => by rw [hq]; exact cmpAddr_walk _ _ W
        have HQ := Lib.hid hq
        clear hq
        go_wp2
        refine start_ (n := 12) (S := fun W => RkS w3 go co m out z br (orr + k * 33) s W ∧ Has W g n1.arr 28) (ds := []) #[false, false, false, false, false, false, false, false, false, false, false, false] (by kernel_rfl) rfl rfl ⟨HK5.out.1.step (Below.refl _ _).drew, HK5.out.2.drew⟩ (fun hHeld => ?_)
        refine pure_ (i := 0) (N := some 93) (v := ?_) (a' := ?_) #[true, false, false, false, false, false, false, false, false, false, false, false] rfl rfl (by kernel_rfl) (fun _ _ _ h => h) (Or.inl ⟨by rfl, ?_⟩) ?_ ?_
        rotate_left
        ·intro w'
         go_simp
         with_reducible rfl
        rotate_left
        ·simp only [Act.put, List.setIfInBounds_toArray, List.set_cons_zero, List.set_cons_succ, i64_w, i32_w]
         rfl
        refine pure_ (i := 1) (N := some 94) (v := ?_) (a' := ?_) #[true, true, false, false, false, false, false, false, false, false, false, false] rfl rfl (by kernel_rfl) (fun _ _ _ h => h) (Or.inl ⟨by rfl, ?_⟩) ?_ ?_
        rotate_left
        ·intro w'
         go_simp
         with_reducible rfl
        rotate_left
        ·simp only [Act.put, List.setIfInBounds_toArray, List.set_cons_zero, List.set_cons_succ, i64_w, i32_w]
         rfl
        refine pure_ (i := 2) (N := some 95) (v := ?_) (a' := ?_) #[true, true, true, false, false, false, false, false, false, false, false, false] rfl rfl (by kernel_rfl) (fun _ _ _ h => h) (Or.inl ⟨by rfl, ?_⟩) ?_ ?_
        rotate_left
        ·intro w'
         go_simp
         with_reducible rfl
        rotate_left
        ·simp only [Act.put, List.setIfInBounds_toArray, List.set_cons_zero, List.set_cons_succ, i64_w, i32_w]
         rfl
        refine pure_ (i := 3) (N := some 96) (v := ?_) (a' := ?_) #[true, true, true, true, false, false, false, false, false, false, false, false] rfl rfl (by kernel_rfl) (fun _ _ _ h => h) (Or.inl ⟨by rfl, ?_⟩) ?_ ?_
        rotate_left
        ·intro w'
         go_simp
         with_reducible rfl
        rotate_left
        ·simp only [Act.put, List.setIfInBounds_toArray, List.set_cons_zero, List.set_cons_succ, i64_w, i32_w]
         rfl
        refine pure_ (i := 4) (N := some 97) (v := ?_) (a' := ?_) #[true, true, true, true, true, false, false, false, false, false, false, false] rfl rfl (by kernel_rfl) (fun _ _ _ h => h) (Or.inl ⟨by rfl, ?_⟩) ?_ ?_
        rotate_left
        ·intro w'
         go_simp
         with_reducible rfl
        rotate_left
        ·simp only [Act.put, List.setIfInBounds_toArray, List.set_cons_zero, List.set_cons_succ, i64_w, i32_w]
         rfl
        refine pure_ (i := 5) (N := some 98) (v := ?_) (a' := ?_) #[true, true, true, true, true, true, false, false, false, false, false, false] rfl rfl (by kernel_rfl) (fun _ _ _ h => h) (Or.inl ⟨by rfl, ?_⟩) ?_ ?_
        rotate_left
        ·intro w'
         go_simp
         with_reducible rfl
        rotate_left
        ·simp only [Act.put, List.setIfInBounds_toArray, List.set_cons_zero, List.set_cons_succ, i64_w, i32_w]
         rfl
        refine pure_ (i := 6) (N := some 99) (v := ?_) (a' := ?_) #[true, true, true, true, true, true, true, false, false, false, false, false] rfl rfl (by kernel_rfl) (fun _ _ _ h => h) (Or.inl ⟨by rfl, ?_⟩) ?_ ?_
        rotate_left
        ·intro w'
         go_simp
         with_reducible rfl
        rotate_left
        ·simp only [Act.put, List.setIfInBounds_toArray, List.set_cons_zero, List.set_cons_succ, i64_w, i32_w]
         rfl
        refine take_ (i := 7) (N := some 100) (v := .agg s.lo.arr) (a' := ?_) #[true, true, true, true, true, true, true, true, false, false, false, false] rfl rfl (by kernel_rfl) (fun _ _ _ h => h) ?_ hHeld ?_ ?_
        ·exact yA (by rfl) rfl s.lo br (orr + k * 33 + 1) rfl (fun W h => rlo_of_s h.1.2.2.1)
        rotate_left
        ·simp only [Act.put, List.setIfInBounds_toArray, List.set_cons_zero, List.set_cons_succ, i64_w, i32_w]
         rfl
        refine take_ (i := 8) (N := some 101) (v := .agg n1.arr) (a' := ?_) #[true, true, true, true, true, true, true, true, true, false, false, false] rfl rfl (by kernel_rfl) (fun _ _ _ h => h) ?_ hHeld ?_ ?_
        ·exact yA (by rfl) rfl n1 g 0 rfl (fun W h => h.2.ra)
        rotate_left
        ·simp only [Act.put, List.setIfInBounds_toArray, List.set_cons_zero, List.set_cons_succ, i64_w, i32_w]
         rfl
        refine one_ (i := 9) (N := some 102) #[true, true, true, true, true, true, true, true, true, true, false, false] rfl rfl (by kernel_rfl) (by decide) (fun K hK => ?_)
        refine goes_ Try.func17 (by kernel_rfl) rfl #[.agg s.lo.arr, .agg n1.arr] (by rfl) rfl rfl (by (try simp only [List.map_toArray, List.map_cons, List.map_nil]); first | done | rfl) ?_
        refine (hca _).mono ?_
        rintro e w8 ⟨rfl, hB⟩
        refine ⟨_, rfl, ?_⟩
        refine hK.out _ _ ⟨hHeld.1.step hB.below, hHeld.2.below hB.below⟩ (fun hHeld => ?_)
        clear hK K
        refine norm_ (a' := ?_) ?_ ?_
        rotate_left
        ·show Act.put _ (some 102) _ = _
         simp only [Act.put, List.setIfInBounds_toArray, List.set_cons_zero, List.set_cons_succ, i64_w, i32_w]
         rfl
        refine pure_ (i := 10) (N := some 103) (v := ?_) (a' := ?_) #[true, true, true, true, true, true, true, true, true, true, true, false] rfl rfl (by kernel_rfl) (fun _ _ _ h => h) (Or.inl ⟨by rfl, ?_⟩) ?_ ?_
        rotate_left
        ·intro w'
         go_simp
         with_reducible rfl
        rotate_left
        ·simp only [Act.put, List.setIfInBounds_toArray, List.set_cons_zero, List.set_cons_succ, i64_w, i32_w]
         rfl
        refine pure_ (i := 11) (N := some 104) (v := ?_) (a' := ?_) #[true, true, true, true, true, true, true, true, true, true, true, true] rfl rfl (by kernel_rfl) (fun _ _ _ h => h) (Or.inl ⟨by rfl, ?_⟩) ?_ ?_
        rotate_left
        ·intro w'
         go_simp
         with_reducible rfl
        rotate_left
        ·simp only [Act.put, List.setIfInBounds_toArray, List.set_cons_zero, List.set_cons_succ, i64_w, i32_w]
         rfl
        refine done_ (by kernel_rfl) ?_
        have HK6 := Lib.hid hHeld.1
        clear hHeld hca HK5
        by_cases p : q ≤ 0
        ·have p1 : decide (q ≤ 0) = true := decide_eq_true p
         have p2 := eq_true p
         have HTT : Hid (touchS z s = true) := Lib.hid (by rw [HTO.out, ← HQ.out, p1]; rfl)
         obtain ⟨q2, hq2⟩ : ∃ q, q = lexC s.hi.l z.hi.l := ⟨_, rfl⟩
         have hcb : ∀ W, Calls Try.prog 17 #[.agg s.hi.arr, .agg z.hi.arr] W fun e w' => e = .returned (.int .i64 q2) ∧ Gw W w' := fun W => by rw [hq2]; exact cmpAddr_walk _ _ W
         have hst2 : stepS out s = if 0 < q2 then out.set m ⟨z.v6, z.lo, s.hi⟩ else out := by rw [HSTP.out, if_pos HTT.out, hq2]
         have HST := Lib.hid hst2
         clear hst2 hq2
         go_wp2
         refine start_ (n := 12) (S := RkS w3 go co m out z br (orr + k * 33) s) (ds := []) #[false, false, false, false, false, false, false, false, false, false, false, false] (by kernel_rfl) rfl rfl (HK6.out.step (Below.refl _ _).drew) (fun hHeld => ?_)
         refine pure_ (i := 0) (N := some 105) (v := ?_) (a' := ?_) #[true, false, false, false, false, false, false, false, false, false, false, false] rfl rfl (by kernel_rfl) (fun _ _ _ h => h) (Or.inl ⟨by rfl, ?_⟩) ?_ ?_
         rotate_left
         ·intro w'
          go_simp
          with_reducible rfl
         rotate_left
         ·simp only [Act.put, List.setIfInBounds_toArray, List.set_cons_zero, List.set_cons_succ, i64_w, i32_w]
          rfl
         refine pure_ (i := 1) (N := some 106) (v := ?_) (a' := ?_) #[true, true, false, false, false, false, false, false, false, false, false, false] rfl rfl (by kernel_rfl) (fun _ _ _ h => h) (Or.inl ⟨by rfl, ?_⟩) ?_ ?_
         rotate_left
         ·intro w'
          go_simp
          with_reducible rfl
         rotate_left
         ·simp only [Act.put, List.setIfInBounds_toArray, List.set_cons_zero, List.set_cons_succ, i64_w, i32_w]
          rfl
         refine pure_ (i := 2) (N := some 107) (v := ?_) (a' := ?_) #[true, true, true, false, false, false, false, false, false, false, false, false] rfl rfl (by kernel_rfl) (fun _ _ _ h => h) (Or.inl ⟨by rfl, ?_⟩) ?_ ?_
         rotate_left
         ·intro w'
          go_simp
          with_reducible rfl
         rotate_left
         ·simp only [Act.put, List.setIfInBounds_toArray, List.set_cons_zero, List.set_cons_succ, i64_w, i32_w]
          rfl
         refine pure_ (i := 3) (N := some 108) (v := ?_) (a' := ?_) #[true, true, true, true, false, false, false, false, false, false, false, false] rfl rfl (by kernel_rfl) (fun _ _ _ h => h) (Or.inl ⟨by rfl, ?_⟩) ?_ ?_
         rotate_left
         ·intro w'
          go_simp
          with_reducible rfl
         rotate_left
         ·simp only [Act.put, List.setIfInBounds_toArray, List.set_cons_zero, List.set_cons_succ, i64_w, i32_w]
          rfl
         refine take_ (i := 4) (N := some 109) (v := .agg s.hi.arr) (a' := ?_) #[true, true, true, true, true, false, false, false, false, false, false, false] rfl rfl (by kernel_rfl) (fun _ _ _ h => h) ?_ hHeld ?_ ?_
         ·exact yA (by rfl) rfl s.hi br (orr + k * 33 + 17) rfl (fun W h => rhi_of_s h.2.2.1)
         rotate_left
         ·simp only [Act.put, List.setIfInBounds_toArray, List.set_cons_zero, List.set_cons_succ, i64_w, i32_w]
          rfl
         refine pure_ (i := 5) (N := some 110) (v := ?_) (a' := ?_) #[true, true, true, true, true, true, false, false, false, false, false, false] rfl rfl (by kernel_rfl) (fun _ _ _ h => h) (Or.inl ⟨by rfl, ?_⟩) ?_ ?_
         rotate_left
         ·intro w'
          go_simp
          with_reducible rfl
         rotate_left
         ·simp only [Act.put, List.setIfInBounds_toArray, List.set_cons_zero, List.set_cons_succ, i64_w, i32_w]
          rfl
         refine pure_ (i := 6) (N := some 111) (v := ?_) (a' := ?_) #[true, true, true, true, true, true, true, false, false, false, false, false] rfl rfl (by kernel_rfl) (fun _ _ _ h => h) (Or.inl ⟨by rfl, ?_⟩) ?_ ?_
         rotate_left
         ·intro w'
          go_simp
          with_reducible rfl
         rotate_left
         ·simp only [Act.put, List.setIfInBounds_toArray, List.set_cons_zero, List.set_cons_succ, i64_w, i32_w]
          rfl
         refine pure_ (i := 7) (N := some 112) (v := ?_) (a' := ?_) #[true, true, true, true, true, true, true, true, false, false, false, false] rfl rfl (by kernel_rfl) (fun _ _ _ h => h) (Or.inl ⟨by rfl, ?_⟩) ?_ ?_
         rotate_left
         ·intro w'
          go_simp
          with_reducible rfl
         rotate_left
         ·simp only [Act.put, List.setIfInBounds_toArray, List.set_cons_zero, List.set_cons_succ, i64_w, i32_w]
          rfl
         refine pure_ (i := 8) (N := some 113) (v := ?_) (a' := ?_) #[true, true, true, true, true, true, true, true, true, false, false, false] rfl rfl (by kernel_rfl) (fun _ _ _ h => h) (Or.inl ⟨by rfl, ?_⟩) ?_ ?_
         rotate_left
         ·intro w'
          go_simp
          with_reducible rfl
         rotate_left
         ·simp only [Act.put, List.setIfInBounds_toArray, List.set_cons_zero, List.set_cons_succ, i64_w, i32_w]
          rfl
         refine take_ (i := 9) (N := some 114) (v := .agg z.hi.arr) (a' := ?_) #[true, true, true, true, true, true, true, true, true, true, false, false] rfl rfl (by kernel_rfl) (fun _ _ _ h => h) ?_ hHeld ?_ ?_
         ·exact yA (by rfl) rfl z.hi go (m * 33 + 17) rfl (fun W h => rhi_of_s h.2.1)
         rotate_left
         ·simp only [Act.put, List.setIfInBounds_toArray, List.set_cons_zero, List.set_cons_succ, i64_w, i32_w]
          rfl
         refine one_ (i := 10) (N := some 115) #[true, true, true, true, true, true, true, true, true, true, true, false] rfl rfl (by kernel_rfl) (by decide) (fun K hK => ?_)
         refine goes_ Try.func17 (by kernel_rfl) rfl #[.agg s.hi.arr, .agg z.hi.arr] (by rfl) rfl rfl (by (try simp only [List.map_toArray, List.map_cons, List.map_nil]); first | done | rfl) ?_
         refine (hcb _).mono ?_
         rintro e w9 ⟨rfl, hB⟩
         refine ⟨_, rfl, ?_⟩
         refine hK.out _ _ (RkS.step hHeld hB.below) (fun hHeld => ?_)
         clear hK K
         refine norm_ (a' := ?_) ?_ ?_
         rotate_left
         ·show Act.put _ (some 115) _ = _
          simp only [Act.put, List.setIfInBounds_toArray, List.set_cons_zero, List.set_cons_succ, i64_w, i32_w]
          rfl
         refine pure_ (i := 11) (N := some 116) (v := ?_) (a' := ?_) #[true, true, true, true, true, true, true, true, true, true, true, true] rfl rfl (by kernel_rfl) (fun _ _ _ h => h) (Or.inl ⟨by rfl, ?_⟩) ?_ ?_
         rotate_left
         ·intro w'
          go_simp
          with_reducible rfl
         rotate_left
         ·simp only [Act.put, List.setIfInBounds_toArray, List.set_cons_zero, List.set_cons_succ, i64_w, i32_w]
          rfl
         refine done_ (by kernel_rfl) ?_
         have HK9 := Lib.hid hHeld
         clear hHeld hcb HK6
         by_cases p : 0 < q2
         ·have p1 : decide (0 < q2) = true := decide_eq_true p
          have p2 := eq_true p
          have HS9 : Hid (RowAt (w9.setCells go (m * 33 + 17) s.hi.cells) w3.heap.size go co (out.set m ⟨z.v6, z.lo, s.hi⟩) ∧ Below w3.heap.size w3 (w9.setCells go (m * 33 + 17) s.hi.cells)) := by
           refine Lib.hid ⟨?_, setCells_below _ go w3 HK9.out.1.hb _ _ _ HK9.out.2.2.2.1⟩
           have := HK9.out.1.setHi (i := m) (by omega) s.hi
           rwa [← HZ.out] at this
          go_wp2_with (first
           | ((with_reducible refine at_dst 123 ?_); refine loadA s.hi br (orr + k * 33 + 17) rfl (rhi_of_s HK9.out.2.2.1) ?_)
           | (refine wpList_store_mid rfl 28 (.tmp 125) (.tmp 123) rfl go (m * 33 + 17) s.hi.arr rfl rfl (HK9.out.1.there (by rw [s.hi.arr_size]; have := HK9.out.1.hl; omega)) (by rw [s.hi.arr_size]; exact infoA) s.hi.arr_one ?_))
          go_roundw
          case rel => exact ⟨k + 1, by omega, by go_num, Lib.hid ⟨by
           rw [HFT.out, HST.out, if_pos (by omega)]
           have := HS9.out.1.R
           rwa [List.length_set] at this, HS9.out.2⟩⟩
          case measure => simp [intOf]; omega
         ·have p1 : decide (0 < q2) = false := decide_eq_false p
          have p2 := eq_false p
          go_wp2
          go_roundw
          case rel => exact ⟨k + 1, by omega, by go_num, Lib.hid ⟨by rw [HFT.out, HST.out, if_neg (by omega)]; exact HK9.out.1.R, HK9.out.2.2.2.1⟩⟩
          case measure => simp [intOf]; omega
        ·have p1 : decide (q ≤ 0) = false := decide_eq_false p
         have p2 := eq_false p
         have HST : Hid (stepS out s = out ++ [s]) := Lib.hid (by rw [HSTP.out, if_neg (by rw [HTO.out, ← HQ.out, p1]; simp)])
         obtain ⟨wy, hwy⟩ : ∃ wy, wy = w8 := ⟨_, rfl⟩
         have HY : Hid (kS.R 30 wy w3.heap.size (fun _ => True) (.slice (some ⟨go, 0, none⟩) out.length co) out ∧ wy.rangeAt br (orr + k * 33) s.cells ∧ Below w3.heap.size w3 wy) := by
          rw [hwy]
          exact Lib.hid ⟨HK6.out.1.R, HK6.out.2.2.1, HK6.out.2.2.2.1⟩
         try rw [← hwy]
         clear hwy
         go_wp2_with (first
          | ((with_reducible refine at_dst 130 ?_); refine loadS s br (orr + k * 33) rfl HY.out.2.1 ?_)
          | ((with_reducible refine at_dst 131 ?_); refine valN rfl (exec_buildS s rfl _) ?_)
          | ((with_reducible refine at_dst 132 ?_); refine appRowsL (w0 := w3) w3.heap.size rfl (.tmp 126) (.tmp 131) rfl (.slice (some ⟨go, 0, none⟩) out.length co) out [s] (some ⟨wy.heap.size, 0, none⟩) 1 1 rfl rfl (Kd.R_below HY.out.1 ((Below.refl _ _).alloc (Nat.le_refl _) _)) (C_one (Has.new wy s.arr _)) (HY.out.2.2.alloc HY.out.2.2.size _) (Nat.le_trans HY.out.2.2.size ((Below.refl wy.heap.size wy).alloc (Nat.le_refl _) (.cells s.arr 30)).size) (by omega) ?_; intro v8 w8 hR8 hB8 hg8 hat8; obtain ⟨A8, c8, e8⟩ := Kd.R_slice hR8; subst e8; have HE8 := Lib.hid (And.intro hR8 hB8); clear hR8 hB8 hg8 hat8))
         go_roundw
         case rel => exact ⟨k + 1, by omega, by go_num, Lib.hid ⟨by rw [HFT.out, HST.out]; have h9 := HE8.out.1; rw [List.length_append, List.length_singleton] at h9; exact h9, HE8.out.2⟩⟩
         case measure => simp [intOf]; omega
    ·have hkn : k = row.length := by omega
     subst hkn
     have hd1 := eq_false (show ¬ (row.length : Int) < (row.length : Int) by omega)
     have hd2 : decide ((row.length : Int) < (row.length : Int)) = false := decide_eq_false (by omega)
     have hd3 : decide (row.length < row.length) = false := decide_eq_false (by omega)
     obtain ⟨Ao, co, hov, hco, hCO⟩ := Kd.R_reads HX.out.1
     subst hov
     go_wp2
     go_ret
     have hR := HX.out.1
     rw [List.take_length] at hR
     rw [List.take_length]
     have hj : row.foldl stepS [] = joinS l := by rw [HW.out.1]; exact row_join l
     refine ⟨_, rfl, ?_, HW.out.2.2.trans (HX.out.2.mono HW.out.2.2.size)⟩
     have := Kd.R_lower hR HW.out.2.2.size
     rw [hj] at this ⊢
     exact this

end Go.Proofs.Ytdioagebkfdkhaa.Ad
end
