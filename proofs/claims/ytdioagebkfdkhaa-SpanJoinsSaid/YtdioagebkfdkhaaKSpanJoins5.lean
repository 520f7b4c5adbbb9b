/- Merged by a program of this session (wip/tools/pack.py). -/
import Derived.Test.YtdioagebkfdkhaaKSpanJoins4
import Derived.Deep.Slices
import Derived.Deep.Fields
import Derived.ChangeSame
import Derived.OpenShut
import Derived.SizedLaws
section
set_option linter.unusedVariables false
set_option linter.unusedSimpArgs false
namespace Go.Proofs.Ytdioagebkfdkhaa.Ad
open Go.RowKit Go.Proofs.YtdioagebkfdkhaaW.PrintWords Go.Proofs.YtdioagebkfdkhaaW.PrintLast Go.Proofs.YtdioagebkfdkhaaW.PrintMore Go.Proofs.Ytdioagebkfdkhaa.PT

/-- What one has with each of the others. -/
def row1 (s : Spn) (b : List Spn) : List Spn := b.flatMap fun t => if rightS s && rightS t && decide (s.v6 = t.v6) then [cut2 s t] else []
theorem pairs_take (a b : List Spn) (i : Nat) (h : i < a.length) : pairs (a.take (i + 1)) b = pairs (a.take i) b ++ row1 a[i] b := by
 unfold pairs
 rw [List.take_succ_eq_append_getElem h, List.flatMap_append]
 congr 1
 simp [row1]
theorem row1_take (s : Spn) (b : List Spn) (k : Nat) (h : k < b.length) : row1 s (b.take (k + 1)) = row1 s (b.take k) ++ (if rightS s && rightS b[k] && decide (s.v6 = b[k].v6) then [cut2 s b[k]] else []) := by
 unfold row1
 rw [List.take_succ_eq_append_getElem h, List.flatMap_append]
 congr 1
 simp
theorem row1_len (s : Spn) (b : List Spn) : (row1 s b).length ≤ b.length := by
 induction b with
 | nil => simp [row1]
 | cons t b ih =>
  unfold row1 at *
  rw [List.flatMap_cons, List.length_append, List.length_cons]
  split
  ·rw [List.length_singleton]; omega
  ·rw [List.length_nil]; omega
theorem pairs_len2 (a b : List Spn) : (pairs a b).length ≤ a.length * b.length := by
 induction a with
 | nil => simp [pairs]
 | cons s a ih =>
  have h : pairs (s :: a) b = row1 s b ++ pairs a b := by unfold pairs row1; rw [List.flatMap_cons]
  rw [h, List.length_append, List.length_cons, Nat.succ_mul]
  have := row1_len s b
  omega
theorem RS_only {e : Nat} {w w1 : World} {base : Nat} {v : Value} {xs : List Spn} (h : kS.R e w base (fun _ => True) v xs) (hm : ∀ k, v.ownBlock = some k → w1.heap[k]? = w.heap[k]?) : kS.R e w1 base (fun _ => True) v xs := by
 have h1 : kS.R e w base (fun k => v.ownBlock = some k) v xs := by
  obtain ⟨_, inner, ho, hr⟩ := h
  exact ⟨fun k hk => hk, inner, ho, hr⟩
 exact Kd.R_mono (Kd.R_move h1 hm) (fun _ _ => trivial)
/-- Between two rounds. -/
def RbI (w0 : World) (out : List Spn) (ov : Value) (W : World) : Prop := kS.R 30 W w0.heap.size (fun _ => True) ov out ∧ Below w0.heap.size w0 W
theorem RbI.step {w0 W W1 : World} {out : List Spn} {ov : Value} (h : RbI w0 out ov W) (hB : Below W.heap.size W W1) : RbI w0 out ov W1 := ⟨Kd.R_below h.1 hB, h.2.trans (hB.mono h.2.size)⟩
/-- In a round: the span at hand in block g, the other one in its row. -/
structure RbS (w0 : World) (out : List Spn) (ov : Value) (g : Nat) (x : Spn) (bb ob : Nat) (t : Spn) (W : World) : Prop where
 i : RbI w0 out ov W
 r : RowAt W w0.heap.size g 1 [x]
 t : W.rangeAt bb ob t.cells
 n : some g ≠ ov.ownBlock
 lt : bb < w0.heap.size
theorem RbS.step {w0 W W1 : World} {out : List Spn} {ov : Value} {g : Nat} {x : Spn} {bb ob : Nat} {t : Spn} (h : RbS w0 out ov g x bb ob t W) (hB : Below W.heap.size W W1) : RbS w0 out ov g x bb ob t W1 := ⟨h.i.step hB, h.r.below hB, ra_below h.t hB, h.n, h.lt⟩
theorem RbS.far {w0 W : World} {out : List Spn} {ov : Value} {g : Nat} {x : Spn} {bb ob : Nat} {t : Spn} (h : RbS w0 out ov g x bb ob t W) (o : Nat) (vs : List Value) : RbI w0 out ov (W.setCells g o vs) ∧ (W.setCells g o vs).rangeAt bb ob t.cells := by
 refine ⟨⟨RS_only h.i.1 (fun k hk => setCells_other g k (fun e => h.n (by rw [hk, e])) vs o W), setCells_below _ g w0 h.r.hb _ _ _ h.i.2⟩, World.rangeAt_setCells_apart h.t g o vs (.inl ?_)⟩
 have := h.r.hb
 have := h.lt
 omega
theorem RbS.lo {w0 W : World} {out : List Spn} {ov : Value} {g : Nat} {x : Spn} {bb ob : Nat} {t : Spn} (h : RbS w0 out ov g x bb ob t W) (a : A16) : RbS w0 out ov g ⟨x.v6, a, x.hi⟩ bb ob t (W.setCells g 1 a.cells) :=
 ⟨(h.far 1 _).1, h.r.setLo a, (h.far 1 _).2, h.n, h.lt⟩
theorem RbS.hi {w0 W : World} {out : List Spn} {ov : Value} {g : Nat} {x : Spn} {bb ob : Nat} {t : Spn} (h : RbS w0 out ov g x bb ob t W) (a : A16) : RbS w0 out ov g ⟨x.v6, x.lo, a⟩ bb ob t (W.setCells g 17 a.cells) :=
 ⟨(h.far 17 _).1, h.r.setHi1 a, (h.far 17 _).2, h.n, h.lt⟩

set_option maxHeartbeats 16000000 in
set_option maxRecDepth 100000 in
theorem refBoth_walk : BothC 12 10000 := by
 intro A c a B d b w hA hac hB hbd hal hbl
 have HL := Lib.hid (And.intro hA hB)
 clear hA hB
 go_enter Try.func12, Try.ntmps12
 go_wp2
 go_loopw [5, 6, 7, 8] (fun ov iv _ _ wr => ∃ i : Nat, i ≤ a.length ∧ iv = .int .i64 i ∧ Hid (RbI w (pairs (a.take i) b) ov wr)) (fun _ iv _ _ _ => a.length - (intOf iv).toNat)
 case atStart => exact ⟨0, Nat.zero_le _, rfl, Lib.hid ⟨Kd.R_nil _ _ _ _ _, Below.refl _ _⟩⟩
 case round =>
  obtain ⟨i, hi, rfl, HX⟩ := hrel
  by_cases hia : i < a.length
  ·obtain ⟨ba, oa, hA, hRa⟩ := C_form HL.out.1 (by omega)
   subst hA
   obtain ⟨s, hs⟩ : ∃ s, s = a[i] := ⟨_, rfl⟩
   have hsa := hRa i hia
   rw [← hs] at hsa
   have HS := Lib.hid (And.intro hs hsa)
   have hpl := pairs_len2 (a.take i) b
   have hmul : (a.take i).length * b.length ≤ 10000 * 10000 := Nat.mul_le_mul (by rw [List.length_take]; omega) hbl
   have hi1 := eq_true (show (i : Int) < (a.length : Int) by omega)
   have hi2 : decide ((i : Int) < (a.length : Int)) = true := decide_eq_true (by omega)
   have hi3 : decide (i < a.length) = true := decide_eq_true hia
   obtain ⟨P, hP⟩ : ∃ P, P = pairs (a.take i) b := ⟨_, rfl⟩
   rw [← hP] at HX hpl
   have hPl : P.length ≤ 100000000 := by omega
   have HP := Lib.hid hP
   clear hs hsa hRa hP hpl hmul
   go_wp2
   go_loopw [5, 7, 8] (fun ov kv _ wr => ∃ k : Nat, k ≤ b.length ∧ kv = .int .i64 k ∧ Hid (RbI w (P ++ row1 s (b.take k)) ov wr)) (fun _ kv _ _ => b.length - (intOf kv).toNat)
   case atStart => exact ⟨0, Nat.zero_le _, rfl, Lib.hid (by have := HX.out; simpa [row1] using this)⟩
   case round =>
    obtain ⟨k, hk, rfl, HI⟩ := hrel
    by_cases hkb : k < b.length
    ·obtain ⟨bb, ob, hB, hRb⟩ := C_form HL.out.2 (by omega)
     subst hB
     obtain ⟨t, ht⟩ : ∃ t, t = b[k] := ⟨_, rfl⟩
     have htb := hRb k hkb
     rw [← ht] at htb
     have hft := row1_take s b k hkb
     rw [← ht] at hft
     have hrl := row1_len s (b.take k)
     rw [List.length_take] at hrl
     obtain ⟨out, hout⟩ : ∃ out, out = P ++ row1 s (b.take k) := ⟨_, rfl⟩
     have hol : out.length ≤ 100010000 := by rw [hout, List.length_append]; omega
     rw [← hout] at HI
     obtain ⟨Ao, co, hov, hco, _⟩ := Kd.R_reads HI.out.1
     subst hov
     have HFT : Hid (P ++ row1 s (b.take (k + 1)) = out ++ (if rightS s && rightS t && decide (s.v6 = t.v6) then [cut2 s t] else [])) := Lib.hid (by rw [hft, hout, List.append_assoc])
     have hlb := ra_lt htb
     have hn8 : some wr.heap.size ≠ (Value.slice Ao out.length co).ownBlock := fun e => absurd (R_own HI.out.1 _ e.symm) (Nat.lt_irrefl _)
     have hsr := ra_below HS.out.2 HI.out.2
     have H8 : Hid (RbS w out (.slice Ao out.length co) wr.heap.size s bb (ob + k * 33) t (wr.alloc (.cells s.arr 30)) ∧ wr.rangeAt ba (oa + i * 33) s.cells) :=
      Lib.hid ⟨⟨HI.out.step ((Below.refl _ _).alloc (Nat.le_refl _) _), RowAt.new (Has.new _ _ _) HI.out.2.size, ra_below (ra_below htb HI.out.2) ((Below.refl _ _).alloc (Nat.le_refl _) _), hn8, hlb⟩, hsr⟩
     have HOUT := Lib.hid hout
     have HT := Lib.hid ht
     clear hft hrl hout htb hRb hlb hn8 hsr ht HI
     have hk1 := eq_true (show (k : Int) < (b.length : Int) by omega)
     have hk2 : decide ((k : Int) < (b.length : Int)) = true := decide_eq_true (by omega)
     have hk3 : decide (k < b.length) = true := decide_eq_true hkb
     obtain ⟨r1, hr1⟩ : ∃ r, r = rightS s := ⟨_, rfl⟩
     obtain ⟨r2, hr2⟩ : ∃ r, r = rightS t := ⟨_, rfl⟩
     have hrs : ∀ W, Calls Try.prog 31 #[.agg s.arr] W fun e w' => e = .returned (.bool r1) ∧ Gw W w' := fun W => by rw [hr1]; exact refRightS_walk s W
     have hrt : ∀ W, Calls Try.prog 31 #[.agg t.arr] W fun e w' => e = .returned (.bool r2) ∧ Gw W w' := fun W => by rw [hr2]; exact refRightS_walk t W
     have HRR := Lib.hid (And.intro hr1 hr2)
     clear hr1 hr2
     go_wp2_with (first
      | ((with_reducible refine at_dst 24 ?_); refine loadS s ba (oa + i * 33) rfl H8.out.2 ?_)
      | ((with_reducible refine at_dst 8 ?_); refine alloc_storeS s rfl rfl ?_; generalize wr.heap.size = g8 at H8 ⊢; generalize wr.alloc (.cells s.arr 30) = w4 at H8 ⊢))
     have H4 := Lib.hid H8.out.1
     clear H8
     cases r1
     ·go_wp2
      refine start_ (n := 21) (S := RbS w out (.slice Ao out.length co) g8 s bb (ob + k * 33) t) (ds := []) #[false, false, false, false, false, false, false, false, false, false, false, false, false, false, false, false, false, false, false, false, false] (by kernel_rfl) rfl rfl (H4.out.step (Below.refl _ _).drew) (fun hHeld => ?_)
      refine take_ (i := 0) (N := some 25) (v := .agg s.arr) (a' := ?_) #[true, false, false, false, false, false, false, false, false, false, false, false, false, false, false, false, false, false, false, false, false] rfl rfl (by kernel_rfl) (fun _ _ _ h => h) ?_ hHeld ?_ ?_
      ·exact yS (by rfl) rfl s g8 0 rfl (fun W h => h.r.one)
      rotate_left
      ·simp only [Act.put, List.setIfInBounds_toArray, List.set_cons_zero, List.set_cons_succ, i64_w, i32_w]
       rfl
      refine one_ (i := 1) (N := some 26) #[true, true, false, false, false, false, false, false, false, false, false, false, false, false, false, false, false, false, false, false, false] rfl rfl (by kernel_rfl) (by decide) (fun K hK => ?_)
      refine goes_ Try.func31 (by kernel_rfl) rfl #[.agg s.arr] (by rfl) rfl rfl (by (try simp only [List.map_toArray, List.map_cons, List.map_nil]); first | done | rfl) ?_
      refine (hrs _).mono ?_
      rintro e w5 ⟨rfl, hB⟩
      refine ⟨_, rfl, ?_⟩
      refine hK.out _ _ (hHeld.step hB.below) (fun hHeld => ?_)
      clear hK K
      refine norm_ (a' := ?_) ?_ ?_
      rotate_left
      ·show Act.put _ (some 26) _ = _
       simp only [Act.put, List.setIfInBounds_toArray, List.set_cons_zero, List.set_cons_succ, i64_w, i32_w]
       rfl
      refine pure_ (i := 2) (N := some 27) (v := ?_) (a' := ?_) #[true, true, true, false, false, false, false, false, false, false, false, false, false, false, false, false, false, false, false, false, false] rfl rfl (by kernel_rfl) (fun _ _ _ h => h) (Or.inl ⟨by rfl, ?_⟩) ?_ ?_
      rotate_left
      ·intro w'
       go_simp
       with_reducible rfl
      rotate_left
      ·simp only [Act.put, List.setIfInBounds_toArray, List.set_cons_zero, List.set_cons_succ, i64_w, i32_w]
       rfl
      refine pure_ (i := 3) (N := some 28) (v := ?_) (a' := ?_) #[true, true, true, true, false, false, false, false, false, false, false, false, false, false, false, false, false, false, false, false, false] rfl rfl (by kernel_rfl) (fun _ _ _ h => h) (Or.inl ⟨by rfl, ?_⟩) ?_ ?_
      rotate_left
      ·intro w'
       go_simp
       with_reducible rfl
      rotate_left
      ·simp only [Act.put, List.setIfInBounds_toArray, List.set_cons_zero, List.set_cons_succ, i64_w, i32_w]
       rfl
      refine pure_ (i := 4) (N := some 29) (v := undef) (a' := ?_) #[true, true, true, true, true, false, false, false, false, false, false, false, false, false, false, false, false, false, false, false, false] rfl rfl (by kernel_rfl) (fun _ _ _ h => h) (Or.inr ⟨by rfl, rfl⟩) ?_ ?_
      rotate_left
      ·simp only [Act.put, List.setIfInBounds_toArray, List.set_cons_zero, List.set_cons_succ, i64_w, i32_w]
       rfl
      refine pure_ (i := 5) (N := some 30) (v := undef) (a' := ?_) #[true, true, true, true, true, true, false, false, false, false, false, false, false, false, false, false, false, false, false, false, false] rfl rfl (by kernel_rfl) (fun _ _ _ h => h) (Or.inr ⟨by rfl, rfl⟩) ?_ ?_
      rotate_left
      ·simp only [Act.put, List.setIfInBounds_toArray, List.set_cons_zero, List.set_cons_succ, i64_w, i32_w]
       rfl
      refine pure_ (i := 6) (N := some 31) (v := undef) (a' := ?_) #[true, true, true, true, true, true, true, false, false, false, false, false, false, false, false, false, false, false, false, false, false] rfl rfl (by kernel_rfl) (fun _ _ _ h => h) (Or.inr ⟨by rfl, rfl⟩) ?_ ?_
      rotate_left
      ·simp only [Act.put, List.setIfInBounds_toArray, List.set_cons_zero, List.set_cons_succ, i64_w, i32_w]
       rfl
      refine pure_ (i := 7) (N := some 32) (v := undef) (a' := ?_) #[true, true, true, true, true, true, true, true, false, false, false, false, false, false, false, false, false, false, false, false, false] rfl rfl (by kernel_rfl) (fun _ _ _ h => h) (Or.inr ⟨by rfl, rfl⟩) ?_ ?_
      rotate_left
      ·simp only [Act.put, List.setIfInBounds_toArray, List.set_cons_zero, List.set_cons_succ, i64_w, i32_w]
       rfl
      refine pure_ (i := 8) (N := some 33) (v := undef) (a' := ?_) #[true, true, true, true, true, true, true, true, true, false, false, false, false, false, false, false, false, false, false, false, false] rfl rfl (by kernel_rfl) (fun _ _ _ h => h) (Or.inr ⟨by rfl, rfl⟩) ?_ ?_
      rotate_left
      ·simp only [Act.put, List.setIfInBounds_toArray, List.set_cons_zero, List.set_cons_succ, i64_w, i32_w]
       rfl
      refine pure_ (i := 9) (N := some 34) (v := undef) (a' := ?_) #[true, true, true, true, true, true, true, true, true, true, false, false, false, false, false, false, false, false, false, false, false] rfl rfl (by kernel_rfl) (fun _ _ _ h => h) (Or.inr ⟨by rfl, rfl⟩) ?_ ?_
      rotate_left
      ·simp only [Act.put, List.setIfInBounds_toArray, List.set_cons_zero, List.set_cons_succ, i64_w, i32_w]
       rfl
      refine pure_ (i := 10) (N := some 35) (v := ?_) (a' := ?_) #[true, true, true, true, true, true, true, true, true, true, true, false, false, false, false, false, false, false, false, false, false] rfl rfl (by kernel_rfl) (fun _ _ _ h => h) (Or.inl ⟨by rfl, ?_⟩) ?_ ?_
      rotate_left
      ·intro w'
       go_simp
       with_reducible rfl
      rotate_left
      ·simp only [Act.put, List.setIfInBounds_toArray, List.set_cons_zero, List.set_cons_succ, i64_w, i32_w]
       rfl
      refine pure_ (i := 11) (N := some 36) (v := ?_) (a' := ?_) #[true, true, true, true, true, true, true, true, true, true, true, true, false, false, false, false, false, false, false, false, false] rfl rfl (by kernel_rfl) (fun _ _ _ h => h) (Or.inl ⟨by rfl, ?_⟩) ?_ ?_
      rotate_left
      ·intro w'
       go_simp
       with_reducible rfl
      rotate_left
      ·simp only [Act.put, List.setIfInBounds_toArray, List.set_cons_zero, List.set_cons_succ, i64_w, i32_w]
       rfl
      refine pure_ (i := 12) (N := some 37) (v := undef) (a' := ?_) #[true, true, true, true, true, true, true, true, true, true, true, true, true, false, false, false, false, false, false, false, false] rfl rfl (by kernel_rfl) (fun _ _ _ h => h) (Or.inr ⟨by rfl, rfl⟩) ?_ ?_
      rotate_left
      ·simp only [Act.put, List.setIfInBounds_toArray, List.set_cons_zero, List.set_cons_succ, i64_w, i32_w]
       rfl
      refine pure_ (i := 13) (N := some 38) (v := undef) (a' := ?_) #[true, true, true, true, true, true, true, true, true, true, true, true, true, true, false, false, false, false, false, false, false] rfl rfl (by kernel_rfl) (fun _ _ _ h => h) (Or.inr ⟨by rfl, rfl⟩) ?_ ?_
      rotate_left
      ·simp only [Act.put, List.setIfInBounds_toArray, List.set_cons_zero, List.set_cons_succ, i64_w, i32_w]
       rfl
      refine pure_ (i := 14) (N := some 39) (v := undef) (a' := ?_) #[true, true, true, true, true, true, true, true, true, true, true, true, true, true, true, false, false, false, false, false, false] rfl rfl (by kernel_rfl) (fun _ _ _ h => h) (Or.inr ⟨by rfl, rfl⟩) ?_ ?_
      rotate_left
      ·simp only [Act.put, List.setIfInBounds_toArray, List.set_cons_zero, List.set_cons_succ, i64_w, i32_w]
       rfl
      refine pure_ (i := 15) (N := some 40) (v := undef) (a' := ?_) #[true, true, true, true, true, true, true, true, true, true, true, true, true, true, true, true, false, false, false, false, false] rfl rfl (by kernel_rfl) (fun _ _ _ h => h) (Or.inr ⟨by rfl, rfl⟩) ?_ ?_
      rotate_left
      ·simp only [Act.put, List.setIfInBounds_toArray, List.set_cons_zero, List.set_cons_succ, i64_w, i32_w]
       rfl
      refine pure_ (i := 16) (N := some 41) (v := undef) (a' := ?_) #[true, true, true, true, true, true, true, true, true, true, true, true, true, true, true, true, true, false, false, false, false] rfl rfl (by kernel_rfl) (fun _ _ _ h => h) (Or.inr ⟨by rfl, rfl⟩) ?_ ?_
      rotate_left
      ·simp only [Act.put, List.setIfInBounds_toArray, List.set_cons_zero, List.set_cons_succ, i64_w, i32_w]
       rfl
      refine pure_ (i := 17) (N := some 42) (v := undef) (a' := ?_) #[true, true, true, true, true, true, true, true, true, true, true, true, true, true, true, true, true, true, false, false, false] rfl rfl (by kernel_rfl) (fun _ _ _ h => h) (Or.inr ⟨by rfl, rfl⟩) ?_ ?_
      rotate_left
      ·simp only [Act.put, List.setIfInBounds_toArray, List.set_cons_zero, List.set_cons_succ, i64_w, i32_w]
       rfl
      refine pure_ (i := 18) (N := some 43) (v := undef) (a' := ?_) #[true, true, true, true, true, true, true, true, true, true, true, true, true, true, true, true, true, true, true, false, false] rfl rfl (by kernel_rfl) (fun _ _ _ h => h) (Or.inr ⟨by rfl, rfl⟩) ?_ ?_
      rotate_left
      ·simp only [Act.put, List.setIfInBounds_toArray, List.set_cons_zero, List.set_cons_succ, i64_w, i32_w]
       rfl
      refine pure_ (i := 19) (N := some 44) (v := undef) (a' := ?_) #[true, true, true, true, true, true, true, true, true, true, true, true, true, true, true, true, true, true, true, true, false] rfl rfl (by kernel_rfl) (fun _ _ _ h => h) (Or.inr ⟨by rfl, rfl⟩) ?_ ?_
      rotate_left
      ·simp only [Act.put, List.setIfInBounds_toArray, List.set_cons_zero, List.set_cons_succ, i64_w, i32_w]
       rfl
      refine pure_ (i := 20) (N := some 45) (v := ?_) (a' := ?_) #[true, true, true, true, true, true, true, true, true, true, true, true, true, true, true, true, true, true, true, true, true] rfl rfl (by kernel_rfl) (fun _ _ _ h => h) (Or.inl ⟨by rfl, ?_⟩) ?_ ?_
      rotate_left
      ·intro w'
       go_simp
       with_reducible rfl
      rotate_left
      ·simp only [Act.put, List.setIfInBounds_toArray, List.set_cons_zero, List.set_cons_succ, i64_w, i32_w]
       rfl
      refine done_ (by kernel_rfl) ?_
      have H9 := Lib.hid hHeld
      clear hHeld H4 hrs hrt
      go_wp2
      go_roundw
      case rel => exact ⟨k + 1, by omega, by go_num, Lib.hid (by rw [HFT.out, if_neg (by rw [← HRR.out.1]; simp), List.append_nil]; exact H9.out.i)⟩
      case measure => simp [intOf]; omega
     ·cases r2
      ·go_wp2
       refine start_ (n := 21) (S := RbS w out (.slice Ao out.length co) g8 s bb (ob + k * 33) t) (ds := []) #[false, false, false, false, false, false, false, false, false, false, false, false, false, false, false, false, false, false, false, false, false] (by kernel_rfl) rfl rfl (H4.out.step (Below.refl _ _).drew) (fun hHeld => ?_)
       refine take_ (i := 0) (N := some 25) (v := .agg s.arr) (a' := ?_) #[true, false, false, false, false, false, false, false, false, false, false, false, false, false, false, false, false, false, false, false, false] rfl rfl (by kernel_rfl) (fun _ _ _ h => h) ?_ hHeld ?_ ?_
       ·exact yS (by rfl) rfl s g8 0 rfl (fun W h => h.r.one)
       rotate_left
       ·simp only [Act.put, List.setIfInBounds_toArray, List.set_cons_zero, List.set_cons_succ, i64_w, i32_w]
        rfl
       refine one_ (i := 1) (N := some 26) #[true, true, false, false, false, false, false, false, false, false, false, false, false, false, false, false, false, false, false, false, false] rfl rfl (by kernel_rfl) (by decide) (fun K hK => ?_)
       refine goes_ Try.func31 (by kernel_rfl) rfl #[.agg s.arr] (by rfl) rfl rfl (by (try simp only [List.map_toArray, List.map_cons, List.map_nil]); first | done | rfl) ?_
       refine (hrs _).mono ?_
       rintro e w5 ⟨rfl, hB⟩
       refine ⟨_, rfl, ?_⟩
       refine hK.out _ _ (hHeld.step hB.below) (fun hHeld => ?_)
       clear hK K
       refine norm_ (a' := ?_) ?_ ?_
       rotate_left
       ·show Act.put _ (some 26) _ = _
        simp only [Act.put, List.setIfInBounds_toArray, List.set_cons_zero, List.set_cons_succ, i64_w, i32_w]
        rfl
       refine pure_ (i := 2) (N := some 27) (v := ?_) (a' := ?_) #[true, true, true, false, false, false, false, false, false, false, false, false, false, false, false, false, false, false, false, false, false] rfl rfl (by kernel_rfl) (fun _ _ _ h => h) (Or.inl ⟨by rfl, ?_⟩) ?_ ?_
       rotate_left
       ·intro w'
        go_simp
        with_reducible rfl
       rotate_left
       ·simp only [Act.put, List.setIfInBounds_toArray, List.set_cons_zero, List.set_cons_succ, i64_w, i32_w]
        rfl
       refine pure_ (i := 3) (N := some 28) (v := ?_) (a' := ?_) #[true, true, true, true, false, false, false, false, false, false, false, false, false, false, false, false, false, false, false, false, false] rfl rfl (by kernel_rfl) (fun _ _ _ h => h) (Or.inl ⟨by rfl, ?_⟩) ?_ ?_
       rotate_left
       ·intro w'
        go_simp
        with_reducible rfl
       rotate_left
       ·simp only [Act.put, List.setIfInBounds_toArray, List.set_cons_zero, List.set_cons_succ, i64_w, i32_w]
        rfl
       refine pure_ (i := 4) (N := some 29) (v := ?_) (a' := ?_) #[true, true, true, true, true, false, false, false, false, false, false, false, false, false, false, false, false, false, false, false, false] rfl rfl (by kernel_rfl) (fun _ _ _ h => h) (Or.inl ⟨by rfl, ?_⟩) ?_ ?_
       rotate_left
       ·intro w'
        go_simp
        with_reducible rfl
       rotate_left
       ·simp only [Act.put, List.setIfInBounds_toArray, List.set_cons_zero, List.set_cons_succ, i64_w, i32_w]
        rfl
       refine pure_ (i := 5) (N := some 30) (v := ?_) (a' := ?_) #[true, true, true, true, true, true, false, false, false, false, false, false, false, false, false, false, false, false, false, false, false] rfl rfl (by kernel_rfl) (fun _ _ _ h => h) (Or.inl ⟨by rfl, ?_⟩) ?_ ?_
       rotate_left
       ·intro w'
        go_simp
        with_reducible rfl
       rotate_left
       ·simp only [Act.put, List.setIfInBounds_toArray, List.set_cons_zero, List.set_cons_succ, i64_w, i32_w]
        rfl
       refine pure_ (i := 6) (N := some 31) (v := ?_) (a' := ?_) #[true, true, true, true, true, true, true, false, false, false, false, false, false, false, false, false, false, false, false, false, false] rfl rfl (by kernel_rfl) (fun _ _ _ h => h) (Or.inl ⟨by rfl, ?_⟩) ?_ ?_
       rotate_left
       ·intro w'
        go_simp
        with_reducible rfl
       rotate_left
       ·simp only [Act.put, List.setIfInBounds_toArray, List.set_cons_zero, List.set_cons_succ, i64_w, i32_w]
        rfl
       refine take_ (i := 7) (N := some 32) (v := .agg t.arr) (a' := ?_) #[true, true, true, true, true, true, true, true, false, false, false, false, false, false, false, false, false, false, false, false, false] rfl rfl (by kernel_rfl) (fun _ _ _ h => h) ?_ hHeld ?_ ?_
       ·exact yS (by rfl) rfl t bb (ob + k * 33) rfl (fun W h => h.t)
       rotate_left
       ·simp only [Act.put, List.setIfInBounds_toArray, List.set_cons_zero, List.set_cons_succ, i64_w, i32_w]
        rfl
       refine one_ (i := 8) (N := some 33) #[true, true, true, true, true, true, true, true, true, false, false, false, false, false, false, false, false, false, false, false, false] rfl rfl (by kernel_rfl) (by decide) (fun K hK => ?_)
       refine goes_ Try.func31 (by kernel_rfl) rfl #[.agg t.arr] (by rfl) rfl rfl (by (try simp only [List.map_toArray, List.map_cons, List.map_nil]); first | done | rfl) ?_
       refine (hrt _).mono ?_
       rintro e w6 ⟨rfl, hB⟩
       refine ⟨_, rfl, ?_⟩
       refine hK.out _ _ (hHeld.step hB.below) (fun hHeld => ?_)
       clear hK K
       refine norm_ (a' := ?_) ?_ ?_
       rotate_left
       ·show Act.put _ (some 33) _ = _
        simp only [Act.put, List.setIfInBounds_toArray, List.set_cons_zero, List.set_cons_succ, i64_w, i32_w]
        rfl
       refine pure_ (i := 9) (N := some 34) (v := ?_) (a' := ?_) #[true, true, true, true, true, true, true, true, true, true, false, false, false, false, false, false, false, false, false, false, false] rfl rfl (by kernel_rfl) (fun _ _ _ h => h) (Or.inl ⟨by rfl, ?_⟩) ?_ ?_
       rotate_left
       ·intro w'
        go_simp
        with_reducible rfl
       rotate_left
       ·simp only [Act.put, List.setIfInBounds_toArray, List.set_cons_zero, List.set_cons_succ, i64_w, i32_w]
        rfl
       refine pure_ (i := 10) (N := some 35) (v := ?_) (a' := ?_) #[true, true, true, true, true, true, true, true, true, true, true, false, false, false, false, false, false, false, false, false, false] rfl rfl (by kernel_rfl) (fun _ _ _ h => h) (Or.inl ⟨by rfl, ?_⟩) ?_ ?_
       rotate_left
       ·intro w'
        go_simp
        with_reducible rfl
       rotate_left
       ·simp only [Act.put, List.setIfInBounds_toArray, List.set_cons_zero, List.set_cons_succ, i64_w, i32_w]
        rfl
       refine pure_ (i := 11) (N := some 36) (v := ?_) (a' := ?_) #[true, true, true, true, true, true, true, true, true, true, true, true, false, false, false, false, false, false, false, false, false] rfl rfl (by kernel_rfl) (fun _ _ _ h => h) (Or.inl ⟨by rfl, ?_⟩) ?_ ?_
       rotate_left
       ·intro w'
        go_simp
        with_reducible rfl
       rotate_left
       ·simp only [Act.put, List.setIfInBounds_toArray, List.set_cons_zero, List.set_cons_succ, i64_w, i32_w]
        rfl
       refine pure_ (i := 12) (N := some 37) (v := undef) (a' := ?_) #[true, true, true, true, true, true, true, true, true, true, true, true, true, false, false, false, false, false, false, false, false] rfl rfl (by kernel_rfl) (fun _ _ _ h => h) (Or.inr ⟨by rfl, rfl⟩) ?_ ?_
       rotate_left
       ·simp only [Act.put, List.setIfInBounds_toArray, List.set_cons_zero, List.set_cons_succ, i64_w, i32_w]
        rfl
       refine pure_ (i := 13) (N := some 38) (v := undef) (a' := ?_) #[true, true, true, true, true, true, true, true, true, true, true, true, true, true, false, false, false, false, false, false, false] rfl rfl (by kernel_rfl) (fun _ _ _ h => h) (Or.inr ⟨by rfl, rfl⟩) ?_ ?_
       rotate_left
       ·simp only [Act.put, List.setIfInBounds_toArray, List.set_cons_zero, List.set_cons_succ, i64_w, i32_w]
        rfl
       refine pure_ (i := 14) (N := some 39) (v := undef) (a' := ?_) #[true, true, true, true, true, true, true, true, true, true, true, true, true, true, true, false, false, false, false, false, false] rfl rfl (by kernel_rfl) (fun _ _ _ h => h) (Or.inr ⟨by rfl, rfl⟩) ?_ ?_
       rotate_left
       ·simp only [Act.put, List.setIfInBounds_toArray, List.set_cons_zero, List.set_cons_succ, i64_w, i32_w]
        rfl
       refine pure_ (i := 15) (N := some 40) (v := undef) (a' := ?_) #[true, true, true, true, true, true, true, true, true, true, true, true, true, true, true, true, false, false, false, false, false] rfl rfl (by kernel_rfl) (fun _ _ _ h => h) (Or.inr ⟨by rfl, rfl⟩) ?_ ?_
       rotate_left
       ·simp only [Act.put, List.setIfInBounds_toArray, List.set_cons_zero, List.set_cons_succ, i64_w, i32_w]
        rfl
       refine pure_ (i := 16) (N := some 41) (v := undef) (a' := ?_) #[true, true, true, true, true, true, true, true, true, true, true, true, true, true, true, true, true, false, false, false, false] rfl rfl (by kernel_rfl) (fun _ _ _ h => h) (Or.inr ⟨by rfl, rfl⟩) ?_ ?_
       rotate_left
       ·simp only [Act.put, List.setIfInBounds_toArray, List.set_cons_zero, List.set_cons_succ, i64_w, i32_w]
        rfl
       refine pure_ (i := 17) (N := some 42) (v := undef) (a' := ?_) #[true, true, true, true, true, true, true, true, true, true, true, true, true, true, true, true, true, true, false, false, false] rfl rfl (by kernel_rfl) (fun _ _ _ h => h) (Or.inr ⟨by rfl, rfl⟩) ?_ ?_
       rotate_left
       ·simp only [Act.put, List.setIfInBounds_toArray, List.set_cons_zero, List.set_cons_succ, i64_w, i32_w]
        rfl
       refine pure_ (i := 18) (N := some 43) (v := undef) (a' := ?_) #[true, true, true, true, true, true, true, true, true, true, true, true, true, true, true, true, true, true, true, false, false] rfl rfl (by kernel_rfl) (fun _ _ _ h => h) (Or.inr ⟨by rfl, rfl⟩) ?_ ?_
       rotate_left
       ·simp only [Act.put, List.setIfInBounds_toArray, List.set_cons_zero, List.set_cons_succ, i64_w, i32_w]
        rfl
       refine pure_ (i := 19) (N := some 44) (v := undef) (a' := ?_) #[true, true, true, true, true, true, true, true, true, true, true, true, true, true, true, true, true, true, true, true, false] rfl rfl (by kernel_rfl) (fun _ _ _ h => h) (Or.inr ⟨by rfl, rfl⟩) ?_ ?_
       rotate_left
       ·simp only [Act.put, List.setIfInBounds_toArray, List.set_cons_zero, List.set_cons_succ, i64_w, i32_w]
        rfl
       refine pure_ (i := 20) (N := some 45) (v := ?_) (a' := ?_) #[true, true, true, true, true, true, true, true, true, true, true, true, true, true, true, true, true, true, true, true, true] rfl rfl (by kernel_rfl) (fun _ _ _ h => h) (Or.inl ⟨by rfl, ?_⟩) ?_ ?_
       rotate_left
       ·intro w'
        go_simp
        with_reducible rfl
       rotate_left
       ·simp only [Act.put, List.setIfInBounds_toArray, List.set_cons_zero, List.set_cons_succ, i64_w, i32_w]
        rfl
       refine done_ (by kernel_rfl) ?_
       have H9 := Lib.hid hHeld
       clear hHeld H4 hrs hrt
       go_wp2
       go_roundw
       case rel => exact ⟨k + 1, by omega, by go_num, Lib.hid (by rw [HFT.out, if_neg (by rw [← HRR.out.1, ← HRR.out.2]; simp), List.append_nil]; exact H9.out.i)⟩
       case measure => simp [intOf]; omega
      ·obtain ⟨v1, hv1⟩ : ∃ v, v = s.v6 := ⟨_, rfl⟩
       obtain ⟨v2, hv2⟩ : ∃ v, v = t.v6 := ⟨_, rfl⟩
       have HV := Lib.hid (And.intro hv1 hv2)
       have c1 : w4.cell? ⟨g8, 0, none⟩ = some (.bool v1) := by rw [hv1]; exact rs_v6 H4.out.r.one
       have c2 : w4.cell? ⟨bb, ob + k * 33, none⟩ = some (.bool v2) := by rw [hv2]; exact rs_v6 H4.out.t
       clear hv1 hv2
       cases v1 <;> cases v2
       ·go_wp2
        refine start_ (n := 21) (S := fun W => W.cell? ⟨g8, 0, none⟩ = some (.bool false) ∧ W.cell? ⟨bb, ob + k * 33, none⟩ = some (.bool false) ∧ RbS w out (.slice Ao out.length co) g8 s bb (ob + k * 33) t W) (ds := []) #[false, false, false, false, false, false, false, false, false, false, false, false, false, false, false, false, false, false, false, false, false] (by kernel_rfl) rfl rfl ⟨c1, c2, H4.out.step (Below.refl _ _).drew⟩ (fun hHeld => ?_)
        refine take_ (i := 0) (N := some 25) (v := .agg s.arr) (a' := ?_) #[true, false, false, false, false, false, false, false, false, false, false, false, false, false, false, false, false, false, false, false, false] rfl rfl (by kernel_rfl) (fun _ _ _ h => h) ?_ hHeld ?_ ?_
        ·exact yS (by rfl) rfl s g8 0 rfl (fun W h => h.2.2.r.one)
        rotate_left
        ·simp only [Act.put, List.setIfInBounds_toArray, List.set_cons_zero, List.set_cons_succ, i64_w, i32_w]
         rfl
        refine one_ (i := 1) (N := some 26) #[true, true, false, false, false, false, false, false, false, false, false, false, false, false, false, false, false, false, false, false, false] rfl rfl (by kernel_rfl) (by decide) (fun K hK => ?_)
        refine goes_ Try.func31 (by kernel_rfl) rfl #[.agg s.arr] (by rfl) rfl rfl (by (try simp only [List.map_toArray, List.map_cons, List.map_nil]); first | done | rfl) ?_
        refine (hrs _).mono ?_
        rintro e w5 ⟨rfl, hB⟩
        refine ⟨_, rfl, ?_⟩
        refine hK.out _ _ ⟨(hB.below.cell (World.block_lt_of_cell? _ _ hHeld.1)).trans hHeld.1, (hB.below.cell (World.block_lt_of_cell? _ _ hHeld.2.1)).trans hHeld.2.1, hHeld.2.2.step hB.below⟩ (fun hHeld => ?_)
        clear hK K
        refine norm_ (a' := ?_) ?_ ?_
        rotate_left
        ·show Act.put _ (some 26) _ = _
         simp only [Act.put, List.setIfInBounds_toArray, List.set_cons_zero, List.set_cons_succ, i64_w, i32_w]
         rfl
        refine pure_ (i := 2) (N := some 27) (v := ?_) (a' := ?_) #[true, true, true, false, false, false, false, false, false, false, false, false, false, false, false, false, false, false, false, false, false] rfl rfl (by kernel_rfl) (fun _ _ _ h => h) (Or.inl ⟨by rfl, ?_⟩) ?_ ?_
        rotate_left
        ·intro w'
         go_simp
         with_reducible rfl
        rotate_left
        ·simp only [Act.put, List.setIfInBounds_toArray, List.set_cons_zero, List.set_cons_succ, i64_w, i32_w]
         rfl
        refine pure_ (i := 3) (N := some 28) (v := ?_) (a' := ?_) #[true, true, true, true, false, false, false, false, false, false, false, false, false, false, false, false, false, false, false, false, false] rfl rfl (by kernel_rfl) (fun _ _ _ h => h) (Or.inl ⟨by rfl, ?_⟩) ?_ ?_
        rotate_left
        ·intro w'
         go_simp
         with_reducible rfl
        rotate_left
        ·simp only [Act.put, List.setIfInBounds_toArray, List.set_cons_zero, List.set_cons_succ, i64_w, i32_w]
         rfl
        refine pure_ (i := 4) (N := some 29) (v := ?_) (a' := ?_) #[true, true, true, true, true, false, false, false, false, false, false, false, false, false, false, false, false, false, false, false, false] rfl rfl (by kernel_rfl) (fun _ _ _ h => h) (Or.inl ⟨by rfl, ?_⟩) ?_ ?_
        rotate_left
        ·intro w'
         go_simp
         with_reducible rfl
        rotate_left
        ·simp only [Act.put, List.setIfInBounds_toArray, List.set_cons_zero, List.set_cons_succ, i64_w, i32_w]
         rfl
        refine pure_ (i := 5) (N := some 30) (v := ?_) (a' := ?_) #[true, true, true, true, true, true, false, false, false, false, false, false, false, false, false, false, false, false, false, false, false] rfl rfl (by kernel_rfl) (fun _ _ _ h => h) (Or.inl ⟨by rfl, ?_⟩) ?_ ?_
        rotate_left
        ·intro w'
         go_simp
         with_reducible rfl
        rotate_left
        ·simp only [Act.put, List.setIfInBounds_toArray, List.set_cons_zero, List.set_cons_succ, i64_w, i32_w]
         rfl
        refine pure_ (i := 6) (N := some 31) (v := ?_) (a' := ?_) #[true, true, true, true, true, true, true, false, false, false, false, false, false, false, false, false, false, false, false, false, false] rfl rfl (by kernel_rfl) (fun _ _ _ h => h) (Or.inl ⟨by rfl, ?_⟩) ?_ ?_
        rotate_left
        ·intro w'
         go_simp
         with_reducible rfl
        rotate_left
        ·simp only [Act.put, List.setIfInBounds_toArray, List.set_cons_zero, List.set_cons_succ, i64_w, i32_w]
         rfl
        refine take_ (i := 7) (N := some 32) (v := .agg t.arr) (a' := ?_) #[true, true, true, true, true, true, true, true, false, false, false, false, false, false, false, false, false, false, false, false, false] rfl rfl (by kernel_rfl) (fun _ _ _ h => h) ?_ hHeld ?_ ?_
        ·exact yS (by rfl) rfl t bb (ob + k * 33) rfl (fun W h => h.2.2.t)
        rotate_left
        ·simp only [Act.put, List.setIfInBounds_toArray, List.set_cons_zero, List.set_cons_succ, i64_w, i32_w]
         rfl
        refine one_ (i := 8) (N := some 33) #[true, true, true, true, true, true, true, true, true, false, false, false, false, false, false, false, false, false, false, false, false] rfl rfl (by kernel_rfl) (by decide) (fun K hK => ?_)
        refine goes_ Try.func31 (by kernel_rfl) rfl #[.agg t.arr] (by rfl) rfl rfl (by (try simp only [List.map_toArray, List.map_cons, List.map_nil]); first | done | rfl) ?_
        refine (hrt _).mono ?_
        rintro e w6 ⟨rfl, hB⟩
        refine ⟨_, rfl, ?_⟩
        refine hK.out _ _ ⟨(hB.below.cell (World.block_lt_of_cell? _ _ hHeld.1)).trans hHeld.1, (hB.below.cell (World.block_lt_of_cell? _ _ hHeld.2.1)).trans hHeld.2.1, hHeld.2.2.step hB.below⟩ (fun hHeld => ?_)
        clear hK K
        refine norm_ (a' := ?_) ?_ ?_
        rotate_left
        ·show Act.put _ (some 33) _ = _
         simp only [Act.put, List.setIfInBounds_toArray, List.set_cons_zero, List.set_cons_succ, i64_w, i32_w]
         rfl
        refine pure_ (i := 9) (N := some 34) (v := ?_) (a' := ?_) #[true, true, true, true, true, true, true, true, true, true, false, false, false, false, false, false, false, false, false, false, false] rfl rfl (by kernel_rfl) (fun _ _ _ h => h) (Or.inl ⟨by rfl, ?_⟩) ?_ ?_
        rotate_left
        ·intro w'
         go_simp
         with_reducible rfl
        rotate_left
        ·simp only [Act.put, List.setIfInBounds_toArray, List.set_cons_zero, List.set_cons_succ, i64_w, i32_w]
         rfl
        refine pure_ (i := 10) (N := some 35) (v := ?_) (a' := ?_) #[true, true, true, true, true, true, true, true, true, true, true, false, false, false, false, false, false, false, false, false, false] rfl rfl (by kernel_rfl) (fun _ _ _ h => h) (Or.inl ⟨by rfl, ?_⟩) ?_ ?_
        rotate_left
        ·intro w'
         go_simp
         with_reducible rfl
        rotate_left
        ·simp only [Act.put, List.setIfInBounds_toArray, List.set_cons_zero, List.set_cons_succ, i64_w, i32_w]
         rfl
        refine pure_ (i := 11) (N := some 36) (v := ?_) (a' := ?_) #[true, true, true, true, true, true, true, true, true, true, true, true, false, false, false, false, false, false, false, false, false] rfl rfl (by kernel_rfl) (fun _ _ _ h => h) (Or.inl ⟨by rfl, ?_⟩) ?_ ?_
        rotate_left
        ·intro w'
         go_simp
         with_reducible rfl
        rotate_left
        ·simp only [Act.put, List.setIfInBounds_toArray, List.set_cons_zero, List.set_cons_succ, i64_w, i32_w]
         rfl
        refine pure_ (i := 12) (N := some 37) (v := ?_) (a' := ?_) #[true, true, true, true, true, true, true, true, true, true, true, true, true, false, false, false, false, false, false, false, false] rfl rfl (by kernel_rfl) (fun _ _ _ h => h) (Or.inl ⟨by rfl, ?_⟩) ?_ ?_
        rotate_left
        ·intro w'
         go_simp
         with_reducible rfl
        rotate_left
        ·simp only [Act.put, List.setIfInBounds_toArray, List.set_cons_zero, List.set_cons_succ, i64_w, i32_w]
         rfl
        refine take_ (i := 13) (N := some 38) (v := ?_) (a' := ?_) #[true, true, true, true, true, true, true, true, true, true, true, true, true, true, false, false, false, false, false, false, false] rfl rfl (by kernel_rfl) (fun _ _ _ h => h) (Or.inl ⟨by rfl, ?_⟩) hHeld ?_ ?_
        rotate_left
        ·rintro w' ⟨s0, s1, s2⟩
         go_simp
         with_reducible rfl
        rotate_left
        ·simp only [Act.put, List.setIfInBounds_toArray, List.set_cons_zero, List.set_cons_succ, i64_w, i32_w]
         rfl
        refine pure_ (i := 14) (N := some 39) (v := ?_) (a' := ?_) #[true, true, true, true, true, true, true, true, true, true, true, true, true, true, true, false, false, false, false, false, false] rfl rfl (by kernel_rfl) (fun _ _ _ h => h) (Or.inl ⟨by rfl, ?_⟩) ?_ ?_
        rotate_left
        ·intro w'
         go_simp
         with_reducible rfl
        rotate_left
        ·simp only [Act.put, List.setIfInBounds_toArray, List.set_cons_zero, List.set_cons_succ, i64_w, i32_w]
         rfl
        refine pure_ (i := 15) (N := some 40) (v := ?_) (a' := ?_) #[true, true, true, true, true, true, true, true, true, true, true, true, true, true, true, true, false, false, false, false, false] rfl rfl (by kernel_rfl) (fun _ _ _ h => h) (Or.inl ⟨by rfl, ?_⟩) ?_ ?_
        rotate_left
        ·intro w'
         go_simp
         with_reducible rfl
        rotate_left
        ·simp only [Act.put, List.setIfInBounds_toArray, List.set_cons_zero, List.set_cons_succ, i64_w, i32_w]
         rfl
        refine pure_ (i := 16) (N := some 41) (v := ?_) (a' := ?_) #[true, true, true, true, true, true, true, true, true, true, true, true, true, true, true, true, true, false, false, false, false] rfl rfl (by kernel_rfl) (fun _ _ _ h => h) (Or.inl ⟨by rfl, ?_⟩) ?_ ?_
        rotate_left
        ·intro w'
         go_simp
         with_reducible rfl
        rotate_left
        ·simp only [Act.put, List.setIfInBounds_toArray, List.set_cons_zero, List.set_cons_succ, i64_w, i32_w]
         rfl
        refine pure_ (i := 17) (N := some 42) (v := ?_) (a' := ?_) #[true, true, true, true, true, true, true, true, true, true, true, true, true, true, true, true, true, true, false, false, false] rfl rfl (by kernel_rfl) (fun _ _ _ h => h) (Or.inl ⟨by rfl, ?_⟩) ?_ ?_
        rotate_left
        ·intro w'
         go_simp
         with_reducible rfl
        rotate_left
        ·simp only [Act.put, List.setIfInBounds_toArray, List.set_cons_zero, List.set_cons_succ, i64_w, i32_w]
         rfl
        refine take_ (i := 18) (N := some 43) (v := ?_) (a' := ?_) #[true, true, true, true, true, true, true, true, true, true, true, true, true, true, true, true, true, true, true, false, false] rfl rfl (by kernel_rfl) (fun _ _ _ h => h) (Or.inl ⟨by rfl, ?_⟩) hHeld ?_ ?_
        rotate_left
        ·rintro w' ⟨s0, s1, s2⟩
         go_simp
         with_reducible rfl
        rotate_left
        ·simp only [Act.put, List.setIfInBounds_toArray, List.set_cons_zero, List.set_cons_succ, i64_w, i32_w]
         rfl
        refine pure_ (i := 19) (N := some 44) (v := ?_) (a' := ?_) #[true, true, true, true, true, true, true, true, true, true, true, true, true, true, true, true, true, true, true, true, false] rfl rfl (by kernel_rfl) (fun _ _ _ h => h) (Or.inl ⟨by rfl, ?_⟩) ?_ ?_
        rotate_left
        ·intro w'
         go_simp
         with_reducible rfl
        rotate_left
        ·simp only [Act.put, List.setIfInBounds_toArray, List.set_cons_zero, List.set_cons_succ, i64_w, i32_w]
         rfl
        refine pure_ (i := 20) (N := some 45) (v := ?_) (a' := ?_) #[true, true, true, true, true, true, true, true, true, true, true, true, true, true, true, true, true, true, true, true, true] rfl rfl (by kernel_rfl) (fun _ _ _ h => h) (Or.inl ⟨by rfl, ?_⟩) ?_ ?_
        rotate_left
        ·intro w'
         go_simp
         with_reducible rfl
        rotate_left
        ·simp only [Act.put, List.setIfInBounds_toArray, List.set_cons_zero, List.set_cons_succ, i64_w, i32_w]
         rfl
        refine done_ (by kernel_rfl) ?_
        have H6 := Lib.hid hHeld.2.2
        clear hHeld H4 hrs hrt c1 c2
        have HVV : Hid (s.v6 = t.v6) := Lib.hid (by rw [← HV.out.1, ← HV.out.2])
        obtain ⟨q1, hq1⟩ : ∃ q, q = lexC t.lo.l s.lo.l := ⟨_, rfl⟩
        obtain ⟨q2, hq2⟩ : ∃ q, q = lexC t.hi.l s.hi.l := ⟨_, rfl⟩
        have hclo : ∀ W, Calls Try.prog 17 #[.agg t.lo.arr, .agg s.lo.arr] W fun e w' => e = .returned (.int .i64 q1) ∧ Gw W w' := fun W => by rw [hq1]; exact cmpAddr_walk _ _ W
        have hchi : ∀ W, Calls Try.prog 17 #[.agg t.hi.arr, .agg s.hi.arr] W fun e w' => e = .returned (.int .i64 q2) ∧ Gw W w' := fun W => by rw [hq2]; exact cmpAddr_walk _ _ W
        have HQ1 := Lib.hid hq1
        have HQ2 := Lib.hid hq2
        clear hq1 hq2
        go_wp2
        refine start_ (n := 9) (S := RbS w out (.slice Ao out.length co) g8 s bb (ob + k * 33) t) (ds := []) #[false, false, false, false, false, false, false, false, false] (by kernel_rfl) rfl rfl (H6.out.step (Below.refl _ _).drew) (fun hHeld => ?_)
        refine pure_ (i := 0) (N := some 46) (v := ?_) (a' := ?_) #[true, false, false, false, false, false, false, false, false] rfl rfl (by kernel_rfl) (fun _ _ _ h => h) (Or.inl ⟨by rfl, ?_⟩) ?_ ?_
        rotate_left
        ·intro w'
         go_simp
         with_reducible rfl
        rotate_left
        ·simp only [Act.put, List.setIfInBounds_toArray, List.set_cons_zero, List.set_cons_succ, i64_w, i32_w]
         rfl
        refine pure_ (i := 1) (N := some 47) (v := ?_) (a' := ?_) #[true, true, false, false, false, false, false, false, false] rfl rfl (by kernel_rfl) (fun _ _ _ h => h) (Or.inl ⟨by rfl, ?_⟩) ?_ ?_
        rotate_left
        ·intro w'
         go_simp
         with_reducible rfl
        rotate_left
        ·simp only [Act.put, List.setIfInBounds_toArray, List.set_cons_zero, List.set_cons_succ, i64_w, i32_w]
         rfl
        refine pure_ (i := 2) (N := some 48) (v := ?_) (a' := ?_) #[true, true, true, false, false, false, false, false, false] rfl rfl (by kernel_rfl) (fun _ _ _ h => h) (Or.inl ⟨by rfl, ?_⟩) ?_ ?_
        rotate_left
        ·intro w'
         go_simp
         with_reducible rfl
        rotate_left
        ·simp only [Act.put, List.setIfInBounds_toArray, List.set_cons_zero, List.set_cons_succ, i64_w, i32_w]
         rfl
        refine pure_ (i := 3) (N := some 49) (v := ?_) (a' := ?_) #[true, true, true, true, false, false, false, false, false] rfl rfl (by kernel_rfl) (fun _ _ _ h => h) (Or.inl ⟨by rfl, ?_⟩) ?_ ?_
        rotate_left
        ·intro w'
         go_simp
         with_reducible rfl
        rotate_left
        ·simp only [Act.put, List.setIfInBounds_toArray, List.set_cons_zero, List.set_cons_succ, i64_w, i32_w]
         rfl
        refine take_ (i := 4) (N := some 50) (v := .agg t.lo.arr) (a' := ?_) #[true, true, true, true, true, false, false, false, false] rfl rfl (by kernel_rfl) (fun _ _ _ h => h) ?_ hHeld ?_ ?_
        ·exact yA (by rfl) rfl t.lo bb (ob + k * 33 + 1) rfl (fun W h => rlo_of_s h.t)
        rotate_left
        ·simp only [Act.put, List.setIfInBounds_toArray, List.set_cons_zero, List.set_cons_succ, i64_w, i32_w]
         rfl
        refine pure_ (i := 5) (N := some 51) (v := ?_) (a' := ?_) #[true, true, true, true, true, true, false, false, false] rfl rfl (by kernel_rfl) (fun _ _ _ h => h) (Or.inl ⟨by rfl, ?_⟩) ?_ ?_
        rotate_left
        ·intro w'
         go_simp
         with_reducible rfl
        rotate_left
        ·simp only [Act.put, List.setIfInBounds_toArray, List.set_cons_zero, List.set_cons_succ, i64_w, i32_w]
         rfl
        refine take_ (i := 6) (N := some 52) (v := .agg s.lo.arr) (a' := ?_) #[true, true, true, true, true, true, true, false, false] rfl rfl (by kernel_rfl) (fun _ _ _ h => h) ?_ hHeld ?_ ?_
        ·exact yA (by rfl) rfl s.lo g8 1 rfl (fun W h => by have := rlo_of_s h.r.one; rwa [Nat.zero_add] at this)
        rotate_left
        ·simp only [Act.put, List.setIfInBounds_toArray, List.set_cons_zero, List.set_cons_succ, i64_w, i32_w]
         rfl
        refine one_ (i := 7) (N := some 53) #[true, true, true, true, true, true, true, true, false] rfl rfl (by kernel_rfl) (by decide) (fun K hK => ?_)
        refine goes_ Try.func17 (by kernel_rfl) rfl #[.agg t.lo.arr, .agg s.lo.arr] (by rfl) rfl rfl (by (try simp only [List.map_toArray, List.map_cons, List.map_nil]); first | done | rfl) ?_
        refine (hclo _).mono ?_
        rintro e w10 ⟨rfl, hB⟩
        refine ⟨_, rfl, ?_⟩
        refine hK.out _ _ (RbS.step hHeld hB.below) (fun hHeld => ?_)
        clear hK K
        refine norm_ (a' := ?_) ?_ ?_
        rotate_left
        ·show Act.put _ (some 53) _ = _
         simp only [Act.put, List.setIfInBounds_toArray, List.set_cons_zero, List.set_cons_succ, i64_w, i32_w]
         rfl
        refine pure_ (i := 8) (N := some 54) (v := ?_) (a' := ?_) #[true, true, true, true, true, true, true, true, true] rfl rfl (by kernel_rfl) (fun _ _ _ h => h) (Or.inl ⟨by rfl, ?_⟩) ?_ ?_
        rotate_left
        ·intro w'
         go_simp
         with_reducible rfl
        rotate_left
        ·simp only [Act.put, List.setIfInBounds_toArray, List.set_cons_zero, List.set_cons_succ, i64_w, i32_w]
         rfl
        refine done_ (by kernel_rfl) ?_
        have H10 := Lib.hid hHeld
        clear hHeld hclo H6
        by_cases p : 0 < q1
        ·have p1 : decide (0 < q1) = true := decide_eq_true p
         have p2 := eq_true p
         have H11 : Hid (RbS w out (.slice Ao out.length co) g8 (⟨s.v6, t.lo, s.hi⟩ : Spn) bb (ob + k * 33) t (w10.setCells g8 1 t.lo.arr.toList)) := Lib.hid (H10.out.lo t.lo)
         go_wp2_with (first
          | ((with_reducible refine at_dst 59 ?_); refine loadA t.lo bb (ob + k * 33 + 1) rfl (rlo_of_s H10.out.t) ?_)
          | (refine wpList_store_mid rfl 28 (.tmp 60) (.tmp 59) rfl g8 1 t.lo.arr rfl rfl (H10.out.r.there (by rw [t.lo.arr_size]; decide)) (by rw [t.lo.arr_size]; exact infoA) t.lo.arr_one ?_))
         generalize w10.setCells g8 1 t.lo.arr.toList = w11 at H11 ⊢
         refine start_ (n := 9) (S := RbS w out (.slice Ao out.length co) g8 (⟨s.v6, t.lo, s.hi⟩ : Spn) bb (ob + k * 33) t) (ds := []) #[false, false, false, false, false, false, false, false, false] (by kernel_rfl) rfl rfl (H11.out.step (Below.refl _ _).drew) (fun hHeld => ?_)
         refine pure_ (i := 0) (N := some 61) (v := ?_) (a' := ?_) #[true, false, false, false, false, false, false, false, false] rfl rfl (by kernel_rfl) (fun _ _ _ h => h) (Or.inl ⟨by rfl, ?_⟩) ?_ ?_
         rotate_left
         ·intro w'
          go_simp
          with_reducible rfl
         rotate_left
         ·simp only [Act.put, List.setIfInBounds_toArray, List.set_cons_zero, List.set_cons_succ, i64_w, i32_w]
          rfl
         refine pure_ (i := 1) (N := some 62) (v := ?_) (a' := ?_) #[true, true, false, false, false, false, false, false, false] rfl rfl (by kernel_rfl) (fun _ _ _ h => h) (Or.inl ⟨by rfl, ?_⟩) ?_ ?_
         rotate_left
         ·intro w'
          go_simp
          with_reducible rfl
         rotate_left
         ·simp only [Act.put, List.setIfInBounds_toArray, List.set_cons_zero, List.set_cons_succ, i64_w, i32_w]
          rfl
         refine pure_ (i := 2) (N := some 63) (v := ?_) (a' := ?_) #[true, true, true, false, false, false, false, false, false] rfl rfl (by kernel_rfl) (fun _ _ _ h => h) (Or.inl ⟨by rfl, ?_⟩) ?_ ?_
         rotate_left
         ·intro w'
          go_simp
          with_reducible rfl
         rotate_left
         ·simp only [Act.put, List.setIfInBounds_toArray, List.set_cons_zero, List.set_cons_succ, i64_w, i32_w]
          rfl
         refine pure_ (i := 3) (N := some 64) (v := ?_) (a' := ?_) #[true, true, true, true, false, false, false, false, false] rfl rfl (by kernel_rfl) (fun _ _ _ h => h) (Or.inl ⟨by rfl, ?_⟩) ?_ ?_
         rotate_left
         ·intro w'
          go_simp
          with_reducible rfl
         rotate_left
         ·simp only [Act.put, List.setIfInBounds_toArray, List.set_cons_zero, List.set_cons_succ, i64_w, i32_w]
          rfl
         refine take_ (i := 4) (N := some 65) (v := .agg t.hi.arr) (a' := ?_) #[true, true, true, true, true, false, false, false, false] rfl rfl (by kernel_rfl) (fun _ _ _ h => h) ?_ hHeld ?_ ?_
         ·exact yA (by rfl) rfl t.hi bb (ob + k * 33 + 17) rfl (fun W h => rhi_of_s h.t)
         rotate_left
         ·simp only [Act.put, List.setIfInBounds_toArray, List.set_cons_zero, List.set_cons_succ, i64_w, i32_w]
          rfl
         refine pure_ (i := 5) (N := some 66) (v := ?_) (a' := ?_) #[true, true, true, true, true, true, false, false, false] rfl rfl (by kernel_rfl) (fun _ _ _ h => h) (Or.inl ⟨by rfl, ?_⟩) ?_ ?_
         rotate_left
         ·intro w'
          go_simp
          with_reducible rfl
         rotate_left
         ·simp only [Act.put, List.setIfInBounds_toArray, List.set_cons_zero, List.set_cons_succ, i64_w, i32_w]
          rfl
         refine take_ (i := 6) (N := some 67) (v := .agg s.hi.arr) (a' := ?_) #[true, true, true, true, true, true, true, false, false] rfl rfl (by kernel_rfl) (fun _ _ _ h => h) ?_ hHeld ?_ ?_
         ·exact yA (by rfl) rfl s.hi g8 17 rfl (fun W h => by have := rhi_of_s h.r.one; rwa [Nat.zero_add] at this)
         rotate_left
         ·simp only [Act.put, List.setIfInBounds_toArray, List.set_cons_zero, List.set_cons_succ, i64_w, i32_w]
          rfl
         refine one_ (i := 7) (N := some 68) #[true, true, true, true, true, true, true, true, false] rfl rfl (by kernel_rfl) (by decide) (fun K hK => ?_)
         refine goes_ Try.func17 (by kernel_rfl) rfl #[.agg t.hi.arr, .agg s.hi.arr] (by rfl) rfl rfl (by (try simp only [List.map_toArray, List.map_cons, List.map_nil]); first | done | rfl) ?_
         refine (hchi _).mono ?_
         rintro e w12 ⟨rfl, hB⟩
         refine ⟨_, rfl, ?_⟩
         refine hK.out _ _ (RbS.step hHeld hB.below) (fun hHeld => ?_)
         clear hK K
         refine norm_ (a' := ?_) ?_ ?_
         rotate_left
         ·show Act.put _ (some 68) _ = _
          simp only [Act.put, List.setIfInBounds_toArray, List.set_cons_zero, List.set_cons_succ, i64_w, i32_w]
          rfl
         refine pure_ (i := 8) (N := some 69) (v := ?_) (a' := ?_) #[true, true, true, true, true, true, true, true, true] rfl rfl (by kernel_rfl) (fun _ _ _ h => h) (Or.inl ⟨by rfl, ?_⟩) ?_ ?_
         rotate_left
         ·intro w'
          go_simp
          with_reducible rfl
         rotate_left
         ·simp only [Act.put, List.setIfInBounds_toArray, List.set_cons_zero, List.set_cons_succ, i64_w, i32_w]
          rfl
         refine done_ (by kernel_rfl) ?_
         have H12 := Lib.hid hHeld
         clear hHeld hchi H11 H10 p1 p2
         by_cases p' : q2 < 0
         ·have p1 : decide (q2 < 0) = true := decide_eq_true p'
          have p2 := eq_true p'
          have H13 : Hid (RbS w out (.slice Ao out.length co) g8 (⟨s.v6, t.lo, t.hi⟩ : Spn) bb (ob + k * 33) t (w12.setCells g8 17 t.hi.cells)) := Lib.hid (H12.out.hi t.hi)
          have hcut : cut2 s t = (⟨s.v6, t.lo, t.hi⟩ : Spn) := by
           unfold cut2 loS hiS
           rw [← HQ1.out, ← HQ2.out, if_pos (by omega), if_pos (by omega)]
          have HCU := Lib.hid hcut
          clear hcut
          go_wp2_with (first
           | ((with_reducible refine at_dst 74 ?_); refine loadA t.hi bb (ob + k * 33 + 17) rfl (rhi_of_s H12.out.t) ?_)
           | (refine wpList_store_mid rfl 28 (.tmp 75) (.tmp 74) rfl g8 17 t.hi.arr rfl rfl (H12.out.r.there (by rw [t.hi.arr_size]; decide)) (by rw [t.hi.arr_size]; exact infoA) t.hi.arr_one ?_)
           | ((with_reducible refine at_dst 77 ?_); refine loadS (⟨s.v6, t.lo, t.hi⟩ : Spn) g8 0 rfl H13.out.r.one ?_)
           | ((with_reducible refine at_dst 78 ?_); refine valN rfl (exec_buildS (⟨s.v6, t.lo, t.hi⟩ : Spn) rfl _) ?_)
           | ((with_reducible refine at_dst 79 ?_); refine appRowsL (w0 := w) w.heap.size rfl (.tmp 76) (.tmp 78) rfl (.slice Ao out.length co) out [(⟨s.v6, t.lo, t.hi⟩ : Spn)] (some ⟨(w12.setCells g8 17 t.hi.cells).heap.size, 0, none⟩) 1 1 rfl rfl (Kd.R_below H13.out.i.1 ((Below.refl _ _).alloc (Nat.le_refl _) _)) (C_one (Has.new (w12.setCells g8 17 t.hi.cells) ((⟨s.v6, t.lo, t.hi⟩ : Spn)).arr _)) (H13.out.i.2.alloc H13.out.i.2.size _) (Nat.le_trans H13.out.i.2.size ((Below.refl (w12.setCells g8 17 t.hi.cells).heap.size (w12.setCells g8 17 t.hi.cells)).alloc (Nat.le_refl _) (.cells ((⟨s.v6, t.lo, t.hi⟩ : Spn)).arr 30)).size) (by omega) ?_; intro v8 w8 hR8 hB8 hg8 hat8; obtain ⟨A8, c8, e8⟩ := Kd.R_slice hR8; subst e8; have HE8 := Lib.hid (And.intro hR8 hB8); clear hR8 hB8 hg8 hat8))
          go_roundw
          case rel => exact ⟨k + 1, by omega, by go_num, Lib.hid (by
           rw [HFT.out, if_pos (by rw [← HRR.out.1, ← HRR.out.2]; simp [HVV.out]), HCU.out]
           have h9 := HE8.out.1
           rw [List.length_append, List.length_singleton] at h9
           exact ⟨h9, HE8.out.2⟩)⟩
          case measure => simp [intOf]; omega
         ·have p1 : decide (q2 < 0) = false := decide_eq_false p'
          have p2 := eq_false p'
          have hcut : cut2 s t = (⟨s.v6, t.lo, s.hi⟩ : Spn) := by
           unfold cut2 loS hiS
           rw [← HQ1.out, ← HQ2.out, if_pos (by omega), if_neg (by omega)]
          have HCU := Lib.hid hcut
          clear hcut
          go_wp2_with (first
           | ((with_reducible refine at_dst 77 ?_); refine loadS (⟨s.v6, t.lo, s.hi⟩ : Spn) g8 0 rfl H12.out.r.one ?_)
           | ((with_reducible refine at_dst 78 ?_); refine valN rfl (exec_buildS (⟨s.v6, t.lo, s.hi⟩ : Spn) rfl _) ?_)
           | ((with_reducible refine at_dst 79 ?_); refine appRowsL (w0 := w) w.heap.size rfl (.tmp 76) (.tmp 78) rfl (.slice Ao out.length co) out [(⟨s.v6, t.lo, s.hi⟩ : Spn)] (some ⟨(w12).heap.size, 0, none⟩) 1 1 rfl rfl (Kd.R_below H12.out.i.1 ((Below.refl _ _).alloc (Nat.le_refl _) _)) (C_one (Has.new (w12) ((⟨s.v6, t.lo, s.hi⟩ : Spn)).arr _)) (H12.out.i.2.alloc H12.out.i.2.size _) (Nat.le_trans H12.out.i.2.size ((Below.refl (w12).heap.size (w12)).alloc (Nat.le_refl _) (.cells ((⟨s.v6, t.lo, s.hi⟩ : Spn)).arr 30)).size) (by omega) ?_; intro v8 w8 hR8 hB8 hg8 hat8; obtain ⟨A8, c8, e8⟩ := Kd.R_slice hR8; subst e8; have HE8 := Lib.hid (And.intro hR8 hB8); clear hR8 hB8 hg8 hat8))
          go_roundw
          case rel => exact ⟨k + 1, by omega, by go_num, Lib.hid (by
           rw [HFT.out, if_pos (by rw [← HRR.out.1, ← HRR.out.2]; simp [HVV.out]), HCU.out]
           have h9 := HE8.out.1
           rw [List.length_append, List.length_singleton] at h9
           exact ⟨h9, HE8.out.2⟩)⟩
          case measure => simp [intOf]; omega
        ·have p1 : decide (0 < q1) = false := decide_eq_false p
         have p2 := eq_false p
         have H11 := H10
         go_wp2
         refine start_ (n := 9) (S := RbS w out (.slice Ao out.length co) g8 s bb (ob + k * 33) t) (ds := []) #[false, false, false, false, false, false, false, false, false] (by kernel_rfl) rfl rfl (H11.out.step (Below.refl _ _).drew) (fun hHeld => ?_)
         refine pure_ (i := 0) (N := some 61) (v := ?_) (a' := ?_) #[true, false, false, false, false, false, false, false, false] rfl rfl (by kernel_rfl) (fun _ _ _ h => h) (Or.inl ⟨by rfl, ?_⟩) ?_ ?_
         rotate_left
         ·intro w'
          go_simp
          with_reducible rfl
         rotate_left
         ·simp only [Act.put, List.setIfInBounds_toArray, List.set_cons_zero, List.set_cons_succ, i64_w, i32_w]
          rfl
         refine pure_ (i := 1) (N := some 62) (v := ?_) (a' := ?_) #[true, true, false, false, false, false, false, false, false] rfl rfl (by kernel_rfl) (fun _ _ _ h => h) (Or.inl ⟨by rfl, ?_⟩) ?_ ?_
         rotate_left
         ·intro w'
          go_simp
          with_reducible rfl
         rotate_left
         ·simp only [Act.put, List.setIfInBounds_toArray, List.set_cons_zero, List.set_cons_succ, i64_w, i32_w]
          rfl
         refine pure_ (i := 2) (N := some 63) (v := ?_) (a' := ?_) #[true, true, true, false, false, false, false, false, false] rfl rfl (by kernel_rfl) (fun _ _ _ h => h) (Or.inl ⟨by rfl, ?_⟩) ?_ ?_
         rotate_left
         ·intro w'
          go_simp
          with_reducible rfl
         rotate_left
         ·simp only [Act.put, List.setIfInBounds_toArray, List.set_cons_zero, List.set_cons_succ, i64_w, i32_w]
          rfl
         refine pure_ (i := 3) (N := some 64) (v := ?_) (a' := ?_) #[true, true, true, true, false, false, false, false, false] rfl rfl (by kernel_rfl) (fun _ _ _ h => h) (Or.inl ⟨by rfl, ?_⟩) ?_ ?_
         rotate_left
         ·intro w'
          go_simp
          with_reducible rfl
         rotate_left
         ·simp only [Act.put, List.setIfInBounds_toArray, List.set_cons_zero, List.set_cons_succ, i64_w, i32_w]
          rfl
         refine take_ (i := 4) (N := some 65) (v := .agg t.hi.arr) (a' := ?_) #[true, true, true, true, true, false, false, false, false] rfl rfl (by kernel_rfl) (fun _ _ _ h => h) ?_ hHeld ?_ ?_
         ·exact yA (by rfl) rfl t.hi bb (ob + k * 33 + 17) rfl (fun W h => rhi_of_s h.t)
         rotate_left
         ·simp only [Act.put, List.setIfInBounds_toArray, List.set_cons_zero, List.set_cons_succ, i64_w, i32_w]
          rfl
         refine pure_ (i := 5) (N := some 66) (v := ?_) (a' := ?_) #[true, true, true, true, true, true, false, false, false] rfl rfl (by kernel_rfl) (fun _ _ _ h => h) (Or.inl ⟨by rfl, ?_⟩) ?_ ?_
         rotate_left
         ·intro w'
          go_simp
          with_reducible rfl
         rotate_left
         ·simp only [Act.put, List.setIfInBounds_toArray, List.set_cons_zero, List.set_cons_succ, i64_w, i32_w]
          rfl
         refine take_ (i := 6) (N := some 67) (v := .agg s.hi.arr) (a' := ?_) #[true, true, true, true, true, true, true, false, false] rfl rfl (by kernel_rfl) (fun _ _ _ h => h) ?_ hHeld ?_ ?_
         ·exact yA (by rfl) rfl s.hi g8 17 rfl (fun W h => by have := rhi_of_s h.r.one; rwa [Nat.zero_add] at this)
         rotate_left
         ·simp only [Act.put, List.setIfInBounds_toArray, List.set_cons_zero, List.set_cons_succ, i64_w, i32_w]
          rfl
         refine one_ (i := 7) (N := some 68) #[true, true, true, true, true, true, true, true, false] rfl rfl (by kernel_rfl) (by decide) (fun K hK => ?_)
         refine goes_ Try.func17 (by kernel_rfl) rfl #[.agg t.hi.arr, .agg s.hi.arr] (by rfl) rfl rfl (by (try simp only [List.map_toArray, List.map_cons, List.map_nil]); first | done | rfl) ?_
         refine (hchi _).mono ?_
         rintro e w12 ⟨rfl, hB⟩
         refine ⟨_, rfl, ?_⟩
         refine hK.out _ _ (RbS.step hHeld hB.below) (fun hHeld => ?_)
         clear hK K
         refine norm_ (a' := ?_) ?_ ?_
         rotate_left
         ·show Act.put _ (some 68) _ = _
          simp only [Act.put, List.setIfInBounds_toArray, List.set_cons_zero, List.set_cons_succ, i64_w, i32_w]
          rfl
         refine pure_ (i := 8) (N := some 69) (v := ?_) (a' := ?_) #[true, true, true, true, true, true, true, true, true] rfl rfl (by kernel_rfl) (fun _ _ _ h => h) (Or.inl ⟨by rfl, ?_⟩) ?_ ?_
         rotate_left
         ·intro w'
          go_simp
          with_reducible rfl
         rotate_left
         ·simp only [Act.put, List.setIfInBounds_toArray, List.set_cons_zero, List.set_cons_succ, i64_w, i32_w]
          rfl
         refine done_ (by kernel_rfl) ?_
         have H12 := Lib.hid hHeld
         clear hHeld hchi H11 H10 p1 p2
         by_cases p' : q2 < 0
         ·have p1 : decide (q2 < 0) = true := decide_eq_true p'
          have p2 := eq_true p'
          have H13 : Hid (RbS w out (.slice Ao out.length co) g8 (⟨s.v6, s.lo, t.hi⟩ : Spn) bb (ob + k * 33) t (w12.setCells g8 17 t.hi.cells)) := Lib.hid (H12.out.hi t.hi)
          have hcut : cut2 s t = (⟨s.v6, s.lo, t.hi⟩ : Spn) := by
           unfold cut2 loS hiS
           rw [← HQ1.out, ← HQ2.out, if_neg (by omega), if_pos (by omega)]
          have HCU := Lib.hid hcut
          clear hcut
          go_wp2_with (first
           | ((with_reducible refine at_dst 74 ?_); refine loadA t.hi bb (ob + k * 33 + 17) rfl (rhi_of_s H12.out.t) ?_)
           | (refine wpList_store_mid rfl 28 (.tmp 75) (.tmp 74) rfl g8 17 t.hi.arr rfl rfl (H12.out.r.there (by rw [t.hi.arr_size]; decide)) (by rw [t.hi.arr_size]; exact infoA) t.hi.arr_one ?_)
           | ((with_reducible refine at_dst 77 ?_); refine loadS (⟨s.v6, s.lo, t.hi⟩ : Spn) g8 0 rfl H13.out.r.one ?_)
           | ((with_reducible refine at_dst 78 ?_); refine valN rfl (exec_buildS (⟨s.v6, s.lo, t.hi⟩ : Spn) rfl _) ?_)
           | ((with_reducible refine at_dst 79 ?_); refine appRowsL (w0 := w) w.heap.size rfl (.tmp 76) (.tmp 78) rfl (.slice Ao out.length co) out [(⟨s.v6, s.lo, t.hi⟩ : Spn)] (some ⟨(w12.setCells g8 17 t.hi.cells).heap.size, 0, none⟩) 1 1 rfl rfl (Kd.R_below H13.out.i.1 ((Below.refl _ _).alloc (Nat.le_refl _) _)) (C_one (Has.new (w12.setCells g8 17 t.hi.cells) ((⟨s.v6, s.lo, t.hi⟩ : Spn)).arr _)) (H13.out.i.2.alloc H13.out.i.2.size _) (Nat.le_trans H13.out.i.2.size ((Below.refl (w12.setCells g8 17 t.hi.cells).heap.size (w12.setCells g8 17 t.hi.cells)).alloc (Nat.le_refl _) (.cells ((⟨s.v6, s.lo, t.hi⟩ : Spn)).arr 30)).size) (by omega) ?_; intro v8 w8 hR8 hB8 hg8 hat8; obtain ⟨A8, c8, e8⟩ := Kd.R_slice hR8; subst e8; have HE8 := Lib.hid (And.intro hR8 hB8); clear hR8 hB8 hg8 hat8))
          go_roundw
          case rel => exact ⟨k + 1, by omega, by go_num, Lib.hid (by
           rw [HFT.out, if_pos (by rw [← HRR.out.1, ← HRR.out.2]; simp [HVV.out]), HCU.out]
           have h9 := HE8.out.1
           rw [List.length_append, List.length_singleton] at h9
           exact ⟨h9, HE8.out.2⟩)⟩
          case measure => simp [intOf]; omega
         ·have p1 : decide (q2 < 0) = false := decide_eq_false p'
          have p2 := eq_false p'
          have hcut : cut2 s t = (⟨s.v6, s.lo, s.hi⟩ : Spn) := by
           unfold cut2 loS hiS
           rw [← HQ1.out, ← HQ2.out, if_neg (by omega), if_neg (by omega)]
          have HCU := Lib.hid hcut
          clear hcut
          go_wp2_with (first
           | ((with_reducible refine at_dst 77 ?_); refine loadS (⟨s.v6, s.lo, s.hi⟩ : Spn) g8 0 rfl H12.out.r.one ?_)
           | ((with_reducible refine at_dst 78 ?_); refine valN rfl (exec_buildS (⟨s.v6, s.lo, s.hi⟩ : Spn) rfl _) ?_)
           | ((with_reducible refine at_dst 79 ?_); refine appRowsL (w0 := w) w.heap.size rfl (.tmp 76) (.tmp 78) rfl (.slice Ao out.length co) out [(⟨s.v6, s.lo, s.hi⟩ : Spn)] (some ⟨(w12).heap.size, 0, none⟩) 1 1 rfl rfl (Kd.R_below H12.out.i.1 ((Below.refl _ _).alloc (Nat.le_refl _) _)) (C_one (Has.new (w12) ((⟨s.v6, s.lo, s.hi⟩ : Spn)).arr _)) (H12.out.i.2.alloc H12.out.i.2.size _) (Nat.le_trans H12.out.i.2.size ((Below.refl (w12).heap.size (w12)).alloc (Nat.le_refl _) (.cells ((⟨s.v6, s.lo, s.hi⟩ : Spn)).arr 30)).size) (by omega) ?_; intro v8 w8 hR8 hB8 hg8 hat8; obtain ⟨A8, c8, e8⟩ := Kd.R_slice hR8; subst e8; have HE8 := Lib.hid (And.intro hR8 hB8); clear hR8 hB8 hg8 hat8))
          go_roundw
          case rel => exact ⟨k + 1, by omega, by go_num, Lib.hid (by
           rw [HFT.out, if_pos (by rw [← HRR.out.1, ← HRR.out.2]; simp [HVV.out]), HCU.out]
           have h9 := HE8.out.1
           rw [List.length_append, List.length_singleton] at h9
           exact ⟨h9, HE8.out.2⟩)⟩
          case measure => simp [intOf]; omega
       ·go_wp2
        refine start_ (n := 21) (S := fun W => W.cell? ⟨g8, 0, none⟩ = some (.bool false) ∧ W.cell? ⟨bb, ob + k * 33, none⟩ = some (.bool true) ∧ RbS w out (.slice Ao out.length co) g8 s bb (ob + k * 33) t W) (ds := []) #[false, false, false, false, false, false, false, false, false, false, false, false, false, false, false, false, false, false, false, false, false] (by kernel_rfl) rfl rfl ⟨c1, c2, H4.out.step (Below.refl _ _).drew⟩ (fun hHeld => ?_)
        refine take_ (i := 0) (N := some 25) (v := .agg s.arr) (a' := ?_) #[true, false, false, false, false, false, false, false, false, false, false, false, false, false, false, false, false, false, false, false, false] rfl rfl (by kernel_rfl) (fun _ _ _ h => h) ?_ hHeld ?_ ?_
        ·exact yS (by rfl) rfl s g8 0 rfl (fun W h => h.2.2.r.one)
        rotate_left
        ·simp only [Act.put, List.setIfInBounds_toArray, List.set_cons_zero, List.set_cons_succ, i64_w, i32_w]
         rfl
        refine one_ (i := 1) (N := some 26) #[true, true, false, false, false, false, false, false, false, false, false, false, false, false, false, false, false, false, false, false, false] rfl rfl (by kernel_rfl) (by decide) (fun K hK => ?_)
        refine goes_ Try.func31 (by kernel_rfl) rfl #[.agg s.arr] (by rfl) rfl rfl (by (try simp only [List.map_toArray, List.map_cons, List.map_nil]); first | done | rfl) ?_
        refine (hrs _).mono ?_
        rintro e w5 ⟨rfl, hB⟩
        refine ⟨_, rfl, ?_⟩
        refine hK.out _ _ ⟨(hB.below.cell (World.block_lt_of_cell? _ _ hHeld.1)).trans hHeld.1, (hB.below.cell (World.block_lt_of_cell? _ _ hHeld.2.1)).trans hHeld.2.1, hHeld.2.2.step hB.below⟩ (fun hHeld => ?_)
        clear hK K
        refine norm_ (a' := ?_) ?_ ?_
        rotate_left
        ·show Act.put _ (some 26) _ = _
         simp only [Act.put, List.setIfInBounds_toArray, List.set_cons_zero, List.set_cons_succ, i64_w, i32_w]
         rfl
        refine pure_ (i := 2) (N := some 27) (v := ?_) (a' := ?_) #[true, true, true, false, false, false, false, false, false, false, false, false, false, false, false, false, false, false, false, false, false] rfl rfl (by kernel_rfl) (fun _ _ _ h => h) (Or.inl ⟨by rfl, ?_⟩) ?_ ?_
        rotate_left
        ·intro w'
         go_simp
         with_reducible rfl
        rotate_left
        ·simp only [Act.put, List.setIfInBounds_toArray, List.set_cons_zero, List.set_cons_succ, i64_w, i32_w]
         rfl
        refine pure_ (i := 3) (N := some 28) (v := ?_) (a' := ?_) #[true, true, true, true, false, false, false, false, false, false, false, false, false, false, false, false, false, false, false, false, false] rfl rfl (by kernel_rfl) (fun _ _ _ h => h) (Or.inl ⟨by rfl, ?_⟩) ?_ ?_
        rotate_left
        ·intro w'
         go_simp
         with_reducible rfl
        rotate_left
        ·simp only [Act.put, List.setIfInBounds_toArray, List.set_cons_zero, List.set_cons_succ, i64_w, i32_w]
         rfl
        refine pure_ (i := 4) (N := some 29) (v := ?_) (a' := ?_) #[true, true, true, true, true, false, false, false, false, false, false, false, false, false, false, false, false, false, false, false, false] rfl rfl (by kernel_rfl) (fun _ _ _ h => h) (Or.inl ⟨by rfl, ?_⟩) ?_ ?_
        rotate_left
        ·intro w'
         go_simp
         with_reducible rfl
        rotate_left
        ·simp only [Act.put, List.setIfInBounds_toArray, List.set_cons_zero, List.set_cons_succ, i64_w, i32_w]
         rfl
        refine pure_ (i := 5) (N := some 30) (v := ?_) (a' := ?_) #[true, true, true, true, true, true, false, false, false, false, false, false, false, false, false, false, false, false, false, false, false] rfl rfl (by kernel_rfl) (fun _ _ _ h => h) (Or.inl ⟨by rfl, ?_⟩) ?_ ?_
        rotate_left
        ·intro w'
         go_simp
         with_reducible rfl
        rotate_left
        ·simp only [Act.put, List.setIfInBounds_toArray, List.set_cons_zero, List.set_cons_succ, i64_w, i32_w]
         rfl
        refine pure_ (i := 6) (N := some 31) (v := ?_) (a' := ?_) #[true, true, true, true, true, true, true, false, false, false, false, false, false, false, false, false, false, false, false, false, false] rfl rfl (by kernel_rfl) (fun _ _ _ h => h) (Or.inl ⟨by rfl, ?_⟩) ?_ ?_
        rotate_left
        ·intro w'
         go_simp
         with_reducible rfl
        rotate_left
        ·simp only [Act.put, List.setIfInBounds_toArray, List.set_cons_zero, List.set_cons_succ, i64_w, i32_w]
         rfl
        refine take_ (i := 7) (N := some 32) (v := .agg t.arr) (a' := ?_) #[true, true, true, true, true, true, true, true, false, false, false, false, false, false, false, false, false, false, false, false, false] rfl rfl (by kernel_rfl) (fun _ _ _ h => h) ?_ hHeld ?_ ?_
        ·exact yS (by rfl) rfl t bb (ob + k * 33) rfl (fun W h => h.2.2.t)
        rotate_left
        ·simp only [Act.put, List.setIfInBounds_toArray, List.set_cons_zero, List.set_cons_succ, i64_w, i32_w]
         rfl
        refine one_ (i := 8) (N := some 33) #[true, true, true, true, true, true, true, true, true, false, false, false, false, false, false, false, false, false, false, false, false] rfl rfl (by kernel_rfl) (by decide) (fun K hK => ?_)
        refine goes_ Try.func31 (by kernel_rfl) rfl #[.agg t.arr] (by rfl) rfl rfl (by (try simp only [List.map_toArray, List.map_cons, List.map_nil]); first | done | rfl) ?_
        refine (hrt _).mono ?_
        rintro e w6 ⟨rfl, hB⟩
        refine ⟨_, rfl, ?_⟩
        refine hK.out _ _ ⟨(hB.below.cell (World.block_lt_of_cell? _ _ hHeld.1)).trans hHeld.1, (hB.below.cell (World.block_lt_of_cell? _ _ hHeld.2.1)).trans hHeld.2.1, hHeld.2.2.step hB.below⟩ (fun hHeld => ?_)
        clear hK K
        refine norm_ (a' := ?_) ?_ ?_
        rotate_left
        ·show Act.put _ (some 33) _ = _
         simp only [Act.put, List.setIfInBounds_toArray, List.set_cons_zero, List.set_cons_succ, i64_w, i32_w]
         rfl
        refine pure_ (i := 9) (N := some 34) (v := ?_) (a' := ?_) #[true, true, true, true, true, true, true, true, true, true, false, false, false, false, false, false, false, false, false, false, false] rfl rfl (by kernel_rfl) (fun _ _ _ h => h) (Or.inl ⟨by rfl, ?_⟩) ?_ ?_
        rotate_left
        ·intro w'
         go_simp
         with_reducible rfl
        rotate_left
        ·simp only [Act.put, List.setIfInBounds_toArray, List.set_cons_zero, List.set_cons_succ, i64_w, i32_w]
         rfl
        refine pure_ (i := 10) (N := some 35) (v := ?_) (a' := ?_) #[true, true, true, true, true, true, true, true, true, true, true, false, false, false, false, false, false, false, false, false, false] rfl rfl (by kernel_rfl) (fun _ _ _ h => h) (Or.inl ⟨by rfl, ?_⟩) ?_ ?_
        rotate_left
        ·intro w'
         go_simp
         with_reducible rfl
        rotate_left
        ·simp only [Act.put, List.setIfInBounds_toArray, List.set_cons_zero, List.set_cons_succ, i64_w, i32_w]
         rfl
        refine pure_ (i := 11) (N := some 36) (v := ?_) (a' := ?_) #[true, true, true, true, true, true, true, true, true, true, true, true, false, false, false, false, false, false, false, false, false] rfl rfl (by kernel_rfl) (fun _ _ _ h => h) (Or.inl ⟨by rfl, ?_⟩) ?_ ?_
        rotate_left
        ·intro w'
         go_simp
         with_reducible rfl
        rotate_left
        ·simp only [Act.put, List.setIfInBounds_toArray, List.set_cons_zero, List.set_cons_succ, i64_w, i32_w]
         rfl
        refine pure_ (i := 12) (N := some 37) (v := ?_) (a' := ?_) #[true, true, true, true, true, true, true, true, true, true, true, true, true, false, false, false, false, false, false, false, false] rfl rfl (by kernel_rfl) (fun _ _ _ h => h) (Or.inl ⟨by rfl, ?_⟩) ?_ ?_
        rotate_left
        ·intro w'
         go_simp
         with_reducible rfl
        rotate_left
        ·simp only [Act.put, List.setIfInBounds_toArray, List.set_cons_zero, List.set_cons_succ, i64_w, i32_w]
         rfl
        refine take_ (i := 13) (N := some 38) (v := ?_) (a' := ?_) #[true, true, true, true, true, true, true, true, true, true, true, true, true, true, false, false, false, false, false, false, false] rfl rfl (by kernel_rfl) (fun _ _ _ h => h) (Or.inl ⟨by rfl, ?_⟩) hHeld ?_ ?_
        rotate_left
        ·rintro w' ⟨s0, s1, s2⟩
         go_simp
         with_reducible rfl
        rotate_left
        ·simp only [Act.put, List.setIfInBounds_toArray, List.set_cons_zero, List.set_cons_succ, i64_w, i32_w]
         rfl
        refine pure_ (i := 14) (N := some 39) (v := ?_) (a' := ?_) #[true, true, true, true, true, true, true, true, true, true, true, true, true, true, true, false, false, false, false, false, false] rfl rfl (by kernel_rfl) (fun _ _ _ h => h) (Or.inl ⟨by rfl, ?_⟩) ?_ ?_
        rotate_left
        ·intro w'
         go_simp
         with_reducible rfl
        rotate_left
        ·simp only [Act.put, List.setIfInBounds_toArray, List.set_cons_zero, List.set_cons_succ, i64_w, i32_w]
         rfl
        refine pure_ (i := 15) (N := some 40) (v := ?_) (a' := ?_) #[true, true, true, true, true, true, true, true, true, true, true, true, true, true, true, true, false, false, false, false, false] rfl rfl (by kernel_rfl) (fun _ _ _ h => h) (Or.inl ⟨by rfl, ?_⟩) ?_ ?_
        rotate_left
        ·intro w'
         go_simp
         with_reducible rfl
        rotate_left
        ·simp only [Act.put, List.setIfInBounds_toArray, List.set_cons_zero, List.set_cons_succ, i64_w, i32_w]
         rfl
        refine pure_ (i := 16) (N := some 41) (v := ?_) (a' := ?_) #[true, true, true, true, true, true, true, true, true, true, true, true, true, true, true, true, true, false, false, false, false] rfl rfl (by kernel_rfl) (fun _ _ _ h => h) (Or.inl ⟨by rfl, ?_⟩) ?_ ?_
        rotate_left
        ·intro w'
         go_simp
         with_reducible rfl
        rotate_left
        ·simp only [Act.put, List.setIfInBounds_toArray, List.set_cons_zero, List.set_cons_succ, i64_w, i32_w]
         rfl
        refine pure_ (i := 17) (N := some 42) (v := ?_) (a' := ?_) #[true, true, true, true, true, true, true, true, true, true, true, true, true, true, true, true, true, true, false, false, false] rfl rfl (by kernel_rfl) (fun _ _ _ h => h) (Or.inl ⟨by rfl, ?_⟩) ?_ ?_
        rotate_left
        ·intro w'
         go_simp
         with_reducible rfl
        rotate_left
        ·simp only [Act.put, List.setIfInBounds_toArray, List.set_cons_zero, List.set_cons_succ, i64_w, i32_w]
         rfl
        refine take_ (i := 18) (N := some 43) (v := ?_) (a' := ?_) #[true, true, true, true, true, true, true, true, true, true, true, true, true, true, true, true, true, true, true, false, false] rfl rfl (by kernel_rfl) (fun _ _ _ h => h) (Or.inl ⟨by rfl, ?_⟩) hHeld ?_ ?_
        rotate_left
        ·rintro w' ⟨s0, s1, s2⟩
         go_simp
         with_reducible rfl
        rotate_left
        ·simp only [Act.put, List.setIfInBounds_toArray, List.set_cons_zero, List.set_cons_succ, i64_w, i32_w]
         rfl
        refine pure_ (i := 19) (N := some 44) (v := ?_) (a' := ?_) #[true, true, true, true, true, true, true, true, true, true, true, true, true, true, true, true, true, true, true, true, false] rfl rfl (by kernel_rfl) (fun _ _ _ h => h) (Or.inl ⟨by rfl, ?_⟩) ?_ ?_
        rotate_left
        ·intro w'
         go_simp
         with_reducible rfl
        rotate_left
        ·simp only [Act.put, List.setIfInBounds_toArray, List.set_cons_zero, List.set_cons_succ, i64_w, i32_w]
         rfl
        refine pure_ (i := 20) (N := some 45) (v := ?_) (a' := ?_) #[true, true, true, true, true, true, true, true, true, true, true, true, true, true, true, true, true, true, true, true, true] rfl rfl (by kernel_rfl) (fun _ _ _ h => h) (Or.inl ⟨by rfl, ?_⟩) ?_ ?_
        rotate_left
        ·intro w'
         go_simp
         with_reducible rfl
        rotate_left
        ·simp only [Act.put, List.setIfInBounds_toArray, List.set_cons_zero, List.set_cons_succ, i64_w, i32_w]
         rfl
        refine done_ (by kernel_rfl) ?_
        have H9 := Lib.hid hHeld.2.2
        clear hHeld H4 hrs hrt c1 c2
        go_wp2
        go_roundw
        case rel => exact ⟨k + 1, by omega, by go_num, Lib.hid (by rw [HFT.out, if_neg (by rw [← HV.out.1, ← HV.out.2]; simp), List.append_nil]; exact H9.out.i)⟩
        case measure => simp [intOf]; omega
       ·go_wp2
        refine start_ (n := 21) (S := fun W => W.cell? ⟨g8, 0, none⟩ = some (.bool true) ∧ W.cell? ⟨bb, ob + k * 33, none⟩ = some (.bool false) ∧ RbS w out (.slice Ao out.length co) g8 s bb (ob + k * 33) t W) (ds := []) #[false, false, false, false, false, false, false, false, false, false, false, false, false, false, false, false, false, false, false, false, false] (by kernel_rfl) rfl rfl ⟨c1, c2, H4.out.step (Below.refl _ _).drew⟩ (fun hHeld => ?_)
        refine take_ (i := 0) (N := some 25) (v := .agg s.arr) (a' := ?_) #[true, false, false, false, false, false, false, false, false, false, false, false, false, false, false, false, false, false, false, false, false] rfl rfl (by kernel_rfl) (fun _ _ _ h => h) ?_ hHeld ?_ ?_
        ·exact yS (by rfl) rfl s g8 0 rfl (fun W h => h.2.2.r.one)
        rotate_left
        ·simp only [Act.put, List.setIfInBounds_toArray, List.set_cons_zero, List.set_cons_succ, i64_w, i32_w]
         rfl
        refine one_ (i := 1) (N := some 26) #[true, true, false, false, false, false, false, false, false, false, false, false, false, false, false, false, false, false, false, false, false] rfl rfl (by kernel_rfl) (by decide) (fun K hK => ?_)
        refine goes_ Try.func31 (by kernel_rfl) rfl #[.agg s.arr] (by rfl) rfl rfl (by (try simp only [List.map_toArray, List.map_cons, List.map_nil]); first | done | rfl) ?_
        refine (hrs _).mono ?_
        rintro e w5 ⟨rfl, hB⟩
        refine ⟨_, rfl, ?_⟩
        refine hK.out _ _ ⟨(hB.below.cell (World.block_lt_of_cell? _ _ hHeld.1)).trans hHeld.1, (hB.below.cell (World.block_lt_of_cell? _ _ hHeld.2.1)).trans hHeld.2.1, hHeld.2.2.step hB.below⟩ (fun hHeld => ?_)
        clear hK K
        refine norm_ (a' := ?_) ?_ ?_
        rotate_left
        ·show Act.put _ (some 26) _ = _
         simp only [Act.put, List.setIfInBounds_toArray, List.set_cons_zero, List.set_cons_succ, i64_w, i32_w]
         rfl
        refine pure_ (i := 2) (N := some 27) (v := ?_) (a' := ?_) #[true, true, true, false, false, false, false, false, false, false, false, false, false, false, false, false, false, false, false, false, false] rfl rfl (by kernel_rfl) (fun _ _ _ h => h) (Or.inl ⟨by rfl, ?_⟩) ?_ ?_
        rotate_left
        ·intro w'
         go_simp
         with_reducible rfl
        rotate_left
        ·simp only [Act.put, List.setIfInBounds_toArray, List.set_cons_zero, List.set_cons_succ, i64_w, i32_w]
         rfl
        refine pure_ (i := 3) (N := some 28) (v := ?_) (a' := ?_) #[true, true, true, true, false, false, false, false, false, false, false, false, false, false, false, false, false, false, false, false, false] rfl rfl (by kernel_rfl) (fun _ _ _ h => h) (Or.inl ⟨by rfl, ?_⟩) ?_ ?_
        rotate_left
        ·intro w'
         go_simp
         with_reducible rfl
        rotate_left
        ·simp only [Act.put, List.setIfInBounds_toArray, List.set_cons_zero, List.set_cons_succ, i64_w, i32_w]
         rfl
        refine pure_ (i := 4) (N := some 29) (v := ?_) (a' := ?_) #[true, true, true, true, true, false, false, false, false, false, false, false, false, false, false, false, false, false, false, false, false] rfl rfl (by kernel_rfl) (fun _ _ _ h => h) (Or.inl ⟨by rfl, ?_⟩) ?_ ?_
        rotate_left
        ·intro w'
         go_simp
         with_reducible rfl
        rotate_left
        ·simp only [Act.put, List.setIfInBounds_toArray, List.set_cons_zero, List.set_cons_succ, i64_w, i32_w]
         rfl
        refine pure_ (i := 5) (N := some 30) (v := ?_) (a' := ?_) #[true, true, true, true, true, true, false, false, false, false, false, false, false, false, false, false, false, false, false, false, false] rfl rfl (by kernel_rfl) (fun _ _ _ h => h) (Or.inl ⟨by rfl, ?_⟩) ?_ ?_
        rotate_left
        ·intro w'
         go_simp
         with_reducible rfl
        rotate_left
        ·simp only [Act.put, List.setIfInBounds_toArray, List.set_cons_zero, List.set_cons_succ, i64_w, i32_w]
         rfl
        refine pure_ (i := 6) (N := some 31) (v := ?_) (a' := ?_) #[true, true, true, true, true, true, true, false, false, false, false, false, false, false, false, false, false, false, false, false, false] rfl rfl (by kernel_rfl) (fun _ _ _ h => h) (Or.inl ⟨by rfl, ?_⟩) ?_ ?_
        rotate_left
        ·intro w'
         go_simp
         with_reducible rfl
        rotate_left
        ·simp only [Act.put, List.setIfInBounds_toArray, List.set_cons_zero, List.set_cons_succ, i64_w, i32_w]
         rfl
        refine take_ (i := 7) (N := some 32) (v := .agg t.arr) (a' := ?_) #[true, true, true, true, true, true, true, true, false, false, false, false, false, false, false, false, false, false, false, false, false] rfl rfl (by kernel_rfl) (fun _ _ _ h => h) ?_ hHeld ?_ ?_
        ·exact yS (by rfl) rfl t bb (ob + k * 33) rfl (fun W h => h.2.2.t)
        rotate_left
        ·simp only [Act.put, List.setIfInBounds_toArray, List.set_cons_zero, List.set_cons_succ, i64_w, i32_w]
         rfl
        refine one_ (i := 8) (N := some 33) #[true, true, true, true, true, true, true, true, true, false, false, false, false, false, false, false, false, false, false, false, false] rfl rfl (by kernel_rfl) (by decide) (fun K hK => ?_)
        refine goes_ Try.func31 (by kernel_rfl) rfl #[.agg t.arr] (by rfl) rfl rfl (by (try simp only [List.map_toArray, List.map_cons, List.map_nil]); first | done | rfl) ?_
        refine (hrt _).mono ?_
        rintro e w6 ⟨rfl, hB⟩
        refine ⟨_, rfl, ?_⟩
        refine hK.out _ _ ⟨(hB.below.cell (World.block_lt_of_cell? _ _ hHeld.1)).trans hHeld.1, (hB.below.cell (World.block_lt_of_cell? _ _ hHeld.2.1)).trans hHeld.2.1, hHeld.2.2.step hB.below⟩ (fun hHeld => ?_)
        clear hK K
        refine norm_ (a' := ?_) ?_ ?_
        rotate_left
        ·show Act.put _ (some 33) _ = _
         simp only [Act.put, List.setIfInBounds_toArray, List.set_cons_zero, List.set_cons_succ, i64_w, i32_w]
         rfl
        refine pure_ (i := 9) (N := some 34) (v := ?_) (a' := ?_) #[true, true, true, true, true, true, true, true, true, true, false, false, false, false, false, false, false, false, false, false, false] rfl rfl (by kernel_rfl) (fun _ _ _ h => h) (Or.inl ⟨by rfl, ?_⟩) ?_ ?_
        rotate_left
        ·intro w'
         go_simp
         with_reducible rfl
        rotate_left
        ·simp only [Act.put, List.setIfInBounds_toArray, List.set_cons_zero, List.set_cons_succ, i64_w, i32_w]
         rfl
        refine pure_ (i := 10) (N := some 35) (v := ?_) (a' := ?_) #[true, true, true, true, true, true, true, true, true, true, true, false, false, false, false, false, false, false, false, false, false] rfl rfl (by kernel_rfl) (fun _ _ _ h => h) (Or.inl ⟨by rfl, ?_⟩) ?_ ?_
        rotate_left
        ·intro w'
         go_simp
         with_reducible rfl
        rotate_left
        ·simp only [Act.put, List.setIfInBounds_toArray, List.set_cons_zero, List.set_cons_succ, i64_w, i32_w]
         rfl
        refine pure_ (i := 11) (N := some 36) (v := ?_) (a' := ?_) #[true, true, true, true, true, true, true, true, true, true, true, true, false, false, false, false, false, false, false, false, false] rfl rfl (by kernel_rfl) (fun _ _ _ h => h) (Or.inl ⟨by rfl, ?_⟩) ?_ ?_
        rotate_left
        ·intro w'
         go_simp
         with_reducible rfl
        rotate_left
        ·simp only [Act.put, List.setIfInBounds_toArray, List.set_cons_zero, List.set_cons_succ, i64_w, i32_w]
         rfl
        refine pure_ (i := 12) (N := some 37) (v := ?_) (a' := ?_) #[true, true, true, true, true, true, true, true, true, true, true, true, true, false, false, false, false, false, false, false, false] rfl rfl (by kernel_rfl) (fun _ _ _ h => h) (Or.inl ⟨by rfl, ?_⟩) ?_ ?_
        rotate_left
        ·intro w'
         go_simp
         with_reducible rfl
        rotate_left
        ·simp only [Act.put, List.setIfInBounds_toArray, List.set_cons_zero, List.set_cons_succ, i64_w, i32_w]
         rfl
        refine take_ (i := 13) (N := some 38) (v := ?_) (a' := ?_) #[true, true, true, true, true, true, true, true, true, true, true, true, true, true, false, false, false, false, false, false, false] rfl rfl (by kernel_rfl) (fun _ _ _ h => h) (Or.inl ⟨by rfl, ?_⟩) hHeld ?_ ?_
        rotate_left
        ·rintro w' ⟨s0, s1, s2⟩
         go_simp
         with_reducible rfl
        rotate_left
        ·simp only [Act.put, List.setIfInBounds_toArray, List.set_cons_zero, List.set_cons_succ, i64_w, i32_w]
         rfl
        refine pure_ (i := 14) (N := some 39) (v := ?_) (a' := ?_) #[true, true, true, true, true, true, true, true, true, true, true, true, true, true, true, false, false, false, false, false, false] rfl rfl (by kernel_rfl) (fun _ _ _ h => h) (Or.inl ⟨by rfl, ?_⟩) ?_ ?_
        rotate_left
        ·intro w'
         go_simp
         with_reducible rfl
        rotate_left
        ·simp only [Act.put, List.setIfInBounds_toArray, List.set_cons_zero, List.set_cons_succ, i64_w, i32_w]
         rfl
        refine pure_ (i := 15) (N := some 40) (v := ?_) (a' := ?_) #[true, true, true, true, true, true, true, true, true, true, true, true, true, true, true, true, false, false, false, false, false] rfl rfl (by kernel_rfl) (fun _ _ _ h => h) (Or.inl ⟨by rfl, ?_⟩) ?_ ?_
        rotate_left
        ·intro w'
         go_simp
         with_reducible rfl
        rotate_left
        ·simp only [Act.put, List.setIfInBounds_toArray, List.set_cons_zero, List.set_cons_succ, i64_w, i32_w]
         rfl
        refine pure_ (i := 16) (N := some 41) (v := ?_) (a' := ?_) #[true, true, true, true, true, true, true, true, true, true, true, true, true, true, true, true, true, false, false, false, false] rfl rfl (by kernel_rfl) (fun _ _ _ h => h) (Or.inl ⟨by rfl, ?_⟩) ?_ ?_
        rotate_left
        ·intro w'
         go_simp
         with_reducible rfl
        rotate_left
        ·simp only [Act.put, List.setIfInBounds_toArray, List.set_cons_zero, List.set_cons_succ, i64_w, i32_w]
         rfl
        refine pure_ (i := 17) (N := some 42) (v := ?_) (a' := ?_) #[true, true, true, true, true, true, true, true, true, true, true, true, true, true, true, true, true, true, false, false, false] rfl rfl (by kernel_rfl) (fun _ _ _ h => h) (Or.inl ⟨by rfl, ?_⟩) ?_ ?_
        rotate_left
        ·intro w'
         go_simp
         with_reducible rfl
        rotate_left
        ·simp only [Act.put, List.setIfInBounds_toArray, List.set_cons_zero, List.set_cons_succ, i64_w, i32_w]
         rfl
        refine take_ (i := 18) (N := some 43) (v := ?_) (a' := ?_) #[true, true, true, true, true, true, true, true, true, true, true, true, true, true, true, true, true, true, true, false, false] rfl rfl (by kernel_rfl) (fun _ _ _ h => h) (Or.inl ⟨by rfl, ?_⟩) hHeld ?_ ?_
        rotate_left
        ·rintro w' ⟨s0, s1, s2⟩
         go_simp
         with_reducible rfl
        rotate_left
        ·simp only [Act.put, List.setIfInBounds_toArray, List.set_cons_zero, List.set_cons_succ, i64_w, i32_w]
         rfl
        refine pure_ (i := 19) (N := some 44) (v := ?_) (a' := ?_) #[true, true, true, true, true, true, true, true, true, true, true, true, true, true, true, true, true, true, true, true, false] rfl rfl (by kernel_rfl) (fun _ _ _ h => h) (Or.inl ⟨by rfl, ?_⟩) ?_ ?_
        rotate_left
        ·intro w'
         go_simp
         with_reducible rfl
        rotate_left
        ·simp only [Act.put, List.setIfInBounds_toArray, List.set_cons_zero, List.set_cons_succ, i64_w, i32_w]
         rfl
        refine pure_ (i := 20) (N := some 45) (v := ?_) (a' := ?_) #[true, true, true, true, true, true, true, true, true, true, true, true, true, true, true, true, true, true, true, true, true] rfl rfl (by kernel_rfl) (fun _ _ _ h => h) (Or.inl ⟨by rfl, ?_⟩) ?_ ?_
        rotate_left
        ·intro w'
         go_simp
         with_reducible rfl
        rotate_left
        ·simp only [Act.put, List.setIfInBounds_toArray, List.set_cons_zero, List.set_cons_succ, i64_w, i32_w]
         rfl
        refine done_ (by kernel_rfl) ?_
        have H9 := Lib.hid hHeld.2.2
        clear hHeld H4 hrs hrt c1 c2
        go_wp2
        go_roundw
        case rel => exact ⟨k + 1, by omega, by go_num, Lib.hid (by rw [HFT.out, if_neg (by rw [← HV.out.1, ← HV.out.2]; simp), List.append_nil]; exact H9.out.i)⟩
        case measure => simp [intOf]; omega
       ·go_wp2
        refine start_ (n := 21) (S := fun W => W.cell? ⟨g8, 0, none⟩ = some (.bool true) ∧ W.cell? ⟨bb, ob + k * 33, none⟩ = some (.bool true) ∧ RbS w out (.slice Ao out.length co) g8 s bb (ob + k * 33) t W) (ds := []) #[false, false, false, false, false, false, false, false, false, false, false, false, false, false, false, false, false, false, false, false, false] (by kernel_rfl) rfl rfl ⟨c1, c2, H4.out.step (Below.refl _ _).drew⟩ (fun hHeld => ?_)
        refine take_ (i := 0) (N := some 25) (v := .agg s.arr) (a' := ?_) #[true, false, false, false, false, false, false, false, false, false, false, false, false, false, false, false, false, false, false, false, false] rfl rfl (by kernel_rfl) (fun _ _ _ h => h) ?_ hHeld ?_ ?_
        ·exact yS (by rfl) rfl s g8 0 rfl (fun W h => h.2.2.r.one)
        rotate_left
        ·simp only [Act.put, List.setIfInBounds_toArray, List.set_cons_zero, List.set_cons_succ, i64_w, i32_w]
         rfl
        refine one_ (i := 1) (N := some 26) #[true, true, false, false, false, false, false, false, false, false, false, false, false, false, false, false, false, false, false, false, false] rfl rfl (by kernel_rfl) (by decide) (fun K hK => ?_)
        refine goes_ Try.func31 (by kernel_rfl) rfl #[.agg s.arr] (by rfl) rfl rfl (by (try simp only [List.map_toArray, List.map_cons, List.map_nil]); first | done | rfl) ?_
        refine (hrs _).mono ?_
        rintro e w5 ⟨rfl, hB⟩
        refine ⟨_, rfl, ?_⟩
        refine hK.out _ _ ⟨(hB.below.cell (World.block_lt_of_cell? _ _ hHeld.1)).trans hHeld.1, (hB.below.cell (World.block_lt_of_cell? _ _ hHeld.2.1)).trans hHeld.2.1, hHeld.2.2.step hB.below⟩ (fun hHeld => ?_)
        clear hK K
        refine norm_ (a' := ?_) ?_ ?_
        rotate_left
        ·show Act.put _ (some 26) _ = _
         simp only [Act.put, List.setIfInBounds_toArray, List.set_cons_zero, List.set_cons_succ, i64_w, i32_w]
         rfl
        refine pure_ (i := 2) (N := some 27) (v := ?_) (a' := ?_) #[true, true, true, false, false, false, false, false, false, false, false, false, false, false, false, false, false, false, false, false, false] rfl rfl (by kernel_rfl) (fun _ _ _ h => h) (Or.inl ⟨by rfl, ?_⟩) ?_ ?_
        rotate_left
        ·intro w'
         go_simp
         with_reducible rfl
        rotate_left
        ·simp only [Act.put, List.setIfInBounds_toArray, List.set_cons_zero, List.set_cons_succ, i64_w, i32_w]
         rfl
        refine pure_ (i := 3) (N := some 28) (v := ?_) (a' := ?_) #[true, true, true, true, false, false, false, false, false, false, false, false, false, false, false, false, false, false, false, false, false] rfl rfl (by kernel_rfl) (fun _ _ _ h => h) (Or.inl ⟨by rfl, ?_⟩) ?_ ?_
        rotate_left
        ·intro w'
         go_simp
         with_reducible rfl
        rotate_left
        ·simp only [Act.put, List.setIfInBounds_toArray, List.set_cons_zero, List.set_cons_succ, i64_w, i32_w]
         rfl
        refine pure_ (i := 4) (N := some 29) (v := ?_) (a' := ?_) #[true, true, true, true, true, false, false, false, false, false, false, false, false, false, false, false, false, false, false, false, false] rfl rfl (by kernel_rfl) (fun _ _ _ h => h) (Or.inl ⟨by rfl, ?_⟩) ?_ ?_
        rotate_left
        ·intro w'
         go_simp
         with_reducible rfl
        rotate_left
        ·simp only [Act.put, List.setIfInBounds_toArray, List.set_cons_zero, List.set_cons_succ, i64_w, i32_w]
         rfl
        refine pure_ (i := 5) (N := some 30) (v := ?_) (a' := ?_) #[true, true, true, true, true, true, false, false, false, false, false, false, false, false, false, false, false, false, false, false, false] rfl rfl (by kernel_rfl) (fun _ _ _ h => h) (Or.inl ⟨by rfl, ?_⟩) ?_ ?_
        rotate_left
        ·intro w'
         go_simp
         with_reducible rfl
        rotate_left
        ·simp only [Act.put, List.setIfInBounds_toArray, List.set_cons_zero, List.set_cons_succ, i64_w, i32_w]
         rfl
        refine pure_ (i := 6) (N := some 31) (v := ?_) (a' := ?_) #[true, true, true, true, true, true, true, false, false, false, false, false, false, false, false, false, false, false, false, false, false] rfl rfl (by kernel_rfl) (fun _ _ _ h => h) (Or.inl ⟨by rfl, ?_⟩) ?_ ?_
        rotate_left
        ·intro w'
         go_simp
         with_reducible rfl
        rotate_left
        ·simp only [Act.put, List.setIfInBounds_toArray, List.set_cons_zero, List.set_cons_succ, i64_w, i32_w]
         rfl
        refine take_ (i := 7) (N := some 32) (v := .agg t.arr) (a' := ?_) #[true, true, true, true, true, true, true, true, false, false, false, false, false, false, false, false, false, false, false, false, false] rfl rfl (by kernel_rfl) (fun _ _ _ h => h) ?_ hHeld ?_ ?_
        ·exact yS (by rfl) rfl t bb (ob + k * 33) rfl (fun W h => h.2.2.t)
        rotate_left
        ·simp only [Act.put, List.setIfInBounds_toArray, List.set_cons_zero, List.set_cons_succ, i64_w, i32_w]
         rfl
        refine one_ (i := 8) (N := some 33) #[true, true, true, true, true, true, true, true, true, false, false, false, false, false, false, false, false, false, false, false, false] rfl rfl (by kernel_rfl) (by decide) (fun K hK => ?_)
        refine goes_ Try.func31 (by kernel_rfl) rfl #[.agg t.arr] (by rfl) rfl rfl (by (try simp only [List.map_toArray, List.map_cons, List.map_nil]); first | done | rfl) ?_
        refine (hrt _).mono ?_
        rintro e w6 ⟨rfl, hB⟩
        refine ⟨_, rfl, ?_⟩
        refine hK.out _ _ ⟨(hB.below.cell (World.block_lt_of_cell? _ _ hHeld.1)).trans hHeld.1, (hB.below.cell (World.block_lt_of_cell? _ _ hHeld.2.1)).trans hHeld.2.1, hHeld.2.2.step hB.below⟩ (fun hHeld => ?_)
        clear hK K
        refine norm_ (a' := ?_) ?_ ?_
        rotate_left
        ·show Act.put _ (some 33) _ = _
         simp only [Act.put, List.setIfInBounds_toArray, List.set_cons_zero, List.set_cons_succ, i64_w, i32_w]
         rfl
        refine pure_ (i := 9) (N := some 34) (v := ?_) (a' := ?_) #[true, true, true, true, true, true, true, true, true, true, false, false, false, false, false, false, false, false, false, false, false] rfl rfl (by kernel_rfl) (fun _ _ _ h => h) (Or.inl ⟨by rfl, ?_⟩) ?_ ?_
        rotate_left
        ·intro w'
         go_simp
         with_reducible rfl
        rotate_left
        ·simp only [Act.put, List.setIfInBounds_toArray, List.set_cons_zero, List.set_cons_succ, i64_w, i32_w]
         rfl
        refine pure_ (i := 10) (N := some 35) (v := ?_) (a' := ?_) #[true, true, true, true, true, true, true, true, true, true, true, false, false, false, false, false, false, false, false, false, false] rfl rfl (by kernel_rfl) (fun _ _ _ h => h) (Or.inl ⟨by rfl, ?_⟩) ?_ ?_
        rotate_left
        ·intro w'
         go_simp
         with_reducible rfl
        rotate_left
        ·simp only [Act.put, List.setIfInBounds_toArray, List.set_cons_zero, List.set_cons_succ, i64_w, i32_w]
         rfl
        refine pure_ (i := 11) (N := some 36) (v := ?_) (a' := ?_) #[true, true, true, true, true, true, true, true, true, true, true, true, false, false, false, false, false, false, false, false, false] rfl rfl (by kernel_rfl) (fun _ _ _ h => h) (Or.inl ⟨by rfl, ?_⟩) ?_ ?_
        rotate_left
        ·intro w'
         go_simp
         with_reducible rfl
        rotate_left
        ·simp only [Act.put, List.setIfInBounds_toArray, List.set_cons_zero, List.set_cons_succ, i64_w, i32_w]
         rfl
        refine pure_ (i := 12) (N := some 37) (v := ?_) (a' := ?_) #[true, true, true, true, true, true, true, true, true, true, true, true, true, false, false, false, false, false, false, false, false] rfl rfl (by kernel_rfl) (fun _ _ _ h => h) (Or.inl ⟨by rfl, ?_⟩) ?_ ?_
        rotate_left
        ·intro w'
         go_simp
         with_reducible rfl
        rotate_left
        ·simp only [Act.put, List.setIfInBounds_toArray, List.set_cons_zero, List.set_cons_succ, i64_w, i32_w]
         rfl
        refine take_ (i := 13) (N := some 38) (v := ?_) (a' := ?_) #[true, true, true, true, true, true, true, true, true, true, true, true, true, true, false, false, false, false, false, false, false] rfl rfl (by kernel_rfl) (fun _ _ _ h => h) (Or.inl ⟨by rfl, ?_⟩) hHeld ?_ ?_
        rotate_left
        ·rintro w' ⟨s0, s1, s2⟩
         go_simp
         with_reducible rfl
        rotate_left
        ·simp only [Act.put, List.setIfInBounds_toArray, List.set_cons_zero, List.set_cons_succ, i64_w, i32_w]
         rfl
        refine pure_ (i := 14) (N := some 39) (v := ?_) (a' := ?_) #[true, true, true, true, true, true, true, true, true, true, true, true, true, true, true, false, false, false, false, false, false] rfl rfl (by kernel_rfl) (fun _ _ _ h => h) (Or.inl ⟨by rfl, ?_⟩) ?_ ?_
        rotate_left
        ·intro w'
         go_simp
         with_reducible rfl
        rotate_left
        ·simp only [Act.put, List.setIfInBounds_toArray, List.set_cons_zero, List.set_cons_succ, i64_w, i32_w]
         rfl
        refine pure_ (i := 15) (N := some 40) (v := ?_) (a' := ?_) #[true, true, true, true, true, true, true, true, true, true, true, true, true, true, true, true, false, false, false, false, false] rfl rfl (by kernel_rfl) (fun _ _ _ h => h) (Or.inl ⟨by rfl, ?_⟩) ?_ ?_
        rotate_left
        ·intro w'
         go_simp
         with_reducible rfl
        rotate_left
        ·simp only [Act.put, List.setIfInBounds_toArray, List.set_cons_zero, List.set_cons_succ, i64_w, i32_w]
         rfl
        refine pure_ (i := 16) (N := some 41) (v := ?_) (a' := ?_) #[true, true, true, true, true, true, true, true, true, true, true, true, true, true, true, true, true, false, false, false, false] rfl rfl (by kernel_rfl) (fun _ _ _ h => h) (Or.inl ⟨by rfl, ?_⟩) ?_ ?_
        rotate_left
        ·intro w'
         go_simp
         with_reducible rfl
        rotate_left
        ·simp only [Act.put, List.setIfInBounds_toArray, List.set_cons_zero, List.set_cons_succ, i64_w, i32_w]
         rfl
        refine pure_ (i := 17) (N := some 42) (v := ?_) (a' := ?_) #[true, true, true, true, true, true, true, true, true, true, true, true, true, true, true, true, true, true, false, false, false] rfl rfl (by kernel_rfl) (fun _ _ _ h => h) (Or.inl ⟨by rfl, ?_⟩) ?_ ?_
        rotate_left
        ·intro w'
         go_simp
         with_reducible rfl
        rotate_left
        ·simp only [Act.put, List.setIfInBounds_toArray, List.set_cons_zero, List.set_cons_succ, i64_w, i32_w]
         rfl
        refine take_ (i := 18) (N := some 43) (v := ?_) (a' := ?_) #[true, true, true, true, true, true, true, true, true, true, true, true, true, true, true, true, true, true, true, false, false] rfl rfl (by kernel_rfl) (fun _ _ _ h => h) (Or.inl ⟨by rfl, ?_⟩) hHeld ?_ ?_
        rotate_left
        ·rintro w' ⟨s0, s1, s2⟩
         go_simp
         with_reducible rfl
        rotate_left
        ·simp only [Act.put, List.setIfInBounds_toArray, List.set_cons_zero, List.set_cons_succ, i64_w, i32_w]
         rfl
        refine pure_ (i := 19) (N := some 44) (v := ?_) (a' := ?_) #[true, true, true, true, true, true, true, true, true, true, true, true, true, true, true, true, true, true, true, true, false] rfl rfl (by kernel_rfl) (fun _ _ _ h => h) (Or.inl ⟨by rfl, ?_⟩) ?_ ?_
        rotate_left
        ·intro w'
         go_simp
         with_reducible rfl
        rotate_left
        ·simp only [Act.put, List.setIfInBounds_toArray, List.set_cons_zero, List.set_cons_succ, i64_w, i32_w]
         rfl
        refine pure_ (i := 20) (N := some 45) (v := ?_) (a' := ?_) #[true, true, true, true, true, true, true, true, true, true, true, true, true, true, true, true, true, true, true, true, true] rfl rfl (by kernel_rfl) (fun _ _ _ h => h) (Or.inl ⟨by rfl, ?_⟩) ?_ ?_
        rotate_left
        ·intro w'
         go_simp
         with_reducible rfl
        rotate_left
        ·simp only [Act.put, List.setIfInBounds_toArray, List.set_cons_zero, List.set_cons_succ, i64_w, i32_w]
         rfl
        refine done_ (by kernel_rfl) ?_
        have H6 := Lib.hid hHeld.2.2
        clear hHeld H4 hrs hrt c1 c2
        have HVV : Hid (s.v6 = t.v6) := Lib.hid (by rw [← HV.out.1, ← HV.out.2])
        obtain ⟨q1, hq1⟩ : ∃ q, q = lexC t.lo.l s.lo.l := ⟨_, rfl⟩
        obtain ⟨q2, hq2⟩ : ∃ q, q = lexC t.hi.l s.hi.l := ⟨_, rfl⟩
        have hclo : ∀ W, Calls Try.prog 17 #[.agg t.lo.arr, .agg s.lo.arr] W fun e w' => e = .returned (.int .i64 q1) ∧ Gw W w' := fun W => by rw [hq1]; exact cmpAddr_walk _ _ W
        have hchi : ∀ W, Calls Try.prog 17 #[.agg t.hi.arr, .agg s.hi.arr] W fun e w' => e = .returned (.int .i64 q2) ∧ Gw W w' := fun W => by rw [hq2]; exact cmpAddr_walk _ _ W
        have HQ1 := Lib.hid hq1
        have HQ2 := Lib.hid hq2
        clear hq1 hq2
        go_wp2
        refine start_ (n := 9) (S := RbS w out (.slice Ao out.length co) g8 s bb (ob + k * 33) t) (ds := []) #[false, false, false, false, false, false, false, false, false] (by kernel_rfl) rfl rfl (H6.out.step (Below.refl _ _).drew) (fun hHeld => ?_)
        refine pure_ (i := 0) (N := some 46) (v := ?_) (a' := ?_) #[true, false, false, false, false, false, false, false, false] rfl rfl (by kernel_rfl) (fun _ _ _ h => h) (Or.inl ⟨by rfl, ?_⟩) ?_ ?_
        rotate_left
        ·intro w'
         go_simp
         with_reducible rfl
        rotate_left
        ·simp only [Act.put, List.setIfInBounds_toArray, List.set_cons_zero, List.set_cons_succ, i64_w, i32_w]
         rfl
        refine pure_ (i := 1) (N := some 47) (v := ?_) (a' := ?_) #[true, true, false, false, false, false, false, false, false] rfl rfl (by kernel_rfl) (fun _ _ _ h => h) (Or.inl ⟨by rfl, ?_⟩) ?_ ?_
        rotate_left
        ·intro w'
         go_simp
         with_reducible rfl
        rotate_left
        ·simp only [Act.put, List.setIfInBounds_toArray, List.set_cons_zero, List.set_cons_succ, i64_w, i32_w]
         rfl
        refine pure_ (i := 2) (N := some 48) (v := ?_) (a' := ?_) #[true, true, true, false, false, false, false, false, false] rfl rfl (by kernel_rfl) (fun _ _ _ h => h) (Or.inl ⟨by rfl, ?_⟩) ?_ ?_
        rotate_left
        ·intro w'
         go_simp
         with_reducible rfl
        rotate_left
        ·simp only [Act.put, List.setIfInBounds_toArray, List.set_cons_zero, List.set_cons_succ, i64_w, i32_w]
         rfl
        refine pure_ (i := 3) (N := some 49) (v := ?_) (a' := ?_) #[true, true, true, true, false, false, false, false, false] rfl rfl (by kernel_rfl) (fun _ _ _ h => h) (Or.inl ⟨by rfl, ?_⟩) ?_ ?_
        rotate_left
        ·intro w'
         go_simp
         with_reducible rfl
        rotate_left
        ·simp only [Act.put, List.setIfInBounds_toArray, List.set_cons_zero, List.set_cons_succ, i64_w, i32_w]
         rfl
        refine take_ (i := 4) (N := some 50) (v := .agg t.lo.arr) (a' := ?_) #[true, true, true, true, true, false, false, false, false] rfl rfl (by kernel_rfl) (fun _ _ _ h => h) ?_ hHeld ?_ ?_
        ·exact yA (by rfl) rfl t.lo bb (ob + k * 33 + 1) rfl (fun W h => rlo_of_s h.t)
        rotate_left
        ·simp only [Act.put, List.setIfInBounds_toArray, List.set_cons_zero, List.set_cons_succ, i64_w, i32_w]
         rfl
        refine pure_ (i := 5) (N := some 51) (v := ?_) (a' := ?_) #[true, true, true, true, true, true, false, false, false] rfl rfl (by kernel_rfl) (fun _ _ _ h => h) (Or.inl ⟨by rfl, ?_⟩) ?_ ?_
        rotate_left
        ·intro w'
         go_simp
         with_reducible rfl
        rotate_left
        ·simp only [Act.put, List.setIfInBounds_toArray, List.set_cons_zero, List.set_cons_succ, i64_w, i32_w]
         rfl
        refine take_ (i := 6) (N := some 52) (v := .agg s.lo.arr) (a' := ?_) #[true, true, true, true, true, true, true, false, false] rfl rfl (by kernel_rfl) (fun _ _ _ h => h) ?_ hHeld ?_ ?_
        ·exact yA (by rfl) rfl s.lo g8 1 rfl (fun W h => by have := rlo_of_s h.r.one; rwa [Nat.zero_add] at this)
        rotate_left
        ·simp only [Act.put, List.setIfInBounds_toArray, List.set_cons_zero, List.set_cons_succ, i64_w, i32_w]
         rfl
        refine one_ (i := 7) (N := some 53) #[true, true, true, true, true, true, true, true, false] rfl rfl (by kernel_rfl) (by decide) (fun K hK => ?_)
        refine goes_ Try.func17 (by kernel_rfl) rfl #[.agg t.lo.arr, .agg s.lo.arr] (by rfl) rfl rfl (by (try simp only [List.map_toArray, List.map_cons, List.map_nil]); first | done | rfl) ?_
        refine (hclo _).mono ?_
        rintro e w10 ⟨rfl, hB⟩
        refine ⟨_, rfl, ?_⟩
        refine hK.out _ _ (RbS.step hHeld hB.below) (fun hHeld => ?_)
        clear hK K
        refine norm_ (a' := ?_) ?_ ?_
        rotate_left
        ·show Act.put _ (some 53) _ = _
         simp only [Act.put, List.setIfInBounds_toArray, List.set_cons_zero, List.set_cons_succ, i64_w, i32_w]
         rfl
        refine pure_ (i := 8) (N := some 54) (v := ?_) (a' := ?_) #[true, true, true, true, true, true, true, true, true] rfl rfl (by kernel_rfl) (fun _ _ _ h => h) (Or.inl ⟨by rfl, ?_⟩) ?_ ?_
        rotate_left
        ·intro w'
         go_simp
         with_reducible rfl
        rotate_left
        ·simp only [Act.put, List.setIfInBounds_toArray, List.set_cons_zero, List.set_cons_succ, i64_w, i32_w]
         rfl
        refine done_ (by kernel_rfl) ?_
        have H10 := Lib.hid hHeld
        clear hHeld hclo H6
        by_cases p : 0 < q1
        ·have p1 : decide (0 < q1) = true := decide_eq_true p
         have p2 := eq_true p
         have H11 : Hid (RbS w out (.slice Ao out.length co) g8 (⟨s.v6, t.lo, s.hi⟩ : Spn) bb (ob + k * 33) t (w10.setCells g8 1 t.lo.arr.toList)) := Lib.hid (H10.out.lo t.lo)
         go_wp2_with (first
          | ((with_reducible refine at_dst 59 ?_); refine loadA t.lo bb (ob + k * 33 + 1) rfl (rlo_of_s H10.out.t) ?_)
          | (refine wpList_store_mid rfl 28 (.tmp 60) (.tmp 59) rfl g8 1 t.lo.arr rfl rfl (H10.out.r.there (by rw [t.lo.arr_size]; decide)) (by rw [t.lo.arr_size]; exact infoA) t.lo.arr_one ?_))
         generalize w10.setCells g8 1 t.lo.arr.toList = w11 at H11 ⊢
         refine start_ (n := 9) (S := RbS w out (.slice Ao out.length co) g8 (⟨s.v6, t.lo, s.hi⟩ : Spn) bb (ob + k * 33) t) (ds := []) #[false, false, false, false, false, false, false, false, false] (by kernel_rfl) rfl rfl (H11.out.step (Below.refl _ _).drew) (fun hHeld => ?_)
         refine pure_ (i := 0) (N := some 61) (v := ?_) (a' := ?_) #[true, false, false, false, false, false, false, false, false] rfl rfl (by kernel_rfl) (fun _ _ _ h => h) (Or.inl ⟨by rfl, ?_⟩) ?_ ?_
         rotate_left
         ·intro w'
          go_simp
          with_reducible rfl
         rotate_left
         ·simp only [Act.put, List.setIfInBounds_toArray, List.set_cons_zero, List.set_cons_succ, i64_w, i32_w]
          rfl
         refine pure_ (i := 1) (N := some 62) (v := ?_) (a' := ?_) #[true, true, false, false, false, false, false, false, false] rfl rfl (by kernel_rfl) (fun _ _ _ h => h) (Or.inl ⟨by rfl, ?_⟩) ?_ ?_
         rotate_left
         ·intro w'
          go_simp
          with_reducible rfl
         rotate_left
         ·simp only [Act.put, List.setIfInBounds_toArray, List.set_cons_zero, List.set_cons_succ, i64_w, i32_w]
          rfl
         refine pure_ (i := 2) (N := some 63) (v := ?_) (a' := ?_) #[true, true, true, false, false, false, false, false, false] rfl rfl (by kernel_rfl) (fun _ _ _ h => h) (Or.inl ⟨by rfl, ?_⟩) ?_ ?_
         rotate_left
         ·intro w'
          go_simp
          with_reducible rfl
         rotate_left
         ·simp only [Act.put, List.setIfInBounds_toArray, List.set_cons_zero, List.set_cons_succ, i64_w, i32_w]
          rfl
         refine pure_ (i := 3) (N := some 64) (v := ?_) (a' := ?_) #[true, true, true, true, false, false, false, false, false] rfl rfl (by kernel_rfl) (fun _ _ _ h => h) (Or.inl ⟨by rfl, ?_⟩) ?_ ?_
         rotate_left
         ·intro w'
          go_simp
          with_reducible rfl
         rotate_left
         ·simp only [Act.put, List.setIfInBounds_toArray, List.set_cons_zero, List.set_cons_succ, i64_w, i32_w]
          rfl
         refine take_ (i := 4) (N := some 65) (v := .agg t.hi.arr) (a' := ?_) #[true, true, true, true, true, false, false, false, false] rfl rfl (by kernel_rfl) (fun _ _ _ h => h) ?_ hHeld ?_ ?_
         ·exact yA (by rfl) rfl t.hi bb (ob + k * 33 + 17) rfl (fun W h => rhi_of_s h.t)
         rotate_left
         ·simp only [Act.put, List.setIfInBounds_toArray, List.set_cons_zero, List.set_cons_succ, i64_w, i32_w]
          rfl
         refine pure_ (i := 5) (N := some 66) (v := ?_) (a' := ?_) #[true, true, true, true, true, true, false, false, false] rfl rfl (by kernel_rfl) (fun _ _ _ h => h) (Or.inl ⟨by rfl, ?_⟩) ?_ ?_
         rotate_left
         ·intro w'
          go_simp
          with_reducible rfl
         rotate_left
         ·simp only [Act.put, List.setIfInBounds_toArray, List.set_cons_zero, List.set_cons_succ, i64_w, i32_w]
          rfl
         refine take_ (i := 6) (N := some 67) (v := .agg s.hi.arr) (a' := ?_) #[true, true, true, true, true, true, true, false, false] rfl rfl (by kernel_rfl) (fun _ _ _ h => h) ?_ hHeld ?_ ?_
         ·exact yA (by rfl) rfl s.hi g8 17 rfl (fun W h => by have := rhi_of_s h.r.one; rwa [Nat.zero_add] at this)
         rotate_left
         ·simp only [Act.put, List.setIfInBounds_toArray, List.set_cons_zero, List.set_cons_succ, i64_w, i32_w]
          rfl
         refine one_ (i := 7) (N := some 68) #[true, true, true, true, true, true, true, true, false] rfl rfl (by kernel_rfl) (by decide) (fun K hK => ?_)
         refine goes_ Try.func17 (by kernel_rfl) rfl #[.agg t.hi.arr, .agg s.hi.arr] (by rfl) rfl rfl (by (try simp only [List.map_toArray, List.map_cons, List.map_nil]); first | done | rfl) ?_
         refine (hchi _).mono ?_
         rintro e w12 ⟨rfl, hB⟩
         refine ⟨_, rfl, ?_⟩
         refine hK.out _ _ (RbS.step hHeld hB.below) (fun hHeld => ?_)
         clear hK K
         refine norm_ (a' := ?_) ?_ ?_
         rotate_left
         ·show Act.put _ (some 68) _ = _
          simp only [Act.put, List.setIfInBounds_toArray, List.set_cons_zero, List.set_cons_succ, i64_w, i32_w]
          rfl
         refine pure_ (i := 8) (N := some 69) (v := ?_) (a' := ?_) #[true, true, true, true, true, true, true, true, true] rfl rfl (by kernel_rfl) (fun _ _ _ h => h) (Or.inl ⟨by rfl, ?_⟩) ?_ ?_
         rotate_left
         ·intro w'
          go_simp
          with_reducible rfl
         rotate_left
         ·simp only [Act.put, List.setIfInBounds_toArray, List.set_cons_zero, List.set_cons_succ, i64_w, i32_w]
          rfl
         refine done_ (by kernel_rfl) ?_
         have H12 := Lib.hid hHeld
         clear hHeld hchi H11 H10 p1 p2
         by_cases p' : q2 < 0
         ·have p1 : decide (q2 < 0) = true := decide_eq_true p'
          have p2 := eq_true p'
          have H13 : Hid (RbS w out (.slice Ao out.length co) g8 (⟨s.v6, t.lo, t.hi⟩ : Spn) bb (ob + k * 33) t (w12.setCells g8 17 t.hi.cells)) := Lib.hid (H12.out.hi t.hi)
          have hcut : cut2 s t = (⟨s.v6, t.lo, t.hi⟩ : Spn) := by
           unfold cut2 loS hiS
           rw [← HQ1.out, ← HQ2.out, if_pos (by omega), if_pos (by omega)]
          have HCU := Lib.hid hcut
          clear hcut
          go_wp2_with (first
           | ((with_reducible refine at_dst 74 ?_); refine loadA t.hi bb (ob + k * 33 + 17) rfl (rhi_of_s H12.out.t) ?_)
           | (refine wpList_store_mid rfl 28 (.tmp 75) (.tmp 74) rfl g8 17 t.hi.arr rfl rfl (H12.out.r.there (by rw [t.hi.arr_size]; decide)) (by rw [t.hi.arr_size]; exact infoA) t.hi.arr_one ?_)
           | ((with_reducible refine at_dst 77 ?_); refine loadS (⟨s.v6, t.lo, t.hi⟩ : Spn) g8 0 rfl H13.out.r.one ?_)
           | ((with_reducible refine at_dst 78 ?_); refine valN rfl (exec_buildS (⟨s.v6, t.lo, t.hi⟩ : Spn) rfl _) ?_)
           | ((with_reducible refine at_dst 79 ?_); refine appRowsL (w0 := w) w.heap.size rfl (.tmp 76) (.tmp 78) rfl (.slice Ao out.length co) out [(⟨s.v6, t.lo, t.hi⟩ : Spn)] (some ⟨(w12.setCells g8 17 t.hi.cells).heap.size, 0, none⟩) 1 1 rfl rfl (Kd.R_below H13.out.i.1 ((Below.refl _ _).alloc (Nat.le_refl _) _)) (C_one (Has.new (w12.setCells g8 17 t.hi.cells) ((⟨s.v6, t.lo, t.hi⟩ : Spn)).arr _)) (H13.out.i.2.alloc H13.out.i.2.size _) (Nat.le_trans H13.out.i.2.size ((Below.refl (w12.setCells g8 17 t.hi.cells).heap.size (w12.setCells g8 17 t.hi.cells)).alloc (Nat.le_refl _) (.cells ((⟨s.v6, t.lo, t.hi⟩ : Spn)).arr 30)).size) (by omega) ?_; intro v8 w8 hR8 hB8 hg8 hat8; obtain ⟨A8, c8, e8⟩ := Kd.R_slice hR8; subst e8; have HE8 := Lib.hid (And.intro hR8 hB8); clear hR8 hB8 hg8 hat8))
          go_roundw
          case rel => exact ⟨k + 1, by omega, by go_num, Lib.hid (by
           rw [HFT.out, if_pos (by rw [← HRR.out.1, ← HRR.out.2]; simp [HVV.out]), HCU.out]
           have h9 := HE8.out.1
           rw [List.length_append, List.length_singleton] at h9
           exact ⟨h9, HE8.out.2⟩)⟩
          case measure => simp [intOf]; omega
         ·have p1 : decide (q2 < 0) = false := decide_eq_false p'
          have p2 := eq_false p'
          have hcut : cut2 s t = (⟨s.v6, t.lo, s.hi⟩ : Spn) := by
           unfold cut2 loS hiS
           rw [← HQ1.out, ← HQ2.out, if_pos (by omega), if_neg (by omega)]
          have HCU := Lib.hid hcut
          clear hcut
          go_wp2_with (first
           | ((with_reducible refine at_dst 77 ?_); refine loadS (⟨s.v6, t.lo, s.hi⟩ : Spn) g8 0 rfl H12.out.r.one ?_)
           | ((with_reducible refine at_dst 78 ?_); refine valN rfl (exec_buildS (⟨s.v6, t.lo, s.hi⟩ : Spn) rfl _) ?_)
           | ((with_reducible refine at_dst 79 ?_); refine appRowsL (w0 := w) w.heap.size rfl (.tmp 76) (.tmp 78) rfl (.slice Ao out.length co) out [(⟨s.v6, t.lo, s.hi⟩ : Spn)] (some ⟨(w12).heap.size, 0, none⟩) 1 1 rfl rfl (Kd.R_below H12.out.i.1 ((Below.refl _ _).alloc (Nat.le_refl _) _)) (C_one (Has.new (w12) ((⟨s.v6, t.lo, s.hi⟩ : Spn)).arr _)) (H12.out.i.2.alloc H12.out.i.2.size _) (Nat.le_trans H12.out.i.2.size ((Below.refl (w12).heap.size (w12)).alloc (Nat.le_refl _) (.cells ((⟨s.v6, t.lo, s.hi⟩ : Spn)).arr 30)).size) (by omega) ?_; intro v8 w8 hR8 hB8 hg8 hat8; obtain ⟨A8, c8, e8⟩ := Kd.R_slice hR8; subst e8; have HE8 := Lib.hid (And.intro hR8 hB8); clear hR8 hB8 hg8 hat8))
          go_roundw
          case rel => exact ⟨k + 1, by omega, by go_num, Lib.hid (by
           rw [HFT.out, if_pos (by rw [← HRR.out.1, ← HRR.out.2]; simp [HVV.out]), HCU.out]
           have h9 := HE8.out.1
           rw [List.length_append, List.length_singleton] at h9
           exact ⟨h9, HE8.out.2⟩)⟩
          case measure => simp [intOf]; omega
        ·have p1 : decide (0 < q1) = false := decide_eq_false p
         have p2 := eq_false p
         have H11 := H10
         go_wp2
         refine start_ (n := 9) (S := RbS w out (.slice Ao out.length co) g8 s bb (ob + k * 33) t) (ds := []) #[false, false, false, false, false, false, false, false, false] (by kernel_rfl) rfl rfl (H11.out.step (Below.refl _ _).drew) (fun hHeld => ?_)
         refine pure_ (i := 0) (N := some 61) (v := ?_) (a' := ?_) #[true, false, false, false, false, false, false, false, false] rfl rfl (by kernel_rfl) (fun _ _ _ h => h) (Or.inl ⟨by rfl, ?_⟩) ?_ ?_
         rotate_left
         ·intro w'
          go_simp
          with_reducible rfl
         rotate_left
         ·simp only [Act.put, List.setIfInBounds_toArray, List.set_cons_zero, List.set_cons_succ, i64_w, i32_w]
          rfl
         refine pure_ (i := 1) (N := some 62) (v := ?_) (a' := ?_) #[true, true, false, false, false, false, false, false, false] rfl rfl (by kernel_rfl) (fun _ _ _ h => h) (Or.inl ⟨by rfl, ?_⟩) ?_ ?_
         rotate_left
         ·intro w'
          go_simp
          with_reducible rfl
         rotate_left
         ·simp only [Act.put, List.setIfInBounds_toArray, List.set_cons_zero, List.set_cons_succ, i64_w, i32_w]
          rfl
         refine pure_ (i := 2) (N := some 63) (v := ?_) (a' := ?_) #[true, true, true, false, false, false, false, false, false] rfl rfl (by kernel_rfl) (fun _ _ _ h => h) (Or.inl ⟨by rfl, ?_⟩) ?_ ?_
         rotate_left
         ·intro w'
          go_simp
          with_reducible rfl
         rotate_left
         ·simp only [Act.put, List.setIfInBounds_toArray, List.set_cons_zero, List.set_cons_succ, i64_w, i32_w]
          rfl
         refine pure_ (i := 3) (N := some 64) (v := ?_) (a' := ?_) #[true, true, true, true, false, false, false, false, false] rfl rfl (by kernel_rfl) (fun _ _ _ h => h) (Or.inl ⟨by rfl, ?_⟩) ?_ ?_
         rotate_left
         ·intro w'
          go_simp
          with_reducible rfl
         rotate_left
         ·simp only [Act.put, List.setIfInBounds_toArray, List.set_cons_zero, List.set_cons_succ, i64_w, i32_w]
          rfl
         refine take_ (i := 4) (N := some 65) (v := .agg t.hi.arr) (a' := ?_) #[true, true, true, true, true, false, false, false, false] rfl rfl (by kernel_rfl) (fun _ _ _ h => h) ?_ hHeld ?_ ?_
         ·exact yA (by rfl) rfl t.hi bb (ob + k * 33 + 17) rfl (fun W h => rhi_of_s h.t)
         rotate_left
         ·simp only [Act.put, List.setIfInBounds_toArray, List.set_cons_zero, List.set_cons_succ, i64_w, i32_w]
          rfl
         refine pure_ (i := 5) (N := some 66) (v := ?_) (a' := ?_) #[true, true, true, true, true, true, false, false, false] rfl rfl (by kernel_rfl) (fun _ _ _ h => h) (Or.inl ⟨by rfl, ?_⟩) ?_ ?_
         rotate_left
         ·intro w'
          go_simp
          with_reducible rfl
         rotate_left
         ·simp only [Act.put, List.setIfInBounds_toArray, List.set_cons_zero, List.set_cons_succ, i64_w, i32_w]
          rfl
         refine take_ (i := 6) (N := some 67) (v := .agg s.hi.arr) (a' := ?_) #[true, true, true, true, true, true, true, false, false] rfl rfl (by kernel_rfl) (fun _ _ _ h => h) ?_ hHeld ?_ ?_
         ·exact yA (by rfl) rfl s.hi g8 17 rfl (fun W h => by have := rhi_of_s h.r.one; rwa [Nat.zero_add] at this)
         rotate_left
         ·simp only [Act.put, List.setIfInBounds_toArray, List.set_cons_zero, List.set_cons_succ, i64_w, i32_w]
          rfl
         refine one_ (i := 7) (N := some 68) #[true, true, true, true, true, true, true, true, false] rfl rfl (by kernel_rfl) (by decide) (fun K hK => ?_)
         refine goes_ Try.func17 (by kernel_rfl) rfl #[.agg t.hi.arr, .agg s.hi.arr] (by rfl) rfl rfl (by (try simp only [List.map_toArray, List.map_cons, List.map_nil]); first | done | rfl) ?_
         refine (hchi _).mono ?_
         rintro e w12 ⟨rfl, hB⟩
         refine ⟨_, rfl, ?_⟩
         refine hK.out _ _ (RbS.step hHeld hB.below) (fun hHeld => ?_)
         clear hK K
         refine norm_ (a' := ?_) ?_ ?_
         rotate_left
         ·show Act.put _ (some 68) _ = _
          simp only [Act.put, List.setIfInBounds_toArray, List.set_cons_zero, List.set_cons_succ, i64_w, i32_w]
          rfl
         refine pure_ (i := 8) (N := some 69) (v := ?_) (a' := ?_) #[true, true, true, true, true, true, true, true, true] rfl rfl (by kernel_rfl) (fun _ _ _ h => h) (Or.inl ⟨by rfl, ?_⟩) ?_ ?_
         rotate_left
         ·intro w'
          go_simp
          with_reducible rfl
         rotate_left
         ·simp only [Act.put, List.setIfInBounds_toArray, List.set_cons_zero, List.set_cons_succ, i64_w, i32_w]
          rfl
         refine done_ (by kernel_rfl) ?_
         have H12 := Lib.hid hHeld
         clear hHeld hchi H11 H10 p1 p2
         by_cases p' : q2 < 0
         ·have p1 : decide (q2 < 0) = true := decide_eq_true p'
          have p2 := eq_true p'
          have H13 : Hid (RbS w out (.slice Ao out.length co) g8 (⟨s.v6, s.lo, t.hi⟩ : Spn) bb (ob + k * 33) t (w12.setCells g8 17 t.hi.cells)) := Lib.hid (H12.out.hi t.hi)
          have hcut : cut2 s t = (⟨s.v6, s.lo, t.hi⟩ : Spn) := by
           unfold cut2 loS hiS
           rw [← HQ1.out, ← HQ2.out, if_neg (by omega), if_pos (by omega)]
          have HCU := Lib.hid hcut
          clear hcut
          go_wp2_with (first
           | ((with_reducible refine at_dst 74 ?_); refine loadA t.hi bb (ob + k * 33 + 17) rfl (rhi_of_s H12.out.t) ?_)
           | (refine wpList_store_mid rfl 28 (.tmp 75) (.tmp 74) rfl g8 17 t.hi.arr rfl rfl (H12.out.r.there (by rw [t.hi.arr_size]; decide)) (by rw [t.hi.arr_size]; exact infoA) t.hi.arr_one ?_)
           | ((with_reducible refine at_dst 77 ?_); refine loadS (⟨s.v6, s.lo, t.hi⟩ : Spn) g8 0 rfl H13.out.r.one ?_)
           | ((with_reducible refine at_dst 78 ?_); refine valN rfl (exec_buildS (⟨s.v6, s.lo, t.hi⟩ : Spn) rfl _) ?_)
           | ((with_reducible refine at_dst 79 ?_); refine appRowsL (w0 := w) w.heap.size rfl (.tmp 76) (.tmp 78) rfl (.slice Ao out.length co) out [(⟨s.v6, s.lo, t.hi⟩ : Spn)] (some ⟨(w12.setCells g8 17 t.hi.cells).heap.size, 0, none⟩) 1 1 rfl rfl (Kd.R_below H13.out.i.1 ((Below.refl _ _).alloc (Nat.le_refl _) _)) (C_one (Has.new (w12.setCells g8 17 t.hi.cells) ((⟨s.v6, s.lo, t.hi⟩ : Spn)).arr _)) (H13.out.i.2.alloc H13.out.i.2.size _) (Nat.le_trans H13.out.i.2.size ((Below.refl (w12.setCells g8 17 t.hi.cells).heap.size (w12.setCells g8 17 t.hi.cells)).alloc (Nat.le_refl _) (.cells ((⟨s.v6, s.lo, t.hi⟩ : Spn)).arr 30)).size) (by omega) ?_; intro v8 w8 hR8 hB8 hg8 hat8; obtain ⟨A8, c8, e8⟩ := Kd.R_slice hR8; subst e8; have HE8 := Lib.hid (And.intro hR8 hB8); clear hR8 hB8 hg8 hat8))
          go_roundw
          case rel => exact ⟨k + 1, by omega, by go_num, Lib.hid (by
           rw [HFT.out, if_pos (by rw [← HRR.out.1, ← HRR.out.2]; simp [HVV.out]), HCU.out]
           have h9 := HE8.out.1
           rw [List.length_append, List.length_singleton] at h9
           exact ⟨h9, HE8.out.2⟩)⟩
          case measure => simp [intOf]; omega
         ·have p1 : decide (q2 < 0) = false := decide_eq_false p'
          have p2 := eq_false p'
          have hcut : cut2 s t = (⟨s.v6, s.lo, s.hi⟩ : Spn) := by
           unfold cut2 loS hiS
           rw [← HQ1.out, ← HQ2.out, if_neg (by omega), if_neg (by omega)]
          have HCU := Lib.hid hcut
          clear hcut
          go_wp2_with (first
           | ((with_reducible refine at_dst 77 ?_); refine loadS (⟨s.v6, s.lo, s.hi⟩ : Spn) g8 0 rfl H12.out.r.one ?_)
           | ((with_reducible refine at_dst 78 ?_); refine valN rfl (exec_buildS (⟨s.v6, s.lo, s.hi⟩ : Spn) rfl _) ?_)
           | ((with_reducible refine at_dst 79 ?_); refine appRowsL (w0 := w) w.heap.size rfl (.tmp 76) (.tmp 78) rfl (.slice Ao out.length co) out [(⟨s.v6, s.lo, s.hi⟩ : Spn)] (some ⟨(w12).heap.size, 0, none⟩) 1 1 rfl rfl (Kd.R_below H12.out.i.1 ((Below.refl _ _).alloc (Nat.le_refl _) _)) (C_one (Has.new (w12) ((⟨s.v6, s.lo, s.hi⟩ : Spn)).arr _)) (H12.out.i.2.alloc H12.out.i.2.size _) (Nat.le_trans H12.out.i.2.size ((Below.refl (w12).heap.size (w12)).alloc (Nat.le_refl _) (.cells ((⟨s.v6, s.lo, s.hi⟩ : Spn)).arr 30)).size) (by omega) ?_; intro v8 w8 hR8 hB8 hg8 hat8; obtain ⟨A8, c8, e8⟩ := Kd.R_slice hR8; subst e8; have HE8 := Lib.hid (And.intro hR8 hB8); clear hR8 hB8 hg8 hat8))
          go_roundw
          case rel => exact ⟨k + 1, by omega, by go_num, Lib.hid (by
           rw [HFT.out, if_pos (by rw [← HRR.out.1, ← HRR.out.2]; simp [HVV.out]), HCU.out]
           have h9 := HE8.out.1
           rw [List.length_append, List.length_singleton] at h9
           exact ⟨h9, HE8.out.2⟩)⟩
          case measure => simp [intOf]; omega
    ·have hkn : k = b.length := by omega
     subst hkn
     have hk1 := eq_false (show ¬ (b.length : Int) < (b.length : Int) by omega)
     have hk2 : decide ((b.length : Int) < (b.length : Int)) = false := decide_eq_false (by omega)
     have hk3 : decide (b.length < b.length) = false := decide_eq_false (by omega)
     have HE : Hid (RbI w (pairs (a.take (i + 1)) b) u5 wr) := Lib.hid (by have := HI.out; rw [List.take_length] at this; rw [pairs_take a b i hia, ← HS.out.1, ← HP.out]; exact this)
     clear HI
     go_wp2
     go_roundw
     case rel => exact ⟨i + 1, by omega, by go_num, HE⟩
     case measure => simp [intOf]; omega
  ·have hin : i = a.length := by omega
   subst hin
   have hi1 := eq_false (show ¬ (a.length : Int) < (a.length : Int) by omega)
   have hi2 : decide ((a.length : Int) < (a.length : Int)) = false := decide_eq_false (by omega)
   have hi3 : decide (a.length < a.length) = false := decide_eq_false (by omega)
   rw [List.take_length] at HX
   obtain ⟨Ao, co, hov, hco, hCO⟩ := Kd.R_reads HX.out.1
   subst hov
   have hpl : (pairs a b).length ≤ 100000000 := Nat.le_trans (pairs_len2 a b) (Nat.mul_le_mul hal hbl)
   obtain ⟨P, hP⟩ : ∃ P, P = pairs a b := ⟨_, rfl⟩
   rw [← hP] at hCO hpl ⊢
   have HC := Lib.hid (And.intro hCO (And.intro HX.out.2 hP))
   clear hCO HX hP hco
   go_wp2_with fail
   refine (refJoin_walk Ao co P wr HC.out.1 hpl).mono ?_
   rintro e w9 ⟨v9, rfl, hR9, hB9⟩
   obtain ⟨A9, c9, e9⟩ := Kd.R_slice hR9
   subst e9
   have H9 := Lib.hid (And.intro hR9 hB9)
   clear hR9 hB9
   go_wp2
   go_ret
   refine ⟨_, rfl, ?_, HC.out.2.1.trans (H9.out.2.mono HC.out.2.1.size)⟩
   have := Kd.R_lower H9.out.1 HC.out.2.1.size
   rw [HC.out.2.2] at this ⊢
   exact this

end Go.Proofs.Ytdioagebkfdkhaa.Ad
end

section
set_option linter.unusedVariables false
set_option linter.unusedSimpArgs false
namespace Go.Proofs.Ytdioagebkfdkhaa.Ad
open Go Go.RowKit Go.Proofs.YtdioagebkfdkhaaW.PrintWords Go.Proofs.YtdioagebkfdkhaaW.PrintLast Go.Proofs.YtdioagebkfdkhaaW.PrintMore Go.Proofs.Ytdioagebkfdkhaa.PT

theorem refJoin_less : JoinC 10 10000 := fun A c a w h hl => refJoin_walk A c a w h (by omega)
theorem refWithin_walk (A : Option Addr) (c : Nat) (a : List Spn) (B : Option Addr) (d : Nat) (b : List Spn) (w : World) (hA : kS.C w A a.length a) (hac : a.length ≤ c) (hB : kS.C w B b.length b) (hbd : b.length ≤ d) (hal : a.length ≤ 2000) (hbl : b.length ≤ 2000) :
 Calls Try.prog 14 #[.slice A a.length c, .slice B b.length d] w fun e w' => e = .returned (.bool (withinS a b)) ∧ Below w.heap.size w w' :=
 refWithin_of refBoth_walk refJoin_less A c a B d b w hA hac hB hbd (by omega) (by omega) (Nat.le_trans (both_len a b) (Nat.le_trans (Nat.mul_le_mul hal hbl) (by decide)))

set_option maxHeartbeats 4000000 in
set_option maxRecDepth 100000 in
theorem joins_small (A0 : Option Addr) (c0 : Nat) (l0 : List Spn) (A1 : Option Addr) (c1 : Nat) (l1 : List Spn) (w : World) (hC0 : kS.C w A0 l0.length l0) (hc0 : l0.length ≤ c0) (hC1 : kS.C w A1 l1.length l1) (hc1 : l1.length ≤ c1) (h0 : ¬ 40 < l0.length) (h1 : ¬ 40 < l1.length) :
 Calls Try.prog 3 #[.slice A0 l0.length c0, .slice A1 l1.length c1] w fun e w' => e = .returned (.bool true) ∧ Below w.heap.size w w' := by
 have HC := Lib.hid (And.intro hC0 hC1)
 clear hC0 hC1
 have d0 : decide ((40 : Int) < (l0.length : Int)) = false := decide_eq_false (by omega)
 have d1 : decide ((40 : Int) < (l1.length : Int)) = false := decide_eq_false (by omega)
 have e0 := eq_false (show ¬ (40 : Int) < (l0.length : Int) by omega)
 have e1 := eq_false (show ¬ (40 : Int) < (l1.length : Int) by omega)
 have hj0 := joinS_len l0
 have hb0 : (bothS l0 l1).length ≤ 2000 := Nat.le_trans (both_len l0 l1) (Nat.le_trans (Nat.mul_le_mul (show l0.length ≤ 40 by omega) (show l1.length ≤ 40 by omega)) (by decide))
 go_enter Try.func3, Try.ntmps3
 go_wp2_with fail
 refine (awake_walk w).mono ?_
 rintro e w1 ⟨rfl, hB1⟩
 have HB1 := Lib.hid hB1
 clear hB1
 go_wp2_with fail
 refine (joinS_walk A0 c0 l0 w1 (Kd.C_below HC.out.1 HB1.out) (by omega)).mono ?_
 rintro e w2 ⟨v2, rfl, hR2, hB2⟩
 obtain ⟨A3, c3, e3, hc3, hC3⟩ := Kd.R_reads hR2
 subst e3
 have HB2 := Lib.hid (HB1.out.trans (hB2.mono HB1.out.size))
 have HC2 := Lib.hid hC3
 clear hR2 hB2 hC3 HB1
 go_wp2_with fail
 refine (refJoin_less A0 c0 l0 w2 (Kd.C_below HC.out.1 HB2.out) (by omega)).mono ?_
 rintro e w3 ⟨v3, rfl, hR3, hB3⟩
 obtain ⟨A4, c4, e4, hc4, hC4⟩ := Kd.R_reads hR3
 subst e4
 have HB3 := Lib.hid (HB2.out.trans (hB3.mono HB2.out.size))
 have HC3 := Lib.hid (And.intro (Kd.C_below HC2.out hB3) hC4)
 clear hR3 hB3 hC4 HB2 HC2
 go_wp2_with fail
 refine (sameS_walk A3 c3 (joinS l0) A4 c4 (joinS l0) w3 HC3.out.1 HC3.out.2 (by omega) (by omega)).mono ?_
 rintro e w4 ⟨rfl, hG⟩
 rw [show sameL (joinS l0) (joinS l0) = true from decide_eq_true rfl]
 have HB4 := Lib.hid (HB3.out.trans (hG.below.mono HB3.out.size))
 clear hG HB3 HC3 hc3 hc4
 go_wp2_with fail
 refine (both_walk A0 c0 l0 A1 c1 l1 w4 (Kd.C_below HC.out.1 HB4.out) hc0 (Kd.C_below HC.out.2 HB4.out) hc1 (by omega) (by omega)).mono ?_
 rintro e w5 ⟨v5, rfl, hR5, hB5⟩
 obtain ⟨A5, c5, e5, hc5, hC5⟩ := Kd.R_reads hR5
 subst e5
 have HB5 := Lib.hid (HB4.out.trans (hB5.mono HB4.out.size))
 have HC5 := Lib.hid hC5
 clear hR5 hB5 hC5 HB4
 go_wp2_with fail
 refine (refBoth_walk A0 c0 l0 A1 c1 l1 w5 (Kd.C_below HC.out.1 HB5.out) hc0 (Kd.C_below HC.out.2 HB5.out) hc1 (by omega) (by omega)).mono ?_
 rintro e w6 ⟨v6, rfl, hR6, hB6⟩
 obtain ⟨A6, c6, e6, hc6, hC6⟩ := Kd.R_reads hR6
 subst e6
 have HB6 := Lib.hid (HB5.out.trans (hB6.mono HB5.out.size))
 have HC6 := Lib.hid (And.intro (Kd.C_below HC5.out hB6) hC6)
 clear hR6 hB6 hC6 HB5 HC5
 go_wp2_with fail
 refine (sameS_walk A5 c5 (bothS l0 l1) A6 c6 (bothS l0 l1) w6 HC6.out.1 HC6.out.2 (by omega) (by omega)).mono ?_
 rintro e w7 ⟨rfl, hG⟩
 rw [show sameL (bothS l0 l1) (bothS l0 l1) = true from decide_eq_true rfl]
 have HB7 := Lib.hid (HB6.out.trans (hG.below.mono HB6.out.size))
 clear hG HB6 HC6 hc5 hc6
 have hw1 := within_walk A0 c0 l0 A1 c1 l1 w7 (Kd.C_below HC.out.1 HB7.out) hc0 (Kd.C_below HC.out.2 HB7.out) hc1 (by omega) (by omega)
 have hw2 : ∀ W, Below w.heap.size w W → Calls Try.prog 14 #[.slice A0 l0.length c0, .slice A1 l1.length c1] W fun e w' => e = .returned (.bool (withinS l0 l1)) ∧ Below W.heap.size W w' := fun W hB =>
  refWithin_walk A0 c0 l0 A1 c1 l1 W (Kd.C_below HC.out.1 hB) hc0 (Kd.C_below HC.out.2 hB) hc1 (by omega) (by omega)
 generalize withinS l0 l1 = x at hw1 hw2
 cases x
 all_goals
  go_wp2_with fail
  refine hw1.mono ?_
  rintro e w8 ⟨rfl, hB⟩
  have HB8 := Lib.hid (HB7.out.trans (hB.mono HB7.out.size))
  clear hB hw1
  go_wp2_with fail
  refine (hw2 _ HB8.out).mono ?_
  rintro e w9 ⟨rfl, hB⟩
  have HB9 := Lib.hid (HB8.out.trans (hB.mono HB8.out.size))
  clear hB hw2
  go_wp2
  go_ret
  exact ⟨rfl, HB9.out⟩
set_option maxHeartbeats 1000000 in
set_option maxRecDepth 100000 in
theorem joins_any (A0 : Option Addr) (c0 : Nat) (l0 : List Spn) (A1 : Option Addr) (c1 : Nat) (l1 : List Spn) (w : World) (hC0 : kS.C w A0 l0.length l0) (hc0 : l0.length ≤ c0) (hC1 : kS.C w A1 l1.length l1) (hc1 : l1.length ≤ c1) :
 Calls Try.prog 3 #[.slice A0 l0.length c0, .slice A1 l1.length c1] w fun e w' => e = .returned (.bool true) ∧ Below w.heap.size w w' := by
 by_cases h : 40 < l0.length ∨ 40 < l1.length
 ·go_enter Try.func3, Try.ntmps3
  go_wp2_with fail
  refine (awake_walk w).mono ?_
  rintro e w1 ⟨rfl, hB1⟩
  have HB1 := Lib.hid hB1
  clear hB1 hC0 hC1
  by_cases h0 : 40 < l0.length
  ·have d0 : decide ((40 : Int) < (l0.length : Int)) = true := decide_eq_true (by omega)
   have e0 := eq_true (show (40 : Int) < (l0.length : Int) by omega)
   clear h
   go_wp2
   go_ret
   exact ⟨rfl, HB1.out⟩
  ·have d0 : decide ((40 : Int) < (l0.length : Int)) = false := decide_eq_false (by omega)
   have e0 := eq_false (show ¬ (40 : Int) < (l0.length : Int) by omega)
   have d1 : decide ((40 : Int) < (l1.length : Int)) = true := decide_eq_true (by omega)
   have e1 := eq_true (show (40 : Int) < (l1.length : Int) by omega)
   clear h
   go_wp2
   go_ret
   exact ⟨rfl, HB1.out⟩
 ·exact joins_small A0 c0 l0 A1 c1 l1 w hC0 hc0 hC1 hc1 (by omega) (by omega)

end Go.Proofs.Ytdioagebkfdkhaa.Ad
end

section
set_option linter.unusedVariables false
set_option linter.unusedSimpArgs false
namespace Go.Proofs.Ytdioagebkfdkhaa.Ad
open Go.ChangeShapes Go.WideShapes Go.Deep Go.RowKit Go.Proofs.YtdioagebkfdkhaaW.PrintWords Go.Proofs.YtdioagebkfdkhaaW.PrintLast Go.Proofs.YtdioagebkfdkhaaW.PrintMore Go.Proofs.Ytdioagebkfdkhaa.PT

theorem listedV {α : Type} {Q : Nat → α → Prop} : ∀ (n : Nat), (∀ i, i < n → ∃ x, Q i x) → ∃ l : List α, l.length = n ∧ ∀ i x, l[i]? = some x → Q i x
 | 0, _ => ⟨[], rfl, fun i x h => by simp at h⟩
 | n + 1, h => by
  obtain ⟨l, hl, hq⟩ := listedV n (fun i hi => h i (by omega))
  obtain ⟨x, hx⟩ := h n (by omega)
  refine ⟨l ++ [x], by simp [hl], fun i y hy => ?_⟩
  by_cases hi : i < n
  ·rw [List.getElem?_append_left (by omega)] at hy
   exact hq i y hy
  ·rw [List.getElem?_append_right (by omega)] at hy
   have : i - l.length = 0 := by
    by_cases h0 : i - l.length = 0
    ·exact h0
    ·rw [List.getElem?_eq_none (by simp; omega)] at hy
     cases hy
   rw [this] at hy
   simp at hy
   subst hy
   rw [show i = n by omega]
   exact hx
section
variable {H : Type} {enc : TypeId × Value → H} {w : World} {base : Nat} {held : Bool}
set_option maxRecDepth 100000 in
theorem openA_f {fuel : Nat} {cs : List Value} {x : DataW H × List MemPlace} (h : DataW.trod enc Try.prog w base (fun _ => true) held fuel 28 cs = some x) :
 ∃ a : A16, cs = a.cells := by
 obtain ⟨xs, n, hn, _, hl, hlen, hf⟩ := DataW.trod_array Try.underlying28 h
 have hl : cs.length = 16 := hl
 have c1 : Try.prog.cellsOf 5 = 1 := by kernel_rfl
 rw [c1] at hf
 obtain ⟨l, hll, hq⟩ := listedV (Q := fun i (m : Int) => (cs.drop (i * 1)).take 1 = [.int .u8 m] ∧ (Lit.int .u8 m).wf = true) 16 (fun i hi => by
  have hi' := hf i hi
  rw [List.getElem?_eq_getElem (by omega)] at hi'
  obtain ⟨m, e, _, b⟩ := DataW.trod_int Try.underlying5 hi'
  exact ⟨m, e, b⟩)
 refine ⟨⟨l, hll, fun x hx => ?_⟩, ?_⟩
 ·obtain ⟨j, hj⟩ := List.mem_iff_getElem?.1 hx
  have := (hq j x hj).2
  simp [Lit.wf, IntKind.min, IntKind.max, IntKind.signed, IntKind.bits] at this
  omega
 ·apply List.ext_getElem
  ·rw [hl, A16.cells_len]
  ·intro i h1 h2
   have := (hq i l[i] (List.getElem?_eq_getElem (by omega))).1
   rw [Nat.mul_one, List.drop_eq_getElem_cons h1, List.take_succ_cons, List.take_zero] at this
   injection this with this
   rw [this]
   simp [A16.cells]
set_option maxRecDepth 100000 in
theorem openSp_f {fuel : Nat} {cs : List Value} {x : DataW H × List MemPlace} (h : DataW.trod enc Try.prog w base (fun _ => true) held fuel 30 cs = some x) :
 ∃ s : Spn, cs = s.cells := by
 obtain ⟨xs, n, hn, _, hl, hlen, hf⟩ := DataW.trod_struct Try.underlying30 h
 have hl : cs.length = 33 := hl
 match xs, hlen with
 | [y0, y1, y2], _ =>
 have h0 := hf 0 _ rfl
 have h1 := hf 1 _ rfl
 have h2 := hf 2 _ rfl
 replace h0 : DataW.trod enc Try.prog w base (fun _ => true) held n 4 (cs.take 1) = some y0 := h0
 replace h1 : DataW.trod enc Try.prog w base (fun _ => true) held n 28 ((cs.drop 1).take 16) = some y1 := h1
 replace h2 : DataW.trod enc Try.prog w base (fun _ => true) held n 28 ((cs.drop 17).take 16) = some y2 := h2
 obtain ⟨b, e0, _⟩ := DataW.trod_bool Try.underlying4 h0
 obtain ⟨a, e1⟩ := openA_f h1
 obtain ⟨m, e2⟩ := openA_f h2
 refine ⟨⟨b, a, m⟩, ?_⟩
 have k1 : cs = cs.take 1 ++ ((cs.drop 1).take 16 ++ (cs.drop 17).take 16) := by
  rw [List.take_of_length_le (l := cs.drop 17) (by simp; omega), show cs.drop 17 = (cs.drop 1).drop 16 by rw [List.drop_drop], List.take_append_drop, List.take_append_drop]
 rw [k1, e0, e1, e2]
 rfl
set_option maxRecDepth 100000 in
/-- A row that came in. -/
theorem openS {r : Reach} {b0 : Nat} {v : Value} {d : DataW H} {p : List MemPlace} {ts : List TypeId} {ds : List (DataW H)} {j : Nat}
 (hsz : (DataW.weightsEach Try.prog ts ds).all (· ≤ reachBytes) = true) (ht : ts[j]? = some 22) (hd : ds[j]? = some d)
 (hv : Value.okWide Try.prog w r b0 22 v) (h : DataW.Trod enc Try.prog w base (fun _ => true) held 22 v d p) :
 ∃ (A : Option Addr) (c : Nat) (l : List Spn), v = .slice A l.length c ∧ kS.C w A l.length l ∧ l.length ≤ c ∧ l.length * 33 ≤ 140737488351232 := by
 obtain ⟨a, len, cap, rfl⟩ := okWide_slice Try.underlying22 hv
 obtain ⟨fuel, hf⟩ := h
 rcases DataW.trod_slice Try.underlying22 hf with ⟨hcs, _⟩ | ⟨a', len', cap', elems, rest, n2, hn2, hcs, hx, _, hle, hm, hel, hget, _, _⟩
 ·simp [Value.cells] at hcs
  obtain ⟨rfl, rfl, rfl⟩ := hcs
  exact ⟨none, 0, [], rfl, ⟨rfl, by simp, fun h => absurd rfl (Nat.ne_of_gt h)⟩, Nat.le_refl _, by simp⟩
 ·simp [Value.cells] at hcs
  obtain ⟨rfl, rfl, rfl⟩ := hcs
  obtain ⟨hx, _⟩ := Prod.mk.inj hx
  subst hx
  have z := sized_slice hsz ht hd Try.underlying22
  have hB : Try.prog.bytesOf 30 = 33 := by kernel_rfl
  rw [hB] at z
  obtain ⟨l, hl, hq⟩ := listedV (Q := fun i (s : Spn) => w.cells? base (a'.add (i * Try.prog.cellsOf 30)) (Try.prog.cellsOf 30) = some s.cells) len (fun i hil => by
   have hi := hget i hil
   rw [List.getElem?_eq_getElem (by omega)] at hi
   obtain ⟨cs', g1, g2⟩ := Option.bind_eq_some_iff.1 hi
   obtain ⟨s, e⟩ := openSp_f g2
   exact ⟨s, e ▸ g1⟩)
  subst hl
  have hC : Try.prog.cellsOf 30 = 33 := by kernel_rfl
  rw [hC] at hq
  refine ⟨some a', cap, l, rfl, ⟨rfl, (by have h9 : maxLen ≤ 9223372036854775807 := (by decide); show l.length ≤ 9223372036854775807; omega), fun _ => ⟨a', rfl, fun j s hj => ?_⟩⟩, hle, ?_⟩
  ·obtain ⟨_, _, hat⟩ := World.cells?_some (hq j s hj)
   refine ⟨s.cells, Spn.cells_len _, rfl, fun i u hu => ?_⟩
   have hi : i < 33 := by
    by_cases h : i < 33
    ·exact h
    ·rw [List.getElem?_eq_none (by rw [Spn.cells_len]; omega)] at hu; cases hu
   have := hat i hi
   rw [Go.Deep.add_add] at this
   exact this.trans hu
  ·have h1 : (elems.map (·.1)).length = l.length := by rw [List.length_map, hel]
   have h2 := Nat.le_trans (Nat.mul_le_mul_right 33 (Nat.le_add_right _ _)) z
   rw [h1] at h2
   exact h2
end
end Go.Proofs.Ytdioagebkfdkhaa.Ad
end
