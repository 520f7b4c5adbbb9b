/- Merged by a program of this session (wip/tools/pack.py). -/
import Derived.Test.YtmbgjhkemlliaaaDoorKSpkiUnlike2
import Derived.StillTailTactics
import Derived.Deep.QuietTactic
import Derived.BigQuiet
import Derived.Deep.Cut
import Derived.Laws.CopyRow
import Derived.Laws.Rows
import Derived.Laws.Tables
import Derived.Laws.CopyOwn
section
set_option linter.unusedVariables false
set_option linter.unusedSimpArgs false
namespace Go.Proofs.YtmbgjhkemlliaaaDoor.Tlv
open Go.RowKit Go.Proofs.YtmbgjhkemlliaaaDoorW.PrintWords Go.Proofs.YtmbgjhkemlliaaaDoorW.PrintLast Go.Proofs.YtmbgjhkemlliaaaDoorW.PrintMore Go.Proofs.YtmbgjhkemlliaaaDoor.PT

/-- A key's own element. -/
def ownT (l : List Int) (E : Int) : T := ⟨48, [], [bigT l, intT E]⟩
def ownB (l : List Int) (E : Int) : List Int := (resW (writeP (ownT l E))).1
theorem wT_big (l : List Int) : wT (bigT l) ≤ (l.length : Int) + 2 := by
 unfold bigT
 rw [wT, wL]
 have h1 := bigB_len (stripZ l)
 have h2 := stripZ_len l
 omega
theorem leastP_len (E : Int) (h0 : 0 ≤ E) (h1 : E < 18446744073709551616) : (leastP E).length ≤ 8 ∧ ∀ v ∈ leastP E, 0 ≤ v ∧ v < 256 := by
 obtain ⟨m, m1, m2, hm, _⟩ := least_p E h0 h1
 have hb := bE_byte m E
 rw [hm]
 exact ⟨by rw [hb.2]; exact m2, hb.1⟩
theorem wT_own (l : List Int) (E : Int) (hl : l.length ≤ 100000) (h0 : 0 ≤ E) (h1 : E < 4294967296) : wT (ownT l E) ≤ 101000 := by
 have h := wT_big l
 have h2 : wT (intT E) ≤ ((leastP E).length : Int) + 2 := wT_big _
 have h3 := (leastP_len E h0 (by omega)).1
 unfold ownT
 rw [wT, wL, wL, wL]
 simp only [List.length_nil]
 omega
set_option maxRecDepth 100000 in
/-- What holds ahead of Write. -/
theorem own_tail (l : List Int) (E : Int) (hl : l.length ≤ 100000) (h0 : 0 ≤ E) (h1 : E < 4294967296) (A : Option Addr) (c : Nat) (w w2 w3 w4 : World) (tk : TypeId) (A1 : Option Addr) (c1 : Nat) (A2 : Option Addr) (c2 : Nat) (B1 : Option Addr) (d1 : Nat) (B2 : Option Addr) (d2 : Nat)
 (hk : w2.heap[w.heap.size]? = some (.cells #[.slice A l.length c, .int .u32 E] tk (0, 0))) (hB : Below w.heap.size w w2)
 (hn : NodeR w3 w2.heap.size w3.heap.size (bigT l) (.slice A1 (bigT l).f1.length c1) (.slice A2 0 c2)) (hB3 : Below w2.heap.size w2 w3)
 (hm : NodeR w4 w3.heap.size w4.heap.size (intT E) (.slice B1 (intT E).f1.length d1) (.slice B2 0 d2)) (hB4 : Below w3.heap.size w3 w4) :
 (w4.cell? ⟨w.heap.size, 0, none⟩ = some (.slice A l.length c) ∧ w4.cell? ⟨w.heap.size, 1, none⟩ = some (.int .u32 E)) ∧
 (∀ ob : Obj, ob = .cells #[.int .i64 2, .slice A1 (bigT l).f1.length c1, .slice A2 0 c2, .int .i64 2, .slice B1 (intT E).f1.length d1, .slice B2 0 d2] 28 (0, 0) →
  ((w4.alloc ob).cell? ⟨w.heap.size, 0, none⟩ = some (.slice A l.length c) ∧ (w4.alloc ob).cell? ⟨w.heap.size, 1, none⟩ = some (.int .u32 E)) ∧
  Calls Tryd.prog 28 #[.agg #[.int .i64 48, .slice none 0 0, .slice (some ⟨w4.heap.size, 0, none⟩) 2 2]] (w4.alloc ob) fun e w5 => ∃ X lx cx x, e = .returned (.tuple #[.slice X (List.length lx) cx, .int .i64 x]) ∧ (lx = ownB l E ∧ (Kd.int .u8).R 5 w5 w.heap.size (fun _ => True) (.slice X lx.length cx) lx ∧ Below w.heap.size w w5) ∧
   (w5.cell? ⟨w.heap.size, 0, none⟩ = some (.slice A l.length c) ∧ w5.cell? ⟨w.heap.size, 1, none⟩ = some (.int .u32 E))) := by
 have hB24 : Below w2.heap.size w2 w4 := hB3.trans (hB4.mono hB3.size)
 have hk4 := (hB24.block _ (heap_lt hk)).trans hk
 refine ⟨⟨Lib.cell_of_heap hk4 0, Lib.cell_of_heap hk4 1⟩, fun ob hob => ?_⟩
 have hk5 := (Below.heap_alloc w4 ob _ (heap_lt hk4)).trans hk4
 refine ⟨⟨Lib.cell_of_heap hk5 0, Lib.cell_of_heap hk5 1⟩, ?_⟩
 have h6 : (w4.alloc ob).heap[w4.heap.size]? = some ob := heap_alloc_new w4 _
 have hBB : Below w4.heap.size w4 (w4.alloc ob) := (Below.refl _ _).alloc (Nat.le_refl _) _
 have hBw4 := hB.trans (hB24.mono hB.size)
 have hBw : Below w.heap.size w (w4.alloc ob) := hBw4.alloc hBw4.size ob
 have hn4 := ((hn.below hB4).at (n := bigT l)).below hBB
 have hm4 := (hm.at (n := intT E)).below hBB
 have hkk : k28.C (w4.alloc ob) (some ⟨w4.heap.size, 0, none⟩) 2 [bigT l, intT E] :=
  C_row (cs := [.int .i64 2, .slice A1 (bigT l).f1.length c1, .slice A2 0 c2, .int .i64 2, .slice B1 (intT E).f1.length d1, .slice B2 0 d2]) (by rw [h6, hob]) (KReps_two (NodeAt.K (n := bigT l) hn4) (NodeAt.K (n := intT E) hm4)) (by simp)
 have hw := wT_own l E hl h0 h1
 refine (write_walk (ownT l E) (fun _ => by have := size_wT (ownT l E); omega) none 0 (some ⟨w4.heap.size, 0, none⟩) 2 (w4.alloc ob) ⟨C_nil _ _ _, Nat.le_refl _, hkk, Nat.le_refl _⟩).mono ?_
 intro e w5 hp
 obtain ⟨X, lx, cx, x, rfl, hres, hX, hB5⟩ := (WritePost.R hp)
 have hk6 := (hB5.block _ (heap_lt hk5)).trans hk5
 exact ⟨X, lx, cx, x, rfl, ⟨by unfold ownB; rw [hres], Kd.R_lower hX hBw.size, hBw.trans (hB5.mono hBw.size)⟩, Lib.cell_of_heap hk6 0, Lib.cell_of_heap hk6 1⟩
def OwnPost (w : World) (l : List Int) (E : Int) (e : Ending) (w' : World) : Prop := ∃ A b c, e = .returned (.slice A (List.length b) c) ∧ b = ownB l E ∧ (Kd.int .u8).R 5 w' w.heap.size (fun _ => True) (.slice A b.length c) b ∧ Below w.heap.size w w'

set_option maxHeartbeats 4000000 in
set_option maxRecDepth 100000 in
theorem own_walk (l : List Int) (E : Int) (hl : l.length ≤ 100000) (hv : ∀ x ∈ l, 0 ≤ x ∧ x < 256) (h0 : 0 ≤ E) (h1 : E < 4294967296) (A : Option Addr) (c : Nat) (w : World) (hr : (Kd.int .u8).C w A l.length l) (hc : l.length ≤ c) :
 Calls Tryd.prog 19 #[.agg #[.slice A l.length c, .int .u32 E]] w (OwnPost w l E) := by
 have hbox : (w.alloc (.cells #[.slice A l.length c, .int .u32 E] 25)).drew.heap[w.heap.size]? = some (.cells #[.slice A l.length c, .int .u32 E] 25 (0, 0)) := heap_alloc_new w _
 have hB1 : Below w.heap.size w (w.alloc (.cells #[.slice A l.length c, .int .u32 E] 25)).drew := ((Below.refl _ _).alloc (Nat.le_refl _) _).drew
 have HBIG := Lib.hid (big_walk A c l _ (Kd.C_below hr hB1) hc hv (by omega))
 have HINT := Lib.hid (fun w3 => scalar_Int.calls 20 E 2 (bigB (stripZ (leastP E))) [] w3 (int_f E h0 (by omega)))
 have HTAIL := Lib.hid (fun w3 w4 A1 c1 A2 c2 B1 d1 B2 d2 => own_tail l E hl h0 h1 A c w _ w3 w4 _ A1 c1 A2 c2 B1 d1 B2 d2 hbox hB1)
 have HH := Lib.hid (And.intro (Lib.cell_of_heap hbox 0) (Lib.cell_of_heap hbox 1))
 have HKEEP := Lib.hid (fun w3 (hB : Below _ _ w3) => (And.intro (Lib.cell_of_heap ((hB.block _ (heap_lt hbox)).trans hbox) 0) (Lib.cell_of_heap ((hB.block _ (heap_lt hbox)).trans hbox) 1)))
 have hwr : IntKind.u64.wrap E = E := by rw [show ∀ n : Int, IntKind.u64.wrap n = n % 18446744073709551616 from fun n => by simp [IntKind.wrap, IntKind.bits, IntKind.signed]]; omega
 generalize hPP : OwnPost w l E = PP
 have HPP := Lib.hid hPP
 have eb : (bigT l).f0 = 2 := rfl
 clear hbox hB1 hr hc hv hl hPP
 go_enter Tryd.func19, Tryd.ntmps19
 go_wp2
 refine start_ (n := 15) (S := fun w' => w'.cell? ⟨w.heap.size, 0, none⟩ = some (.slice A l.length c) ∧ w'.cell? ⟨w.heap.size, 1, none⟩ = some (.int .u32 E)) (ds := []) #[false, false, false, false, false, false, false, false, false, false, false, false, false, false, false] (by kernel_rfl) rfl rfl HH.out (fun hHeld => ?_)
 refine pure_ (i := 0) (N := some 6) (v := ?_) (a' := ?_) #[true, false, false, false, false, false, false, false, false, false, false, false, false, false, false] rfl rfl (by kernel_rfl) (fun _ _ _ h => h) (Or.inl ⟨by rfl, ?_⟩) ?_ ?_
 rotate_left
 ·intro w'
  go_simp
  with_reducible rfl
 rotate_left
 ·simp only [Act.put, List.setIfInBounds_toArray, List.set_cons_zero, List.set_cons_succ, i64_w, i32_w]
  rfl
 refine take_ (i := 1) (N := some 7) (v := ?_) (a' := ?_) #[true, true, false, false, false, false, false, false, false, false, false, false, false, false, false] rfl rfl (by kernel_rfl) (fun _ _ _ h => h) (Or.inl ⟨by rfl, ?_⟩) hHeld ?_ ?_
 rotate_left
 ·rintro w' ⟨s0, s1⟩
  go_simp
  with_reducible rfl
 rotate_left
 ·simp only [Act.put, List.setIfInBounds_toArray, List.set_cons_zero, List.set_cons_succ, i64_w, i32_w]
  rfl
 refine pure_ (i := 3) (N := some 9) (v := ?_) (a' := ?_) #[true, true, false, true, false, false, false, false, false, false, false, false, false, false, false] rfl rfl (by kernel_rfl) (fun _ _ _ h => h) (Or.inl ⟨by rfl, ?_⟩) ?_ ?_
 rotate_left
 ·intro w'
  go_simp
  with_reducible rfl
 rotate_left
 ·simp only [Act.put, List.setIfInBounds_toArray, List.set_cons_zero, List.set_cons_succ, i64_w, i32_w]
  rfl
 refine take_ (i := 4) (N := some 10) (v := ?_) (a' := ?_) #[true, true, false, true, true, false, false, false, false, false, false, false, false, false, false] rfl rfl (by kernel_rfl) (fun _ _ _ h => h) (Or.inl ⟨by rfl, ?_⟩) hHeld ?_ ?_
 rotate_left
 ·rintro w' ⟨s0, s1⟩
  go_simp
  with_reducible rfl
 rotate_left
 ·simp only [Act.put, List.setIfInBounds_toArray, List.set_cons_zero, List.set_cons_succ, i64_w, i32_w]
  rfl
 refine pure_ (i := 5) (N := some 11) (v := ?_) (a' := ?_) #[true, true, false, true, true, true, false, false, false, false, false, false, false, false, false] rfl rfl (by kernel_rfl) (fun _ _ _ h => h) (Or.inl ⟨by rfl, ?_⟩) ?_ ?_
 rotate_left
 ·intro w'
  go_simp
  with_reducible rfl
 rotate_left
 ·simp only [Act.put, List.setIfInBounds_toArray, List.set_cons_zero, List.set_cons_succ, i64_w, i32_w]
  rfl
 refine one_ (i := 2) (N := some 8) #[true, true, true, true, true, true, false, false, false, false, false, false, false, false, false] rfl rfl (by kernel_rfl) (by decide) (fun K hK => ?_)
 refine goes_ Tryd.func33 (by kernel_rfl) rfl #[.slice A l.length c] (by rfl) rfl rfl (by (try simp only [List.map_toArray, List.map_cons, List.map_nil]); first | done | rfl) ?_
 refine HBIG.out.mono ?_
 rintro e w3 ⟨v1, rfl, hn3, hb3⟩
 refine ⟨_, rfl, ?_⟩
 obtain ⟨A1, c1, rfl, _, _⟩ := Kd.R_reads hn3.b
 have HN3 := Lib.hid hn3
 have HB3 := Lib.hid hb3
 clear hn3 hb3
 refine hK.out _ _ (HKEEP.out w3 HB3.out) (fun hHeld => ?_)
 clear hK K
 refine norm_ (a' := ?_) ?_ ?_
 rotate_left
 ·show Act.put _ (some 8) _ = _
  simp only [Act.put, List.setIfInBounds_toArray, List.set_cons_zero, List.set_cons_succ, i64_w, i32_w]
  rfl
 refine one_ (i := 6) (N := some 12) #[true, true, true, true, true, true, true, false, false, false, false, false, false, false, false] rfl rfl (by kernel_rfl) (by decide) (fun K hK => ?_)
 refine goes_ Tryd.func34 (by kernel_rfl) rfl #[.int .u64 E] (by rfl) rfl rfl (by (try simp only [List.map_toArray, List.map_cons, List.map_nil]); first | done | rfl) ?_
 refine (HINT.out w3).mono ?_
 rintro e w4 ⟨v1, v2, rfl, hv1, hv2, hb4⟩
 refine ⟨_, rfl, ?_⟩
 have hm4 := NodeR.of (n := intT E) hv1 hv2
 obtain ⟨B1, d1, rfl, _, _⟩ := Kd.R_reads hm4.b
 obtain ⟨B2, d2, rfl⟩ := Kd.R_slice hm4.k
 have HF := Lib.hid (HTAIL.out w3 w4 A1 c1 none 0 B1 d1 B2 d2 HN3.out HB3.out hm4 hb4)
 clear hv1 hv2 hb4 hm4
 refine hK.out _ _ HF.out.1 (fun hHeld => ?_)
 clear hK K
 refine norm_ (a' := ?_) ?_ ?_
 rotate_left
 ·show Act.put _ (some 12) _ = _
  simp only [Act.put, List.setIfInBounds_toArray, List.set_cons_zero, List.set_cons_succ, i64_w, i32_w]
  rfl
 refine one_ (i := 7) (N := some 13) #[true, true, true, true, true, true, true, true, false, false, false, false, false, false, false] rfl rfl (by kernel_rfl) (by decide) (fun K hK => ?_)
 refine event_step (by rfl) (v := .slice (some ⟨w4.heap.size, 0, none⟩) 2 2) (w1 := w4.alloc (.cells #[.int .i64 2, .slice A1 (bigT l).f1.length c1, .slice none 0 0, .int .i64 2, .slice B1 (intT E).f1.length d1, .slice B2 0 d2] 28)) (by go_simp; try rfl) ?_
 have HG := Lib.hid (HF.out.2 _ rfl)
 refine hK.out _ _ HG.out.1 (fun hHeld => ?_)
 clear hK K
 refine norm_ (a' := ?_) ?_ ?_
 rotate_left
 ·show Act.put _ (some 13) _ = _
  simp only [Act.put, List.setIfInBounds_toArray, List.set_cons_zero, List.set_cons_succ, i64_w, i32_w]
  rfl
 refine pure_ (i := 8) (N := some 14) (v := ?_) (a' := ?_) #[true, true, true, true, true, true, true, true, true, false, false, false, false, false, false] rfl rfl (by kernel_rfl) (fun _ _ _ h => h) (Or.inl ⟨by rfl, ?_⟩) ?_ ?_
 rotate_left
 ·intro w'
  go_simp
  with_reducible rfl
 rotate_left
 ·simp only [Act.put, List.setIfInBounds_toArray, List.set_cons_zero, List.set_cons_succ, i64_w, i32_w]
  rfl
 refine one_ (i := 9) (N := some 15) #[true, true, true, true, true, true, true, true, true, true, false, false, false, false, false] rfl rfl (by kernel_rfl) (by decide) (fun K hK => ?_)
 refine goes_ Tryd.func28 (by kernel_rfl) rfl #[.agg #[.int .i64 48, .slice none 0 0, .slice (some ⟨w4.heap.size, 0, none⟩) 2 2]] (by rfl) rfl rfl (by (try simp only [List.map_toArray, List.map_cons, List.map_nil]); first | done | rfl) ?_
 refine (HG.out.2).mono ?_
 rintro e w5 ⟨X, lx, cx, x, rfl, hpo, hs5⟩
 have HPO := Lib.hid hpo
 clear hpo
 refine ⟨_, rfl, ?_⟩
 refine hK.out _ _ hs5 (fun hHeld => ?_)
 clear hK K
 refine norm_ (a' := ?_) ?_ ?_
 rotate_left
 ·show Act.put _ (some 15) _ = _
  simp only [Act.put, List.setIfInBounds_toArray, List.set_cons_zero, List.set_cons_succ, i64_w, i32_w]
  rfl
 refine pure_ (i := 10) (N := some 5) (v := ?_) (a' := ?_) #[true, true, true, true, true, true, true, true, true, true, true, false, false, false, false] rfl rfl (by kernel_rfl) (fun _ _ _ h => h) (Or.inl ⟨by rfl, ?_⟩) ?_ ?_
 rotate_left
 ·intro w'
  go_simp
  with_reducible rfl
 rotate_left
 ·simp only [Act.put, List.setIfInBounds_toArray, List.set_cons_zero, List.set_cons_succ, i64_w, i32_w]
  rfl
 refine pure_ (i := 11) (N := some 16) (v := ?_) (a' := ?_) #[true, true, true, true, true, true, true, true, true, true, true, true, false, false, false] rfl rfl (by kernel_rfl) (fun _ _ _ h => h) (Or.inl ⟨by rfl, ?_⟩) ?_ ?_
 rotate_left
 ·intro w'
  go_simp
  with_reducible rfl
 rotate_left
 ·simp only [Act.put, List.setIfInBounds_toArray, List.set_cons_zero, List.set_cons_succ, i64_w, i32_w]
  rfl
 refine pure_ (i := 12) (N := some 17) (v := ?_) (a' := ?_) #[true, true, true, true, true, true, true, true, true, true, true, true, true, false, false] rfl rfl (by kernel_rfl) (fun _ _ _ h => h) (Or.inl ⟨by rfl, ?_⟩) ?_ ?_
 rotate_left
 ·intro w'
  go_simp
  with_reducible rfl
 rotate_left
 ·simp only [Act.put, List.setIfInBounds_toArray, List.set_cons_zero, List.set_cons_succ, i64_w, i32_w]
  rfl
 refine pure_ (i := 13) (N := some 3) (v := ?_) (a' := ?_) #[true, true, true, true, true, true, true, true, true, true, true, true, true, true, false] rfl rfl (by kernel_rfl) (fun _ _ _ h => h) (Or.inl ⟨by rfl, ?_⟩) ?_ ?_
 rotate_left
 ·intro w'
  go_simp
  with_reducible rfl
 rotate_left
 ·simp only [Act.put, List.setIfInBounds_toArray, List.set_cons_zero, List.set_cons_succ, i64_w, i32_w]
  rfl
 refine pure_ (i := 14) (N := some 4) (v := ?_) (a' := ?_) #[true, true, true, true, true, true, true, true, true, true, true, true, true, true, true] rfl rfl (by kernel_rfl) (fun _ _ _ h => h) (Or.inl ⟨by rfl, ?_⟩) ?_ ?_
 rotate_left
 ·intro w'
  go_simp
  with_reducible rfl
 rotate_left
 ·simp only [Act.put, List.setIfInBounds_toArray, List.set_cons_zero, List.set_cons_succ, i64_w, i32_w]
  rfl
 refine done_ (by kernel_rfl) ?_
 go_wp2
 have hPP := HPP.out
 subst hPP
 exact ⟨X, lx, cx, rfl, HPO.out⟩

end Go.Proofs.YtmbgjhkemlliaaaDoor.Tlv
end

section
namespace Go.Proofs.YtmbgjhkemlliaaaDoor.PT
open Go.RowKit Go.Proofs.YtmbgjhkemlliaaaDoorW.PrintWords Go.Proofs.YtmbgjhkemlliaaaDoorW.PrintLast Go.Proofs.YtmbgjhkemlliaaaDoorW.PrintMore
attribute [local go_sem] max2_int min2_int max_two min_two max_three min_three max_four min_four   -- for this text's walks alone
set_option linter.unusedVariables false
set_option linter.unusedSimpArgs false

def rsa_Right.f (l0_0 : List Int) (a0_1 : Int) : Option (Bool) := if (l0_0.length : Int) ≥ 62 then (if (l0_0.length : Int) ≤ 512 then (if 0 < (l0_0.length : Int) then (if (rd l0_0 0) = 0 then (some false) else (if 0 ≤ (wrap64 ((l0_0.length : Int) - 1)) then (if (wrap64 ((l0_0.length : Int) - 1)) < (l0_0.length : Int) then (if (Go.bits .and .u8 (rd l0_0 (wrap64 ((l0_0.length : Int) - 1))) 1) = 1 then (if (Go.bits .and .u32 a0_1 1) = 1 then (some (decide (a0_1 ≥ 3))) else (some false)) else (some false)) else (none)) else (none))) else (none)) else (some false)) else (some false)
set_option maxHeartbeats 8000000 in
set_option maxRecDepth 100000 in
theorem rsa_Right.calls (A0_0 : Option Addr) (c0_0 : Nat) (l0_0 : List Int) (a0_1 : Int) (r : Bool) (w : World) (hr0_0 : Kd.C (Kd.int .u8) w A0_0 l0_0.length l0_0) (hc0_0 : l0_0.length ≤ c0_0) (h : rsa_Right.f l0_0 a0_1 = some r) :
 Calls Tryd.prog 16 #[.agg #[.slice A0_0 l0_0.length c0_0, .int .u32 a0_1]] w fun e w' => e = .returned (.bool r) ∧ Below w.heap.size w w' := by
 have hu25 := Tryd.underlying25
 have HR0_0 := Aside0.mk hr0_0
 have HC0_0 := Aside0.mk hc0_0
 clear hr0_0 hc0_0
 have HB := Aside0.mk (Below.refl w.heap.size w)
 have H : (if (l0_0.length : Int) ≥ 62 then (if (l0_0.length : Int) ≤ 512 then (if 0 < (l0_0.length : Int) then (if (rd l0_0 0) = 0 then (some false) else (if 0 ≤ (wrap64 ((l0_0.length : Int) - 1)) then (if (wrap64 ((l0_0.length : Int) - 1)) < (l0_0.length : Int) then (if (Go.bits .and .u8 (rd l0_0 (wrap64 ((l0_0.length : Int) - 1))) 1) = 1 then (if (Go.bits .and .u32 a0_1 1) = 1 then (some (decide (a0_1 ≥ 3))) else (some false)) else (some false)) else (none)) else (none))) else (none)) else (some false)) else (some false)) = some r := h
 clear h
 by_cases c2 : (l0_0.length : Int) ≥ 62
 ·rw [if_pos c2] at H
  have c2b0 : decide (62 ≤ (l0_0.length : Int)) = true := decide_eq_true c2
  have c2b1 : decide (62 ≤ l0_0.length) = true := decide_eq_true (by omega)
  clear c2
  by_cases c3 : (l0_0.length : Int) ≤ 512
  ·rw [if_pos c3] at H
   have c3b0 : decide ((l0_0.length : Int) ≤ 512) = true := decide_eq_true c3
   have c3b1 : decide (l0_0.length ≤ 512) = true := decide_eq_true (by omega)
   clear c3
   by_cases c4 : 0 < (l0_0.length : Int)
   ·rw [if_pos c4] at H
    have c4b0 : decide (0 < (l0_0.length : Int)) = true := decide_eq_true c4
    have c4b1 : decide (0 < l0_0.length) = true := decide_eq_true (by omega)
    clear c4
    by_cases c5 : (rd l0_0 0) = 0
    ·rw [if_pos c5] at H
     have c5b0 : ((rd l0_0 0) == 0) = true := beq_iff_eq.mpr c5
     have c5b1 : ((rd l0_0 0) != 0) = false := bne_eq_false_iff_eq.mpr c5
     clear c5
     obtain rfl := Option.some.inj H
     go_enter Tryd.func16, Tryd.ntmps16
     go_wp2_with (first | ((with_reducible refine gate_dst (N := 1) rfl ?_); refine box_event ?hg (N := 1) ?hd (cs := #[.slice A0_0 l0_0.length c0_0, .int .u32 a0_1]) (t := 25) ?hr ?_; (case hd => rfl); (case hg => rfl); (case hr => first | (go_simp; done) | (go_simp; rfl)); intro gb235 hg w6 hbox hb; have n0_ := Aside0.mk (below_step (by repeat (first | (with_reducible first | exact HB.out | apply below_alloc | apply pw_below_drewN | apply below_drew1) | exact HB.out)) hb); have n1_ := Aside0.mk (hbox); have n2_ := Aside0.mk ((by rw [hg]; exact (below_size (by repeat (first | (with_reducible first | exact HB.out | apply below_alloc | apply pw_below_drewN | apply below_drew1) | exact HB.out))) : w.heap.size ≤ gb235)); have n3_ := Aside0.mk ((by rw [hg]; exact (below_size (by repeat (first | (with_reducible first | exact HB.out | apply below_alloc | apply pw_below_drewN | apply below_drew1) | exact HB.out))) : w.heap.size ≤ gb235)); clear HB; have HB := n0_; have BK235 := n1_; have GW235 := n2_; have GE235 := n3_; clear n0_ n1_ n2_ n3_; clear hb hbox hg; have hcz7_0 : w6.cell? ⟨gb235, 0, none⟩ = some (.slice A0_0 l0_0.length c0_0) := (blk_cell BK235.out 0).trans rfl; have hcz7_1 : w6.cell? ⟨gb235, 1, none⟩ = some (.int .u32 a0_1) := (blk_cell BK235.out 1).trans rfl; have hfz7_0 := blk_frozen BK235.out 0; have hfz7_1 := blk_frozen BK235.out 1; have p236 : 0 ≤ (0 : Int) := (by omega); have q236 : 0 < (l0_0.length : Int) := of_decide_eq_true (by first | (with_reducible assumption) | assumption); obtain ⟨ad236, e236, hx236_0⟩ := Kd.at_int HR0_0.out 0 p236 q236; cases e236; have qi236 : (0 < l0_0.length) = True := eq_true (by omega); (try rw [show ((0 : Int)).toNat = 0 from rfl] at hx236_0); (try rw [Addr.add_zero'] at hx236_0); replace hx236_0 := (HB.out.cell (World.block_lt_of_cell? w _ hx236_0)).trans hx236_0; replace p236 := eq_true p236; replace q236 := eq_true q236))
     go_ret
     exact ⟨by first | rfl | (simp [errW_none, errW_some] <;> rfl) | (simp [*, errW_none, errW_some] <;> rfl), by repeat (first | (with_reducible first | exact HB.out | apply below_alloc | apply pw_below_drewN | apply below_drew1 | refine below_set ?_ GE235.out) | exact HB.out)⟩
    ·rw [if_neg c5] at H
     have c5b0 : ((rd l0_0 0) == 0) = false := beq_eq_false_iff_ne.mpr c5
     have c5b1 : ((rd l0_0 0) != 0) = true := bne_iff_ne.mpr c5
     obtain ⟨ji8, hji8⟩ : ∃ j_ : Int, (wrap64 ((l0_0.length : Int) - 1)) = j_ := ⟨_, rfl⟩
     replace H : (if 0 ≤ (ji8) then (if (ji8) < (l0_0.length : Int) then (if (Go.bits .and .u8 (rd l0_0 (ji8)) 1) = 1 then (if (Go.bits .and .u32 a0_1 1) = 1 then (some (decide (a0_1 ≥ 3))) else (some false)) else (some false)) else (none)) else (none)) = some r := by first | (rw [hji8] at H; exact H) | (simp only [hji8] at H ⊢; exact H)
     have hji8w : (IntKind.i64.wrap ((l0_0.length : Int) - 1)) = ji8 := (i64_w _).trans hji8
     by_cases c9 : 0 ≤ (ji8)
     ·rw [if_pos c9] at H
      have c9b0 : decide (0 ≤ (ji8)) = true := decide_eq_true c9
      clear c9
      by_cases c10 : (ji8) < (l0_0.length : Int)
      ·rw [if_pos c10] at H
       have c10b0 : decide ((ji8) < (l0_0.length : Int)) = true := decide_eq_true c10
       clear c10
       by_cases c11 : (Go.bits .and .u8 (rd l0_0 (ji8)) 1) = 1
       ·rw [if_pos c11] at H
        have c11b0 : ((Go.bits .and .u8 (rd l0_0 (ji8)) 1) == 1) = true := beq_iff_eq.mpr c11
        have c11b1 : ((Go.bits .and .u8 (rd l0_0 (ji8)) 1) != 1) = false := bne_eq_false_iff_eq.mpr c11
        clear c11
        by_cases c12 : (Go.bits .and .u32 a0_1 1) = 1
        ·rw [if_pos c12] at H
         have c12b0 : ((Go.bits .and .u32 a0_1 1) == 1) = true := beq_iff_eq.mpr c12
         have c12b1 : ((Go.bits .and .u32 a0_1 1) != 1) = false := bne_eq_false_iff_eq.mpr c12
         clear c12
         obtain rfl := Option.some.inj H
         go_enter Tryd.func16, Tryd.ntmps16
         go_wp2_with (first | ((with_reducible refine gate_dst (N := 1) rfl ?_); refine box_event ?hg (N := 1) ?hd (cs := #[.slice A0_0 l0_0.length c0_0, .int .u32 a0_1]) (t := 25) ?hr ?_; (case hd => rfl); (case hg => rfl); (case hr => first | (go_simp; done) | (go_simp; rfl)); intro gb235 hg w13 hbox hb; have n0_ := Aside0.mk (below_step (by repeat (first | (with_reducible first | exact HB.out | apply below_alloc | apply pw_below_drewN | apply below_drew1) | exact HB.out)) hb); have n1_ := Aside0.mk (hbox); have n2_ := Aside0.mk ((by rw [hg]; exact (below_size (by repeat (first | (with_reducible first | exact HB.out | apply below_alloc | apply pw_below_drewN | apply below_drew1) | exact HB.out))) : w.heap.size ≤ gb235)); have n3_ := Aside0.mk ((by rw [hg]; exact (below_size (by repeat (first | (with_reducible first | exact HB.out | apply below_alloc | apply pw_below_drewN | apply below_drew1) | exact HB.out))) : w.heap.size ≤ gb235)); clear HB; have HB := n0_; have BK235 := n1_; have GW235 := n2_; have GE235 := n3_; clear n0_ n1_ n2_ n3_; clear hb hbox hg; have hcz14_0 : w13.cell? ⟨gb235, 0, none⟩ = some (.slice A0_0 l0_0.length c0_0) := (blk_cell BK235.out 0).trans rfl; have hcz14_1 : w13.cell? ⟨gb235, 1, none⟩ = some (.int .u32 a0_1) := (blk_cell BK235.out 1).trans rfl; have hfz14_0 := blk_frozen BK235.out 0; have hfz14_1 := blk_frozen BK235.out 1; have p236 : 0 ≤ (0 : Int) := (by omega); have q236 : 0 < (l0_0.length : Int) := of_decide_eq_true (by first | (with_reducible assumption) | assumption); obtain ⟨ad236, e236, hx236_0⟩ := Kd.at_int HR0_0.out 0 p236 q236; cases e236; have qi236 : (0 < l0_0.length) = True := eq_true (by omega); (try rw [show ((0 : Int)).toNat = 0 from rfl] at hx236_0); (try rw [Addr.add_zero'] at hx236_0); replace hx236_0 := (HB.out.cell (World.block_lt_of_cell? w _ hx236_0)).trans hx236_0; replace p236 := eq_true p236; replace q236 := eq_true q236; have p237 : 0 ≤ ((ji8) : Int) := of_decide_eq_true (by first | (with_reducible assumption) | assumption); have q237 : (ji8) < (l0_0.length : Int) := of_decide_eq_true (by first | (with_reducible assumption) | assumption); obtain ⟨ad237, e237, hx237_0⟩ := Kd.at_int HR0_0.out (ji8) p237 q237; obtain rfl : ad236 = ad237 := (by injection e237); replace hx237_0 := (HB.out.cell (World.block_lt_of_cell? w _ hx237_0)).trans hx237_0; replace p237 := eq_true p237; replace q237 := eq_true q237))
         go_ret
         exact ⟨by first | rfl | (simp [errW_none, errW_some] <;> rfl) | (simp only [← hji8]; first | rfl | (simp [errW_none, errW_some] <;> rfl)) | (simp [*, errW_none, errW_some] <;> rfl), by repeat (first | (with_reducible first | exact HB.out | apply below_alloc | apply pw_below_drewN | apply below_drew1 | refine below_set ?_ GE235.out) | exact HB.out)⟩
        ·rw [if_neg c12] at H
         have c12b0 : ((Go.bits .and .u32 a0_1 1) == 1) = false := beq_eq_false_iff_ne.mpr c12
         have c12b1 : ((Go.bits .and .u32 a0_1 1) != 1) = true := bne_iff_ne.mpr c12
         obtain rfl := Option.some.inj H
         go_enter Tryd.func16, Tryd.ntmps16
         go_wp2_with (first | ((with_reducible refine gate_dst (N := 1) rfl ?_); refine box_event ?hg (N := 1) ?hd (cs := #[.slice A0_0 l0_0.length c0_0, .int .u32 a0_1]) (t := 25) ?hr ?_; (case hd => rfl); (case hg => rfl); (case hr => first | (go_simp; done) | (go_simp; rfl)); intro gb235 hg w15 hbox hb; have n0_ := Aside0.mk (below_step (by repeat (first | (with_reducible first | exact HB.out | apply below_alloc | apply pw_below_drewN | apply below_drew1) | exact HB.out)) hb); have n1_ := Aside0.mk (hbox); have n2_ := Aside0.mk ((by rw [hg]; exact (below_size (by repeat (first | (with_reducible first | exact HB.out | apply below_alloc | apply pw_below_drewN | apply below_drew1) | exact HB.out))) : w.heap.size ≤ gb235)); have n3_ := Aside0.mk ((by rw [hg]; exact (below_size (by repeat (first | (with_reducible first | exact HB.out | apply below_alloc | apply pw_below_drewN | apply below_drew1) | exact HB.out))) : w.heap.size ≤ gb235)); clear HB; have HB := n0_; have BK235 := n1_; have GW235 := n2_; have GE235 := n3_; clear n0_ n1_ n2_ n3_; clear hb hbox hg; have hcz16_0 : w15.cell? ⟨gb235, 0, none⟩ = some (.slice A0_0 l0_0.length c0_0) := (blk_cell BK235.out 0).trans rfl; have hcz16_1 : w15.cell? ⟨gb235, 1, none⟩ = some (.int .u32 a0_1) := (blk_cell BK235.out 1).trans rfl; have hfz16_0 := blk_frozen BK235.out 0; have hfz16_1 := blk_frozen BK235.out 1; have p236 : 0 ≤ (0 : Int) := (by omega); have q236 : 0 < (l0_0.length : Int) := of_decide_eq_true (by first | (with_reducible assumption) | assumption); obtain ⟨ad236, e236, hx236_0⟩ := Kd.at_int HR0_0.out 0 p236 q236; cases e236; have qi236 : (0 < l0_0.length) = True := eq_true (by omega); (try rw [show ((0 : Int)).toNat = 0 from rfl] at hx236_0); (try rw [Addr.add_zero'] at hx236_0); replace hx236_0 := (HB.out.cell (World.block_lt_of_cell? w _ hx236_0)).trans hx236_0; replace p236 := eq_true p236; replace q236 := eq_true q236; have p237 : 0 ≤ ((ji8) : Int) := of_decide_eq_true (by first | (with_reducible assumption) | assumption); have q237 : (ji8) < (l0_0.length : Int) := of_decide_eq_true (by first | (with_reducible assumption) | assumption); obtain ⟨ad237, e237, hx237_0⟩ := Kd.at_int HR0_0.out (ji8) p237 q237; obtain rfl : ad236 = ad237 := (by injection e237); replace hx237_0 := (HB.out.cell (World.block_lt_of_cell? w _ hx237_0)).trans hx237_0; replace p237 := eq_true p237; replace q237 := eq_true q237))
         go_ret
         exact ⟨by first | rfl | (simp [errW_none, errW_some] <;> rfl) | (simp only [← hji8]; first | rfl | (simp [errW_none, errW_some] <;> rfl)) | (simp [*, errW_none, errW_some] <;> rfl), by repeat (first | (with_reducible first | exact HB.out | apply below_alloc | apply pw_below_drewN | apply below_drew1 | refine below_set ?_ GE235.out) | exact HB.out)⟩
       ·rw [if_neg c11] at H
        have c11b0 : ((Go.bits .and .u8 (rd l0_0 (ji8)) 1) == 1) = false := beq_eq_false_iff_ne.mpr c11
        have c11b1 : ((Go.bits .and .u8 (rd l0_0 (ji8)) 1) != 1) = true := bne_iff_ne.mpr c11
        obtain rfl := Option.some.inj H
        go_enter Tryd.func16, Tryd.ntmps16
        go_wp2_with (first | ((with_reducible refine gate_dst (N := 1) rfl ?_); refine box_event ?hg (N := 1) ?hd (cs := #[.slice A0_0 l0_0.length c0_0, .int .u32 a0_1]) (t := 25) ?hr ?_; (case hd => rfl); (case hg => rfl); (case hr => first | (go_simp; done) | (go_simp; rfl)); intro gb235 hg w17 hbox hb; have n0_ := Aside0.mk (below_step (by repeat (first | (with_reducible first | exact HB.out | apply below_alloc | apply pw_below_drewN | apply below_drew1) | exact HB.out)) hb); have n1_ := Aside0.mk (hbox); have n2_ := Aside0.mk ((by rw [hg]; exact (below_size (by repeat (first | (with_reducible first | exact HB.out | apply below_alloc | apply pw_below_drewN | apply below_drew1) | exact HB.out))) : w.heap.size ≤ gb235)); have n3_ := Aside0.mk ((by rw [hg]; exact (below_size (by repeat (first | (with_reducible first | exact HB.out | apply below_alloc | apply pw_below_drewN | apply below_drew1) | exact HB.out))) : w.heap.size ≤ gb235)); clear HB; have HB := n0_; have BK235 := n1_; have GW235 := n2_; have GE235 := n3_; clear n0_ n1_ n2_ n3_; clear hb hbox hg; have hcz18_0 : w17.cell? ⟨gb235, 0, none⟩ = some (.slice A0_0 l0_0.length c0_0) := (blk_cell BK235.out 0).trans rfl; have hcz18_1 : w17.cell? ⟨gb235, 1, none⟩ = some (.int .u32 a0_1) := (blk_cell BK235.out 1).trans rfl; have hfz18_0 := blk_frozen BK235.out 0; have hfz18_1 := blk_frozen BK235.out 1; have p236 : 0 ≤ (0 : Int) := (by omega); have q236 : 0 < (l0_0.length : Int) := of_decide_eq_true (by first | (with_reducible assumption) | assumption); obtain ⟨ad236, e236, hx236_0⟩ := Kd.at_int HR0_0.out 0 p236 q236; cases e236; have qi236 : (0 < l0_0.length) = True := eq_true (by omega); (try rw [show ((0 : Int)).toNat = 0 from rfl] at hx236_0); (try rw [Addr.add_zero'] at hx236_0); replace hx236_0 := (HB.out.cell (World.block_lt_of_cell? w _ hx236_0)).trans hx236_0; replace p236 := eq_true p236; replace q236 := eq_true q236; have p237 : 0 ≤ ((ji8) : Int) := of_decide_eq_true (by first | (with_reducible assumption) | assumption); have q237 : (ji8) < (l0_0.length : Int) := of_decide_eq_true (by first | (with_reducible assumption) | assumption); obtain ⟨ad237, e237, hx237_0⟩ := Kd.at_int HR0_0.out (ji8) p237 q237; obtain rfl : ad236 = ad237 := (by injection e237); replace hx237_0 := (HB.out.cell (World.block_lt_of_cell? w _ hx237_0)).trans hx237_0; replace p237 := eq_true p237; replace q237 := eq_true q237))
        go_ret
        exact ⟨by first | rfl | (simp [errW_none, errW_some] <;> rfl) | (simp only [← hji8]; first | rfl | (simp [errW_none, errW_some] <;> rfl)) | (simp [*, errW_none, errW_some] <;> rfl), by repeat (first | (with_reducible first | exact HB.out | apply below_alloc | apply pw_below_drewN | apply below_drew1 | refine below_set ?_ GE235.out) | exact HB.out)⟩
      ·rw [if_neg c10] at H
       exact absurd H (by simp)
     ·rw [if_neg c9] at H
      exact absurd H (by simp)
   ·rw [if_neg c4] at H
    exact absurd H (by simp)
  ·rw [if_neg c3] at H
   have c3b0 : decide ((l0_0.length : Int) ≤ 512) = false := decide_eq_false c3
   have c3b1 : decide (l0_0.length ≤ 512) = false := decide_eq_false (by omega)
   clear c3
   obtain rfl := Option.some.inj H
   go_enter Tryd.func16, Tryd.ntmps16
   go_wp2_with (first | ((with_reducible refine gate_dst (N := 1) rfl ?_); refine box_event ?hg (N := 1) ?hd (cs := #[.slice A0_0 l0_0.length c0_0, .int .u32 a0_1]) (t := 25) ?hr ?_; (case hd => rfl); (case hg => rfl); (case hr => first | (go_simp; done) | (go_simp; rfl)); intro gb235 hg w19 hbox hb; have n0_ := Aside0.mk (below_step (by repeat (first | (with_reducible first | exact HB.out | apply below_alloc | apply pw_below_drewN | apply below_drew1) | exact HB.out)) hb); have n1_ := Aside0.mk (hbox); have n2_ := Aside0.mk ((by rw [hg]; exact (below_size (by repeat (first | (with_reducible first | exact HB.out | apply below_alloc | apply pw_below_drewN | apply below_drew1) | exact HB.out))) : w.heap.size ≤ gb235)); have n3_ := Aside0.mk ((by rw [hg]; exact (below_size (by repeat (first | (with_reducible first | exact HB.out | apply below_alloc | apply pw_below_drewN | apply below_drew1) | exact HB.out))) : w.heap.size ≤ gb235)); clear HB; have HB := n0_; have BK235 := n1_; have GW235 := n2_; have GE235 := n3_; clear n0_ n1_ n2_ n3_; clear hb hbox hg; have hcz20_0 : w19.cell? ⟨gb235, 0, none⟩ = some (.slice A0_0 l0_0.length c0_0) := (blk_cell BK235.out 0).trans rfl; have hcz20_1 : w19.cell? ⟨gb235, 1, none⟩ = some (.int .u32 a0_1) := (blk_cell BK235.out 1).trans rfl; have hfz20_0 := blk_frozen BK235.out 0; have hfz20_1 := blk_frozen BK235.out 1))
   go_ret
   exact ⟨by first | rfl | (simp [errW_none, errW_some] <;> rfl) | (simp [*, errW_none, errW_some] <;> rfl), by repeat (first | (with_reducible first | exact HB.out | apply below_alloc | apply pw_below_drewN | apply below_drew1 | refine below_set ?_ GE235.out) | exact HB.out)⟩
 ·rw [if_neg c2] at H
  have c2b0 : decide (62 ≤ (l0_0.length : Int)) = false := decide_eq_false c2
  have c2b1 : decide (62 ≤ l0_0.length) = false := decide_eq_false (by omega)
  clear c2
  obtain rfl := Option.some.inj H
  go_enter Tryd.func16, Tryd.ntmps16
  go_wp2_with (first | ((with_reducible refine gate_dst (N := 1) rfl ?_); refine box_event ?hg (N := 1) ?hd (cs := #[.slice A0_0 l0_0.length c0_0, .int .u32 a0_1]) (t := 25) ?hr ?_; (case hd => rfl); (case hg => rfl); (case hr => first | (go_simp; done) | (go_simp; rfl)); intro gb235 hg w21 hbox hb; have n0_ := Aside0.mk (below_step (by repeat (first | (with_reducible first | exact HB.out | apply below_alloc | apply pw_below_drewN | apply below_drew1) | exact HB.out)) hb); have n1_ := Aside0.mk (hbox); have n2_ := Aside0.mk ((by rw [hg]; exact (below_size (by repeat (first | (with_reducible first | exact HB.out | apply below_alloc | apply pw_below_drewN | apply below_drew1) | exact HB.out))) : w.heap.size ≤ gb235)); have n3_ := Aside0.mk ((by rw [hg]; exact (below_size (by repeat (first | (with_reducible first | exact HB.out | apply below_alloc | apply pw_below_drewN | apply below_drew1) | exact HB.out))) : w.heap.size ≤ gb235)); clear HB; have HB := n0_; have BK235 := n1_; have GW235 := n2_; have GE235 := n3_; clear n0_ n1_ n2_ n3_; clear hb hbox hg; have hcz22_0 : w21.cell? ⟨gb235, 0, none⟩ = some (.slice A0_0 l0_0.length c0_0) := (blk_cell BK235.out 0).trans rfl; have hcz22_1 : w21.cell? ⟨gb235, 1, none⟩ = some (.int .u32 a0_1) := (blk_cell BK235.out 1).trans rfl; have hfz22_0 := blk_frozen BK235.out 0; have hfz22_1 := blk_frozen BK235.out 1))
  go_ret
  exact ⟨by first | rfl | (simp [errW_none, errW_some] <;> rfl) | (simp [*, errW_none, errW_some] <;> rfl), by repeat (first | (with_reducible first | exact HB.out | apply below_alloc | apply pw_below_drewN | apply below_drew1 | refine below_set ?_ GE235.out) | exact HB.out)⟩

end Go.Proofs.YtmbgjhkemlliaaaDoor.PT
end

section
set_option linter.unusedVariables false
set_option linter.unusedSimpArgs false
namespace Go.Proofs.YtmbgjhkemlliaaaDoor.Tlv
open Go.RowKit Go.Proofs.YtmbgjhkemlliaaaDoorW.PrintWords Go.Proofs.YtmbgjhkemlliaaaDoorW.PrintLast Go.Proofs.YtmbgjhkemlliaaaDoorW.PrintMore Go.Proofs.YtmbgjhkemlliaaaDoor.PT

def rightK (l : List Int) (E : Int) : Bool := (rsa_Right.f l E).getD false
theorem right_f (l : List Int) (E : Int) (hl : l.length ≤ 100000) : rsa_Right.f l E = some (rightK l E) := by
 have hw : (l.length : Int) ≥ 62 → wrap64 ((l.length : Int) - 1) = (l.length : Int) - 1 := fun h => by unfold wrap64; omega
 have : ∃ b, rsa_Right.f l E = some b := by
  unfold rsa_Right.f
  by_cases c1 : (l.length : Int) ≥ 62
  ·rw [if_pos c1, hw c1]
   by_cases c2 : (l.length : Int) ≤ 512
   ·rw [if_pos c2, if_pos (by omega)]
    by_cases c3 : rd l 0 = 0
    ·rw [if_pos c3]; exact ⟨_, rfl⟩
    ·rw [if_neg c3, if_pos (by omega), if_pos (by omega)]
     split
     ·split <;> exact ⟨_, rfl⟩
     ·exact ⟨_, rfl⟩
   ·rw [if_neg c2]; exact ⟨_, rfl⟩
  ·rw [if_neg c1]; exact ⟨_, rfl⟩
 obtain ⟨b, hb⟩ := this
 unfold rightK
 rw [hb]
 rfl
/-- A key as an element. -/
def nodeT (l : List Int) (E : Int) : T := ⟨48, [], [algT 1, bitT (ownB l E)]⟩
def NodePost (w : World) (l : List Int) (E : Int) (e : Ending) (w' : World) : Prop := ∃ (v1 v2 : Value) (n : T) (x : Int), e = .returned (.tuple #[.agg #[.int .i64 n.f0, v1, v2], .int .i64 x]) ∧ NodeR w' w.heap.size w'.heap.size n v1 v2 ∧ ((x = 0 ∧ rightK l E = true ∧ n = nodeT l E) ∨ (x = 1 ∧ rightK l E = false ∧ n = ⟨0, [], []⟩)) ∧ Below w.heap.size w w'
/-- What holds of the two variables. -/
structure NV (w W : World) (A : Option Addr) (n c : Nat) (E : Int) : Prop where
 k : W.heap[w.heap.size]? = some (.cells #[.slice A n c, .int .u32 E] 25 (0, 0))
 r : W.heap[w.heap.size + 1]? = some (.cells #[.int .i64 0, .slice none 0 0, .slice none 0 0] 28 (0, 0))
 b : Below w.heap.size w W
theorem NV.step {w W W2 : World} {A : Option Addr} {n c : Nat} {E : Int} (h : NV w W A n c E) (hB : Below W.heap.size W W2) : NV w W2 A n c E :=
 ⟨(hB.block _ (heap_lt h.k)).trans h.k, (hB.block _ (heap_lt h.r)).trans h.r, h.b.trans (hB.mono h.b.size)⟩
theorem NV.new (w : World) (A : Option Addr) (n c : Nat) (E : Int) : NV w ((w.alloc (.cells #[.slice A n c, .int .u32 E] 25)).alloc (.cells #[.int .i64 0, .slice none 0 0, .slice none 0 0] 28)) A n c E := by
 refine ⟨(Below.heap_alloc _ _ _ (by simp)).trans (heap_alloc_new w _), ?_, ((Below.refl _ _).alloc (Nat.le_refl _) _).alloc (by simp) _⟩
 have := heap_alloc_new (w.alloc (.cells #[.slice A n c, .int .u32 E] 25)) (.cells #[.int .i64 0, .slice none 0 0, .slice none 0 0] 28)
 simpa using this
theorem node_end {w w5 : World} {A : Option Addr} {n c : Nat} {E : Int} {l : List Int} {m1 m2 : Nat} {M2 : Option Addr} {m2c : Nat} {W1 : Option Addr} {e1 : Nat} {W2 : Option Addr} {e2 : Nat} (hV5 : NV w w5 A n c E) (hb1 : w.heap.size + 2 ≤ m1) (hb2 : w.heap.size + 2 ≤ m2) (h1 : NodeR w5 m1 w5.heap.size (algT 1) (.slice none 0 0) (.slice M2 2 m2c)) (h2 : NodeR w5 m2 w5.heap.size (bitT (ownB l E)) (.slice W1 ((ownB l E).length + 1) e1) (.slice W2 0 e2)) (ob : Obj) (hob : ob = .cells #[.int .i64 48, .slice none 0 0, .slice M2 2 m2c, .int .i64 3, .slice W1 ((ownB l E).length + 1) e1, .slice W2 0 e2] 28 (0, 0)) (hob2 : (ownB l E).length ≤ 100000) :
 NV w (w5.alloc ob) A n c E ∧ ∀ W, W = (((w5.alloc ob).setCell ⟨w.heap.size + 1, 0, none⟩ (.int .i64 48)).setCell ⟨w.heap.size + 1, 1, none⟩ (.slice none 0 0)).setCell ⟨w.heap.size + 1, 2, none⟩ (.slice (some ⟨w5.heap.size, 0, none⟩) 2 2) →
  W.heap[w.heap.size]? = some (.cells #[.slice A n c, .int .u32 E] 25 (0, 0)) ∧ W.heap[w.heap.size + 1]? = some (.cells #[.int .i64 48, .slice none 0 0, .slice (some ⟨w5.heap.size, 0, none⟩) 2 2] 28 (0, 0)) ∧ NodeR W w.heap.size W.heap.size (nodeT l E) (.slice none 0 0) (.slice (some ⟨w5.heap.size, 0, none⟩) 2 2) ∧ Below w.heap.size w W := by
 have hBB : Below w5.heap.size w5 (w5.alloc ob) := (Below.refl _ _).alloc (Nat.le_refl _) _
 have h6 : (w5.alloc ob).heap[w5.heap.size]? = some ob := heap_alloc_new w5 _
 have hV6 := hV5.step hBB
 have hs6 : (w5.alloc ob).heap.size = w5.heap.size + 1 := by simp
 have hlt5 : w.heap.size + 1 < w5.heap.size := heap_lt hV5.r
 refine ⟨hV6, fun W hW => ?_⟩
 have hmv : ∀ k, k ≠ w.heap.size + 1 → W.heap[k]? = (w5.alloc ob).heap[k]? := fun k hk => by
  rw [hW]
  exact (heap_setCell_other _ _ _ _ hk).trans ((heap_setCell_other _ _ _ _ hk).trans (heap_setCell_other _ _ _ _ hk))
 have hsW : W.heap.size = w5.heap.size + 1 := by rw [hW]; simp
 have hr : W.heap[w.heap.size + 1]? = some (.cells #[.int .i64 48, .slice none 0 0, .slice (some ⟨w5.heap.size, 0, none⟩) 2 2] 28 (0, 0)) := by
  rw [hW]
  exact heap_setCell_same _ _ 2 _ _ _ (heap_setCell_same _ _ 1 _ _ _ (heap_setCell_same _ _ 0 _ _ _ hV6.r))
 have hBW : Below w.heap.size w W := by
  rw [hW]
  exact Below.setCell (Below.setCell (Below.setCell hV6.b (p := ⟨w.heap.size + 1, 0, none⟩) (by show w.heap.size ≤ w.heap.size + 1; omega) _) (p := ⟨w.heap.size + 1, 1, none⟩) (by show w.heap.size ≤ w.heap.size + 1; omega) _) (p := ⟨w.heap.size + 1, 2, none⟩) (by show w.heap.size ≤ w.heap.size + 1; omega) _
 have g1 : NodeR W w.heap.size w5.heap.size (algT 1) (.slice none 0 0) (.slice M2 2 m2c) := NodeR.widen (NodeR.move h1 (fun k hk1 hk2 => (hmv k (by omega)).trans (Below.heap_alloc w5 ob k hk2))) (by omega) (Nat.le_refl _)
 have g2 : NodeR W w.heap.size w5.heap.size (bitT (ownB l E)) (.slice W1 ((ownB l E).length + 1) e1) (.slice W2 0 e2) := NodeR.widen (NodeR.move h2 (fun k hk1 hk2 => (hmv k (by omega)).trans (Below.heap_alloc w5 ob k hk2))) (by omega) (Nat.le_refl _)
 refine ⟨(hmv _ (by omega)).trans hV6.k, hr, ⟨Kd.R_nil _ _ _ _ _, ?_⟩, hBW⟩
 exact R_row (l := [algT 1, bitT (ownB l E)]) (cs := [.int .i64 48, .slice none 0 0, .slice M2 2 m2c, .int .i64 3, .slice W1 ((ownB l E).length + 1) e1, .slice W2 0 e2]) ((hmv _ (by omega)).trans (by rw [h6, hob])) (by omega) (by omega) (Reps_two g1 g2 (Nat.le_refl _) (by omega)) (by simp)
theorem ownB_len (l : List Int) (E : Int) : (ownB l E).length ≤ 20000 := by
 unfold ownB writeP
 split
 ·simp [resW]
 ·split
  ·simp [resW]
  ·split
   ·simp [resW]
   ·have := size_enc (ownT l E)
    simp only [resW]
    omega

set_option maxHeartbeats 4000000 in
set_option maxRecDepth 100000 in
theorem node_walk (l : List Int) (E : Int) (hl : l.length ≤ 100000) (hv : ∀ x ∈ l, 0 ≤ x ∧ x < 256) (h0 : 0 ≤ E) (h1 : E < 4294967296) (A : Option Addr) (c : Nat) (w : World) (hr : (Kd.int .u8).C w A l.length l) (hc : l.length ≤ c) :
 Calls Tryd.prog 8 #[.agg #[.slice A l.length c, .int .u32 E]] w (NodePost w l E) := by
 have hnot : ∀ (x : Bool) (w : World), (Op.unary .not (.bool x)).run Tryd.prog w = .ok (.bool (!x)) w := fun _ _ => rfl
 have hV := NV.new w A l.length c E
 have HR := Lib.hid (fun w1 (hB : Below w.heap.size w w1) => Kd.C_below hr hB)
 have HRIGHT := Lib.hid (rsa_Right.calls A c l E (rightK l E) _ (Kd.C_below hr hV.b) hc (right_f l E (by omega)))
 have HOWN := Lib.hid (fun w1 (hB : Below w.heap.size w w1) => own_walk l E hl hv h0 h1 A c w1 (Kd.C_below hr hB) hc)
 generalize hPP : NodePost w l E = PP
 have HPP := Lib.hid hPP
 have HV := Lib.hid hV
 have k0 := Lib.cell_of_heap hV.k 0
 have k1 := Lib.cell_of_heap hV.k 1
 clear hPP hV hr hc hv hl
 go_enter Tryd.func8, Tryd.ntmps8
 go_wp2_with (fail)
 refine HRIGHT.out.mono ?_
 rintro e w2 ⟨rfl, hB2⟩
 have hV2 := HV.out.step hB2
 have HV2 := Lib.hid hV2
 have q0 := Lib.cell_of_heap hV2.k 0
 have q1 := Lib.cell_of_heap hV2.k 1
 have r0 := Lib.cell_of_heap hV2.r 0
 have r1 := Lib.cell_of_heap hV2.r 1
 have r2 := Lib.cell_of_heap hV2.r 2
 have f0 := Lib.frozen_of_heap hV2.r 0
 have f1 := Lib.frozen_of_heap hV2.r 1
 have f2 := Lib.frozen_of_heap hV2.r 2
 have hsz2 : w.heap.size + 2 ≤ w2.heap.size := heap_lt hV2.r
 clear hB2 hV2 k0 k1 HV HRIGHT
 cases hrk : rightK l E with
 | false =>
  have HK := Lib.hid hrk
  clear hrk
  go_wp2
  have hF := And.intro (heap_setCell_same _ (w.heap.size + 1) 2 _ _ (.slice none 0 0) (heap_setCell_same _ (w.heap.size + 1) 1 _ _ (.slice none 0 0) (heap_setCell_same _ (w.heap.size + 1) 0 _ _ (.int .i64 0) HV2.out.r))) (Below.setCell (Below.setCell (Below.setCell HV2.out.b (p := ⟨w.heap.size + 1, 0, none⟩) (by show w.heap.size ≤ w.heap.size + 1; omega) (.int .i64 0)) (p := ⟨w.heap.size + 1, 1, none⟩) (by show w.heap.size ≤ w.heap.size + 1; omega) (.slice none 0 0)) (p := ⟨w.heap.size + 1, 2, none⟩) (by show w.heap.size ≤ w.heap.size + 1; omega) (.slice none 0 0))
  generalize ((w2.setCell ⟨w.heap.size + 1, 0, none⟩ (.int .i64 0)).setCell ⟨w.heap.size + 1, 1, none⟩ (.slice none 0 0)).setCell ⟨w.heap.size + 1, 2, none⟩ (.slice none 0 0) = WF at hF ⊢
  obtain ⟨hz, hB⟩ := hF
  have z0 := Lib.cell_of_heap hz 0
  have z1 := Lib.cell_of_heap hz 1
  have z2 := Lib.cell_of_heap hz 2
  refine bodyPost_ret (v := .tuple #[.agg #[.int .i64 0, .slice none 0 0, .slice none 0 0], .int .i64 1]) (by simp at z0 z1 z2; simp [results, Tryd.results8, go_sem, z0, z1, z2]) rfl ?_
  have hPP := HPP.out
  subst hPP
  exact ⟨_, _, ⟨0, [], []⟩, 1, rfl, NodeR.nilnil _ _ _ _, .inr ⟨rfl, HK.out, rfl⟩, hB⟩
 | true =>
  have HK := Lib.hid hrk
  clear hrk
  go_wp2
  have hV2 := HV2.out.step (W2 := w2.drew) (Below.refl _ _).drew
  have HD2 : Hid (Below w2.heap.size w2 w2.drew) := Lib.hid (Below.refl _ _).drew
  have hsd : w2.drew.heap.size = w2.heap.size := rfl
  have HH := Lib.hid (And.intro (Lib.cell_of_heap hV2.k 0) (Lib.cell_of_heap hV2.k 1))
  have HVD := Lib.hid hV2
  clear hV2 q0 q1
  refine start_ (n := 8) (S := fun w' => w'.cell? ⟨w.heap.size, 0, none⟩ = some (.slice A l.length c) ∧ w'.cell? ⟨w.heap.size, 1, none⟩ = some (.int .u32 E)) (ds := []) #[false, false, false, false, false, false, false, false] (by kernel_rfl) rfl rfl HH.out (fun hHeld => ?_)
  refine take_ (i := 1) (N := some 9) (v := ?_) (a' := ?_) #[false, true, false, false, false, false, false, false] rfl rfl (by kernel_rfl) (fun _ _ _ h => h) (Or.inl ⟨by rfl, ?_⟩) hHeld ?_ ?_
  rotate_left
  ·rintro w' ⟨s0, s1⟩
   go_simp
   with_reducible rfl
  rotate_left
  ·simp only [Act.put, List.setIfInBounds_toArray, List.set_cons_zero, List.set_cons_succ, i64_w, i32_w]
   rfl
  refine one_ (i := 0) (N := some 8) #[true, true, false, false, false, false, false, false] rfl rfl (by kernel_rfl) (by decide) (fun K hK => ?_)
  refine goes_ Tryd.func17 (by kernel_rfl) rfl #[.int .u32 1] (by rfl) rfl rfl (by (try simp only [List.map_toArray, List.map_cons, List.map_nil]); first | done | rfl) ?_
  refine (made_walk0 1 oid_f1 _).mono ?_
  rintro e w3 ⟨v2, rfl, hn3, hb3⟩
  refine ⟨_, rfl, ?_⟩
  obtain ⟨M2, m2c, rfl⟩ := Kd.R_slice hn3.k
  have HN3 := Lib.hid hn3
  have HV3 := Lib.hid (HVD.out.step hb3)
  have HS3 := Lib.hid hb3.size
  clear hn3 hb3
  refine hK.out _ _ (And.intro (Lib.cell_of_heap HV3.out.k 0) (Lib.cell_of_heap HV3.out.k 1)) (fun hHeld => ?_)
  clear hK K
  refine norm_ (a' := ?_) ?_ ?_
  rotate_left
  ·show Act.put _ (some 8) _ = _
   simp only [Act.put, List.setIfInBounds_toArray, List.set_cons_zero, List.set_cons_succ, i64_w, i32_w]
   rfl
  refine one_ (i := 2) (N := some 10) #[true, true, true, false, false, false, false, false] rfl rfl (by kernel_rfl) (by decide) (fun K hK => ?_)
  refine goes_ Tryd.func19 (by kernel_rfl) rfl #[.agg #[.slice A l.length c, .int .u32 E]] (by rfl) rfl rfl (by (try simp only [List.map_toArray, List.map_cons, List.map_nil]); first | done | rfl) ?_
  refine (HOWN.out w3 HV3.out.b).mono ?_
  rintro e w4 ⟨O, ob, oc, rfl, hob, ho4, hb4⟩
  refine ⟨_, rfl, ?_⟩
  have HV4 := Lib.hid (HV3.out.step hb4)
  have HN4 := Lib.hid (HN3.out.below hb4)
  have HO4 := Lib.hid (And.intro hob (And.intro ho4 hb4.size))
  clear hob ho4 hb4
  refine hK.out _ _ (And.intro (Lib.cell_of_heap HV4.out.k 0) (Lib.cell_of_heap HV4.out.k 1)) (fun hHeld => ?_)
  clear hK K
  refine norm_ (a' := ?_) ?_ ?_
  rotate_left
  ·show Act.put _ (some 10) _ = _
   simp only [Act.put, List.setIfInBounds_toArray, List.set_cons_zero, List.set_cons_succ, i64_w, i32_w]
   rfl
  refine one_ (i := 3) (N := some 11) #[true, true, true, true, false, false, false, false] rfl rfl (by kernel_rfl) (by decide) (fun K hK => ?_)
  refine goes_ Tryd.func18 (by kernel_rfl) rfl #[.slice O ob.length oc] (by rfl) rfl rfl (by (try simp only [List.map_toArray, List.map_cons, List.map_nil]); first | done | rfl) ?_
  obtain ⟨hob, ho4, hsz4⟩ := HO4.out
  subst hob
  have hln := ownB_len l E
  obtain ⟨_, _, f1', g1, k1'⟩ := Kd.R_reads ho4
  injection f1' with f1' _ f2'
  subst f1' f2'
  refine (spki_whole.calls O oc (ownB l E) 3 (0 :: ownB l E) [] w4 k1' g1 (whole_f _ (by omega))).mono ?_
  rintro e w5 ⟨v1, v2, rfl, hv1, hv2, hb5⟩
  refine ⟨_, rfl, ?_⟩
  have hm5 := NodeR.of (n := bitT (ownB l E)) hv1 hv2
  obtain ⟨W1, e1, rfl⟩ := Kd.R_slice hv1
  obtain ⟨W2, e2, rfl⟩ := Kd.R_slice hv2
  have HE := Lib.hid (node_end (l := l) (HV4.out.step hb5) (by omega) (by have := HS3.out; omega) (NodeR.widen (HN4.out.below (hb5.mono hsz4)) (Nat.le_refl _) (Nat.le_trans hsz4 hb5.size)) hm5 _ rfl (by omega))
  have HV5 := Lib.hid (HV4.out.step hb5)
  clear hv1 hv2 hb5 hm5 hln k1' g1 ho4 hsz4
  refine hK.out _ _ (And.intro (Lib.cell_of_heap HV5.out.k 0) (Lib.cell_of_heap HV5.out.k 1)) (fun hHeld => ?_)
  clear hK K
  refine norm_ (a' := ?_) ?_ ?_
  rotate_left
  ·show Act.put _ (some 11) _ = _
   simp only [Act.put, List.setIfInBounds_toArray, List.set_cons_zero, List.set_cons_succ, i64_w, i32_w]
   rfl
  refine one_ (i := 4) (N := some 12) #[true, true, true, true, true, false, false, false] rfl rfl (by kernel_rfl) (by decide) (fun K hK => ?_)
  refine event_step (by rfl) (v := .slice (some ⟨w5.heap.size, 0, none⟩) 2 2) (w1 := w5.alloc (.cells #[.int .i64 48, .slice none 0 0, .slice M2 2 m2c, .int .i64 3, .slice W1 ((ownB l E).length + 1) e1, .slice W2 0 e2] 28)) (by go_simp; try rfl) ?_
  have HV6 := Lib.hid HE.out.1
  refine hK.out _ _ (And.intro (Lib.cell_of_heap HV6.out.k 0) (Lib.cell_of_heap HV6.out.k 1)) (fun hHeld => ?_)
  clear hK K
  refine norm_ (a' := ?_) ?_ ?_
  rotate_left
  ·show Act.put _ (some 12) _ = _
   simp only [Act.put, List.setIfInBounds_toArray, List.set_cons_zero, List.set_cons_succ, i64_w, i32_w]
   rfl
  refine pure_ (i := 5) (N := some 13) (v := ?_) (a' := ?_) #[true, true, true, true, true, true, false, false] rfl rfl (by kernel_rfl) (fun _ _ _ h => h) (Or.inl ⟨by rfl, ?_⟩) ?_ ?_
  rotate_left
  ·intro w'
   go_simp
   with_reducible rfl
  rotate_left
  ·simp only [Act.put, List.setIfInBounds_toArray, List.set_cons_zero, List.set_cons_succ, i64_w, i32_w]
   rfl
  refine one_ (i := 6) (N := none) #[true, true, true, true, true, true, true, false] rfl rfl (by kernel_rfl) (by decide) (fun K hK => ?_)
  have u0 := Lib.cell_of_heap HV6.out.r 0
  have u1 := Lib.cell_of_heap HV6.out.r 1
  have u2 := Lib.cell_of_heap HV6.out.r 2
  have g0 := Lib.frozen_of_heap HV6.out.r 0
  have g1 := Lib.frozen_of_heap HV6.out.r 1
  have g2 := Lib.frozen_of_heap HV6.out.r 2
  refine skip_step (by rfl) (w1 := (((w5.alloc (.cells #[.int .i64 48, .slice none 0 0, .slice M2 2 m2c, .int .i64 3, .slice W1 ((ownB l E).length + 1) e1, .slice W2 0 e2] 28)).setCell ⟨w.heap.size + 1, 0, none⟩ (.int .i64 48)).setCell ⟨w.heap.size + 1, 1, none⟩ (.slice none 0 0)).setCell ⟨w.heap.size + 1, 2, none⟩ (.slice (some ⟨w5.heap.size, 0, none⟩) 2 2)) (by go_simp; try rfl) ?_
  have HZ := Lib.hid (HE.out.2 _ rfl)
  clear u0 u1 u2 g0 g1 g2
  refine hK.out _ _ (And.intro (Lib.cell_of_heap HZ.out.1 0) (Lib.cell_of_heap HZ.out.1 1)) (fun hHeld => ?_)
  clear hK K
  refine pure_ (i := 7) (N := some 3) (v := ?_) (a' := ?_) #[true, true, true, true, true, true, true, true] rfl rfl (by kernel_rfl) (fun _ _ _ h => h) (Or.inl ⟨by rfl, ?_⟩) ?_ ?_
  rotate_left
  ·intro w'
   go_simp
   with_reducible rfl
  rotate_left
  ·simp only [Act.put, List.setIfInBounds_toArray, List.set_cons_zero, List.set_cons_succ, i64_w, i32_w]
   rfl
  refine done_ (by kernel_rfl) ?_
  go_wp2
  have hz := HZ.out
  generalize (((w5.alloc (.cells #[.int .i64 48, .slice none 0 0, .slice M2 2 m2c, .int .i64 3, .slice W1 ((ownB l E).length + 1) e1, .slice W2 0 e2] 28)).setCell ⟨w.heap.size + 1, 0, none⟩ (.int .i64 48)).setCell ⟨w.heap.size + 1, 1, none⟩ (.slice none 0 0)).setCell ⟨w.heap.size + 1, 2, none⟩ (.slice (some ⟨w5.heap.size, 0, none⟩) 2 2) = WF at hz ⊢
  obtain ⟨_, hzr, hzN, hzB⟩ := hz
  have z0 := Lib.cell_of_heap hzr 0
  have z1 := Lib.cell_of_heap hzr 1
  have z2 := Lib.cell_of_heap hzr 2
  refine bodyPost_ret (v := .tuple #[.agg #[.int .i64 48, .slice none 0 0, .slice (some ⟨w5.heap.size, 0, none⟩) 2 2], .int .i64 0]) (by simp at z0 z1 z2; simp [results, Tryd.results8, go_sem, z0, z1, z2]) rfl ?_
  have hPP := HPP.out
  subst hPP
  exact ⟨_, _, nodeT l E, 0, rfl, hzN, .inl ⟨rfl, HK.out, rfl⟩, hzB⟩

/-- What Node gives, in one form. -/
def NodeUni (w : World) (l : List Int) (E : Int) (e : Ending) (w' : World) : Prop := ∃ (X1 : Option Addr) (x1 : Nat) (X2 : Option Addr) (x2 : Nat) (n : T) (x : Int), e = .returned (.tuple #[.agg #[.int .i64 n.f0, .slice X1 n.f1.length x1, .slice X2 n.f2.length x2], .int .i64 x]) ∧ NodeAt w' n X1 x1 X2 x2 ∧ ((x = 0 ∧ rightK l E = true ∧ n = nodeT l E) ∨ (x = 1 ∧ rightK l E = false ∧ n = ⟨0, [], []⟩)) ∧ Below w.heap.size w w'
theorem NodePost.uni {w : World} {l : List Int} {E : Int} {e : Ending} {w' : World} (h : NodePost w l E e w') : NodeUni w l E e w' := by
 obtain ⟨v1, v2, n, x, rfl, hR, hc, hB⟩ := h
 obtain ⟨X1, x1, X2, x2, rfl, rfl, hn⟩ := hR.form
 exact ⟨X1, x1, X2, x2, n, x, rfl, hn, hc, hB⟩

end Go.Proofs.YtmbgjhkemlliaaaDoor.Tlv
end

section
set_option linter.unusedVariables false
set_option linter.unusedSimpArgs false
namespace Go.Proofs.YtmbgjhkemlliaaaDoor.Tlv
open Go.RowKit Go.Proofs.YtmbgjhkemlliaaaDoorW.PrintWords Go.Proofs.YtmbgjhkemlliaaaDoorW.PrintLast Go.Proofs.YtmbgjhkemlliaaaDoorW.PrintMore Go.Proofs.YtmbgjhkemlliaaaDoor.PT

set_option maxHeartbeats 4000000 in
set_option maxRecDepth 100000 in
theorem of_none (n : T) (h0 : n.f1 = []) (A1 : Option Addr) (c1 : Nat) (A2 : Option Addr) (c2 : Nat) (w : World) :
 Calls Tryd.prog 23 #[.agg #[.int .i64 n.f0, .slice A1 n.f1.length c1, .slice A2 n.f2.length c2]] w fun e w' => e = .returned (.tuple #[.slice none 0 0, .int .i64 0, .int .i64 2]) ∧ Below w.heap.size w w' := by
 have hl : n.f1.length = 0 := by rw [h0]; rfl
 rw [hl]
 have hB := Lib.hid (show Below w.heap.size w (w.alloc (.cells #[.int .i64 n.f0, .slice A1 0 c1, .slice A2 n.f2.length c2] 28)) from (Below.refl _ _).alloc (Nat.le_refl _) _)
 go_enter Tryd.func23, Tryd.ntmps23
 go_wp2
 go_ret3
 exact ⟨rfl, hB.out⟩

set_option maxHeartbeats 4000000 in
set_option maxRecDepth 100000 in
theorem of_walk (n : T) (h : Int) (t : List Int) (h1 : n.f1 = h :: t) (hh : 0 ≤ h ∧ h < 256) (ht : t.length ≤ 1000000) (r : T) (r4 : Int) (hf : scalar_Bits.f t (wrap64 (wrap64 (8 * (t.length : Int)) - h)) = some (r.f0, r.f1, r.f2, r4))
 (A1 : Option Addr) (c1 : Nat) (A2 : Option Addr) (c2 : Nat) (w : World) (hn : NodeAt w n A1 c1 A2 c2) :
 Calls Tryd.prog 23 #[.agg #[.int .i64 n.f0, .slice A1 n.f1.length c1, .slice A2 n.f2.length c2]] w fun e w' =>
  ((¬ (r4 = 0 ∧ sameB r n = true) ∧ e = .returned (.tuple #[.slice none 0 0, .int .i64 0, .int .i64 2])) ∨ (r4 = 0 ∧ sameB r n = true ∧ ∃ A c, e = .returned (.tuple #[.slice A t.length c, .int .i64 (wrap64 (wrap64 (8 * (t.length : Int)) - h)), .int .i64 0]) ∧ (Kd.int .u8).R 5 w' w.heap.size (fun _ => True) (.slice A t.length c) t)) ∧ Below w.heap.size w w' := by
 have hr1 : ReadsInt w .u8 A1 n.f1.length n.f1 := reads_of_C hn.1
 have hlen : n.f1.length = t.length + 1 := by rw [h1]; rfl
 have hc1 := hn.2.1
 obtain ⟨i0, hi, hz0, hz1, hz2⟩ := info_parts infoByte
 obtain ⟨T1, hcut, hcr, hcc⟩ := print_cut_int (P := Tryd.prog) (k := .u8) 22 5 Tryd.underlying22 hi hz1 A1 c1 n.f1 (1 : Int) (by omega) (by omega) hc1
 have hd1 : n.f1.drop (Int.toNat 1) = t := by rw [h1]; rfl
 rw [hd1] at hcut hcr hcc
 obtain ⟨ad, e1, hx⟩ := hr1.2.2 (by omega)
 subst e1
 have hx0 : w.cell? ad = some (.int .u8 h) := by
  have := hx 0 (by omega)
  rw [h1, show ad.add 0 = ad by cases ad; simp [Addr.add]] at this
  simpa using this
 have HN := Lib.hid hn
 have HB1 := Lib.hid (show Below w.heap.size w (w.alloc (.cells #[.int .i64 n.f0, .slice (some ad) (t.length + 1) c1, .slice A2 n.f2.length c2] 28)) from (Below.refl _ _).alloc (Nat.le_refl _) _)
 have HBX := Lib.hid (show (w.alloc (.cells #[.int .i64 n.f0, .slice (some ad) (t.length + 1) c1, .slice A2 n.f2.length c2] 28)).heap[w.heap.size]? = some (.cells #[.int .i64 n.f0, .slice (some ad) (t.length + 1) c1, .slice A2 n.f2.length c2] 28 (0, 0)) from heap_alloc_new w _)
 have HCL := Lib.hid (fun w1 (hB : Below w.heap.size w w1) => clone_walk T1 (c1 - 1) t w1 (ReadsInt_below (hcr w hr1) hB) (by simpa using hcc) ht)
 have HX0 := Lib.hid hx0
 have HF := Lib.hid hf
 have HH := Lib.hid hh
 have HT := Lib.hid ht
 clear hcr hcc hd1 hx hx0 hr1 hn hf hi hz0 hz1 hz2 h1 hh ht
 rw [hlen] at hcut hc1 ⊢
 have h4 : ∀ (w3 : World) (A' : Option Addr) (c' : Nat), (Kd.int .u8).R 5 w3 (w.alloc (.cells #[.int .i64 n.f0, .slice (some ad) (t.length + 1) c1, .slice A2 n.f2.length c2] 28)).heap.size (fun _ => True) (.slice A' t.length c') t →
  Below (w.alloc (.cells #[.int .i64 n.f0, .slice (some ad) (t.length + 1) c1, .slice A2 n.f2.length c2] 28)).heap.size (w.alloc (.cells #[.int .i64 n.f0, .slice (some ad) (t.length + 1) c1, .slice A2 n.f2.length c2] 28)) w3 → ∀ w4 : World, w4 = (w3.alloc (.cells #[.slice A' t.length c'] 22)).drew →
  (w4.cell? ⟨w3.heap.size, 0, none⟩ = some (.slice A' t.length c') ∧ w4.cell? ⟨w.heap.size, 1, none⟩ = some (.slice (some ad) (t.length + 1) c1) ∧ w4.cell? ad = some (.int .u8 h)) ∧
  ((w4.alloc (.cells #[.int .i64 0] 3)).cell? ⟨w3.heap.size, 0, none⟩ = some (.slice A' t.length c') ∧ (w4.alloc (.cells #[.int .i64 0] 3)).cell? ⟨w.heap.size, 1, none⟩ = some (.slice (some ad) (t.length + 1) c1) ∧ (w4.alloc (.cells #[.int .i64 0] 3)).cell? ad = some (.int .u8 h)) ∧
  (w4.alloc (.cells #[.int .i64 0] 3)).cell? ⟨w4.heap.size, 0, none⟩ = some (.int .i64 0) ∧ (w4.alloc (.cells #[.int .i64 0] 3)).frozen? ⟨w4.heap.size, 0, none⟩ = false ∧
  w4.heap.size = w3.heap.size + 1 ∧
  (∀ many : Int, ∀ w5 : World, w5 = (w4.alloc (.cells #[.int .i64 0] 3)).setCell ⟨w4.heap.size, 0, none⟩ (.int .i64 many) →
   w5.heap[w3.heap.size]? = some (.cells #[.slice A' t.length c'] 22 (0, 0)) ∧ w5.heap[w4.heap.size]? = some (.cells #[.int .i64 many] 3 (0, 0)) ∧ w5.heap[w.heap.size]? = some (.cells #[.int .i64 n.f0, .slice (some ad) (t.length + 1) c1, .slice A2 n.f2.length c2] 28 (0, 0)) ∧ Below w.heap.size w w5 ∧
   (Kd.int .u8).R 5 w5 w.heap.size (fun k => k < w3.heap.size) (.slice A' t.length c') t ∧ t.length ≤ c' ∧ ReadsInt w5 .u8 A' t.length t) := by
  intro w3 A' c' hv3 hB3 w4 hw4
  have hbx := HBX.out
  have hB1 := HB1.out
  generalize (w.alloc (.cells #[.int .i64 n.f0, .slice (some ad) (t.length + 1) c1, .slice A2 n.f2.length c2] 28)) = w2 at hv3 hB3 hbx hB1
  have hb3 := (hB3.block _ (heap_lt hbx)).trans hbx
  have hBw3 : Below w.heap.size w w3 := hB1.trans (hB3.mono hB1.size)
  have hal : Below w3.heap.size w3 (w3.alloc (.cells #[.slice A' t.length c'] 22)).drew := ((Below.refl _ _).alloc (Nat.le_refl _) _).drew
  have hs4 : w4.heap.size = w3.heap.size + 1 := by rw [hw4]; show (w3.alloc _).heap.size = _; simp
  have hp4 : w4.heap[w3.heap.size]? = some (.cells #[.slice A' t.length c'] 22 (0, 0)) := by rw [hw4]; exact heap_alloc_new w3 _
  rw [← hw4] at hal
  have hb4 := (hal.block _ (heap_lt hb3)).trans hb3
  have hBw4 : Below w.heap.size w w4 := hBw3.trans (hal.mono hBw3.size)
  have hx4 : w4.cell? ad = some (.int .u8 h) := (hBw4.cell (World.block_lt_of_cell? w _ HX0.out)).trans HX0.out
  have hal2 : Below w4.heap.size w4 (w4.alloc (.cells #[.int .i64 0] 3)) := (Below.refl _ _).alloc (Nat.le_refl _) _
  have hq5 : (w4.alloc (.cells #[.int .i64 0] 3)).heap[w4.heap.size]? = some (.cells #[.int .i64 0] 3 (0, 0)) := heap_alloc_new w4 _
  have hp5 := (hal2.block _ (heap_lt hp4)).trans hp4
  have hb5 := (hal2.block _ (heap_lt hb4)).trans hb4
  have hx5 : (w4.alloc (.cells #[.int .i64 0] 3)).cell? ad = some (.int .u8 h) := (hal2.cell (World.block_lt_of_cell? w4 _ hx4)).trans hx4
  refine ⟨⟨Lib.cell_of_heap hp4 0, Lib.cell_of_heap hb4 1, hx4⟩, ⟨Lib.cell_of_heap hp5 0, Lib.cell_of_heap hb5 1, hx5⟩, Lib.cell_of_heap hq5 0, Lib.frozen_of_heap hq5 0, hs4, ?_⟩
  intro many w5 hw5
  subst hw5
  have hR4 := Kd.R_below (Kd.R_mono (Kd.R_bound hv3) (fun k hk => show k < w3.heap.size from hk.2.2.1)) hal
  have hR5 := Kd.R_below hR4 hal2
  have hR6 := Kd.R_far (p := ⟨w4.heap.size, 0, none⟩) hR5 (fun k hk => by show k ≠ w4.heap.size; omega) (.int .i64 many)
  have hR7 := Kd.R_lower hR6 hB1.size
  obtain ⟨_, _, e1, hc', hrd⟩ := Kd.R_reads hR7
  injection e1 with e1 _ e1'
  subst e1 e1'
  have hBw5 := hBw4.trans (hal2.mono hBw4.size)
  refine ⟨(heap_setCell_other _ _ _ _ (by show w3.heap.size ≠ w4.heap.size; omega)).trans hp5, heap_setCell_same _ _ 0 _ _ _ hq5, (heap_setCell_other _ _ _ _ (by show w.heap.size ≠ w4.heap.size; have := heap_lt hb3; omega)).trans hb5, Below.setCell hBw5 (p := ⟨w4.heap.size, 0, none⟩) hBw4.size _, hR7, hc', reads_of_C hrd⟩
 have HH4 := Lib.hid h4
 clear h4
 go_enter Tryd.func23, Tryd.ntmps23
 go_wp2_with (fail)
 refine (HCL.out _ HB1.out).mono ?_
 rintro e w3 ⟨A', c', rfl, hv3, hB3⟩
 have H3 := Lib.hid (HH4.out w3 A' c' hv3 hB3)
 have HW3 := Lib.hid (Nat.le_trans HB1.out.size hB3.size)
 clear HH4 hv3 hB3 HCL
 go_wp2
 have h4 := H3.out _ rfl
 have a0 := h4.1.1
 have a1 := h4.1.2.1
 have a2 := h4.1.2.2
 have H4 := Lib.hid h4.2
 clear h4 H3
 have hwh : wrap64 h = h := wrap64_in _ (by have := HH.out; omega)
 refine start_ (n := 11) (S := fun w' => w'.cell? ⟨w3.heap.size, 0, none⟩ = some (.slice A' t.length c') ∧ w'.cell? ⟨w.heap.size, 1, none⟩ = some (.slice (some ad) (t.length + 1) c1) ∧ w'.cell? ad = some (.int .u8 h)) (ds := [10]) #[false, false, false, false, false, false, false, false, false, false, false] (by kernel_rfl) rfl rfl ⟨a0, a1, a2⟩ (fun hHeld => ?_)
 generalize (w3.alloc (.cells #[.slice A' t.length c'] 22)).drew = w4 at hHeld H4 ⊢
 clear a0 a1 a2
 refine pure_ (i := 3) (N := some 19) (v := ?_) (a' := ?_) #[false, false, false, true, false, false, false, false, false, false, false] rfl rfl (by kernel_rfl) (fun _ _ _ h => h) (Or.inl ⟨by rfl, ?_⟩) ?_ ?_
 rotate_left
 ·intro w'
  go_simp
  with_reducible rfl
 rotate_left
 ·simp only [Act.put, List.setIfInBounds_toArray, List.set_cons_zero, List.set_cons_succ, i64_w, i32_w]
  rfl
 refine take_ (i := 0) (N := some 16) (v := ?_) (a' := ?_) #[true, false, false, true, false, false, false, false, false, false, false] rfl rfl (by kernel_rfl) (fun _ _ _ h => h) (Or.inl ⟨by rfl, ?_⟩) hHeld ?_ ?_
 rotate_left
 ·rintro w' ⟨s0, s1, s2⟩
  go_simp
  with_reducible rfl
 rotate_left
 ·simp only [Act.put, List.setIfInBounds_toArray, List.set_cons_zero, List.set_cons_succ, i64_w, i32_w]
  rfl
 refine pure_ (i := 1) (N := some 17) (v := ?_) (a' := ?_) #[true, true, false, true, false, false, false, false, false, false, false] rfl rfl (by kernel_rfl) (fun _ _ _ h => h) (Or.inl ⟨by rfl, ?_⟩) ?_ ?_
 rotate_left
 ·intro w'
  go_simp
  with_reducible rfl
 rotate_left
 ·simp only [Act.put, List.setIfInBounds_toArray, List.set_cons_zero, List.set_cons_succ, i64_w, i32_w]
  rfl
 refine pure_ (i := 2) (N := some 18) (v := ?_) (a' := ?_) #[true, true, true, true, false, false, false, false, false, false, false] rfl rfl (by kernel_rfl) (fun _ _ _ h => h) (Or.inl ⟨by rfl, ?_⟩) ?_ ?_
 rotate_left
 ·intro w'
  go_simp
  with_reducible rfl
 rotate_left
 ·simp only [Act.put, List.setIfInBounds_toArray, List.set_cons_zero, List.set_cons_succ, i64_w, i32_w]
  rfl
 refine take_ (i := 4) (N := some 20) (v := ?_) (a' := ?_) #[true, true, true, true, true, false, false, false, false, false, false] rfl rfl (by kernel_rfl) (fun _ _ _ h => h) (Or.inl ⟨by rfl, ?_⟩) hHeld ?_ ?_
 rotate_left
 ·rintro w' ⟨s0, s1, s2⟩
  go_simp
  with_reducible rfl
 rotate_left
 ·simp only [Act.put, List.setIfInBounds_toArray, List.set_cons_zero, List.set_cons_succ, i64_w, i32_w]
  rfl
 refine pure_ (i := 5) (N := some 21) (v := ?_) (a' := ?_) #[true, true, true, true, true, true, false, false, false, false, false] rfl rfl (by kernel_rfl) (fun _ _ _ h => h) (Or.inl ⟨by rfl, ?_⟩) ?_ ?_
 rotate_left
 ·intro w'
  go_simp
  with_reducible rfl
 rotate_left
 ·simp only [Act.put, List.setIfInBounds_toArray, List.set_cons_zero, List.set_cons_succ, i64_w, i32_w]
  rfl
 refine take_ (i := 6) (N := some 22) (v := ?_) (a' := ?_) #[true, true, true, true, true, true, true, false, false, false, false] rfl rfl (by kernel_rfl) (fun _ _ _ h => h) (Or.inl ⟨by rfl, ?_⟩) hHeld ?_ ?_
 rotate_left
 ·rintro w' ⟨s0, s1, s2⟩
  go_simp
  with_reducible rfl
 rotate_left
 ·simp only [Act.put, List.setIfInBounds_toArray, List.set_cons_zero, List.set_cons_succ, i64_w, i32_w]
  rfl
 refine pure_ (i := 7) (N := some 23) (v := ?_) (a' := ?_) #[true, true, true, true, true, true, true, true, false, false, false] rfl rfl (by kernel_rfl) (fun _ _ _ h => h) (Or.inl ⟨by rfl, ?_⟩) ?_ ?_
 rotate_left
 ·intro w'
  go_simp
  with_reducible rfl
 rotate_left
 ·simp only [Act.put, List.setIfInBounds_toArray, List.set_cons_zero, List.set_cons_succ, i64_w, i32_w]
  rfl
 refine pure_ (i := 8) (N := some 24) (v := ?_) (a' := ?_) #[true, true, true, true, true, true, true, true, true, false, false] rfl rfl (by kernel_rfl) (fun _ _ _ h => h) (Or.inl ⟨by rfl, ?_⟩) ?_ ?_
 rotate_left
 ·intro w'
  go_simp
  with_reducible rfl
 rotate_left
 ·simp only [Act.put, List.setIfInBounds_toArray, List.set_cons_zero, List.set_cons_succ, i64_w, i32_w]
  rfl
 refine one_ (i := 9) (N := some 6) #[true, true, true, true, true, true, true, true, true, true, false] rfl rfl (by kernel_rfl) (by decide) (fun K hK => ?_)
 refine event_step (by rfl) (v := .pointer (some ⟨w4.heap.size, 0, none⟩)) (w1 := w4.alloc (.cells #[.int .i64 0] 3)) (by go_simp; try rfl) ?_
 refine hK.out _ _ H4.out.1 (fun hHeld => ?_)
 clear hK K
 refine norm_ (a' := ?_) ?_ ?_
 rotate_left
 ·show Act.put _ (some 6) _ = _
  simp only [Act.put, List.setIfInBounds_toArray, List.set_cons_zero, List.set_cons_succ, i64_w, i32_w]
  rfl
 refine last_ (i := 10) (N := none) #[true, true, true, true, true, true, true, true, true, true, true] rfl rfl (by kernel_rfl) (by decide) (fun K hK => ?_)
 have hz1 := H4.out.2.1
 have hz2 := H4.out.2.2.1
 refine skip_step (by rfl) (w1 := (w4.alloc (.cells #[.int .i64 0] 3)).setCell ⟨w4.heap.size, 0, none⟩ (.int .i64 (wrap64 (wrap64 (8 * (t.length : Int)) - h)))) (by go_simp; try rfl) ?_
 refine hK.out _ _ ?_
 clear hK K
 refine done_ (by kernel_rfl) ?_
 have h5 := H4.out.2.2.2.2 (wrap64 (wrap64 (8 * (t.length : Int)) - h)) _ rfl
 have HS4 := Lib.hid H4.out.2.2.2.1
 clear H4
 generalize (w4.alloc (.cells #[.int .i64 0] 3)).setCell ⟨w4.heap.size, 0, none⟩ (.int .i64 (wrap64 (wrap64 (8 * (t.length : Int)) - h))) = w5 at h5 ⊢
 have a0 := Lib.cell_of_heap h5.1 0
 have b0 := Lib.cell_of_heap h5.2.2.1 0
 have b1 := Lib.cell_of_heap h5.2.2.1 1
 have b2 := Lib.cell_of_heap h5.2.2.1 2
 have HJ := Lib.hid (just_walk A' t c' n (some ad) c1 A2 c2 w3.heap.size w4.heap.size w5 (HN.out.below h5.2.2.2.1) A' c' t _ r r4 _ _ h5.1 h5.2.1 h5.2.2.2.2.2.2 h5.2.2.2.2.2.1 HF.out)
 rw [hlen] at HJ
 have H5 := Lib.hid h5
 clear h5
 go_wp2_with (fail)
 refine HJ.out.mono ?_
 rintro e w6 ⟨rfl, hB6⟩
 clear HJ a0 b0 b1 b2
 have hp6 := (hB6.block _ (heap_lt H5.out.1)).trans H5.out.1
 have hq6 := (hB6.block _ (heap_lt H5.out.2.1)).trans H5.out.2.1
 have hR6 := Kd.R_below H5.out.2.2.2.2.1 hB6
 have hBw6 := H5.out.2.2.2.1.trans (hB6.mono H5.out.2.2.2.1.size)
 have hne : w4.heap.size ≠ w3.heap.size := by have := HS4.out; omega
 have hw3 : w.heap.size ≤ w3.heap.size := HW3.out
 have hR7 : ∀ u, (Kd.int .u8).R 5 (w6.setCell ⟨w3.heap.size, 0, none⟩ u) w.heap.size (fun k => k < w3.heap.size) (.slice A' t.length c') t := fun u => Kd.R_far (p := ⟨w3.heap.size, 0, none⟩) hR6 (fun k hk => by show k ≠ w3.heap.size; omega) u
 have hB7 : ∀ u, Below w.heap.size w (w6.setCell ⟨w3.heap.size, 0, none⟩ u) := fun u => Below.setCell hBw6 (p := ⟨w3.heap.size, 0, none⟩) hw3 u
 have hp7 : ∀ u, (w6.setCell ⟨w3.heap.size, 0, none⟩ u).drew.heap[w3.heap.size]? = some (.cells #[u] 22 (0, 0)) := fun u => by show (w6.setCell ⟨w3.heap.size, 0, none⟩ u).heap[w3.heap.size]? = _; exact heap_setCell_same _ _ 0 _ _ _ hp6
 have hq7 : ∀ u, (w6.setCell ⟨w3.heap.size, 0, none⟩ u).drew.heap[w4.heap.size]? = some (.cells #[.int .i64 (wrap64 (wrap64 (8 * (t.length : Int)) - h))] 3 (0, 0)) := fun u => by show (w6.setCell ⟨w3.heap.size, 0, none⟩ u).heap[w4.heap.size]? = _; exact (heap_setCell_other _ _ _ _ (by show w4.heap.size ≠ w3.heap.size; omega)).trans hq6
 have x0 := Lib.cell_of_heap hp6 0
 have fx0 := Lib.frozen_of_heap hp6 0
 have HR7 := Lib.hid hR7
 have HB7 := Lib.hid hB7
 have HP7 := Lib.hid hp7
 have HQ7 := Lib.hid hq7
 clear hR7 hB7 hp7 hq7 hp6 hq6 hR6 hBw6 hB6
 by_cases hgood : r4 = 0 ∧ sameB r n = true
 ·rw [if_pos hgood]
  have HG := Lib.hid hgood
  clear hgood
  go_wp2
  have a0 : (w6.setCell ⟨w3.heap.size, 0, none⟩ (.slice A' t.length c')).drew.cell? ⟨w3.heap.size, 0, none⟩ = some (.slice A' t.length c') := Lib.cell_of_heap (HP7.out _) 0
  have a1 : (w6.setCell ⟨w3.heap.size, 0, none⟩ (.slice A' t.length c')).drew.cell? ⟨w4.heap.size, 0, none⟩ = some (.int .i64 (wrap64 (wrap64 (8 * (t.length : Int)) - h))) := Lib.cell_of_heap (HQ7.out _) 0
  refine start_ (n := 5) (S := fun w' => w'.cell? ⟨w3.heap.size, 0, none⟩ = some (.slice A' t.length c') ∧ w'.cell? ⟨w4.heap.size, 0, none⟩ = some (.int .i64 (wrap64 (wrap64 (8 * (t.length : Int)) - h)))) (ds := []) #[false, false, false, false, false] (by kernel_rfl) rfl rfl ⟨a0, a1⟩ (fun hHeld => ?_)
  refine take_ (i := 0) (N := some 35) (v := ?_) (a' := ?_) #[true, false, false, false, false] rfl rfl (by kernel_rfl) (fun _ _ _ h => h) (Or.inl ⟨by rfl, ?_⟩) hHeld ?_ ?_
  rotate_left
  ·rintro w' ⟨s0, s1⟩
   go_simp
   with_reducible rfl
  rotate_left
  ·simp only [Act.put, List.setIfInBounds_toArray, List.set_cons_zero, List.set_cons_succ, i64_w, i32_w]
   rfl
  refine take_ (i := 1) (N := some 36) (v := ?_) (a' := ?_) #[true, true, false, false, false] rfl rfl (by kernel_rfl) (fun _ _ _ h => h) (Or.inl ⟨by rfl, ?_⟩) hHeld ?_ ?_
  rotate_left
  ·rintro w' ⟨s0, s1⟩
   go_simp
   with_reducible rfl
  rotate_left
  ·simp only [Act.put, List.setIfInBounds_toArray, List.set_cons_zero, List.set_cons_succ, i64_w, i32_w]
   rfl
  refine pure_ (i := 2) (N := some 2) (v := ?_) (a' := ?_) #[true, true, true, false, false] rfl rfl (by kernel_rfl) (fun _ _ _ h => h) (Or.inl ⟨by rfl, ?_⟩) ?_ ?_
  rotate_left
  ·intro w'
   go_simp
   with_reducible rfl
  rotate_left
  ·simp only [Act.put, List.setIfInBounds_toArray, List.set_cons_zero, List.set_cons_succ, i64_w, i32_w]
   rfl
  refine pure_ (i := 3) (N := some 3) (v := ?_) (a' := ?_) #[true, true, true, true, false] rfl rfl (by kernel_rfl) (fun _ _ _ h => h) (Or.inl ⟨by rfl, ?_⟩) ?_ ?_
  rotate_left
  ·intro w'
   go_simp
   with_reducible rfl
  rotate_left
  ·simp only [Act.put, List.setIfInBounds_toArray, List.set_cons_zero, List.set_cons_succ, i64_w, i32_w]
   rfl
  refine pure_ (i := 4) (N := some 4) (v := ?_) (a' := ?_) #[true, true, true, true, true] rfl rfl (by kernel_rfl) (fun _ _ _ h => h) (Or.inl ⟨by rfl, ?_⟩) ?_ ?_
  rotate_left
  ·intro w'
   go_simp
   with_reducible rfl
  rotate_left
  ·simp only [Act.put, List.setIfInBounds_toArray, List.set_cons_zero, List.set_cons_succ, i64_w, i32_w]
   rfl
  refine done_ (by kernel_rfl) ?_
  go_wp2
  go_ret3
  exact ⟨.inr ⟨HG.out.1, HG.out.2, A', c', rfl, Kd.R_mono (Kd.R_drew (HR7.out _)) (fun _ _ => trivial)⟩, (HB7.out _).drew⟩
 ·rw [if_neg hgood]
  have HG := Lib.hid hgood
  clear hgood
  go_wp2
  go_ret3
  exact ⟨.inl ⟨HG.out, rfl⟩, HB7.out _⟩

end Go.Proofs.YtmbgjhkemlliaaaDoor.Tlv
end

section
set_option linter.unusedVariables false
set_option linter.unusedSimpArgs false
namespace Go.Proofs.YtmbgjhkemlliaaaDoor.Tlv
open Go.RowKit Go.Proofs.YtmbgjhkemlliaaaDoorW.PrintWords Go.Proofs.YtmbgjhkemlliaaaDoorW.PrintLast Go.Proofs.YtmbgjhkemlliaaaDoorW.PrintMore Go.Proofs.YtmbgjhkemlliaaaDoor.PT

theorem must2_yes (w : World) : Calls Tryd.prog 22 #[.int .i64 0, .bool true] w fun e w' => e = .returned (.tuple #[]) ∧ w' = w := by
 have hnot : ∀ (x : Bool) (w : World), (Op.unary .not (.bool x)).run Tryd.prog w = .ok (.bool (!x)) w := fun _ _ => rfl
 go_enter Tryd.func22, Tryd.ntmps22
 go_wp2
 go_end0
 exact ⟨rfl, rfl⟩
theorem must2_no (f : Int) (b : Bool) (h : f ≠ 0 ∨ b = false) (w : World) : Calls Tryd.prog 22 #[.int .i64 f, .bool b] w fun e' w' => e' = gone 2 ∧ w' = w := by
 have hnot : ∀ (x : Bool) (w : World), (Op.unary .not (.bool x)).run Tryd.prog w = .ok (.bool (!x)) w := fun _ _ => rfl
 by_cases hf : f = 0
 ·subst hf
  have hb : b = false := by simpa using h
  subst hb
  go_enter Tryd.func22, Tryd.ntmps22
  go_wp2
  exact ⟨rfl, rfl, rfl⟩
 ·have h1 := eq_false hf
  have h2 : decide (f = 0) = false := decide_eq_false hf
  clear h hf
  go_enter Tryd.func22, Tryd.ntmps22
  go_wp2
  exact ⟨rfl, rfl, rfl⟩

theorem bits_some (t : List Int) (h : Int) (hh : 0 ≤ h ∧ h < 256) (ht : t.length ≤ 1000000) : ∃ (r : T) (r4 : Int), scalar_Bits.f t (wrap64 (wrap64 (8 * (t.length : Int)) - h)) = some (r.f0, r.f1, r.f2, r4) := by
 have e1 : wrap64 (8 * (t.length : Int)) = 8 * (t.length : Int) := by unfold wrap64; omega
 have e2 : wrap64 (8 * (t.length : Int) - h) = 8 * (t.length : Int) - h := by unfold wrap64; omega
 have e3 : wrap64 (8 * (t.length : Int) - (8 * (t.length : Int) - h)) = h := by unfold wrap64; omega
 have e4 : wrap64 ((t.length : Int) - 1) = (t.length : Int) - 1 := by unfold wrap64; omega
 rw [e1, e2]
 unfold scalar_Bits.f
 rw [e1, e3, e4]
 by_cases c1 : 8 * (t.length : Int) - h < 0
 ·rw [if_pos c1]; exact ⟨⟨_, _, _⟩, _, rfl⟩
 ·rw [if_neg c1, if_neg (by omega)]
  by_cases c2 : h > 7
  ·rw [if_pos c2]; exact ⟨⟨_, _, _⟩, _, rfl⟩
  ·rw [if_neg c2]
   have c5 : ∀ y : Int, ([y] : List Int).length + t.length < 140737488355328 := fun y => by simp; omega
   by_cases c3 : h > 0
   ·rw [if_pos c3, if_pos (by omega), if_pos (by omega), if_pos (by omega), Option.bind_some, if_pos (c5 _)]
    split
    ·exact ⟨⟨_, _, _⟩, _, rfl⟩
    ·exact ⟨⟨_, _, _⟩, _, rfl⟩
   ·rw [if_neg c3, Option.bind_some, if_pos (c5 _)]; exact ⟨⟨_, _, _⟩, _, rfl⟩
theorem bits_zero (t : List Int) (ht : t.length ≤ 1000000) : scalar_Bits.f t (wrap64 (wrap64 (8 * (t.length : Int)) - 0)) = some (3, 0 :: t, [], 0) := by
 have e1 : wrap64 (8 * (t.length : Int)) = 8 * (t.length : Int) := by unfold wrap64; omega
 have e2 : wrap64 (8 * (t.length : Int) - 0) = 8 * (t.length : Int) := by unfold wrap64; omega
 have e3 : wrap64 (8 * (t.length : Int) - 8 * (t.length : Int)) = 0 := by unfold wrap64; omega
 rw [e1, e2]
 unfold scalar_Bits.f
 rw [e1, e3, if_neg (by omega), if_neg (by omega), if_neg (by omega), if_neg (by omega)]
 have e4 : ([(0 : Int) % 256] : List Int).length + t.length < 140737488355328 := by simp; omega
 rw [Option.bind_some, if_pos e4]
 rfl
/-- A bit string of whole bytes: its bytes. -/
def sigP (n : T) : Option (List Int) := match n.f1 with
 | [] => none
 | h :: t => if h = 0 ∧ n.f0 = 3 ∧ n.f2 = [] then some t else none
def openSig (x : T) : Option (T × List Int) := match x.f2 with
 | [a, b, c] => if x.f0 = 48 ∧ sameP b (algT 11) = true then (match sigP c with | some t => some (a, t) | none => none) else none
 | _ => none

theorem sig_walk (c : T) (hv : ∀ v ∈ c.f1, 0 ≤ v ∧ v < 256) (hl : c.f1.length ≤ 1000000) (A1 : Option Addr) (c1 : Nat) (A2 : Option Addr) (c2 : Nat) (w : World) (hn : NodeAt w c A1 c1 A2 c2) :
 Calls Tryd.prog 23 #[.agg #[.int .i64 c.f0, .slice A1 c.f1.length c1, .slice A2 c.f2.length c2]] w fun e w' => (∃ A l cc m f, e = .returned (.tuple #[.slice A l cc, .int .i64 m, .int .i64 f]) ∧
  ((f ≠ 0 ∧ sigP c = none) ∨ (f = 0 ∧ m ≠ wrap64 (8 * (l : Int)) ∧ sigP c = none) ∨ (f = 0 ∧ m = wrap64 (8 * (l : Int)) ∧ ∃ t, sigP c = some t ∧ l = t.length ∧ (Kd.int .u8).R 5 w' w.heap.size (fun _ => True) (.slice A t.length cc) t))) ∧ Below w.heap.size w w' := by
 cases hc : c.f1 with
 | nil =>
  have hx := of_none c hc A1 c1 A2 c2 w
  rw [hc] at hx
  refine hx.mono ?_
  rintro e w' ⟨rfl, hB⟩
  exact ⟨⟨none, 0, 0, 0, 2, rfl, .inl ⟨by decide, by unfold sigP; rw [hc]⟩⟩, hB⟩
 | cons h t =>
  have hh := hv h (by rw [hc]; exact List.mem_cons_self)
  have ht : t.length ≤ 1000000 := by rw [hc, List.length_cons] at hl; omega
  obtain ⟨r, r4, hf⟩ := bits_some t h hh ht
  have hx := of_walk c h t hc hh ht r r4 hf A1 c1 A2 c2 w hn
  rw [hc] at hx
  refine hx.mono ?_
  rintro e w' ⟨hq, hB⟩
  refine ⟨?_, hB⟩
  rcases hq with ⟨hng, rfl⟩ | ⟨h4, hs, A, cc, rfl, hR⟩
  ·refine ⟨none, 0, 0, 0, 2, rfl, .inl ⟨by decide, ?_⟩⟩
   unfold sigP
   rw [hc]
   by_cases hz : h = 0 ∧ c.f0 = 3 ∧ c.f2 = []
   ·exfalso
    obtain ⟨rfl, z1, z2⟩ := hz
    rw [bits_zero t ht] at hf
    simp only [Option.some.injEq, Prod.mk.injEq] at hf
    obtain ⟨q1, q2, q3, q4⟩ := hf
    refine hng ⟨q4.symm, ?_⟩
    unfold sameB
    rw [← q1, ← q2, ← q3, z1, z2, hc, eqB_rfl]
    simp [wrap64]
   ·simp only []
    rw [if_neg hz]
  ·have e1 : wrap64 (8 * (t.length : Int)) = 8 * (t.length : Int) := by unfold wrap64; omega
   have e2 : wrap64 (8 * (t.length : Int) - h) = 8 * (t.length : Int) - h := by unfold wrap64; omega
   refine ⟨A, t.length, cc, _, 0, rfl, .inr ?_⟩
   by_cases h0 : h = 0
   ·subst h0
    refine .inr ⟨rfl, by rw [e1, e2]; omega, t, ?_, rfl, hR⟩
    rw [bits_zero t ht] at hf
    simp only [Option.some.injEq, Prod.mk.injEq] at hf
    obtain ⟨q1, q2, q3, q4⟩ := hf
    unfold sameB at hs
    rw [Bool.and_eq_true, Bool.and_eq_true] at hs
    have z1 : c.f0 = 3 := by have := of_decide_eq_true hs.1; rw [← this, ← q1]
    have z2 : c.f2 = [] := by
     have h5 := eq_of_beq hs.2.2
     rw [← q3] at h5
     have hm := Kd.C_max hn.2.2.1
     have h6 : wrap64 (((([] : List T).length : Nat) : Int) + (c.f2.length : Int)) = c.f2.length := by simp; unfold wrap64; omega
     rw [h6] at h5
     exact List.length_eq_zero_iff.1 (by omega)
    unfold sigP
    rw [hc]
    simp only []
    rw [if_pos ⟨trivial, z1, z2⟩]
   ·refine .inl ⟨rfl, by rw [e1, e2]; omega, ?_⟩
    unfold sigP
    rw [hc]
    simp only []
    rw [if_neg (fun hz => h0 hz.1)]

/-- What Open's closure does: x is what was read, in block p; the signature goes into block q. -/
def Open1Post (w : World) (x : T) (q : Nat) (e : Ending) (w' : World) : Prop := match openSig x with
 | none => e = gone 2 ∧ Below w.heap.size w w'
 | some (_, t) => e = .returned (.tuple #[]) ∧ ∃ w6 A c, Below w.heap.size w w6 ∧ w' = w6.setCell ⟨q, 0, none⟩ (.slice A t.length c) ∧ (Kd.int .u8).R 5 w6 w.heap.size (fun _ => True) (.slice A t.length c) t

theorem size_alg11 : sizeT (algT 11) ≤ 100000000 := by
 have e : sizeT (algT 11) = 15 := by decide
 omega

theorem open1_chain {w w3 : World} {p : Nat} {b0 : Value} {X1 : Value} {ad : Addr} {x2 : Nat} {tp : TypeId} {y : T} {Y1 : Option Addr} {y1 : Nat} {Y2 : Option Addr} {y2 : Nat} {M1 : Option Addr} {m1 : Nat} {M2 : Option Addr} {m2 : Nat} (hp : w.heap[p]? = some (.cells #[b0, X1, .slice (some ad) 3 x2] tp (0, 0)))
 (u0 : w.cell? ⟨ad.block, ad.off + 3, none⟩ = some (.int .i64 y.f0)) (u1 : w.cell? ⟨ad.block, ad.off + 3 + 1, none⟩ = some (.slice Y1 y.f1.length y1)) (u2 : w.cell? ⟨ad.block, ad.off + 3 + 2, none⟩ = some (.slice Y2 y.f2.length y2))
 (hny : NodeAt w y Y1 y1 Y2 y2) (hy : rightT y = true → sizeT y ≤ 100000000) (hm : NodeAt w3 (algT 11) M1 m1 M2 m2) (hB3' : Below w.drew.heap.size w.drew w3) :
 (w3.cell? ⟨p, 2, none⟩ = some (.slice (some ad) 3 x2) ∧ w3.cell? ⟨ad.block, ad.off + 3, none⟩ = some (.int .i64 y.f0) ∧ w3.cell? ⟨ad.block, ad.off + 3 + 1, none⟩ = some (.slice Y1 y.f1.length y1) ∧ w3.cell? ⟨ad.block, ad.off + 3 + 2, none⟩ = some (.slice Y2 y.f2.length y2)) ∧
 Calls Tryd.prog 27 #[.agg #[.int .i64 y.f0, .slice Y1 y.f1.length y1, .slice Y2 y.f2.length y2], .agg #[.int .i64 48, .slice M1 0 m1, .slice M2 2 m2]] w3 (fun e w4 => e = .returned (.bool (sameP y (algT 11))) ∧ Below w3.heap.size w3 w4) ∧
 (∀ w4, Below w3.heap.size w3 w4 → (w4.cell? ⟨p, 2, none⟩ = some (.slice (some ad) 3 x2) ∧ w4.cell? ⟨ad.block, ad.off + 3, none⟩ = some (.int .i64 y.f0) ∧ w4.cell? ⟨ad.block, ad.off + 3 + 1, none⟩ = some (.slice Y1 y.f1.length y1) ∧ w4.cell? ⟨ad.block, ad.off + 3 + 2, none⟩ = some (.slice Y2 y.f2.length y2)) ∧ Below w.heap.size w w4) := by
 have hB3 : Below w.heap.size w w3 := (show Below w.heap.size w w.drew from (Below.refl _ _).drew).trans hB3'
 have hall : ∀ w4, Below w.heap.size w w4 → (w4.cell? ⟨p, 2, none⟩ = some (.slice (some ad) 3 x2) ∧ w4.cell? ⟨ad.block, ad.off + 3, none⟩ = some (.int .i64 y.f0) ∧ w4.cell? ⟨ad.block, ad.off + 3 + 1, none⟩ = some (.slice Y1 y.f1.length y1) ∧ w4.cell? ⟨ad.block, ad.off + 3 + 2, none⟩ = some (.slice Y2 y.f2.length y2)) := fun w4 hB =>
  ⟨Lib.cell_of_heap ((hB.block _ (heap_lt hp)).trans hp) 2, (hB.cell (World.block_lt_of_cell? w _ u0)).trans u0, (hB.cell (World.block_lt_of_cell? w _ u1)).trans u1, (hB.cell (World.block_lt_of_cell? w _ u2)).trans u2⟩
 refine ⟨hall w3 hB3, same_walk y (algT 11) hy (fun _ => size_alg11) Y1 y1 Y2 y2 M1 m1 M2 m2 w3 (hny.below hB3) hm, fun w4 hB4 => ?_⟩
 have hB := hB3.trans (hB4.mono hB3.size)
 exact ⟨hall w4 hB, hB⟩

set_option maxHeartbeats 4000000 in
set_option maxRecDepth 100000 in
theorem open1_tag (x : T) (p q : Nat) (w : World) (X1 : Option Addr) (x1 : Nat) (X2 : Option Addr) (x2 : Nat) (tp : TypeId) (hp : w.heap[p]? = some (.cells #[.int .i64 x.f0, .slice X1 x.f1.length x1, .slice X2 x.f2.length x2] tp (0, 0))) (h : x.f0 ≠ 48 ∨ x.f2.length ≠ 3) :
 Calls Tryd.prog 29 #[.pointer (some ⟨p, 0, none⟩), .pointer (some ⟨q, 0, none⟩)] w fun e w' => e = gone 2 ∧ Below w.heap.size w w' := by
 have a0 := Lib.cell_of_heap hp 0
 have a2 := Lib.cell_of_heap hp 2
 by_cases h0 : x.f0 = 48
 ·have hl : x.f2.length ≠ 3 := by rcases h with h | h; exact absurd h0 h; exact h
  have hl1 : ((x.f2.length : Int) == 3) = false := beq_eq_false_iff_ne.2 (by omega)
  rw [h0] at a0
  clear h hl h0 hp
  go_enter Tryd.func29, Tryd.ntmps29
  go_wp2_with (fail)
  refine (must2_no 0 false (.inr rfl) _).mono ?_
  rintro e w2 ⟨rfl, rfl⟩
  exact ⟨rfl, rfl, Below.refl _ _⟩
 ·have h1 := eq_false h0
  have h2 : decide (x.f0 = 48) = false := decide_eq_false h0
  clear h h0 hp
  go_enter Tryd.func29, Tryd.ntmps29
  go_wp2_with (fail)
  refine (must2_no 0 false (.inr rfl) _).mono ?_
  rintro e w2 ⟨rfl, rfl⟩
  exact ⟨rfl, rfl, Below.refl _ _⟩

set_option maxHeartbeats 4000000 in
set_option maxRecDepth 100000 in
theorem open1_three (a y z : T) (body : List Int) (p q : Nat) (w : World) (X1 : Option Addr) (x1 : Nat) (X2 : Option Addr) (x2 : Nat) (tp tq : TypeId) (s0 : Value) (hp : w.heap[p]? = some (.cells #[.int .i64 48, .slice X1 body.length x1, .slice X2 3 x2] tp (0, 0))) (hq : w.heap[q]? = some (.cells #[s0] tq (0, 0)))
 (hk : k28.C w X2 3 [a, y, z]) (hy : rightT y = true → sizeT y ≤ 100000000) (hv : ∀ v ∈ z.f1, 0 ≤ v ∧ v < 256) (hl : z.f1.length ≤ 1000000) :
 Calls Tryd.prog 29 #[.pointer (some ⟨p, 0, none⟩), .pointer (some ⟨q, 0, none⟩)] w (Open1Post w ⟨48, body, [a, y, z]⟩ q) := by
 obtain ⟨ad, Y1, y1, Y2, y2, rfl, u0, u1, u2, l1, i1, l2, i2⟩ := at_T28 hk 1 (by omega) (by omega)
 obtain ⟨ad', Z1, z1, Z2, z2, e', v0, v1, v2, m1, j1, m2, j2⟩ := at_T28 hk 2 (by omega) (by omega)
 injection e' with e'
 subst e'
 have hry : rd_T28 [a, y, z] 1 = y := rfl
 have hrz : rd_T28 [a, y, z] 2 = z := rfl
 rw [hry] at u0 u1 u2 l1 i1 l2 i2
 rw [hrz] at v0 v1 v2 m1 j1 m2 j2
 have hny : NodeAt w y Y1 y1 Y2 y2 := ⟨i1, l1, i2, l2⟩
 have hnz : NodeAt w z Z1 z1 Z2 z2 := ⟨j1, m1, j2, m2⟩
 have t1 : Int.toNat 1 = 1 := rfl
 have t2 : Int.toNat 2 = 2 := rfl
 rw [t1] at u0 u1 u2
 rw [t2] at v0 v1 v2
 replace u0 : w.cell? ⟨ad.block, ad.off + 3, none⟩ = some (.int .i64 y.f0) := u0
 replace u1 : w.cell? ⟨ad.block, ad.off + 3 + 1, none⟩ = some (.slice Y1 y.f1.length y1) := u1
 replace u2 : w.cell? ⟨ad.block, ad.off + 3 + 2, none⟩ = some (.slice Y2 y.f2.length y2) := u2
 replace v0 : w.cell? ⟨ad.block, ad.off + 6, none⟩ = some (.int .i64 z.f0) := v0
 replace v1 : w.cell? ⟨ad.block, ad.off + 6 + 1, none⟩ = some (.slice Z1 z.f1.length z1) := v1
 replace v2 : w.cell? ⟨ad.block, ad.off + 6 + 2, none⟩ = some (.slice Z2 z.f2.length z2) := v2
 have a0 := Lib.cell_of_heap hp 0
 have a2 := Lib.cell_of_heap hp 2
 have z0' : (w.heap[p]? = some (.cells #[.int .i64 48, .slice X1 body.length x1, .slice (some ad) 3 x2] tp (0, 0))) := hp
 have HP := Lib.hid hp
 have HQ := Lib.hid hq
 have HNZ := Lib.hid hnz
 have HV := Lib.hid (And.intro v0 (And.intro v1 v2))
 have HZ := Lib.hid (And.intro hv hl)
 have HR1 := Lib.hid (fun (w3 : World) (M1 : Option Addr) (m1 : Nat) (M2 : Option Addr) (m2 : Nat) (hm : NodeAt w3 (algT 11) M1 m1 M2 m2) (hB3 : Below w.drew.heap.size w.drew w3) =>
  open1_chain (w := w) hp u0 u1 u2 hny hy hm hB3)
 have b0 : w.drew.cell? ⟨p, 2, none⟩ = some (.slice (some ad) 3 x2) := a2
 have b1 : w.drew.cell? ⟨ad.block, ad.off + 3, none⟩ = some (.int .i64 y.f0) := u0
 have b2 : w.drew.cell? ⟨ad.block, ad.off + 3 + 1, none⟩ = some (.slice Y1 y.f1.length y1) := u1
 have b3 : w.drew.cell? ⟨ad.block, ad.off + 3 + 2, none⟩ = some (.slice Y2 y.f2.length y2) := u2
 generalize hPP : Open1Post w ⟨48, body, [a, y, z]⟩ q = PP
 clear hk hy hv hl i1 i2 j1 j2 l1 l2 m1 m2 hny hnz hp hq z0' u0 u1 u2 v0 v1 v2 hry hrz t1 t2
 cases hsm : sameP y (algT 11) with
 | false =>
  have hp : PP = fun e w' => e = gone 2 ∧ Below w.heap.size w w' := by
   rw [← hPP]; funext e w'; unfold Open1Post openSig; simp only []; rw [if_neg (by rw [hsm]; simp)]
  clear hPP
  subst hp
  rw [hsm] at HR1
  clear hsm
  go_enter Tryd.func29, Tryd.ntmps29
  go_wp2_with (fail)
  refine (must2_yes _).mono ?_
  rintro e w2 ⟨rfl, rfl⟩
  go_wp2
  refine start_ (n := 7) (S := fun w' => w'.cell? ⟨p, 2, none⟩ = some (.slice (some ad) 3 x2) ∧ w'.cell? ⟨ad.block, ad.off + 3, none⟩ = some (.int .i64 y.f0) ∧ w'.cell? ⟨ad.block, ad.off + 3 + 1, none⟩ = some (.slice Y1 y.f1.length y1) ∧ w'.cell? ⟨ad.block, ad.off + 3 + 2, none⟩ = some (.slice Y2 y.f2.length y2)) (ds := []) #[false, false, false, false, false, false, false] (by kernel_rfl) rfl rfl ⟨b0, b1, b2, b3⟩ (fun hHeld => ?_)
  refine pure_ (i := 0) (N := some 15) (v := ?_) (a' := ?_) #[true, false, false, false, false, false, false] rfl rfl (by kernel_rfl) (fun _ _ _ h => h) (Or.inl ⟨by rfl, ?_⟩) ?_ ?_
  rotate_left
  ·intro w'
   go_simp
   with_reducible rfl
  rotate_left
  ·simp only [Act.put, List.setIfInBounds_toArray, List.set_cons_zero, List.set_cons_succ, i64_w, i32_w]
   rfl
  refine take_ (i := 1) (N := some 16) (v := ?_) (a' := ?_) #[true, true, false, false, false, false, false] rfl rfl (by kernel_rfl) (fun _ _ _ h => h) (Or.inl ⟨by rfl, ?_⟩) hHeld ?_ ?_
  rotate_left
  ·rintro w' ⟨s0, s1, s2, s3⟩
   go_simp
   with_reducible rfl
  rotate_left
  ·simp only [Act.put, List.setIfInBounds_toArray, List.set_cons_zero, List.set_cons_succ, i64_w, i32_w]
   rfl
  refine pure_ (i := 2) (N := some 17) (v := ?_) (a' := ?_) #[true, true, true, false, false, false, false] rfl rfl (by kernel_rfl) (fun _ _ _ h => h) (Or.inl ⟨by rfl, ?_⟩) ?_ ?_
  rotate_left
  ·intro w'
   go_simp
   with_reducible rfl
  rotate_left
  ·simp only [Act.put, List.setIfInBounds_toArray, List.set_cons_zero, List.set_cons_succ, i64_w, i32_w]
   rfl
  refine take_ (i := 3) (N := some 18) (v := ?_) (a' := ?_) #[true, true, true, true, false, false, false] rfl rfl (by kernel_rfl) (fun _ _ _ h => h) (Or.inl ⟨by rfl, ?_⟩) hHeld ?_ ?_
  rotate_left
  ·rintro w' ⟨s0, s1, s2, s3⟩
   go_simp
   with_reducible rfl
  rotate_left
  ·simp only [Act.put, List.setIfInBounds_toArray, List.set_cons_zero, List.set_cons_succ, i64_w, i32_w]
   rfl
  refine one_ (i := 4) (N := some 19) #[true, true, true, true, true, false, false] rfl rfl (by kernel_rfl) (by decide) (fun K hK => ?_)
  refine goes_ Tryd.func17 (by kernel_rfl) rfl #[.int .u32 11] (by rfl) rfl rfl (by (try simp only [List.map_toArray, List.map_cons, List.map_nil]); first | done | rfl) ?_
  refine (made_walk 11 oid_f11 _).mono ?_
  rintro e w3 ⟨v1, v2, rfl, ho3, hb3⟩
  refine ⟨_, rfl, ?_⟩
  obtain ⟨M1, m1, M2, m2, rfl, rfl, hm⟩ := ho3.form
  have HF := Lib.hid (HR1.out w3 M1 m1 M2 m2 hm hb3)
  clear ho3 hb3 hm
  refine hK.out _ _ HF.out.1 (fun hHeld => ?_)
  clear hK K
  refine norm_ (a' := ?_) ?_ ?_
  rotate_left
  ·show Act.put _ (some 19) _ = _
   simp only [Act.put, List.setIfInBounds_toArray, List.set_cons_zero, List.set_cons_succ, i64_w, i32_w]
   rfl
  refine one_ (i := 5) (N := some 20) #[true, true, true, true, true, true, false] rfl rfl (by kernel_rfl) (by decide) (fun K hK => ?_)
  refine goes_ Tryd.func27 (by kernel_rfl) rfl #[.agg #[.int .i64 y.f0, .slice Y1 y.f1.length y1, .slice Y2 y.f2.length y2], .agg #[.int .i64 48, .slice M1 0 m1, .slice M2 2 m2]] (by rfl) rfl rfl (by (try simp only [List.map_toArray, List.map_cons, List.map_nil]); first | done | rfl) ?_
  refine (HF.out.2.1).mono ?_
  rintro e w4 ⟨rfl, hB4⟩
  refine ⟨_, rfl, ?_⟩
  have HG := Lib.hid (HF.out.2.2 w4 hB4)
  clear hB4
  refine hK.out _ _ HG.out.1 (fun hHeld => ?_)
  clear hK K
  refine norm_ (a' := ?_) ?_ ?_
  rotate_left
  ·show Act.put _ (some 20) _ = _
   simp only [Act.put, List.setIfInBounds_toArray, List.set_cons_zero, List.set_cons_succ, i64_w, i32_w]
   rfl
  refine one_ (i := 6) (N := some 21) #[true, true, true, true, true, true, true] rfl rfl (by kernel_rfl) (by decide) (fun K hK => ?_)
  refine dies_ Tryd.func22 (by kernel_rfl) rfl #[.int .i64 0, .bool false] (by rfl) rfl (by (try simp only [List.map_toArray, List.map_cons, List.map_nil]); first | done | rfl) ?_
  refine (must2_no 0 false (.inr rfl) _).mono ?_
  rintro e w5 ⟨rfl, rfl⟩
  refine ⟨_, rfl, ?_⟩
  exact ⟨rfl, rfl, HG.out.2⟩
 | true =>
  rw [hsm] at HR1
  go_enter Tryd.func29, Tryd.ntmps29
  go_wp2_with (fail)
  refine (must2_yes _).mono ?_
  rintro e w2 ⟨rfl, rfl⟩
  go_wp2
  refine start_ (n := 7) (S := fun w' => w'.cell? ⟨p, 2, none⟩ = some (.slice (some ad) 3 x2) ∧ w'.cell? ⟨ad.block, ad.off + 3, none⟩ = some (.int .i64 y.f0) ∧ w'.cell? ⟨ad.block, ad.off + 3 + 1, none⟩ = some (.slice Y1 y.f1.length y1) ∧ w'.cell? ⟨ad.block, ad.off + 3 + 2, none⟩ = some (.slice Y2 y.f2.length y2)) (ds := []) #[false, false, false, false, false, false, false] (by kernel_rfl) rfl rfl ⟨b0, b1, b2, b3⟩ (fun hHeld => ?_)
  refine pure_ (i := 0) (N := some 15) (v := ?_) (a' := ?_) #[true, false, false, false, false, false, false] rfl rfl (by kernel_rfl) (fun _ _ _ h => h) (Or.inl ⟨by rfl, ?_⟩) ?_ ?_
  rotate_left
  ·intro w'
   go_simp
   with_reducible rfl
  rotate_left
  ·simp only [Act.put, List.setIfInBounds_toArray, List.set_cons_zero, List.set_cons_succ, i64_w, i32_w]
   rfl
  refine take_ (i := 1) (N := some 16) (v := ?_) (a' := ?_) #[true, true, false, false, false, false, false] rfl rfl (by kernel_rfl) (fun _ _ _ h => h) (Or.inl ⟨by rfl, ?_⟩) hHeld ?_ ?_
  rotate_left
  ·rintro w' ⟨s0, s1, s2, s3⟩
   go_simp
   with_reducible rfl
  rotate_left
  ·simp only [Act.put, List.setIfInBounds_toArray, List.set_cons_zero, List.set_cons_succ, i64_w, i32_w]
   rfl
  refine pure_ (i := 2) (N := some 17) (v := ?_) (a' := ?_) #[true, true, true, false, false, false, false] rfl rfl (by kernel_rfl) (fun _ _ _ h => h) (Or.inl ⟨by rfl, ?_⟩) ?_ ?_
  rotate_left
  ·intro w'
   go_simp
   with_reducible rfl
  rotate_left
  ·simp only [Act.put, List.setIfInBounds_toArray, List.set_cons_zero, List.set_cons_succ, i64_w, i32_w]
   rfl
  refine take_ (i := 3) (N := some 18) (v := ?_) (a' := ?_) #[true, true, true, true, false, false, false] rfl rfl (by kernel_rfl) (fun _ _ _ h => h) (Or.inl ⟨by rfl, ?_⟩) hHeld ?_ ?_
  rotate_left
  ·rintro w' ⟨s0, s1, s2, s3⟩
   go_simp
   with_reducible rfl
  rotate_left
  ·simp only [Act.put, List.setIfInBounds_toArray, List.set_cons_zero, List.set_cons_succ, i64_w, i32_w]
   rfl
  refine one_ (i := 4) (N := some 19) #[true, true, true, true, true, false, false] rfl rfl (by kernel_rfl) (by decide) (fun K hK => ?_)
  refine goes_ Tryd.func17 (by kernel_rfl) rfl #[.int .u32 11] (by rfl) rfl rfl (by (try simp only [List.map_toArray, List.map_cons, List.map_nil]); first | done | rfl) ?_
  refine (made_walk 11 oid_f11 _).mono ?_
  rintro e w3 ⟨v1, v2, rfl, ho3, hb3⟩
  refine ⟨_, rfl, ?_⟩
  obtain ⟨M1, m1, M2, m2, rfl, rfl, hm⟩ := ho3.form
  have HF := Lib.hid (HR1.out w3 M1 m1 M2 m2 hm hb3)
  clear ho3 hb3 hm
  refine hK.out _ _ HF.out.1 (fun hHeld => ?_)
  clear hK K
  refine norm_ (a' := ?_) ?_ ?_
  rotate_left
  ·show Act.put _ (some 19) _ = _
   simp only [Act.put, List.setIfInBounds_toArray, List.set_cons_zero, List.set_cons_succ, i64_w, i32_w]
   rfl
  refine one_ (i := 5) (N := some 20) #[true, true, true, true, true, true, false] rfl rfl (by kernel_rfl) (by decide) (fun K hK => ?_)
  refine goes_ Tryd.func27 (by kernel_rfl) rfl #[.agg #[.int .i64 y.f0, .slice Y1 y.f1.length y1, .slice Y2 y.f2.length y2], .agg #[.int .i64 48, .slice M1 0 m1, .slice M2 2 m2]] (by rfl) rfl rfl (by (try simp only [List.map_toArray, List.map_cons, List.map_nil]); first | done | rfl) ?_
  refine (HF.out.2.1).mono ?_
  rintro e w4 ⟨rfl, hB4⟩
  refine ⟨_, rfl, ?_⟩
  have HG := Lib.hid (HF.out.2.2 w4 hB4)
  clear hB4
  refine hK.out _ _ HG.out.1 (fun hHeld => ?_)
  clear hK K
  refine norm_ (a' := ?_) ?_ ?_
  rotate_left
  ·show Act.put _ (some 20) _ = _
   simp only [Act.put, List.setIfInBounds_toArray, List.set_cons_zero, List.set_cons_succ, i64_w, i32_w]
   rfl
  refine one_ (i := 6) (N := some 21) #[true, true, true, true, true, true, true] rfl rfl (by kernel_rfl) (by decide) (fun K hK => ?_)
  refine goes_ Tryd.func22 (by kernel_rfl) rfl #[.int .i64 0, .bool true] (by rfl) rfl rfl (by (try simp only [List.map_toArray, List.map_cons, List.map_nil]); first | done | rfl) ?_
  refine (must2_yes _).mono ?_
  rintro e w5 ⟨rfl, rfl⟩
  refine ⟨_, rfl, ?_⟩
  refine hK.out _ _ HG.out.1 (fun hHeld => ?_)
  clear hK K
  refine norm_ (a' := ?_) ?_ ?_
  rotate_left
  ·show Act.put _ (some 21) _ = _
   simp only [Act.put, List.setIfInBounds_toArray, List.set_cons_zero, List.set_cons_succ, i64_w, i32_w]
   rfl
  refine done_ (by kernel_rfl) ?_
  have hBw := HG.out.2
  have a2' := HG.out.1.1
  have v0 := (hBw.cell (World.block_lt_of_cell? _ _ HV.out.1)).trans HV.out.1
  have v1 := (hBw.cell (World.block_lt_of_cell? _ _ HV.out.2.1)).trans HV.out.2.1
  have v2 := (hBw.cell (World.block_lt_of_cell? _ _ HV.out.2.2)).trans HV.out.2.2
  have HOF := Lib.hid (sig_walk z HZ.out.1 HZ.out.2 Z1 z1 Z2 z2 w5 (HNZ.out.below hBw))
  have hq5 := (hBw.block _ (heap_lt HQ.out)).trans HQ.out
  have HQ5 := Lib.hid hq5
  have HBW := Lib.hid hBw
  clear hBw hq5 HF HG HR1 b0 b1 b2 b3 a0 a2 hHeld
  go_wp2_with (fail)
  refine HOF.out.mono ?_
  rintro e w6 ⟨⟨A, l, cc, m, f, rfl, hcase⟩, hB6⟩
  have hq6 := (hB6.block _ (heap_lt HQ5.out)).trans HQ5.out
  have hBw6 := HBW.out.trans (hB6.mono HBW.out.size)
  have q0 := Lib.cell_of_heap hq6 0
  have fq0 := Lib.frozen_of_heap hq6 0
  have HBW6 := Lib.hid hBw6
  have HB6 := Lib.hid HBW.out.size
  clear hq6 hBw6 hB6 HOF v0 v1 v2 a2'
  have HSM := Lib.hid hsm
  clear hsm
  rcases hcase with ⟨hf, hs⟩ | ⟨rfl, hm, hs⟩ | ⟨rfl, rfl, t, hs, rfl, hR⟩
  ·have hp : PP = fun e w' => e = gone 2 ∧ Below w2.heap.size w2 w' := by
    rw [← hPP]; funext e w'; unfold Open1Post openSig; simp only []; rw [if_pos ⟨trivial, HSM.out⟩, hs]
   clear hPP hs
   subst hp
   have HF := Lib.hid hf
   clear hf
   go_wp2_with (fail)
   refine (must2_no f _ (.inl HF.out) _).mono ?_
   rintro e w7 ⟨rfl, rfl⟩
   exact ⟨rfl, rfl, HBW6.out⟩
  ·have hp : PP = fun e w' => e = gone 2 ∧ Below w2.heap.size w2 w' := by
    rw [← hPP]; funext e w'; unfold Open1Post openSig; simp only []; rw [if_pos ⟨trivial, HSM.out⟩, hs]
   clear hPP hs
   subst hp
   have HM := Lib.hid hm
   clear hm
   go_wp2_with (fail)
   refine (must2_no 0 _ (.inr (beq_eq_false_iff_ne.2 HM.out)) _).mono ?_
   rintro e w7 ⟨rfl, rfl⟩
   exact ⟨rfl, rfl, HBW6.out⟩
  ·have hp : PP = fun e w' => e = .returned (.tuple #[]) ∧ ∃ w6 A c, Below w2.heap.size w2 w6 ∧ w' = w6.setCell ⟨q, 0, none⟩ (.slice A t.length c) ∧ (Kd.int .u8).R 5 w6 w2.heap.size (fun _ => True) (.slice A t.length c) t := by
    rw [← hPP]; funext e w'; unfold Open1Post openSig; simp only []; rw [if_pos ⟨trivial, HSM.out⟩, hs]
   clear hPP hs
   subst hp
   have HR := Lib.hid (Kd.R_lower hR HB6.out)
   clear hR
   go_wp2_with (fail)
   refine (must2_yes _).mono ?_
   rintro e w7 ⟨rfl, rfl⟩
   go_wp2
   go_end0
   exact ⟨rfl, _, A, cc, HBW6.out, rfl, HR.out⟩

end Go.Proofs.YtmbgjhkemlliaaaDoor.Tlv
end

section
set_option linter.unusedVariables false
set_option linter.unusedSimpArgs false
namespace Go.Proofs.YtmbgjhkemlliaaaDoor.Tlv
open Go.RowKit Go.Proofs.YtmbgjhkemlliaaaDoorW.PrintWords Go.Proofs.YtmbgjhkemlliaaaDoorW.PrintLast Go.Proofs.YtmbgjhkemlliaaaDoorW.PrintMore Go.Proofs.YtmbgjhkemlliaaaDoor.PT
attribute [local go_sem] as_yes as_no

set_option maxHeartbeats 1000000 in
theorem wcatch_panicking (B : Nat) (x : Int) (w : World) (c0 : (w.cell? ⟨B, 0, none⟩).isSome = true) (f0 : w.frozen? ⟨B, 0, none⟩ = false) :
 CallsD Tryd.prog 35 #[.pointer (some ⟨B, 0, none⟩)] (.panicking [{ v := .iface 32 (.int .i64 x), recovered := false }]) w fun e u' w' =>
  e = .returned (.tuple #[]) ∧ u' = .panicking [{ v := .iface 32 (.int .i64 x), recovered := true }] ∧ w' = w.setCell ⟨B, 0, none⟩ (.int .i64 x) := by
 refine callsD_of_wpS Tryd.func35 rfl fun c₀ cs hu => ?_
 apply wpS_seq
 apply wpS_region
 simp [wpOpsS, go_sem, recoverD, hu, Tryd.ntmps35, Exit.thenS]
 apply wpS_seq
 apply wpS_region
 simp [wpOpsS, go_sem, Exit.thenS]
 refine wpS_cond (t := true) (by simp [Act.eval, Array.replicate]) ?_
 simp only [if_true]
 refine wpS_of_wp ?_
 obtain ⟨x0, e0⟩ := Option.isSome_iff_exists.1 c0
 clear c0
 go_wp2
 cases c₀
 simp_all [bodyPostS, results, Tryd.results35]

set_option maxHeartbeats 1000000 in
theorem wcatch_idle (B : Nat) (w : World) :
 CallsD Tryd.prog 35 #[.pointer (some ⟨B, 0, none⟩)] .returning w fun e u' w' => e = .returned (.tuple #[]) ∧ u' = .returning ∧ w' = w := by
 refine callsD_of_wpS Tryd.func35 rfl fun c₀ cs hu => ?_
 apply wpS_seq
 apply wpS_region
 simp [wpOpsS, go_sem, recoverD, hu, Tryd.ntmps35, Exit.thenS]
 apply wpS_seq
 apply wpS_region
 simp [wpOpsS, go_sem, Exit.thenS]
 refine wpS_cond (t := false) (by simp [Act.eval, Array.replicate]) ?_
 simp only [Bool.false_eq_true, if_false]
 refine wpS_of_wp (wp_skip ?_)
 cases c₀
 simp_all [bodyPostS, results, Tryd.results35]

set_option maxHeartbeats 4000000 in
set_option maxRecDepth 100000 in
theorem wdoor (x : Int) (w w4 : World) (R : Int → World → Prop) (hR : R x w4) (tmps : Array Value) (n0 : Value) (h2 : w4.heap[w.heap.size]? = some (.cells #[n0] 32 (0, 0))) (ht2 : tmps[2]? = some (.pointer (some ⟨w.heap.size, 0, none⟩))) :
 bodyPostD Tryd.prog Tryd.f20 (fun e w' => ∃ x w2, e = .returned (.int .i64 x) ∧ R x w2 ∧ w' = w2.setCell ⟨w.heap.size, 0, none⟩ (.int .i64 x)) (Exit.panic [{ v := .iface 32 (.int .i64 x), recovered := false }])
  { tmps := tmps, defers := [{ target := .fn (.func 35) #[.pointer (some ⟨w.heap.size, 0, none⟩)], args := #[] }] } w4 := by
 refine leaves_cons (f := 35) (args := #[.pointer (some ⟨w.heap.size, 0, none⟩)]) (by simp) (by simp [go_sem]) ?_
 have a0 := Lib.cell_of_heap h2 0
 refine (wcatch_panicking w.heap.size x w4 (by rw [a0]; rfl) (Lib.frozen_of_heap h2 0)).mono ?_
 rintro e u' w'' ⟨rfl, rfl, rfl⟩
 simp [Leaves, settle, results, Tryd.results20, go_sem, a0, ht2]
 exact ⟨_, hR, rfl⟩

set_option maxHeartbeats 4000000 in
set_option maxRecDepth 100000 in
theorem wdoor_ret (w w2 : World) (R : Int → World → Prop) (hR : R 0 w2) (tmps : Array Value) (n0 : Value) (h2 : w2.heap[w.heap.size]? = some (.cells #[n0] 32 (0, 0))) (ht2 : tmps[2]? = some (.pointer (some ⟨w.heap.size, 0, none⟩))) :
 bodyPostD Tryd.prog Tryd.f20 (fun e w' => ∃ x w2, e = .returned (.int .i64 x) ∧ R x w2 ∧ w' = w2.setCell ⟨w.heap.size, 0, none⟩ (.int .i64 x)) Exit.ret
  { tmps := tmps, defers := [{ target := .fn (.func 35) #[.pointer (some ⟨w.heap.size, 0, none⟩)], args := #[] }] } (w2.setCell ⟨w.heap.size, 0, none⟩ (.int .i64 0)) := by
 have a0 : (w2.setCell ⟨w.heap.size, 0, none⟩ (.int .i64 0)).cell? ⟨w.heap.size, 0, none⟩ = some (.int .i64 0) := Lib.cell_of_heap (heap_setCell_same _ _ 0 _ _ _ h2) 0
 refine leaves_cons (f := 35) (args := #[.pointer (some ⟨w.heap.size, 0, none⟩)]) (by simp) (by simp [go_sem]) ?_
 refine (wcatch_idle w.heap.size _).mono ?_
 rintro e u' w'' ⟨rfl, rfl, rfl⟩
 generalize hW : w2.setCell ⟨w.heap.size, 0, none⟩ (.int .i64 0) = W at a0
 simp only [Leaves, settle, results, Tryd.results20]
 simp [go_sem, a0, ht2]
 exact ⟨w2, hR, hW.symm⟩

set_option maxHeartbeats 4000000 in
set_option maxRecDepth 100000 in
theorem wrong_walk (p q : Nat) (w : World) (R : Int → World → Prop)
 (H : Calls Tryd.prog 29 #[.pointer (some ⟨p, 0, none⟩), .pointer (some ⟨q, 0, none⟩)] (w.alloc (.cells #[.int .i64 0] 32)) fun e w2 => ((e = .returned (.tuple #[]) ∧ R 0 w2) ∨ (∃ x, e = gone x ∧ R x w2)) ∧ w2.heap[w.heap.size]? = some (.cells #[.int .i64 0] 32 (0, 0))) :
 Calls Tryd.prog 20 #[.func (.func 29) #[] #[.pointer (some ⟨p, 0, none⟩), .pointer (some ⟨q, 0, none⟩)]] w fun e w' => ∃ x w2, e = .returned (.int .i64 x) ∧ R x w2 ∧ w' = w2.setCell ⟨w.heap.size, 0, none⟩ (.int .i64 x) := by
 have hmf : ∀ (fn : Fn) (first cap : Array Value) (w : World), (Instr.makeFunc fn first cap).run Tryd.prog w = .ok (.func fn first cap) w := fun _ _ _ _ => rfl
 have HH := Lib.hid H
 clear H
 go_enter_defers Tryd.func20, Tryd.ntmps20
 go_wp2_with (fail)
 refine HH.out.mono ?_
 rintro e w2 ⟨hq, h2⟩
 rcases hq with ⟨rfl, hR⟩ | ⟨x, rfl, hR⟩
 ·have a0 := Lib.cell_of_heap h2 0
  have f0 := Lib.frozen_of_heap h2 0
  have H2 := Lib.hid h2
  have HR := Lib.hid hR
  clear h2 hR HH
  go_wp2
  exact wdoor_ret w w2 R HR.out _ _ H2.out rfl
 ·exact wdoor x w w2 R hR _ _ h2 rfl

end Go.Proofs.YtmbgjhkemlliaaaDoor.Tlv
end

section
set_option linter.unusedVariables false
set_option linter.unusedSimpArgs false
namespace Go.Proofs.YtmbgjhkemlliaaaDoor.Tlv
open Go.RowKit Go.Proofs.YtmbgjhkemlliaaaDoorW.PrintWords Go.Proofs.YtmbgjhkemlliaaaDoorW.PrintLast Go.Proofs.YtmbgjhkemlliaaaDoorW.PrintMore Go.Proofs.YtmbgjhkemlliaaaDoor.PT

def saidP (a : T) : List Int := match writeP a with
 | .ok l => l
 | .err _ => []
def openP (b : List Int) : Res (T × List Int × List Int) := match readP b with
 | .err e => .err e
 | .ok x => match openSig x with
  | none => .err 2
  | some (a, t) => .ok (a, saidP a, t)
def OpenPost (w : World) (b : List Int) (e : Ending) (w' : World) : Prop := match openP b with
 | .err x => e = .returned (.tuple #[.agg #[.int .i64 0, .slice none 0 0, .slice none 0 0], .slice none 0 0, .slice none 0 0, .int .i64 x]) ∧ Below w.heap.size w w'
 | .ok (a, s, t) => ∃ A1 c1 A2 c2 S cs G cg, e = .returned (.tuple #[.agg #[.int .i64 a.f0, .slice A1 a.f1.length c1, .slice A2 a.f2.length c2], .slice S s.length cs, .slice G t.length cg, .int .i64 0]) ∧ NodeAt w' a A1 c1 A2 c2 ∧ ReadsInt w' .u8 S s.length s ∧ s.length ≤ cs ∧ ReadsInt w' .u8 G t.length t ∧ t.length ≤ cg ∧ Below w.heap.size w w'

theorem readP_ok {b : List Int} {x : T} (hb : ∀ v ∈ b, 0 ≤ v ∧ v < 256) (h : readP b = .ok x) : b = encT x ∧ rightT x = true ∧ sizeT x = (b.length : Int) ∧ deepT x ≤ 32 ∧ b.length ≤ 20000 := by
 unfold readP at h
 split at h
 ·cases h
 ·cases he : elemP (b.length + 1) 0 3 b with
  | err e => rw [he] at h; cases h
  | ok p =>
   obtain ⟨t, r⟩ := p
   rw [he] at h
   simp only at h
   split at h
   ·injection h with h
    subst h
    rename_i hr
    obtain ⟨e1, e2, e3, e4⟩ := elemP_ok _ _ _ _ _ _ hb he
    rw [hr, List.append_nil] at e1
    exact ⟨e1, e2, by rw [e3, ← e1], by omega, by omega⟩
   ·cases h
/-- A part's own bytes are among those of the whole. -/
theorem body_in (z : T) (hr : rightT z = true) : ∀ v ∈ z.f1, v ∈ encT z := by
 obtain ⟨tag, body, kids⟩ := z
 intro v hv
 dsimp only at hv
 rw [rightT, Bool.and_eq_true, Bool.and_eq_true] at hr
 rw [encT]
 by_cases hH : holdsB tag = true
 ·rw [if_pos hH] at hr
  have := of_decide_eq_true hr.1.2
  rw [this] at hv
  cases hv
 ·rw [if_neg hH]
  exact List.mem_append_right _ hv
theorem kid_in : ∀ (l : List T) (t : T), t ∈ l → ∀ v ∈ encT t, v ∈ encL l
 | [], _, h => by cases h
 | u :: l, t, h => by
  intro v hv
  rw [encL]
  rcases List.mem_cons.1 h with rfl | h
  ·exact List.mem_append_left _ hv
  ·exact List.mem_append_right _ (kid_in l t h v hv)
theorem kid_size : ∀ (l : List T) (t : T), t ∈ l → sizeT t ≤ sizeL l
 | [], _, h => by cases h
 | u :: l, t, h => by
  rw [sizeL]
  have h1 := manyL_le l
  have h2 := many_le u
  rcases List.mem_cons.1 h with rfl | h
  ·omega
  ·have := kid_size l t h; omega
theorem kid_deep : ∀ (l : List T) (t : T), t ∈ l → deepT t ≤ deepL l
 | [], _, h => by cases h
 | u :: l, t, h => by
  rw [deepL]
  rcases List.mem_cons.1 h with rfl | h
  ·omega
  ·have := kid_deep l t h; omega
theorem kids_parts (x : T) (h : rightT x = true) (t : T) (ht : t ∈ x.f2) : rightT t = true ∧ sizeT t ≤ sizeT x ∧ (∀ v ∈ encT t, v ∈ encT x) ∧ deepT t ≤ deepT x := by
 obtain ⟨tag, body, kids⟩ := x
 dsimp only at ht
 rw [rightT, Bool.and_eq_true, Bool.and_eq_true] at h
 have hr := (rightL_all kids).1 h.2 t ht
 by_cases hH : holdsB tag = true
 ·have h1 := kid_size kids t ht
  have h2 := headLen_pos (sizeL kids)
  refine ⟨hr, ?_, ?_, ?_⟩
  ·rw [sizeT, if_pos hH]; omega
  ·intro v hv; rw [encT, if_pos hH]; exact List.mem_append_right _ (kid_in kids t ht v hv)
  ·rw [deepT, if_pos hH]; have := kid_deep kids t ht; omega
 ·rw [if_neg hH] at h
  have := of_decide_eq_true h.1.2
  rw [this] at ht
  cases ht

theorem lenP_rest {short : Int} {b r : List Int} {m : Int} (h : lenP short b = .ok (m, r)) : r.length + 1 ≤ b.length := by
 cases b with
 | nil => simp [lenP] at h
 | cons x b =>
  unfold lenP at h
  simp only at h
  split at h
  ·cases b with
   | nil => cases h
   | cons y b =>
    simp only at h
    split at h
    ·injection h with h; injection h with h1 h2; subst h2; simp
    ·cases h
  ·split at h
   ·cases b with
    | nil => cases h
    | cons y b =>
     cases b with
     | nil => cases h
     | cons z b =>
      simp only at h
      split at h
      ·injection h with h; injection h with h1 h2; subst h2; simp
      ·cases h
   ·split at h
    ·injection h with h; injection h with h1 h2; subst h2; simp
    ·cases h
theorem lenP_errs {short : Int} {b : List Int} {e : Int} (h : lenP short b = .err e) : e = short ∨ e = 2 := by
 cases b with
 | nil => simp [lenP] at h; exact .inl h.symm
 | cons x b =>
  unfold lenP at h
  simp only at h
  split at h
  ·cases b with
   | nil => injection h with h; exact .inl h.symm
   | cons y b =>
    simp only at h
    split at h
    ·cases h
    ·injection h with h; exact .inr h.symm
  ·split at h
   ·cases b with
    | nil => injection h with h; exact .inl h.symm
    | cons y b =>
     cases b with
     | nil => injection h with h; exact .inl h.symm
     | cons z b =>
      simp only at h
      split at h
      ·cases h
      ·injection h with h; exact .inr h.symm
   ·split at h
    ·cases h
    ·injection h with h; exact .inr h.symm
theorem elemP_rest {n : Nat} {deep short : Int} {b r : List Int} {t : T} (h : elemP n deep short b = .ok (t, r)) : r.length + 2 ≤ b.length := by
 cases n with
 | zero => simp [elemP] at h
 | succ n =>
  cases b with
  | nil => simp [elemP] at h
  | cons tag b =>
   unfold elemP at h
   split at h
   ·cases hl : lenP short b with
    | err e => rw [hl] at h; cases h
    | ok p =>
     obtain ⟨m, r2⟩ := p
     have hr := lenP_rest hl
     rw [hl] at h
     simp only at h
     split at h
     ·cases h
     ·split at h
      ·cases h
      ·split at h
       ·cases hk : kidsP n (deep + 1) (r2.take m.toNat) with
        | err e => rw [hk] at h; cases h
        | ok l => rw [hk] at h; injection h with h; injection h with h1 h2; subst h2; simp; omega
       ·injection h with h; injection h with h1 h2; subst h2; simp; omega
   ·cases h
mutual
theorem elemP_errs : ∀ (n : Nat) (deep short : Int) (b : List Int) (e : Int), b.length + 1 ≤ n → short ≠ 0 → elemP n deep short b = .err e → e ≠ 0
 | 0, _, _, b, e, hn, _, _ => by omega
 | n + 1, deep, short, [], e, _, hs, h => by
  simp [elemP] at h
  omega
 | n + 1, deep, short, tag :: b, e, hn, hs, h => by
  unfold elemP at h
  split at h
  ·cases hl : lenP short b with
   | err x =>
    rw [hl] at h
    injection h with h
    have := lenP_errs hl
    omega
   | ok p =>
    obtain ⟨m, r2⟩ := p
    have hr := lenP_rest hl
    rw [hl] at h
    simp only at h
    split at h
    ·injection h with h; omega
    ·split at h
     ·injection h with h; omega
     ·split at h
      ·cases hk : kidsP n (deep + 1) (r2.take m.toNat) with
       | err x =>
        rw [hk] at h
        injection h with h
        have := kidsP_errs n (deep + 1) (r2.take m.toNat) x (by simp at hn ⊢; omega) hk
        omega
       | ok l => rw [hk] at h; cases h
      ·cases h
  ·injection h with h; omega
theorem kidsP_errs : ∀ (n : Nat) (deep : Int) (b : List Int) (e : Int), b.length + 2 ≤ n → kidsP n deep b = .err e → e ≠ 0
 | 0, _, b, e, hn, _ => by omega
 | n + 1, deep, [], e, _, h => by simp [kidsP] at h
 | n + 1, deep, x :: b, e, hn, h => by
  unfold kidsP at h
  cases he : elemP n deep 2 (x :: b) with
  | err y =>
   rw [he] at h
   injection h with h
   have := elemP_errs n deep 2 (x :: b) y (by omega) (by decide) he
   omega
  | ok p =>
   obtain ⟨t, r⟩ := p
   have hr := elemP_rest he
   rw [he] at h
   simp only at h
   cases hk : kidsP n deep r with
   | err y =>
    rw [hk] at h
    injection h with h
    have := kidsP_errs n deep r y (by omega) hk
    omega
   | ok l => rw [hk] at h; cases h
end
theorem readP_errs {b : List Int} {e : Int} (h : readP b = .err e) : e ≠ 0 := by
 unfold readP at h
 split at h
 ·injection h with h; omega
 ·cases he : elemP (b.length + 1) 0 3 b with
  | err x =>
   rw [he] at h
   injection h with h
   have := elemP_errs _ _ _ _ _ (Nat.le_refl _) (by decide) he
   omega
  | ok p =>
   obtain ⟨t, r⟩ := p
   rw [he] at h
   simp only at h
   split at h
   ·cases h
   ·injection h with h; omega

theorem openSig_some {x a : T} {t : List Int} (h : openSig x = some (a, t)) : ∃ y z, x.f0 = 48 ∧ x.f2 = [a, y, z] ∧ sameP y (algT 11) = true ∧ sigP z = some t := by
 obtain ⟨tag, body, kids⟩ := x
 unfold openSig at h
 match kids, h with
 | [], h => simp at h
 | [u], h => simp at h
 | [u, y], h => simp at h
 | [u, y, z], h =>
  simp only at h
  split at h
  ·rename_i hc
   cases hs : sigP z with
   | none => rw [hs] at h; cases h
   | some t' =>
    rw [hs] at h
    simp only [Option.some.injEq, Prod.mk.injEq] at h
    obtain ⟨rfl, rfl⟩ := h
    exact ⟨y, z, hc.1, rfl, hc.2, hs⟩
  ·cases h
 | u :: y :: z :: v :: r, h => simp at h
theorem openSig_tag {x : T} (h : x.f0 ≠ 48 ∨ x.f2.length ≠ 3) : openSig x = none := by
 cases ho : openSig x with
 | none => rfl
 | some p =>
  obtain ⟨a, t⟩ := p
  obtain ⟨y, z, h1, h2, _⟩ := openSig_some ho
  rcases h with h | h
  ·exact absurd h1 h
  ·rw [h2] at h; exact absurd rfl h
theorem open1_any (x : T) (p q : Nat) (w : World) (X1 : Option Addr) (x1 : Nat) (X2 : Option Addr) (x2 : Nat) (tp tq : TypeId) (s0 : Value) (hp : w.heap[p]? = some (.cells #[.int .i64 x.f0, .slice X1 x.f1.length x1, .slice X2 x.f2.length x2] tp (0, 0))) (hq : w.heap[q]? = some (.cells #[s0] tq (0, 0)))
 (hn : NodeAt w x X1 x1 X2 x2) (hr : rightT x = true) (hs : sizeT x ≤ 1000000) (hv : ∀ v ∈ encT x, 0 ≤ v ∧ v < 256) :
 Calls Tryd.prog 29 #[.pointer (some ⟨p, 0, none⟩), .pointer (some ⟨q, 0, none⟩)] w (Open1Post w x q) := by
 by_cases h : x.f0 ≠ 48 ∨ x.f2.length ≠ 3
 ·have he : Open1Post w x q = fun e w' => e = gone 2 ∧ Below w.heap.size w w' := by
   funext e w'; unfold Open1Post; rw [openSig_tag h]
  rw [he]
  exact open1_tag x p q w X1 x1 X2 x2 tp hp h
 ·have h0 : x.f0 = 48 := Classical.byContradiction fun hc => h (.inl hc)
  have h1 : x.f2.length = 3 := Classical.byContradiction fun hc => h (.inr hc)
  have hk := kids_parts x hr
  obtain ⟨tag, body, kids⟩ := x
  dsimp only at h0 h1 hp hk
  subst h0
  match kids, h1, hp, hn, hr, hs, hv, hk with
  | [a, y, z], _, hp, hn, hr, hs, hv, hk =>
   have hy := hk y (by simp)
   have hz := hk z (by simp)
   have hzv : ∀ v ∈ z.f1, 0 ≤ v ∧ v < 256 := fun v hvz => hv v (hz.2.2.1 v (body_in z hz.1 v hvz))
   have hzl : z.f1.length ≤ 1000000 := by
    have h2 : (z.f1.length : Int) ≤ sizeT z := by
     obtain ⟨zt, zb, zk⟩ := z
     have hzr := hz.1
     rw [rightT, Bool.and_eq_true, Bool.and_eq_true] at hzr
     rw [sizeT]
     by_cases hH : holdsB zt = true
     ·rw [if_pos hH] at hzr ⊢
      have := of_decide_eq_true hzr.1.2
      have h4 := manyL_le zk
      have h5 := headLen_pos (sizeL zk)
      rw [this]
      simp
      omega
     ·rw [if_neg hH]
      have h5 := headLen_pos zb.length
      show (zb.length : Int) ≤ _
      omega
    omega
   exact open1_three a y z body p q w X1 x1 X2 x2 tp tq s0 hp hq hn.2.2.1 (fun _ => by omega) hzv hzl

/-- Open's two variables, and the world in which it reads. -/
structure Vars (w W : World) (n0 n1 n2 g : Value) : Prop where
 n : W.heap[w.heap.size]? = some (.cells #[n0, n1, n2] 28 (0, 0))
 g : W.heap[w.heap.size + 1]? = some (.cells #[g] 22 (0, 0))
 b : Below w.heap.size w W
theorem Vars.step {w W W2 : World} {n0 n1 n2 g : Value} (h : Vars w W n0 n1 n2 g) (hb : Below W.heap.size W W2) : Vars w W2 n0 n1 n2 g :=
 ⟨(hb.block _ (heap_lt h.n)).trans h.n, (hb.block _ (heap_lt h.g)).trans h.g, h.b.trans (hb.mono h.b.size)⟩
theorem Vars.setN {w W : World} {n0 n1 n2 g : Value} (h : Vars w W n0 n1 n2 g) (m0 m1 m2 : Value) : Vars w (((W.setCell ⟨w.heap.size, 0, none⟩ m0).setCell ⟨w.heap.size, 1, none⟩ m1).setCell ⟨w.heap.size, 2, none⟩ m2) m0 m1 m2 g :=
 ⟨heap_setCell_same _ _ 2 _ _ _ (heap_setCell_same _ _ 1 _ _ _ (heap_setCell_same _ _ 0 _ _ _ h.n)),
  (heap_setCell_other _ _ _ _ (by show w.heap.size + 1 ≠ w.heap.size; omega)).trans ((heap_setCell_other _ _ _ _ (by show w.heap.size + 1 ≠ w.heap.size; omega)).trans ((heap_setCell_other _ _ _ _ (by show w.heap.size + 1 ≠ w.heap.size; omega)).trans h.g)),
  Below.setCell (Below.setCell (Below.setCell h.b (p := ⟨w.heap.size, 0, none⟩) (Nat.le_refl _) _) (p := ⟨w.heap.size, 1, none⟩) (Nat.le_refl _) _) (p := ⟨w.heap.size, 2, none⟩) (Nat.le_refl _) _⟩
theorem Vars.setG {w W : World} {n0 n1 n2 g : Value} (h : Vars w W n0 n1 n2 g) (m : Value) : Vars w (W.setCell ⟨w.heap.size + 1, 0, none⟩ m) n0 n1 n2 m :=
 ⟨(heap_setCell_other _ _ _ _ (by show w.heap.size ≠ w.heap.size + 1; omega)).trans h.n, heap_setCell_same _ _ 0 _ _ _ h.g, Below.setCell h.b (p := ⟨w.heap.size + 1, 0, none⟩) (Nat.le_succ _) _⟩
theorem Vars.new (w : World) : Vars w ((w.alloc (.cells #[.int .i64 0, .slice none 0 0, .slice none 0 0] 28)).alloc (.cells #[.slice none 0 0] 22)) (.int .i64 0) (.slice none 0 0) (.slice none 0 0) (.slice none 0 0) :=
 ⟨(Below.heap_alloc _ _ _ (by simp)).trans (heap_alloc_new w _), (by have := heap_alloc_new (w.alloc (.cells #[.int .i64 0, .slice none 0 0, .slice none 0 0] 28)) (.cells #[.slice none 0 0] 22); simpa using this), ((Below.refl _ _).alloc (Nat.le_refl _) _).alloc (by simp) _⟩
theorem Vars.far {w W : World} {n0 n1 n2 g : Value} (h : Vars w W n0 n1 n2 g) (p : Addr) (u : Value) (hp : w.heap.size + 1 < p.block) : Vars w (W.setCell p u) n0 n1 n2 g :=
 ⟨(heap_setCell_other _ _ _ _ (by omega)).trans h.n, (heap_setCell_other _ _ _ _ (by omega)).trans h.g, Below.setCell h.b (by omega) _⟩
theorem Vars.drew {w W : World} {n0 n1 n2 g : Value} (h : Vars w W n0 n1 n2 g) : Vars w W.drew n0 n1 n2 g := ⟨h.n, h.g, h.b.drew⟩
/-- The end of Open, at the world behind the draw. -/
theorem open_done {w W : World} {m0 m1 m2 : Value} {G : Option Addr} {cg : Nat} {t : List Int} {S : Option Addr} {cs : Nat} {s : List Int} {p m : Nat} {tp : TypeId} {X1 : Option Addr} {x1 x2 : Nat} {ad : Addr} {a y z : T} {xt : Int} {xb : List Int} {N1 : Option Addr} {n1 : Nat} {N2 : Option Addr} {n2 : Nat}
 (hV : Vars w W m0 m1 m2 (.slice G t.length cg)) (hp : w.heap.size + 1 < p) (hx : W.heap[p]? = some (.cells #[.int .i64 xt, .slice X1 xb.length x1, .slice (some ad) 3 x2] tp (0, 0))) (hn : NodeR W (w.heap.size + 2) m ⟨xt, xb, [a, y, z]⟩ (.slice X1 xb.length x1) (.slice (some ad) 3 x2))
 (u0 : W.cell? ad = some (.int .i64 a.f0)) (u1 : W.cell? ⟨ad.block, ad.off + 1, none⟩ = some (.slice N1 a.f1.length n1)) (u2 : W.cell? ⟨ad.block, ad.off + 2, none⟩ = some (.slice N2 a.f2.length n2))
 (hG : (Kd.int .u8).R 5 W (w.heap.size + 2) (fun _ => True) (.slice G t.length cg) t) (hS : (Kd.int .u8).R 5 W (w.heap.size + 2) (fun _ => True) (.slice S s.length cs) s) :
 (W.cell? ⟨p, 2, none⟩ = some (.slice (some ad) 3 x2) ∧ W.cell? ad = some (.int .i64 a.f0) ∧ W.cell? ⟨ad.block, ad.off + 1, none⟩ = some (.slice N1 a.f1.length n1) ∧ W.cell? ⟨ad.block, ad.off + 2, none⟩ = some (.slice N2 a.f2.length n2) ∧ W.cell? ⟨w.heap.size + 1, 0, none⟩ = some (.slice G t.length cg)) ∧
 (∀ W1, W1 = ((W.setCell ⟨w.heap.size, 0, none⟩ (.int .i64 a.f0)).setCell ⟨w.heap.size, 1, none⟩ (.slice N1 a.f1.length n1)).setCell ⟨w.heap.size, 2, none⟩ (.slice N2 a.f2.length n2) →
  (W1.cell? ⟨p, 2, none⟩ = some (.slice (some ad) 3 x2) ∧ W1.cell? ad = some (.int .i64 a.f0) ∧ W1.cell? ⟨ad.block, ad.off + 1, none⟩ = some (.slice N1 a.f1.length n1) ∧ W1.cell? ⟨ad.block, ad.off + 2, none⟩ = some (.slice N2 a.f2.length n2) ∧ W1.cell? ⟨w.heap.size + 1, 0, none⟩ = some (.slice G t.length cg)) ∧
  W1.cell? ⟨w.heap.size + 1, 0, none⟩ = some (.slice G t.length cg) ∧ W1.frozen? ⟨w.heap.size + 1, 0, none⟩ = false ∧
  (∀ W2, W2 = W1.setCell ⟨w.heap.size + 1, 0, none⟩ (.slice G t.length cg) →
   Vars w W2 (.int .i64 a.f0) (.slice N1 a.f1.length n1) (.slice N2 a.f2.length n2) (.slice G t.length cg) ∧ NodeAt W2 a N1 n1 N2 n2 ∧ ReadsInt W2 .u8 S s.length s ∧ s.length ≤ cs ∧ ReadsInt W2 .u8 G t.length t ∧ t.length ≤ cg)) := by
 have had : w.heap.size + 2 ≤ ad.block := by
  have := (Kd.R_bound hn.k).1 ad.block rfl
  exact this.2.1
 refine ⟨⟨Lib.cell_of_heap hx 2, u0, u1, u2, Lib.cell_of_heap hV.g 0⟩, ?_⟩
 intro W1 hW1
 have hV1 : Vars w W1 (.int .i64 a.f0) (.slice N1 a.f1.length n1) (.slice N2 a.f2.length n2) (.slice G t.length cg) := by rw [hW1]; exact hV.setN _ _ _
 have hk1 : ∀ k, k ≠ w.heap.size → W1.heap[k]? = W.heap[k]? := fun k hk => by rw [hW1]; exact (heap_setCell_other _ _ _ _ hk).trans ((heap_setCell_other _ _ _ _ hk).trans (heap_setCell_other _ _ _ _ hk))
 have hx1 := (hk1 p (by omega)).trans hx
 have hcell : ∀ (W' : World), (∀ k, w.heap.size + 2 ≤ k → W'.heap[k]? = W.heap[k]?) → ∀ b : Addr, w.heap.size + 2 ≤ b.block → W'.cell? b = W.cell? b := by
  intro W' hW' b hb
  unfold World.cell?
  rw [hW' _ hb]
 have e1 := hcell W1 (fun k hk => hk1 k (by omega))
 refine ⟨⟨Lib.cell_of_heap hx1 2, (e1 ad had).trans u0, (e1 ⟨ad.block, ad.off + 1, none⟩ had).trans u1, (e1 ⟨ad.block, ad.off + 2, none⟩ had).trans u2, Lib.cell_of_heap hV1.g 0⟩, Lib.cell_of_heap hV1.g 0, Lib.frozen_of_heap hV1.g 0, ?_⟩
 intro W2 hW2
 have hV2 : Vars w W2 (.int .i64 a.f0) (.slice N1 a.f1.length n1) (.slice N2 a.f2.length n2) (.slice G t.length cg) := by rw [hW2]; exact hV1.setG _
 have hk2 : ∀ k, w.heap.size + 2 ≤ k → W2.heap[k]? = W.heap[k]? := fun k hk => by rw [hW2]; exact (heap_setCell_other _ _ _ _ (by show k ≠ w.heap.size + 1; omega)).trans (hk1 k (by omega))
 have e2 := hcell W2 hk2
 have hG2 := Kd.R_move (w1 := W2) (Kd.R_mono (Kd.R_bound hG) (fun k hk => hk.2.1)) (fun k hk => hk2 k hk)
 have hS2 := Kd.R_move (w1 := W2) (Kd.R_mono (Kd.R_bound hS) (fun k hk => hk.2.1)) (fun k hk => hk2 k hk)
 obtain ⟨_, _, f1, g1, k1⟩ := Kd.R_reads hG2
 injection f1 with f1 _ f1'
 subst f1 f1'
 obtain ⟨_, _, f2, g2, k2⟩ := Kd.R_reads hS2
 injection f2 with f2 _ f2'
 subst f2 f2'
 have hn2 := (hn.move (w1 := W2) (fun k hk _ => hk2 k hk)).at (n := ⟨xt, xb, [a, y, z]⟩)
 obtain ⟨ad', N1', n1', N2', n2', e', v0, v1, v2, l1, i1, l2, i2⟩ := at_T28 hn2.2.2.1 0 (by omega) (by simp)
 injection e' with e'
 subst e'
 have hrd : rd_T28 [a, y, z] 0 = a := rfl
 rw [hrd] at v1 v2 l1 i1 l2 i2
 replace v1 : W2.cell? ⟨ad.block, ad.off + 1, none⟩ = some (.slice N1' a.f1.length n1') := v1
 replace v2 : W2.cell? ⟨ad.block, ad.off + 2, none⟩ = some (.slice N2' a.f2.length n2') := v2
 have w1 := ((e2 ⟨ad.block, ad.off + 1, none⟩ had).trans u1).symm.trans v1
 have w2 := ((e2 ⟨ad.block, ad.off + 2, none⟩ had).trans u2).symm.trans v2
 injection w1 with w1
 injection w1 with w1 _ w1'
 injection w2 with w2
 injection w2 with w2 _ w2'
 subst w1 w1' w2 w2'
 exact ⟨hV2, ⟨i1, l1, i2, l2⟩, reads_of_C k2, g2, reads_of_C k1, g1⟩

set_option maxHeartbeats 4000000 in
set_option maxRecDepth 100000 in
theorem open_walk (A : Option Addr) (c : Nat) (l : List Int) (w : World) (hr : ReadsInt w .u8 A l.length l) (hc : l.length ≤ c) (hv : ∀ x ∈ l, 0 ≤ x ∧ x < 256) (hl : l.length ≤ 1000000000) :
 Calls Tryd.prog 13 #[.slice A l.length c] w (OpenPost w l) := by
 have hmf : ∀ (fn : Fn) (first cap : Array Value) (w : World), (Instr.makeFunc fn first cap).run Tryd.prog w = .ok (.func fn first cap) w := fun _ _ _ _ => rfl
 have hV := Vars.new w
 have HREAD := Lib.hid (read_walk A c l _ (ReadsInt_below hr hV.b) hc hv hl)
 have HV := Lib.hid hV
 have HL := Lib.hid hv
 generalize hPP : OpenPost w l = PP
 clear hr hv hV
 go_enter Tryd.func13, Tryd.ntmps13
 go_wp2_with (fail)
 refine HREAD.out.mono ?_
 intro e w3 hp
 unfold ReadPost at hp
 cases hq : readP l with
 | err x =>
  rw [hq] at hp
  obtain ⟨rfl, hB3⟩ := hp
  have hx : x ≠ 0 := readP_errs hq
  have hV3 := HV.out.step hB3
  have hV4 := hV3.step (W2 := w3.alloc (.cells #[.int .i64 0, .slice none 0 0, .slice none 0 0] 28)) ((Below.refl _ _).alloc (Nat.le_refl _) _)
  have hpp : PP = fun e w' => e = .returned (.tuple #[.agg #[.int .i64 0, .slice none 0 0, .slice none 0 0], .slice none 0 0, .slice none 0 0, .int .i64 x]) ∧ Below w.heap.size w w' := by
   rw [← hPP]; funext e w'; unfold OpenPost openP; rw [hq]
  clear hPP hq hB3 HREAD
  subst hpp
  have a0 := Lib.cell_of_heap hV4.n 0
  have a1 := Lib.cell_of_heap hV4.n 1
  have a2 := Lib.cell_of_heap hV4.n 2
  have g0 := Lib.cell_of_heap hV4.g 0
  have fa0 := Lib.frozen_of_heap hV4.n 0
  have fa1 := Lib.frozen_of_heap hV4.n 1
  have fa2 := Lib.frozen_of_heap hV4.n 2
  have fg0 := Lib.frozen_of_heap hV4.g 0
  have hx1 := eq_false hx
  have hx2 : (x == 0) = false := beq_eq_false_iff_ne.2 hx
  have hne : (w.heap.size = w3.heap.size) = False := eq_false (by have := heap_lt hV3.n; omega)
  have hne2 : (w.heap.size + 1 = w3.heap.size) = False := eq_false (by have := heap_lt hV3.g; omega)
  have HV4 := Lib.hid hV4
  clear hV3 hV4 hx
  go_wp2
  have hF := (HV4.out.setN (.int .i64 0) (.slice none 0 0) (.slice none 0 0)).setG (.slice none 0 0)
  generalize ((((w3.alloc (.cells #[.int .i64 0, .slice none 0 0, .slice none 0 0] 28)).setCell ⟨w.heap.size, 0, none⟩ (.int .i64 0)).setCell ⟨w.heap.size, 1, none⟩ (.slice none 0 0)).setCell ⟨w.heap.size, 2, none⟩ (.slice none 0 0)).setCell ⟨w.heap.size + 1, 0, none⟩ (.slice none 0 0) = WF at hF ⊢
  have z0 := Lib.cell_of_heap hF.n 0
  have z1 := Lib.cell_of_heap hF.n 1
  have z2 := Lib.cell_of_heap hF.n 2
  have z3 := Lib.cell_of_heap hF.g 0
  refine bodyPost_ret (v := .tuple #[.agg #[.int .i64 0, .slice none 0 0, .slice none 0 0], .slice none 0 0, .slice none 0 0, .int .i64 x]) (by simp [results, Tryd.results13, go_sem, z0, z1, z2, z3]) rfl ?_
  exact ⟨rfl, hF.b⟩
 | ok x =>
  rw [hq] at hp
  obtain ⟨v1, v2, rfl, hv1, hv2, hB3⟩ := hp
  obtain ⟨b1, b2, b3, b4, b5⟩ := readP_ok HL.out hq
  have hnr := NodeR.of (n := x) hv1 hv2
  obtain ⟨X1, x1, X2, x2, rfl, rfl, hnx⟩ := hnr.form
  have hV3 := HV.out.step hB3
  have hsz2 : ((w.alloc (.cells #[.int .i64 0, .slice none 0 0, .slice none 0 0] 28)).alloc (.cells #[.slice none 0 0] 22)).heap.size = w.heap.size + 2 := by simp
  rw [hsz2] at hnr
  have hal : Below w3.heap.size w3 (w3.alloc (.cells #[.int .i64 x.f0, .slice X1 x.f1.length x1, .slice X2 x.f2.length x2] 28)) := (Below.refl _ _).alloc (Nat.le_refl _) _
  have hle : w.heap.size + 1 < w3.heap.size := heap_lt hV3.g
  have H4 : ∀ w4, w4 = w3.alloc (.cells #[.int .i64 x.f0, .slice X1 x.f1.length x1, .slice X2 x.f2.length x2] 28) → Calls Tryd.prog 20 #[.func (.func 29) #[] #[.pointer (some ⟨w3.heap.size, 0, none⟩), .pointer (some ⟨w.heap.size + 1, 0, none⟩)]] w4 fun e w7 =>
   match openSig x with
   | none => e = .returned (.int .i64 2) ∧ Vars w w7 (.int .i64 0) (.slice none 0 0) (.slice none 0 0) (.slice none 0 0)
   | some (a, t) => e = .returned (.int .i64 0) ∧ ∃ G cg, Vars w w7 (.int .i64 0) (.slice none 0 0) (.slice none 0 0) (.slice G t.length cg) ∧ w7.heap[w3.heap.size]? = some (.cells #[.int .i64 x.f0, .slice X1 x.f1.length x1, .slice X2 x.f2.length x2] 28 (0, 0)) ∧ NodeR w7 (w.heap.size + 2) w3.heap.size x (.slice X1 x.f1.length x1) (.slice X2 x.f2.length x2) ∧ (Kd.int .u8).R 5 w7 (w.heap.size + 2) (fun _ => True) (.slice G t.length cg) t := by
   intro w4 hw4
   have hs4 : w4.heap.size = w3.heap.size + 1 := by rw [hw4]; simp
   have hx4 : w4.heap[w3.heap.size]? = some (.cells #[.int .i64 x.f0, .slice X1 x.f1.length x1, .slice X2 x.f2.length x2] 28 (0, 0)) := by rw [hw4]; exact heap_alloc_new w3 _
   rw [← hw4] at hal
   have hV4 := hV3.step hal
   have hn4 := hnx.below hal
   have hr4 := hnr.below hal
   have hal5 : Below w4.heap.size w4 (w4.alloc (.cells #[.int .i64 0] 32)) := (Below.refl _ _).alloc (Nat.le_refl _) _
   have he5 : (w4.alloc (.cells #[.int .i64 0] 32)).heap[w4.heap.size]? = some (.cells #[.int .i64 0] 32 (0, 0)) := heap_alloc_new w4 _
   have hV5 := hV4.step hal5
   have hx5 := (hal5.block _ (heap_lt hx4)).trans hx4
   have hn5 := hn4.below hal5
   have hr5 := hr4.below (hal5.mono (by omega))
   have hop := open1_any x w3.heap.size (w.heap.size + 1) (w4.alloc (.cells #[.int .i64 0] 32)) X1 x1 X2 x2 _ _ _ hx5 hV5.g hn5 b2 (by omega) (by rw [← b1]; exact HL.out)
   cases ho : openSig x with
   | none =>
    have hw := wrong_walk w3.heap.size (w.heap.size + 1) w4 (fun z W => z = 2 ∧ Below (w4.alloc (.cells #[.int .i64 0] 32)).heap.size (w4.alloc (.cells #[.int .i64 0] 32)) W) (hop.mono (by
     rintro e w2 h
     unfold Open1Post at h
     rw [ho] at h
     obtain ⟨rfl, hB⟩ := h
     exact ⟨.inr ⟨2, rfl, rfl, hB⟩, (hB.block _ (heap_lt he5)).trans he5⟩))
    refine hw.mono ?_
    rintro e w7 ⟨z, w2, rfl, ⟨rfl, hB⟩, rfl⟩
    exact ⟨rfl, (hV5.step hB).far ⟨w4.heap.size, 0, none⟩ _ (by show _ < w4.heap.size; omega)⟩
   | some pr =>
    obtain ⟨a, t⟩ := pr
    have hw := wrong_walk w3.heap.size (w.heap.size + 1) w4 (fun z W => z = 0 ∧ ∃ w6 G cg, Below (w4.alloc (.cells #[.int .i64 0] 32)).heap.size (w4.alloc (.cells #[.int .i64 0] 32)) w6 ∧ W = w6.setCell ⟨w.heap.size + 1, 0, none⟩ (.slice G t.length cg) ∧ (Kd.int .u8).R 5 w6 (w4.alloc (.cells #[.int .i64 0] 32)).heap.size (fun _ => True) (.slice G t.length cg) t) (hop.mono (by
     rintro e w2 h
     unfold Open1Post at h
     rw [ho] at h
     obtain ⟨rfl, w6, G, cg, hB, rfl, hG⟩ := h
     exact ⟨.inl ⟨rfl, rfl, w6, G, cg, hB, rfl, hG⟩, (heap_setCell_other _ _ _ _ (by show w4.heap.size ≠ w.heap.size + 1; omega)).trans ((hB.block _ (heap_lt he5)).trans he5)⟩))
    refine hw.mono ?_
    rintro e w7 ⟨z, w2, rfl, ⟨rfl, w6, G, cg, hB, rfl, hG⟩, rfl⟩
    have hs5 : (w4.alloc (.cells #[.int .i64 0] 32)).heap.size = w4.heap.size + 1 := by simp
    refine ⟨rfl, G, cg, ((hV5.step hB).setG _).far ⟨w4.heap.size, 0, none⟩ _ (by show _ < w4.heap.size; omega), ?_, ?_, ?_⟩
    ·exact (heap_setCell_other _ _ _ _ (by show w3.heap.size ≠ w4.heap.size; omega)).trans ((heap_setCell_other _ _ _ _ (by show w3.heap.size ≠ w.heap.size + 1; omega)).trans ((hB.block _ (heap_lt hx5)).trans hx5))
    ·exact (hr5.below (hB.mono (by omega))).move (fun k hk1 hk2 => (heap_setCell_other _ _ _ _ (by show k ≠ w4.heap.size; omega)).trans (heap_setCell_other _ _ _ _ (by show k ≠ w.heap.size + 1; omega)))
    ·have hG1 := Kd.R_mono (Kd.R_bound hG) (fun k hk => hk.2.1)
     have hG2 := Kd.R_far (p := ⟨w.heap.size + 1, 0, none⟩) hG1 (fun k hk => by show k ≠ w.heap.size + 1; omega) (.slice G t.length cg)
     have hG3 := Kd.R_far (p := ⟨w4.heap.size, 0, none⟩) hG2 (fun k hk => by show k ≠ w4.heap.size; omega) (.int .i64 0)
     exact Kd.R_lower (Kd.R_mono hG3 (fun _ _ => trivial)) (by omega)
  have HH4 := Lib.hid H4
  have HLE := Lib.hid hle
  clear H4 hnr hnx hal HREAD hB3 hle hV3 hv1 hv2 hsz2
  go_wp2_with (fail)
  refine (HH4.out _ rfl).mono ?_
  intro e w7 hp
  clear HH4
  cases ho : openSig x with
  | none =>
   rw [ho] at hp
   obtain ⟨rfl, hV7⟩ := hp
   have hpp : PP = fun e w' => e = .returned (.tuple #[.agg #[.int .i64 0, .slice none 0 0, .slice none 0 0], .slice none 0 0, .slice none 0 0, .int .i64 2]) ∧ Below w.heap.size w w' := by
    rw [← hPP]; funext e w'; unfold OpenPost openP; rw [hq]; simp only []; rw [ho]
   clear hPP hq b1 b2 b3 b4 b5 ho
   subst hpp
   have a0 := Lib.cell_of_heap hV7.n 0
   have a1 := Lib.cell_of_heap hV7.n 1
   have a2 := Lib.cell_of_heap hV7.n 2
   have g0 := Lib.cell_of_heap hV7.g 0
   have fa0 := Lib.frozen_of_heap hV7.n 0
   have fa1 := Lib.frozen_of_heap hV7.n 1
   have fa2 := Lib.frozen_of_heap hV7.n 2
   have fg0 := Lib.frozen_of_heap hV7.g 0
   have HV7 := Lib.hid hV7
   clear hV7
   go_wp2
   have hF := (HV7.out.setN (.int .i64 0) (.slice none 0 0) (.slice none 0 0)).setG (.slice none 0 0)
   generalize (((w7.setCell ⟨w.heap.size, 0, none⟩ (.int .i64 0)).setCell ⟨w.heap.size, 1, none⟩ (.slice none 0 0)).setCell ⟨w.heap.size, 2, none⟩ (.slice none 0 0)).setCell ⟨w.heap.size + 1, 0, none⟩ (.slice none 0 0) = WF at hF ⊢
   have z0 := Lib.cell_of_heap hF.n 0
   have z1 := Lib.cell_of_heap hF.n 1
   have z2 := Lib.cell_of_heap hF.n 2
   have z3 := Lib.cell_of_heap hF.g 0
   refine bodyPost_ret (v := .tuple #[.agg #[.int .i64 0, .slice none 0 0, .slice none 0 0], .slice none 0 0, .slice none 0 0, .int .i64 2]) (by simp [results, Tryd.results13, go_sem, z0, z1, z2, z3]) rfl ?_
   exact ⟨rfl, hF.b⟩
  | some pr =>
   obtain ⟨a, t⟩ := pr
   rw [ho] at hp
   obtain ⟨rfl, G, cg, hV7, hx7, hr7, hG7⟩ := hp
   obtain ⟨y, z, q1, q2, q3, q4⟩ := openSig_some ho
   obtain ⟨k1, k2, k3, k4⟩ := kids_parts x b2 a (by rw [q2]; simp)
   have hwa : writeP a = .ok (encT a) := by unfold writeP; rw [if_neg (by rw [k1]; simp), if_neg (by omega), if_neg (by omega)]
   have hpp : PP = fun e w' => ∃ A1 c1 A2 c2 S cs G cg, e = .returned (.tuple #[.agg #[.int .i64 a.f0, .slice A1 a.f1.length c1, .slice A2 a.f2.length c2], .slice S (encT a).length cs, .slice G t.length cg, .int .i64 0]) ∧ NodeAt w' a A1 c1 A2 c2 ∧ ReadsInt w' .u8 S (encT a).length (encT a) ∧ (encT a).length ≤ cs ∧ ReadsInt w' .u8 G t.length t ∧ t.length ≤ cg ∧ Below w.heap.size w w' := by
    have hsd : saidP a = encT a := by unfold saidP; rw [hwa]
    rw [← hPP]; funext e w'; unfold OpenPost openP; rw [hq]; simp only []; rw [ho]; simp only [hsd]
   have hsa : sizeT a ≤ 100000000 := by omega
   clear hPP hq b1 b2 b3 b4 b5 ho k1 k2 k3 k4
   subst hpp
   obtain ⟨xt, xb, xk⟩ := x
   dsimp only at q1 q2 hx7 hr7 ⊢
   subst q1 q2
   obtain ⟨ad, N1, n1, N2, n2, rfl, u0, u1, u2, l1, i1, l2, i2⟩ := at_T28 (hr7.at (n := ⟨48, xb, [a, y, z]⟩)).2.2.1 0 (by omega) (by simp)
   have hrd : rd_T28 [a, y, z] 0 = a := rfl
   rw [hrd] at u0 u1 u2 l1 i1 l2 i2
   have haz : Addr.add ad (Int.toNat 0 * 3) = ad := Addr.add_zero' ad
   rw [haz] at u0
   replace u1 : w7.cell? ⟨ad.block, ad.off + 1, none⟩ = some (.slice N1 a.f1.length n1) := u1
   replace u2 : w7.cell? ⟨ad.block, ad.off + 2, none⟩ = some (.slice N2 a.f2.length n2) := u2
   have hb2 := Lib.cell_of_heap hx7 2
   have HW := Lib.hid (write_walk a (fun _ => hsa) N1 n1 N2 n2 w7 ⟨i1, l1, i2, l2⟩)
   have HALL := Lib.hid (And.intro hV7 (And.intro hx7 (And.intro hr7 (And.intro hG7 (And.intro u0 (And.intro u1 u2))))))
   clear i1 l1 i2 l2 hV7 hx7 hr7 hG7 q3 q4 hrd haz
   go_wp2_with (fail)
   refine HW.out.mono ?_
   intro e w8 hp
   unfold WritePost at hp
   rw [hwa] at hp
   obtain ⟨S, cs, rfl, hS, hB8⟩ := hp
   obtain ⟨hV7, hx7, hr7, hG7, u0', u1', u2'⟩ := HALL.out
   have hV8 := (hV7.step hB8).drew
   have hle := HLE.out
   have hlt7 := heap_lt hx7
   have hd := open_done (W := w8.drew) hV8 (show w.heap.size + 1 < w3.heap.size from hle) ((hB8.block _ hlt7).trans hx7) (NodeR.move (w1 := w8.drew) (hr7.below (hB8.mono (by omega))) (fun _ _ _ => rfl))
    ((hB8.cell (World.block_lt_of_cell? w7 _ u0')).trans u0') ((hB8.cell (World.block_lt_of_cell? w7 _ u1')).trans u1') ((hB8.cell (World.block_lt_of_cell? w7 _ u2')).trans u2') (Kd.R_drew (Kd.R_below hG7 hB8)) (Kd.R_drew (Kd.R_lower hS (by omega)))
   have b0 := hd.1.1
   have b1 := hd.1.2.1
   have b2 := hd.1.2.2.1
   have b3 := hd.1.2.2.2.1
   have b4 := hd.1.2.2.2.2
   have hlen : (encT a).length = (encT a).length := rfl
   generalize hsd : encT a = sd at *
   have v0 := Lib.cell_of_heap hV8.n 0
   have v1 := Lib.cell_of_heap hV8.n 1
   have v2 := Lib.cell_of_heap hV8.n 2
   have fv0 := Lib.frozen_of_heap hV8.n 0
   have fv1 := Lib.frozen_of_heap hV8.n 1
   have fv2 := Lib.frozen_of_heap hV8.n 2
   have H8 := Lib.hid (hd.2 _ rfl)
   have HSD := Lib.hid hsd
   clear hd hS hB8 hV7 hx7 hr7 hG7 u0 u1 u2 u0' u1' u2' hb2 hV8 hle hlt7 HW HALL hwa hsa hlen hsd
   go_wp2
   refine start_ (n := 10) (S := fun w' => w'.cell? ⟨w3.heap.size, 2, none⟩ = some (.slice (some ad) 3 x2) ∧ w'.cell? ad = some (.int .i64 a.f0) ∧ w'.cell? ⟨ad.block, ad.off + 1, none⟩ = some (.slice N1 a.f1.length n1) ∧ w'.cell? ⟨ad.block, ad.off + 2, none⟩ = some (.slice N2 a.f2.length n2) ∧ w'.cell? ⟨w.heap.size + 1, 0, none⟩ = some (.slice G t.length cg)) (ds := [8]) #[false, false, false, false, false, false, false, false, false, false] (by kernel_rfl) rfl rfl ⟨b0, b1, b2, b3, b4⟩ (fun hHeld => ?_)
   generalize w8.drew = w9 at hHeld H8 v0 v1 v2 fv0 fv1 fv2 ⊢
   clear b0 b1 b2 b3 b4
   refine pure_ (i := 0) (N := some 30) (v := ?_) (a' := ?_) #[true, false, false, false, false, false, false, false, false, false] rfl rfl (by kernel_rfl) (fun _ _ _ h => h) (Or.inl ⟨by rfl, ?_⟩) ?_ ?_
   rotate_left
   ·intro w'
    go_simp
    with_reducible rfl
   rotate_left
   ·simp only [Act.put, List.setIfInBounds_toArray, List.set_cons_zero, List.set_cons_succ, i64_w, i32_w]
    rfl
   refine take_ (i := 1) (N := some 31) (v := ?_) (a' := ?_) #[true, true, false, false, false, false, false, false, false, false] rfl rfl (by kernel_rfl) (fun _ _ _ h => h) (Or.inl ⟨by rfl, ?_⟩) hHeld ?_ ?_
   rotate_left
   ·rintro w' ⟨s0, s1, s2, s3, s4⟩
    go_simp
    with_reducible rfl
   rotate_left
   ·simp only [Act.put, List.setIfInBounds_toArray, List.set_cons_zero, List.set_cons_succ, i64_w, i32_w]
    rfl
   refine pure_ (i := 2) (N := some 32) (v := ?_) (a' := ?_) #[true, true, true, false, false, false, false, false, false, false] rfl rfl (by kernel_rfl) (fun _ _ _ h => h) (Or.inl ⟨by rfl, ?_⟩) ?_ ?_
   rotate_left
   ·intro w'
    go_simp
    with_reducible rfl
   rotate_left
   ·simp only [Act.put, List.setIfInBounds_toArray, List.set_cons_zero, List.set_cons_succ, i64_w, i32_w]
    rfl
   refine take_ (i := 3) (N := some 33) (v := ?_) (a' := ?_) #[true, true, true, true, false, false, false, false, false, false] rfl rfl (by kernel_rfl) (fun _ _ _ h => h) (Or.inl ⟨by rfl, ?_⟩) hHeld ?_ ?_
   rotate_left
   ·rintro w' ⟨s0, s1, s2, s3, s4⟩
    go_simp
    with_reducible rfl
   rotate_left
   ·simp only [Act.put, List.setIfInBounds_toArray, List.set_cons_zero, List.set_cons_succ, i64_w, i32_w]
    rfl
   refine pure_ (i := 4) (N := some 34) (v := ?_) (a' := ?_) #[true, true, true, true, true, false, false, false, false, false] rfl rfl (by kernel_rfl) (fun _ _ _ h => h) (Or.inl ⟨by rfl, ?_⟩) ?_ ?_
   rotate_left
   ·intro w'
    go_simp
    with_reducible rfl
   rotate_left
   ·simp only [Act.put, List.setIfInBounds_toArray, List.set_cons_zero, List.set_cons_succ, i64_w, i32_w]
    rfl
   refine take_ (i := 5) (N := some 35) (v := ?_) (a' := ?_) #[true, true, true, true, true, true, false, false, false, false] rfl rfl (by kernel_rfl) (fun _ _ _ h => h) (Or.inl ⟨by rfl, ?_⟩) hHeld ?_ ?_
   rotate_left
   ·rintro w' ⟨s0, s1, s2, s3, s4⟩
    go_simp
    with_reducible rfl
   rotate_left
   ·simp only [Act.put, List.setIfInBounds_toArray, List.set_cons_zero, List.set_cons_succ, i64_w, i32_w]
    rfl
   refine one_ (i := 6) (N := none) #[true, true, true, true, true, true, true, false, false, false] rfl rfl (by kernel_rfl) (by decide) (fun K hK => ?_)
   refine skip_step (by rfl) (w1 := ((w9.setCell ⟨w.heap.size, 0, none⟩ (.int .i64 a.f0)).setCell ⟨w.heap.size, 1, none⟩ (.slice N1 a.f1.length n1)).setCell ⟨w.heap.size, 2, none⟩ (.slice N2 a.f2.length n2)) (by go_simp; try rfl) ?_
   refine hK.out _ _ H8.out.1 (fun hHeld => ?_)
   clear hK K
   refine pure_ (i := 7) (N := some 3) (v := ?_) (a' := ?_) #[true, true, true, true, true, true, true, true, false, false] rfl rfl (by kernel_rfl) (fun _ _ _ h => h) (Or.inl ⟨by rfl, ?_⟩) ?_ ?_
   rotate_left
   ·intro w'
    go_simp
    with_reducible rfl
   rotate_left
   ·simp only [Act.put, List.setIfInBounds_toArray, List.set_cons_zero, List.set_cons_succ, i64_w, i32_w]
    rfl
   refine last_ (i := 8) (N := none) #[true, true, true, true, true, true, true, true, true, false] rfl rfl (by kernel_rfl) (by decide) (fun K hK => ?_)
   have hz1 := H8.out.2.1
   have hz2 := H8.out.2.2.1
   refine skip_step (by rfl) (w1 := (((w9.setCell ⟨w.heap.size, 0, none⟩ (.int .i64 a.f0)).setCell ⟨w.heap.size, 1, none⟩ (.slice N1 a.f1.length n1)).setCell ⟨w.heap.size, 2, none⟩ (.slice N2 a.f2.length n2)).setCell ⟨w.heap.size + 1, 0, none⟩ (.slice G t.length cg)) (by go_simp; try rfl) ?_
   refine hK.out _ _ ?_
   clear hK K
   refine pure_ (i := 9) (N := some 5) (v := ?_) (a' := ?_) #[true, true, true, true, true, true, true, true, true, true] rfl rfl (by kernel_rfl) (fun _ _ _ h => h) (Or.inl ⟨by rfl, ?_⟩) ?_ ?_
   rotate_left
   ·intro w'
    go_simp
    with_reducible rfl
   rotate_left
   ·simp only [Act.put, List.setIfInBounds_toArray, List.set_cons_zero, List.set_cons_succ, i64_w, i32_w]
    rfl
   refine done_ (by kernel_rfl) ?_
   go_wp2
   have hF := H8.out.2.2.2 _ rfl
   generalize (((w9.setCell ⟨w.heap.size, 0, none⟩ (.int .i64 a.f0)).setCell ⟨w.heap.size, 1, none⟩ (.slice N1 a.f1.length n1)).setCell ⟨w.heap.size, 2, none⟩ (.slice N2 a.f2.length n2)).setCell ⟨w.heap.size + 1, 0, none⟩ (.slice G t.length cg) = WF at hF ⊢
   have y0 := Lib.cell_of_heap hF.1.n 0
   have y1 := Lib.cell_of_heap hF.1.n 1
   have y2 := Lib.cell_of_heap hF.1.n 2
   have y3 := Lib.cell_of_heap hF.1.g 0
   refine bodyPost_ret (v := .tuple #[.agg #[.int .i64 a.f0, .slice N1 a.f1.length n1, .slice N2 a.f2.length n2], .slice S sd.length cs, .slice G t.length cg, .int .i64 0]) (by simp [results, Tryd.results13, go_sem, y0, y1, y2, y3]) rfl ?_
   rw [HSD.out]
   exact ⟨N1, n1, N2, n2, S, cs, G, cg, rfl, hF.2.1, hF.2.2.1, hF.2.2.2.1, hF.2.2.2.2.1, hF.2.2.2.2.2, hF.1.b⟩

end Go.Proofs.YtmbgjhkemlliaaaDoor.Tlv
end

section
set_option linter.unusedVariables false
set_option linter.unusedSimpArgs false
namespace Go.Proofs.YtmbgjhkemlliaaaDoor.Tlv
open Go.RowKit Go.Proofs.YtmbgjhkemlliaaaDoorW.PrintWords Go.Proofs.YtmbgjhkemlliaaaDoorW.PrintLast Go.Proofs.YtmbgjhkemlliaaaDoorW.PrintMore Go.Proofs.YtmbgjhkemlliaaaDoor.PT

theorem head_bytes (tag n : Int) : ∀ v ∈ head tag n, 0 ≤ v ∧ v < 256 := by
 intro v hv
 unfold head at hv
 split at hv
 ·simp at hv; omega
 ·split at hv <;> (simp at hv; omega)
def wakeB : List Int := [48, 21, 5, 0, 48, 13, 6, 9, 42, 134, 72, 134, 247, 13, 1, 1, 11, 5, 0, 3, 2, 0, 7]
theorem wake_write : writeP (sealT ⟨5, [], []⟩ [7]) = .ok wakeB := by rfl
theorem wake_open : openP wakeB = .ok (⟨5, [], []⟩, [5, 0], [7]) := by
 have h1 : readP wakeB = .ok ⟨48, [], [⟨5, [], []⟩, algT 11, bitT [7]]⟩ := by rfl
 have h2 : sameP (algT 11) (algT 11) = true := by
  have hw : writeP (algT 11) = .ok (encT (algT 11)) := by rfl
  unfold sameP
  rw [hw]
  exact eqB_rfl _
 unfold openP
 rw [h1]
 simp only []
 unfold openSig
 simp only []
 rw [if_pos ⟨trivial, h2⟩]
 rfl

end Go.Proofs.YtmbgjhkemlliaaaDoor.Tlv
end

section
namespace Go.Proofs.YtmbgjhkemlliaaaDoor.PT
open Go.RowKit Go.Proofs.YtmbgjhkemlliaaaDoorW.PrintWords Go.Proofs.YtmbgjhkemlliaaaDoorW.PrintLast Go.Proofs.YtmbgjhkemlliaaaDoorW.PrintMore
attribute [local go_sem] max2_int min2_int max_two min_two max_three min_three max_four min_four   -- for this text's walks alone
set_option linter.unusedVariables false
set_option linter.unusedSimpArgs false

mutual
def lanyardref04_Same.j0 : Nat → Bool → Int → List Int → List (S28) → Int → List Int → List (S28) → Option (Bool)
 | 0, _, _, _, _, _, _, _ => none
 | k + 1, x28, x110000, x110001, x110002, x111000, x111001, x111002 => if x28 = true then (some false) else (lanyardref04_Same.l0 k 0 x110000 x110001 x110002 x111000 x111001 x111002)
def lanyardref04_Same.l0 : Nat → Int → Int → List Int → List (S28) → Int → List Int → List (S28) → Option (Bool)
 | 0, _, _, _, _, _, _, _ => none
 | k + 1, x5, x110000, x110001, x110002, x111000, x111001, x111002 => if x5 < (x110002.length : Int) then (if 0 ≤ x5 then (if x5 < (x111002.length : Int) then ((lanyardref04_Same.f k ((rd_T28 x110002 x5).f0) ((rd_T28 x110002 x5).f1) ((rd_T28 x110002 x5).f2) ((rd_T28 x111002 x5).f0) ((rd_T28 x111002 x5).f1) ((rd_T28 x111002 x5).f2)).bind fun t113 => (if t113 = true then (lanyardref04_Same.l0 k (wrap64 (x5 + 1)) x110000 x110001 x110002 x111000 x111001 x111002) else (some false))) else (none)) else (none)) else (some true)
def lanyardref04_Same.f : Nat → Int → List Int → List (S28) → Int → List Int → List (S28) → Option (Bool)
 | 0, _, _, _, _, _, _ => none
 | k + 1, a0_0, l0_1, l0_2, a1_0, l1_1, l1_2 => if a0_0 = a1_0 then (if (strOfNums l0_1).toList = (strOfNums l1_1).toList then (lanyardref04_Same.j0 k ((l0_2.length : Int) != (l1_2.length : Int)) a0_0 l0_1 l0_2 a1_0 l1_1 l1_2) else (lanyardref04_Same.j0 k true a0_0 l0_1 l0_2 a1_0 l1_1 l1_2)) else (lanyardref04_Same.j0 k true a0_0 l0_1 l0_2 a1_0 l1_1 l1_2)
end
theorem lanyardref04_Same.mono_l : ∀ k, (∀ y0 y1 y2 y3 y4 y5, LeO (lanyardref04_Same.f k y0 y1 y2 y3 y4 y5) (lanyardref04_Same.f (k + 1) y0 y1 y2 y3 y4 y5)) ∧ (∀ y0 y1 y2 y3 y4 y5 y6, LeO (lanyardref04_Same.j0 k y0 y1 y2 y3 y4 y5 y6) (lanyardref04_Same.j0 (k + 1) y0 y1 y2 y3 y4 y5 y6)) ∧ (∀ y0 y1 y2 y3 y4 y5 y6, LeO (lanyardref04_Same.l0 k y0 y1 y2 y3 y4 y5 y6) (lanyardref04_Same.l0 (k + 1) y0 y1 y2 y3 y4 y5 y6))
 | 0 => ⟨fun _ _ _ _ _ _ r h => by simp [lanyardref04_Same.f] at h, fun _ _ _ _ _ _ _ r h => by simp [lanyardref04_Same.j0] at h, fun _ _ _ _ _ _ _ r h => by simp [lanyardref04_Same.l0] at h⟩
 | k + 1 => by
  obtain ⟨ih0, ih1, ih2⟩ := lanyardref04_Same.mono_l k
  refine ⟨?_, ?_, ?_⟩
  ·intro y0 y1 y2 y3 y4 y5
   unfold lanyardref04_Same.f
   repeat' first
   | (with_reducible exact ih0 _ _ _ _ _ _)
   | (with_reducible exact ih1 _ _ _ _ _ _ _)
   | (with_reducible exact ih2 _ _ _ _ _ _ _)
   | (with_reducible exact LeO.refl _)
   | (with_reducible exact LeO.none _)
   | (with_reducible refine LeO.ite ?_ ?_)
   | (with_reducible refine LeO.bind ?_ (fun _ => ?_))
   | exact ih0 _ _ _ _ _ _
   | exact ih1 _ _ _ _ _ _ _
   | exact ih2 _ _ _ _ _ _ _
   | exact LeO.none _
   | refine LeO.ite ?_ ?_
   | refine LeO.bind ?_ (fun _ => ?_)
  ·intro y0 y1 y2 y3 y4 y5 y6
   unfold lanyardref04_Same.j0
   repeat' first
   | (with_reducible exact ih0 _ _ _ _ _ _)
   | (with_reducible exact ih1 _ _ _ _ _ _ _)
   | (with_reducible exact ih2 _ _ _ _ _ _ _)
   | (with_reducible exact LeO.refl _)
   | (with_reducible exact LeO.none _)
   | (with_reducible refine LeO.ite ?_ ?_)
   | (with_reducible refine LeO.bind ?_ (fun _ => ?_))
   | exact ih0 _ _ _ _ _ _
   | exact ih1 _ _ _ _ _ _ _
   | exact ih2 _ _ _ _ _ _ _
   | exact LeO.none _
   | refine LeO.ite ?_ ?_
   | refine LeO.bind ?_ (fun _ => ?_)
  ·intro y0 y1 y2 y3 y4 y5 y6
   unfold lanyardref04_Same.l0
   repeat' first
   | (with_reducible exact ih0 _ _ _ _ _ _)
   | (with_reducible exact ih1 _ _ _ _ _ _ _)
   | (with_reducible exact ih2 _ _ _ _ _ _ _)
   | (with_reducible exact LeO.refl _)
   | (with_reducible exact LeO.none _)
   | (with_reducible refine LeO.ite ?_ ?_)
   | (with_reducible refine LeO.bind ?_ (fun _ => ?_))
   | exact ih0 _ _ _ _ _ _
   | exact ih1 _ _ _ _ _ _ _
   | exact ih2 _ _ _ _ _ _ _
   | exact LeO.none _
   | refine LeO.ite ?_ ?_
   | refine LeO.bind ?_ (fun _ => ?_)
theorem lanyardref04_Same.mono : ∀ a0 a1 a2 a3 a4 a5 k, LeO (lanyardref04_Same.f k a0 a1 a2 a3 a4 a5) (lanyardref04_Same.f (k + 1) a0 a1 a2 a3 a4 a5) := by
 intro a0 a1 a2 a3 a4 a5 k
 obtain ⟨ih0, ih1, ih2⟩ := lanyardref04_Same.mono_l k
 exact ih0 a0 a1 a2 a3 a4 a5
def lanyardref04_Same.T6 : Bool × List (List Nat × List Nat) := (true, [([], []), ([0], [0]), ([], []), ([1, 2], [1, 2]), ([3], [3]), ([], []), ([5], [5]), ([], []), ([6, 7], [6, 7]), ([8], [8]), ([4, 9], [4, 9]), ([10], [10])])
def lanyardref04_Same.B6 : List Nat := [0, 1, 0, 7, 15, 0, 32, 0, 224, 480, 1023, 2047]
theorem lanyardref04_Same.tab6 : rtab .any (opsOf Tryd.f11 6) = lanyardref04_Same.T6 := by kernel_rfl
theorem lanyardref04_Same.bits6 : waitsOk lanyardref04_Same.T6.2 lanyardref04_Same.B6 = true := by kernel_rfl
set_option maxHeartbeats 8000000 in
set_option maxRecDepth 100000 in
theorem lanyardref04_Same.calls (k : Nat) : ∀ (a0_0 : Int) (A0_1 : Option Addr) (c0_1 : Nat) (l0_1 : List Int) (A0_2 : Option Addr) (c0_2 : Nat) (l0_2 : List (S28)) (a1_0 : Int) (A1_1 : Option Addr) (c1_1 : Nat) (l1_1 : List Int) (A1_2 : Option Addr) (c1_2 : Nat) (l1_2 : List (S28)) (r : Bool) (w : World) (hr0_1 : Kd.C (Kd.int .u8) w A0_1 l0_1.length l0_1) (hc0_1 : l0_1.length ≤ c0_1) (hr0_2 : Kd.C k28 w A0_2 l0_2.length l0_2) (hc0_2 : l0_2.length ≤ c0_2) (hr1_1 : Kd.C (Kd.int .u8) w A1_1 l1_1.length l1_1) (hc1_1 : l1_1.length ≤ c1_1) (hr1_2 : Kd.C k28 w A1_2 l1_2.length l1_2) (hc1_2 : l1_2.length ≤ c1_2) (h : lanyardref04_Same.f k a0_0 l0_1 l0_2 a1_0 l1_1 l1_2 = some r),
 Calls Tryd.prog 11 #[.agg #[.int .i64 a0_0, .slice A0_1 l0_1.length c0_1, .slice A0_2 l0_2.length c0_2], .agg #[.int .i64 a1_0, .slice A1_1 l1_1.length c1_1, .slice A1_2 l1_2.length c1_2]] w fun e w' => e = .returned (.bool r) ∧ Below w.heap.size w w' := by
 induction k using Nat.strongRecOn with
 | _ k ih =>
 intro a0_0 A0_1 c0_1 l0_1 A0_2 c0_2 l0_2 a1_0 A1_1 c1_1 l1_1 A1_2 c1_2 l1_2 r w hr0_1 hc0_1 hr0_2 hc0_2 hr1_1 hc1_1 hr1_2 hc1_2 h
 cases k with
 | zero => exact absurd h (by simp [lanyardref04_Same.f])
 | succ k =>
 simp only [lanyardref04_Same.f] at h
 have hu28 := Tryd.underlying28
 have HR0_1 := Aside0.mk hr0_1
 have HC0_1 := Aside0.mk hc0_1
 clear hr0_1 hc0_1
 have HR0_2 := Aside0.mk hr0_2
 have HC0_2 := Aside0.mk hc0_2
 clear hr0_2 hc0_2
 have HR1_1 := Aside0.mk hr1_1
 have HC1_1 := Aside0.mk hc1_1
 clear hr1_1 hc1_1
 have HR1_2 := Aside0.mk hr1_2
 have HC1_2 := Aside0.mk hc1_2
 clear hr1_2 hc1_2
 have HB := Aside0.mk (Below.refl w.heap.size w)
 have H : (if a0_0 = a1_0 then (if (strOfNums l0_1).toList = (strOfNums l1_1).toList then (lanyardref04_Same.j0 k ((l0_2.length : Int) != (l1_2.length : Int)) a0_0 l0_1 l0_2 a1_0 l1_1 l1_2) else (lanyardref04_Same.j0 k true a0_0 l0_1 l0_2 a1_0 l1_1 l1_2)) else (lanyardref04_Same.j0 k true a0_0 l0_1 l0_2 a1_0 l1_1 l1_2)) = some r := h
 clear h
 have HC3 := Aside0.mk H
 clear H
 go_enter Tryd.func11, Tryd.ntmps11
 go_upto_region 1 with (first | ((with_reducible refine gate_dst (N := 2) rfl ?_); (try (refine gate_guard (by rfl) ?_; dsimp only)); refine box_event ?hg (N := 2) ?hd (cs := #[.int .i64 a0_0, .slice A0_1 l0_1.length c0_1, .slice A0_2 l0_2.length c0_2]) (t := 28) ?hr ?_; (case hd => rfl); (case hg => rfl); (case hr => first | (go_simp; done) | (go_simp; rfl)); intro gb109 hg w4 hbox hb; have n0_ := Aside0.mk (below_step (by repeat (first | (with_reducible first | exact HB.out | apply below_alloc | apply pw_below_drewN | apply below_drew1) | exact HB.out)) hb); have n1_ := Aside0.mk (hbox); have n2_ := Aside0.mk ((by rw [hg]; exact (below_size (by repeat (first | (with_reducible first | exact HB.out | apply below_alloc | apply pw_below_drewN | apply below_drew1) | exact HB.out))) : w.heap.size ≤ gb109)); have n3_ := Aside0.mk ((by rw [hg]; exact (below_size (by repeat (first | (with_reducible first | exact HB.out | apply below_alloc | apply pw_below_drewN | apply below_drew1) | exact HB.out))) : w.heap.size ≤ gb109)); clear HB; have HB := n0_; have BK109 := n1_; have GW109 := n2_; have GE109 := n3_; clear n0_ n1_ n2_ n3_; clear hb hbox hg) | ((with_reducible refine gate_dst (N := 3) rfl ?_); (try (refine gate_guard (by rfl) ?_; dsimp only)); refine box_event ?hg (N := 3) ?hd (cs := #[.int .i64 a1_0, .slice A1_1 l1_1.length c1_1, .slice A1_2 l1_2.length c1_2]) (t := 28) ?hr ?_; (case hd => rfl); (case hg => rfl); (case hr => first | (go_simp; done) | (go_simp; rfl)); intro gb110 hg w5 hbox hb; have n0_ := Aside0.mk (blk_below (g := gb109) (o := .cells #[.int .i64 a0_0, .slice A0_1 l0_1.length c0_1, .slice A0_2 l0_2.length c0_2] 28 (0, 0)) (by (with_reducible repeat (first | refine blk_drewN ?_ _ | refine blk_drew ?_ | refine blk_alloc ?_ _)); exact BK109.out) hb); have n1_ := Aside0.mk (below_step (by repeat (first | (with_reducible first | exact HB.out | apply below_alloc | apply pw_below_drewN | apply below_drew1 | refine below_set ?_ GE109.out) | exact HB.out)) hb); have n2_ := Aside0.mk (hbox); have n3_ := Aside0.mk ((by rw [hg]; exact (below_size (by repeat (first | (with_reducible first | exact HB.out | apply below_alloc | apply pw_below_drewN | apply below_drew1 | refine below_set ?_ GE109.out) | exact HB.out))) : w.heap.size ≤ gb110)); have n4_ := Aside0.mk ((by rw [hg]; exact (below_size (by repeat (first | (with_reducible first | exact HB.out | apply below_alloc | apply pw_below_drewN | apply below_drew1 | refine below_set ?_ GE109.out) | exact HB.out))) : w.heap.size ≤ gb110)); have n5_ := Aside0.mk ((by rw [hg]; exact Nat.ne_of_lt (blk_lt (g := gb109) (o := .cells #[.int .i64 a0_0, .slice A0_1 l0_1.length c0_1, .slice A0_2 l0_2.length c0_2] 28 (0, 0)) (by (with_reducible repeat (first | refine blk_drewN ?_ _ | refine blk_drew ?_ | refine blk_alloc ?_ _)); exact BK109.out)) : gb109 ≠ gb110)); have n6_ := Aside0.mk ((by rw [hg]; exact Nat.ne_of_gt (blk_lt (g := gb109) (o := .cells #[.int .i64 a0_0, .slice A0_1 l0_1.length c0_1, .slice A0_2 l0_2.length c0_2] 28 (0, 0)) (by (with_reducible repeat (first | refine blk_drewN ?_ _ | refine blk_drew ?_ | refine blk_alloc ?_ _)); exact BK109.out)) : gb110 ≠ gb109)); clear BK109; clear HB; have BK109 := n0_; have HB := n1_; have BK110 := n2_; have GW110 := n3_; have GE110 := n4_; have NB109_110 := n5_; have NB110_109 := n6_; clear n0_ n1_ n2_ n3_ n4_ n5_ n6_; clear hb hbox hg))
 (try simp only [Act.put, List.setIfInBounds_toArray, List.set_cons_zero, List.set_cons_succ])
 go_cut [28] (fun v28 wc => ∃ (kq : Nat) (x28_2 : Bool), v28 = .bool x28_2 ∧ Aside0 (lanyardref04_Same.j0 kq x28_2 a0_0 l0_1 l0_2 a1_0 l1_1 l1_2 = some r) ∧ Aside0 (kq ≤ k) ∧ Aside0 (wc.heap[gb109]? = some (.cells #[.int .i64 a0_0, (.slice A0_1 l0_1.length c0_1), (.slice A0_2 l0_2.length c0_2)] 28 (0, 0))) ∧ Aside0 (wc.heap[gb110]? = some (.cells #[.int .i64 a1_0, (.slice A1_1 l1_1.length c1_1), (.slice A1_2 l1_2.length c1_2)] 28 (0, 0))) ∧ Aside0 (Below w.heap.size w wc))
 case first =>
  have H := HC3.out
  clear HC3
  by_cases c6 : a0_0 = a1_0
  ·rw [if_pos c6] at H
   have c6b0 : (a0_0 == a1_0) = true := beq_iff_eq.mpr c6
   have c6b1 : (a0_0 != a1_0) = false := bne_eq_false_iff_eq.mpr c6
   clear c6
   (first | rw [c6b0] | (simp only [i64_w, i32_w]; rw [c6b0]) | skip)
   by_cases c7 : (strOfNums l0_1).toList = (strOfNums l1_1).toList
   ·rw [if_pos c7] at H
    have c7b0 : ((strOfNums l0_1).toList == (strOfNums l1_1).toList) = true := beq_iff_eq.mpr c7
    have c7b1 : ((strOfNums l0_1).toList != (strOfNums l1_1).toList) = false := bne_eq_false_iff_eq.mpr c7
    clear c7
    have H' := Aside0.mk H
    clear H
    have hnb8 := NB109_110.out
    have hnc8 := NB110_109.out
    have hcz9_0 : w5.cell? ⟨gb109, 0, none⟩ = some (.int .i64 a0_0) := (blk_cell BK109.out 0).trans rfl
    have hcz9_1 : w5.cell? ⟨gb109, 1, none⟩ = some (.slice A0_1 l0_1.length c0_1) := (blk_cell BK109.out 1).trans rfl
    have hcz9_2 : w5.cell? ⟨gb109, 2, none⟩ = some (.slice A0_2 l0_2.length c0_2) := (blk_cell BK109.out 2).trans rfl
    have hfz9_0 := blk_frozen BK109.out 0
    have hfz9_1 := blk_frozen BK109.out 1
    have hfz9_2 := blk_frozen BK109.out 2
    have hcz10_0 : w5.cell? ⟨gb110, 0, none⟩ = some (.int .i64 a1_0) := (blk_cell BK110.out 0).trans rfl
    have hcz10_1 : w5.cell? ⟨gb110, 1, none⟩ = some (.slice A1_1 l1_1.length c1_1) := (blk_cell BK110.out 1).trans rfl
    have hcz10_2 : w5.cell? ⟨gb110, 2, none⟩ = some (.slice A1_2 l1_2.length c1_2) := (blk_cell BK110.out 2).trans rfl
    have hfz10_0 := blk_frozen BK110.out 0
    have hfz10_1 := blk_frozen BK110.out 1
    have hfz10_2 := blk_frozen BK110.out 2
    have hcv11 := Kd.C_string (P := Tryd.prog) (A := A0_1) (c := c0_1) Tryd.underlying22 Tryd.underlying5 Tryd.underlying9 (Kd.C_below HR0_1.out HB.out)
    have hcv12 := Kd.C_string (P := Tryd.prog) (A := A1_1) (c := c1_1) Tryd.underlying22 Tryd.underlying5 Tryd.underlying9 (Kd.C_below HR1_1.out HB.out)
    go_wp2
    go_meet
    case rel => exact ⟨_, (((l0_2.length : Int) != (l1_2.length : Int))), (by first | rfl | (simp; done) | (simp [*]; done)), H', ⟨by first | omega | exact Nat.le_refl _⟩, ⟨by (with_reducible repeat (first | refine blk_drewN ?_ _ | refine blk_drew ?_ | refine blk_alloc ?_ _)); exact BK109.out⟩, ⟨by (with_reducible repeat (first | refine blk_drewN ?_ _ | refine blk_drew ?_ | refine blk_alloc ?_ _)); exact BK110.out⟩, ⟨by repeat (first | (with_reducible first | exact HB.out | apply below_alloc | apply pw_below_drewN | apply below_drew1 | refine below_set ?_ GE109.out | refine below_set ?_ GE110.out) | exact HB.out)⟩⟩
   ·rw [if_neg c7] at H
    have c7b0 : ((strOfNums l0_1).toList == (strOfNums l1_1).toList) = false := beq_eq_false_iff_ne.mpr c7
    have c7b1 : ((strOfNums l0_1).toList != (strOfNums l1_1).toList) = true := bne_iff_ne.mpr c7
    have H' := Aside0.mk H
    clear H
    have hnb13 := NB109_110.out
    have hnc13 := NB110_109.out
    have hcz14_0 : w5.cell? ⟨gb109, 0, none⟩ = some (.int .i64 a0_0) := (blk_cell BK109.out 0).trans rfl
    have hcz14_1 : w5.cell? ⟨gb109, 1, none⟩ = some (.slice A0_1 l0_1.length c0_1) := (blk_cell BK109.out 1).trans rfl
    have hcz14_2 : w5.cell? ⟨gb109, 2, none⟩ = some (.slice A0_2 l0_2.length c0_2) := (blk_cell BK109.out 2).trans rfl
    have hfz14_0 := blk_frozen BK109.out 0
    have hfz14_1 := blk_frozen BK109.out 1
    have hfz14_2 := blk_frozen BK109.out 2
    have hcz15_0 : w5.cell? ⟨gb110, 0, none⟩ = some (.int .i64 a1_0) := (blk_cell BK110.out 0).trans rfl
    have hcz15_1 : w5.cell? ⟨gb110, 1, none⟩ = some (.slice A1_1 l1_1.length c1_1) := (blk_cell BK110.out 1).trans rfl
    have hcz15_2 : w5.cell? ⟨gb110, 2, none⟩ = some (.slice A1_2 l1_2.length c1_2) := (blk_cell BK110.out 2).trans rfl
    have hfz15_0 := blk_frozen BK110.out 0
    have hfz15_1 := blk_frozen BK110.out 1
    have hfz15_2 := blk_frozen BK110.out 2
    have hcv16 := Kd.C_string (P := Tryd.prog) (A := A0_1) (c := c0_1) Tryd.underlying22 Tryd.underlying5 Tryd.underlying9 (Kd.C_below HR0_1.out HB.out)
    have hcv17 := Kd.C_string (P := Tryd.prog) (A := A1_1) (c := c1_1) Tryd.underlying22 Tryd.underlying5 Tryd.underlying9 (Kd.C_below HR1_1.out HB.out)
    go_wp2
    go_meet
    case rel => exact ⟨_, (true), (by first | rfl | (simp; done) | (simp [*]; done)), H', ⟨by first | omega | exact Nat.le_refl _⟩, ⟨by (with_reducible repeat (first | refine blk_drewN ?_ _ | refine blk_drew ?_ | refine blk_alloc ?_ _)); exact BK109.out⟩, ⟨by (with_reducible repeat (first | refine blk_drewN ?_ _ | refine blk_drew ?_ | refine blk_alloc ?_ _)); exact BK110.out⟩, ⟨by repeat (first | (with_reducible first | exact HB.out | apply below_alloc | apply pw_below_drewN | apply below_drew1 | refine below_set ?_ GE109.out | refine below_set ?_ GE110.out) | exact HB.out)⟩⟩
  ·rw [if_neg c6] at H
   have c6b0 : (a0_0 == a1_0) = false := beq_eq_false_iff_ne.mpr c6
   have c6b1 : (a0_0 != a1_0) = true := bne_iff_ne.mpr c6
   (first | rw [c6b0] | (simp only [i64_w, i32_w]; rw [c6b0]) | skip)
   have H' := Aside0.mk H
   clear H
   have hnb18 := NB109_110.out
   have hnc18 := NB110_109.out
   have hcz19_0 : w5.cell? ⟨gb109, 0, none⟩ = some (.int .i64 a0_0) := (blk_cell BK109.out 0).trans rfl
   have hcz19_1 : w5.cell? ⟨gb109, 1, none⟩ = some (.slice A0_1 l0_1.length c0_1) := (blk_cell BK109.out 1).trans rfl
   have hcz19_2 : w5.cell? ⟨gb109, 2, none⟩ = some (.slice A0_2 l0_2.length c0_2) := (blk_cell BK109.out 2).trans rfl
   have hfz19_0 := blk_frozen BK109.out 0
   have hfz19_1 := blk_frozen BK109.out 1
   have hfz19_2 := blk_frozen BK109.out 2
   have hcz20_0 : w5.cell? ⟨gb110, 0, none⟩ = some (.int .i64 a1_0) := (blk_cell BK110.out 0).trans rfl
   have hcz20_1 : w5.cell? ⟨gb110, 1, none⟩ = some (.slice A1_1 l1_1.length c1_1) := (blk_cell BK110.out 1).trans rfl
   have hcz20_2 : w5.cell? ⟨gb110, 2, none⟩ = some (.slice A1_2 l1_2.length c1_2) := (blk_cell BK110.out 2).trans rfl
   have hfz20_0 := blk_frozen BK110.out 0
   have hfz20_1 := blk_frozen BK110.out 1
   have hfz20_2 := blk_frozen BK110.out 2
   go_wp2
   go_meet
   case rel => exact ⟨_, (true), (by first | rfl | (simp; done) | (simp [*]; done)), H', ⟨by first | omega | exact Nat.le_refl _⟩, ⟨by (with_reducible repeat (first | refine blk_drewN ?_ _ | refine blk_drew ?_ | refine blk_alloc ?_ _)); exact BK109.out⟩, ⟨by (with_reducible repeat (first | refine blk_drewN ?_ _ | refine blk_drew ?_ | refine blk_alloc ?_ _)); exact BK110.out⟩, ⟨by repeat (first | (with_reducible first | exact HB.out | apply below_alloc | apply pw_below_drewN | apply below_drew1 | refine below_set ?_ GE109.out | refine below_set ?_ GE110.out) | exact HB.out)⟩⟩
 case rest =>
  clear HC3
  try clear c1
  try clear hcv1
  try clear p2
  try clear c6
  try clear c6b0
  try clear c6b1
  try clear c7
  try clear c7b0
  try clear c7b1
  try clear c8
  try clear c11
  try clear hcv11
  try clear hcv12
  try clear c13
  try clear hcv16
  try clear hcv17
  try clear c18
  try clear hcz10_0
  try clear hcz10_1
  try clear hcz10_2
  try clear hcz14_0
  try clear hcz14_1
  try clear hcz14_2
  try clear hcz15_0
  try clear hcz15_1
  try clear hcz15_2
  try clear hcz19_0
  try clear hcz19_1
  try clear hcz19_2
  try clear hcz20_0
  try clear hcz20_1
  try clear hcz20_2
  try clear hcz9_0
  try clear hcz9_1
  try clear hcz9_2
  try clear hfz10_0
  try clear hfz10_1
  try clear hfz10_2
  try clear hfz14_0
  try clear hfz14_1
  try clear hfz14_2
  try clear hfz15_0
  try clear hfz15_1
  try clear hfz15_2
  try clear hfz19_0
  try clear hfz19_1
  try clear hfz19_2
  try clear hfz20_0
  try clear hfz20_1
  try clear hfz20_2
  try clear hfz9_0
  try clear hfz9_1
  try clear hfz9_2
  obtain ⟨kq, x28_2, rfl, HA, HJ2, BK109, BK110, HB⟩ := hcut
  cases kq with
  | zero => exact absurd HA.out (by simp [lanyardref04_Same.j0])
  | succ kj2 =>
   have H := HA.out
   clear HA
   simp only [lanyardref04_Same.j0] at H
   by_cases c21 : x28_2 = true
   ·subst c21
    have H1 : (some false) = some r := by rw [if_pos rfl] at H; exact H
    clear H
    have H := H1
    clear H1
    obtain rfl := Option.some.inj H
    go_wp2
    go_ret
    exact ⟨by first | rfl | (simp [errW_none, errW_some] <;> rfl) | (simp [*, errW_none, errW_some] <;> rfl), by repeat (first | (with_reducible first | exact HB.out | apply below_alloc | apply pw_below_drewN | apply below_drew1 | refine below_set ?_ GE109.out | refine below_set ?_ GE110.out) | exact HB.out)⟩
   ·replace c21 := Bool.eq_false_iff.mpr c21
    subst c21
    have H1 : (lanyardref04_Same.l0 kj2 0 a0_0 l0_1 l0_2 a1_0 l1_1 l1_2) = some r := by rw [if_neg (show ¬ (false = true) by decide)] at H; exact H
    clear H
    have H := H1
    clear H1
    have H' := Aside0.mk H
    clear H
    go_wp2
    go_loopg [5] kj2 (fun kq v5 w' => ∃ (x5_2 : Int), v5 = .int .i64 x5_2 ∧ Aside0 (lanyardref04_Same.l0 kq x5_2 a0_0 l0_1 l0_2 a1_0 l1_1 l1_2 = some r) ∧ Aside0 (kq ≤ kj2) ∧ Aside0 (w'.heap[gb109]? = some (.cells #[.int .i64 a0_0, (.slice A0_1 l0_1.length c0_1), (.slice A0_2 l0_2.length c0_2)] 28 (0, 0))) ∧ Aside0 (w'.heap[gb110]? = some (.cells #[.int .i64 a1_0, (.slice A1_1 l1_1.length c1_1), (.slice A1_2 l1_2.length c1_2)] 28 (0, 0))) ∧ Aside0 (Below w.heap.size w w'))
    case atStart => exact ⟨(0), (by first | rfl | (simp; done) | (simp [*]; done)), H', ⟨Nat.le_refl _⟩, ⟨by (with_reducible repeat (first | refine blk_drewN ?_ _ | refine blk_drew ?_ | refine blk_alloc ?_ _)); exact BK109.out⟩, ⟨by (with_reducible repeat (first | refine blk_drewN ?_ _ | refine blk_drew ?_ | refine blk_alloc ?_ _)); exact BK110.out⟩, ⟨by repeat (first | (with_reducible first | exact HB.out | apply below_alloc | apply pw_below_drewN | apply below_drew1 | refine below_set ?_ GE109.out | refine below_set ?_ GE110.out) | exact HB.out)⟩⟩
    case round =>
     clear H'
     try clear c1
     try clear hcv1
     try clear c2
     try clear p2
     try clear c6
     try clear c6b0
     try clear c6b1
     try clear c7
     try clear c7b0
     try clear c7b1
     try clear c8
     try clear c11
     try clear hcv11
     try clear hcv12
     try clear c13
     try clear hcv16
     try clear hcv17
     try clear c18
     try clear c21
     try clear hcz10_0
     try clear hcz10_1
     try clear hcz10_2
     try clear hcz14_0
     try clear hcz14_1
     try clear hcz14_2
     try clear hcz15_0
     try clear hcz15_1
     try clear hcz15_2
     try clear hcz19_0
     try clear hcz19_1
     try clear hcz19_2
     try clear hcz20_0
     try clear hcz20_1
     try clear hcz20_2
     try clear hcz9_0
     try clear hcz9_1
     try clear hcz9_2
     try clear hfz10_0
     try clear hfz10_1
     try clear hfz10_2
     try clear hfz14_0
     try clear hfz14_1
     try clear hfz14_2
     try clear hfz15_0
     try clear hfz15_1
     try clear hfz15_2
     try clear hfz19_0
     try clear hfz19_1
     try clear hfz19_2
     try clear hfz20_0
     try clear hfz20_1
     try clear hfz20_2
     try clear hfz9_0
     try clear hfz9_1
     try clear hfz9_2
     try clear p2
     obtain ⟨x5_2, rfl, HA, HK2, BK109, BK110, HB⟩ := hrel
     cases gk with
     | zero => exact absurd HA.out (by simp [lanyardref04_Same.l0])
     | succ k2 =>
      have H := HA.out
      clear HA
      simp only [lanyardref04_Same.l0] at H
      by_cases c22 : x5_2 < (l0_2.length : Int)
      ·rw [if_pos c22] at H
       have c22b0 : decide (x5_2 < (l0_2.length : Int)) = true := decide_eq_true c22
       clear c22
       by_cases c23 : 0 ≤ x5_2
       ·rw [if_pos c23] at H
        have c23b0 : decide (0 ≤ x5_2) = true := decide_eq_true c23
        clear c23
        by_cases c24 : x5_2 < (l1_2.length : Int)
        ·rw [if_pos c24] at H
         have c24b0 : decide (x5_2 < (l1_2.length : Int)) = true := decide_eq_true c24
         clear c24
         replace H := Option.bind_eq_some_iff.mp H
         obtain ⟨t113, A250, H⟩ := H
         replace H : (if t113 = true then (lanyardref04_Same.l0 k2 (wrap64 (x5_2 + 1)) a0_0 l0_1 l0_2 a1_0 l1_1 l1_2) else (some false)) = some r := H
         have A25 := Aside0.mk A250
         clear A250
         by_cases c26 : t113 = true
         ·subst c26
          have H1 : (lanyardref04_Same.l0 k2 (wrap64 (x5_2 + 1)) a0_0 l0_1 l0_2 a1_0 l1_1 l1_2) = some r := by rw [if_pos rfl] at H; exact H
          clear H
          have H := H1
          clear H1
          have H' := Aside0.mk H
          clear H
          have hnb27 := NB109_110.out
          have hnc27 := NB110_109.out
          have hcz28_0 : wr.cell? ⟨gb109, 0, none⟩ = some (.int .i64 a0_0) := (blk_cell BK109.out 0).trans rfl
          have hcz28_1 : wr.cell? ⟨gb109, 1, none⟩ = some (.slice A0_1 l0_1.length c0_1) := (blk_cell BK109.out 1).trans rfl
          have hcz28_2 : wr.cell? ⟨gb109, 2, none⟩ = some (.slice A0_2 l0_2.length c0_2) := (blk_cell BK109.out 2).trans rfl
          have hfz28_0 := blk_frozen BK109.out 0
          have hfz28_1 := blk_frozen BK109.out 1
          have hfz28_2 := blk_frozen BK109.out 2
          try go_wp2
          have n0_ := Aside0.mk (blk_drew BK109.out)
          have n1_ := Aside0.mk (blk_drew BK110.out)
          have n2_ := Aside0.mk (below_drew1 HB.out)
          clear BK109
          clear BK110
          clear HB
          have BK109 := n0_
          have BK110 := n1_
          have HB := n2_
          clear n0_ n1_ n2_
          have p111 : 0 ≤ (x5_2 : Int) := of_decide_eq_true (by first | (with_reducible assumption) | assumption)
          have q111 : x5_2 < (l0_2.length : Int) := of_decide_eq_true (by first | (with_reducible assumption) | assumption)
          obtain ⟨ad111, A111_1, c111_1, A111_2, c111_2, e111, hx111_0, hx111_1, hx111_2, hl111_1, hi111_1, hl111_2, hi111_2⟩ := at_T28 HR0_2.out x5_2 p111 q111
          have hw111_2 := hx111_2
          have hw111_1 := hx111_1
          have hw111_0 := hx111_0
          cases e111
          replace hx111_0 := (HB.out.cell (World.block_lt_of_cell? w _ hx111_0)).trans hx111_0
          replace hx111_1 := (HB.out.cell (World.block_lt_of_cell? w _ hx111_1)).trans hx111_1
          replace hx111_2 := (HB.out.cell (World.block_lt_of_cell? w _ hx111_2)).trans hx111_2
          have HR111_1 := Aside0.mk hi111_1
          have HC111_1 := Aside0.mk hl111_1
          clear hi111_1 hl111_1
          have HR111_2 := Aside0.mk hi111_2
          have HC111_2 := Aside0.mk hl111_2
          clear hi111_2 hl111_2
          replace p111 := eq_true p111
          replace q111 := eq_true q111
          have p112 : 0 ≤ (x5_2 : Int) := of_decide_eq_true (by first | (with_reducible assumption) | assumption)
          have q112 : x5_2 < (l1_2.length : Int) := of_decide_eq_true (by first | (with_reducible assumption) | assumption)
          obtain ⟨ad112, A112_1, c112_1, A112_2, c112_2, e112, hx112_0, hx112_1, hx112_2, hl112_1, hi112_1, hl112_2, hi112_2⟩ := at_T28 HR1_2.out x5_2 p112 q112
          have hw112_2 := hx112_2
          have hw112_1 := hx112_1
          have hw112_0 := hx112_0
          cases e112
          replace hx112_0 := (HB.out.cell (World.block_lt_of_cell? w _ hx112_0)).trans hx112_0
          replace hx112_1 := (HB.out.cell (World.block_lt_of_cell? w _ hx112_1)).trans hx112_1
          replace hx112_2 := (HB.out.cell (World.block_lt_of_cell? w _ hx112_2)).trans hx112_2
          have HR112_1 := Aside0.mk hi112_1
          have HC112_1 := Aside0.mk hl112_1
          clear hi112_1 hl112_1
          have HR112_2 := Aside0.mk hi112_2
          have HC112_2 := Aside0.mk hl112_2
          clear hi112_2 hl112_2
          replace p112 := eq_true p112
          replace q112 := eq_true q112
          refine start_ (n := 12) (S := fun w' => w'.cell? ⟨gb109, 0, none⟩ = some (.int .i64 a0_0) ∧ w'.cell? ⟨gb109, 1, none⟩ = some (.slice A0_1 l0_1.length c0_1) ∧ w'.cell? ⟨gb109, 2, none⟩ = some (.slice (some ad111) l0_2.length c0_2) ∧ w'.cell? ⟨gb110, 0, none⟩ = some (.int .i64 a1_0) ∧ w'.cell? ⟨gb110, 1, none⟩ = some (.slice A1_1 l1_1.length c1_1) ∧ w'.cell? ⟨gb110, 2, none⟩ = some (.slice (some ad112) l1_2.length c1_2) ∧ w'.cell? (ad111.add ((x5_2).toNat * 3)) = some (.int .i64 ((rd_T28 l0_2 x5_2).f0)) ∧ w'.cell? ⟨(ad111.add ((x5_2).toNat * 3)).block, (ad111.add ((x5_2).toNat * 3)).off + 1, none⟩ = some (.slice A111_1 ((rd_T28 l0_2 x5_2).f1).length c111_1) ∧ w'.cell? ⟨(ad111.add ((x5_2).toNat * 3)).block, (ad111.add ((x5_2).toNat * 3)).off + 2, none⟩ = some (.slice A111_2 ((rd_T28 l0_2 x5_2).f2).length c111_2) ∧ w'.cell? (ad112.add ((x5_2).toNat * 3)) = some (.int .i64 ((rd_T28 l1_2 x5_2).f0)) ∧ w'.cell? ⟨(ad112.add ((x5_2).toNat * 3)).block, (ad112.add ((x5_2).toNat * 3)).off + 1, none⟩ = some (.slice A112_1 ((rd_T28 l1_2 x5_2).f1).length c112_1) ∧ w'.cell? ⟨(ad112.add ((x5_2).toNat * 3)).block, (ad112.add ((x5_2).toNat * 3)).off + 2, none⟩ = some (.slice A112_2 ((rd_T28 l1_2 x5_2).f2).length c112_2)) (ds := []) #[false, false, false, false, false, false, false, false, false, false, false, false] (by kernel_rfl) rfl rfl ⟨(blk_cell BK109.out 0).trans rfl, (blk_cell BK109.out 1).trans rfl, (blk_cell BK109.out 2).trans rfl, (blk_cell BK110.out 0).trans rfl, (blk_cell BK110.out 1).trans rfl, (blk_cell BK110.out 2).trans rfl, ((HB.out.cell (World.block_lt_of_cell? w _ hw111_0)).trans hw111_0), ((HB.out.cell (World.block_lt_of_cell? w _ hw111_1)).trans hw111_1), ((HB.out.cell (World.block_lt_of_cell? w _ hw111_2)).trans hw111_2), ((HB.out.cell (World.block_lt_of_cell? w _ hw112_0)).trans hw112_0), ((HB.out.cell (World.block_lt_of_cell? w _ hw112_1)).trans hw112_1), ((HB.out.cell (World.block_lt_of_cell? w _ hw112_2)).trans hw112_2)⟩ (fun hHeld => ?_); refine with_tabW lanyardref04_Same.tab6 lanyardref04_Same.bits6 (fun HT_ HW_ => ?_)
          generalize wr.drew = w29 at BK109 BK110 HB HR111_1 HR111_2 HR112_1 HR112_2 hx111_0 hx111_1 hx111_2 hx112_0 hx112_1 hx112_2 hHeld ⊢
          refine pure_ (i := 0) (N := some 36) (v := ?_) (a' := ?_) #[true, false, false, false, false, false, false, false, false, false, false, false] rfl rfl (any_of HT_.out (by kernel_rfl)) (fun _ _ _ h => h) (Or.inl ⟨by rfl, ?_⟩) ?_ ?_
          rotate_left
          ·intro w'
           go_simp
           with_reducible rfl
          rotate_left
          ·simp only [Act.put, List.setIfInBounds_toArray, List.set_cons_zero, List.set_cons_succ, i64_w, i32_w]
           rfl
          refine pure_ (i := 2) (N := some 38) (v := ?_) (a' := ?_) #[true, false, true, false, false, false, false, false, false, false, false, false] rfl rfl (any_of HT_.out (by kernel_rfl)) (fun _ _ _ h => h) (Or.inl ⟨by rfl, ?_⟩) ?_ ?_
          rotate_left
          ·intro w'
           go_simp
           with_reducible rfl
          rotate_left
          ·simp only [Act.put, List.setIfInBounds_toArray, List.set_cons_zero, List.set_cons_succ, i64_w, i32_w]
           rfl
          refine pure_ (i := 5) (N := some 41) (v := ?_) (a' := ?_) #[true, false, true, false, false, true, false, false, false, false, false, false] rfl rfl (any_of HT_.out (by kernel_rfl)) (fun _ _ _ h => h) (Or.inl ⟨by rfl, ?_⟩) ?_ ?_
          rotate_left
          ·intro w'
           go_simp
           with_reducible rfl
          rotate_left
          ·simp only [Act.put, List.setIfInBounds_toArray, List.set_cons_zero, List.set_cons_succ, i64_w, i32_w]
           rfl
          refine pure_ (i := 7) (N := some 43) (v := ?_) (a' := ?_) #[true, false, true, false, false, true, false, true, false, false, false, false] rfl rfl (any_of HT_.out (by kernel_rfl)) (fun _ _ _ h => h) (Or.inl ⟨by rfl, ?_⟩) ?_ ?_
          rotate_left
          ·intro w'
           go_simp
           with_reducible rfl
          rotate_left
          ·simp only [Act.put, List.setIfInBounds_toArray, List.set_cons_zero, List.set_cons_succ, i64_w, i32_w]
           rfl
          refine take_ (i := 1) (N := some 37) (v := ?_) (a' := ?_) #[true, true, true, false, false, true, false, true, false, false, false, false] rfl rfl (take_ofW HT_.out HW_.out (by kernel_rfl)) (fun _ _ _ h => h) (Or.inl ⟨by rfl, ?_⟩) hHeld ?_ ?_
          rotate_left
          ·rintro w' ⟨s0, s1, s2, s3, s4, s5, s6, s7, s8, s9, s10, s11⟩
           go_simp
           with_reducible rfl
          rotate_left
          ·simp only [Act.put, List.setIfInBounds_toArray, List.set_cons_zero, List.set_cons_succ, i64_w, i32_w]
           rfl
          refine pure_ (i := 3) (N := some 39) (v := ?_) (a' := ?_) #[true, true, true, true, false, true, false, true, false, false, false, false] rfl rfl (any_of HT_.out (by kernel_rfl)) (fun _ _ _ h => h) (Or.inl ⟨by rfl, ?_⟩) ?_ ?_
          rotate_left
          ·intro w'
           go_simp
           with_reducible rfl
          rotate_left
          ·simp only [Act.put, List.setIfInBounds_toArray, List.set_cons_zero, List.set_cons_succ, i64_w, i32_w]
           rfl
          refine take_ (i := 4) (N := some 40) (v := ?_) (a' := ?_) #[true, true, true, true, true, true, false, true, false, false, false, false] rfl rfl (take_ofW HT_.out HW_.out (by kernel_rfl)) (fun _ _ _ h => h) (Or.inl ⟨by rfl, ?_⟩) hHeld ?_ ?_
          rotate_left
          ·rintro w' ⟨s0, s1, s2, s3, s4, s5, s6, s7, s8, s9, s10, s11⟩
           go_simp
           with_reducible rfl
          rotate_left
          ·simp only [Act.put, List.setIfInBounds_toArray, List.set_cons_zero, List.set_cons_succ, i64_w, i32_w]
           rfl
          refine take_ (i := 6) (N := some 42) (v := ?_) (a' := ?_) #[true, true, true, true, true, true, true, true, false, false, false, false] rfl rfl (take_ofW HT_.out HW_.out (by kernel_rfl)) (fun _ _ _ h => h) (Or.inl ⟨by rfl, ?_⟩) hHeld ?_ ?_
          rotate_left
          ·rintro w' ⟨s0, s1, s2, s3, s4, s5, s6, s7, s8, s9, s10, s11⟩
           go_simp
           with_reducible rfl
          rotate_left
          ·simp only [Act.put, List.setIfInBounds_toArray, List.set_cons_zero, List.set_cons_succ, i64_w, i32_w]
           rfl
          refine pure_ (i := 8) (N := some 44) (v := ?_) (a' := ?_) #[true, true, true, true, true, true, true, true, true, false, false, false] rfl rfl (any_of HT_.out (by kernel_rfl)) (fun _ _ _ h => h) (Or.inl ⟨by rfl, ?_⟩) ?_ ?_
          rotate_left
          ·intro w'
           go_simp
           with_reducible rfl
          rotate_left
          ·simp only [Act.put, List.setIfInBounds_toArray, List.set_cons_zero, List.set_cons_succ, i64_w, i32_w]
           rfl
          refine take_ (i := 9) (N := some 45) (v := ?_) (a' := ?_) #[true, true, true, true, true, true, true, true, true, true, false, false] rfl rfl (take_ofW HT_.out HW_.out (by kernel_rfl)) (fun _ _ _ h => h) (Or.inl ⟨by rfl, ?_⟩) hHeld ?_ ?_
          rotate_left
          ·rintro w' ⟨s0, s1, s2, s3, s4, s5, s6, s7, s8, s9, s10, s11⟩
           go_simp
           with_reducible rfl
          rotate_left
          ·simp only [Act.put, List.setIfInBounds_toArray, List.set_cons_zero, List.set_cons_succ, i64_w, i32_w]
           rfl
          refine one_ (i := 10) (N := some 46) #[true, true, true, true, true, true, true, true, true, true, true, false] rfl rfl (one_of HT_.out (by kernel_rfl)) (by decide) (fun K hK => ?_)
          refine goes_ Tryd.func11 (by kernel_rfl) rfl #[.agg #[.int .i64 ((rd_T28 l0_2 x5_2).f0), .slice A111_1 ((rd_T28 l0_2 x5_2).f1).length c111_1, .slice A111_2 ((rd_T28 l0_2 x5_2).f2).length c111_2], .agg #[.int .i64 ((rd_T28 l1_2 x5_2).f0), .slice A112_1 ((rd_T28 l1_2 x5_2).f1).length c112_1, .slice A112_2 ((rd_T28 l1_2 x5_2).f2).length c112_2]] (by rfl) rfl rfl (by (try simp only [List.map_toArray, List.map_cons, List.map_nil]); first | done | rfl | (simp only [List.length_drop, List.length_take]; rfl)) ?_
          with_reducible refine (ih k2 (by have := HJ2.out; have := HK2.out; omega) ((rd_T28 l0_2 x5_2).f0) _ _ ((rd_T28 l0_2 x5_2).f1) _ _ ((rd_T28 l0_2 x5_2).f2) ((rd_T28 l1_2 x5_2).f0) _ _ ((rd_T28 l1_2 x5_2).f1) _ _ ((rd_T28 l1_2 x5_2).f2) true _ ?side1 ?side2 ?side3 ?side4 ?side5 ?side6 ?side7 ?side8 A25.out).mono ?_
          (case side1 => repeat (first | exact (Kd.C_below HR111_1.out HB.out) | (with_reducible refine Kd.C_alloc ?_ _) | (with_reducible refine Kd.C_drewN ?_ _) | (with_reducible refine Kd.C_drew ?_)))
          (case side2 => exact HC111_1.out)
          (case side3 => repeat (first | exact (Kd.C_below HR111_2.out HB.out) | (with_reducible refine Kd.C_alloc ?_ _) | (with_reducible refine Kd.C_drewN ?_ _) | (with_reducible refine Kd.C_drew ?_)))
          (case side4 => exact HC111_2.out)
          (case side5 => repeat (first | exact (Kd.C_below HR112_1.out HB.out) | (with_reducible refine Kd.C_alloc ?_ _) | (with_reducible refine Kd.C_drewN ?_ _) | (with_reducible refine Kd.C_drew ?_)))
          (case side6 => exact HC112_1.out)
          (case side7 => repeat (first | exact (Kd.C_below HR112_2.out HB.out) | (with_reducible refine Kd.C_alloc ?_ _) | (with_reducible refine Kd.C_drewN ?_ _) | (with_reducible refine Kd.C_drew ?_)))
          (case side8 => exact HC112_2.out)
          rintro e w30 ⟨rfl, hb⟩
          refine ⟨_, rfl, ?_⟩
          have n0_ := Aside0.mk (blk_below (g := gb109) (o := .cells #[.int .i64 a0_0, .slice A0_1 l0_1.length c0_1, .slice (some ad111) l0_2.length c0_2] 28 (0, 0)) (by (with_reducible repeat (first | refine blk_drewN ?_ _ | refine blk_drew ?_ | refine blk_alloc ?_ _)); exact BK109.out) hb)
          have n1_ := Aside0.mk (blk_below (g := gb110) (o := .cells #[.int .i64 a1_0, .slice A1_1 l1_1.length c1_1, .slice (some ad112) l1_2.length c1_2] 28 (0, 0)) (by (with_reducible repeat (first | refine blk_drewN ?_ _ | refine blk_drew ?_ | refine blk_alloc ?_ _)); exact BK110.out) hb)
          have n2_ := Aside0.mk (below_step (by repeat (first | (with_reducible first | exact HB.out | apply below_alloc | apply pw_below_drewN | apply below_drew1 | refine below_set ?_ GE109.out | refine below_set ?_ GE110.out) | exact HB.out)) hb)
          clear BK109
          clear BK110
          clear HB
          have BK109 := n0_
          have BK110 := n1_
          have HB := n2_
          clear n0_ n1_ n2_
          (try clear hb)
          (try clear hb2)
          (try clear hk)
          (try clear hi)
          refine hK.out _ _ ⟨(blk_cell BK109.out 0).trans rfl, (blk_cell BK109.out 1).trans rfl, (blk_cell BK109.out 2).trans rfl, (blk_cell BK110.out 0).trans rfl, (blk_cell BK110.out 1).trans rfl, (blk_cell BK110.out 2).trans rfl, ((HB.out.cell (World.block_lt_of_cell? w _ hw111_0)).trans hw111_0), ((HB.out.cell (World.block_lt_of_cell? w _ hw111_1)).trans hw111_1), ((HB.out.cell (World.block_lt_of_cell? w _ hw111_2)).trans hw111_2), ((HB.out.cell (World.block_lt_of_cell? w _ hw112_0)).trans hw112_0), ((HB.out.cell (World.block_lt_of_cell? w _ hw112_1)).trans hw112_1), ((HB.out.cell (World.block_lt_of_cell? w _ hw112_2)).trans hw112_2)⟩ (fun hHeld => ?_)
          clear hK K
          refine norm_ (a' := ?_) ?_ ?_
          rotate_left
          ·show Act.put _ (some 46) _ = _
           simp only [Act.put, List.setIfInBounds_toArray, List.set_cons_zero, List.set_cons_succ, i64_w, i32_w]
           rfl
          refine pure_ (i := 11) (N := some 47) (v := ?_) (a' := ?_) #[true, true, true, true, true, true, true, true, true, true, true, true] rfl rfl (any_of HT_.out (by kernel_rfl)) (fun _ _ _ h => h) (Or.inl ⟨by rfl, ?_⟩) ?_ ?_
          rotate_left
          ·intro w'
           go_simp
           with_reducible rfl
          rotate_left
          ·simp only [Act.put, List.setIfInBounds_toArray, List.set_cons_zero, List.set_cons_succ, i64_w, i32_w]
           rfl
          refine done_ (done_of HT_.out (by kernel_rfl)) ?_
          try go_wp2
          go_roundg k2
          case measure => have := HJ2.out; have := HK2.out; omega
          case rel => exact ⟨(wrap64 (x5_2 + 1)), (by first | rfl | (simp; done) | (simp [*]; done)), H', ⟨by have := HJ2.out; have := HK2.out; omega⟩, ⟨by (with_reducible repeat (first | refine blk_drewN ?_ _ | refine blk_drew ?_ | refine blk_alloc ?_ _)); exact BK109.out⟩, ⟨by (with_reducible repeat (first | refine blk_drewN ?_ _ | refine blk_drew ?_ | refine blk_alloc ?_ _)); exact BK110.out⟩, ⟨by repeat (first | (with_reducible first | exact HB.out | apply below_alloc | apply pw_below_drewN | apply below_drew1 | refine below_set ?_ GE109.out | refine below_set ?_ GE110.out) | exact HB.out)⟩⟩
         ·replace c26 := Bool.eq_false_iff.mpr c26
          subst c26
          have H1 : (some false) = some r := by rw [if_neg (show ¬ (false = true) by decide)] at H; exact H
          clear H
          have H := H1
          clear H1
          obtain rfl := Option.some.inj H
          have hnb31 := NB109_110.out
          have hnc31 := NB110_109.out
          have hcz32_0 : wr.cell? ⟨gb109, 0, none⟩ = some (.int .i64 a0_0) := (blk_cell BK109.out 0).trans rfl
          have hcz32_1 : wr.cell? ⟨gb109, 1, none⟩ = some (.slice A0_1 l0_1.length c0_1) := (blk_cell BK109.out 1).trans rfl
          have hcz32_2 : wr.cell? ⟨gb109, 2, none⟩ = some (.slice A0_2 l0_2.length c0_2) := (blk_cell BK109.out 2).trans rfl
          have hfz32_0 := blk_frozen BK109.out 0
          have hfz32_1 := blk_frozen BK109.out 1
          have hfz32_2 := blk_frozen BK109.out 2
          try go_wp2
          have n0_ := Aside0.mk (blk_drew BK109.out)
          have n1_ := Aside0.mk (blk_drew BK110.out)
          have n2_ := Aside0.mk (below_drew1 HB.out)
          clear BK109
          clear BK110
          clear HB
          have BK109 := n0_
          have BK110 := n1_
          have HB := n2_
          clear n0_ n1_ n2_
          have p111 : 0 ≤ (x5_2 : Int) := of_decide_eq_true (by first | (with_reducible assumption) | assumption)
          have q111 : x5_2 < (l0_2.length : Int) := of_decide_eq_true (by first | (with_reducible assumption) | assumption)
          obtain ⟨ad111, A111_1, c111_1, A111_2, c111_2, e111, hx111_0, hx111_1, hx111_2, hl111_1, hi111_1, hl111_2, hi111_2⟩ := at_T28 HR0_2.out x5_2 p111 q111
          have hw111_2 := hx111_2
          have hw111_1 := hx111_1
          have hw111_0 := hx111_0
          cases e111
          replace hx111_0 := (HB.out.cell (World.block_lt_of_cell? w _ hx111_0)).trans hx111_0
          replace hx111_1 := (HB.out.cell (World.block_lt_of_cell? w _ hx111_1)).trans hx111_1
          replace hx111_2 := (HB.out.cell (World.block_lt_of_cell? w _ hx111_2)).trans hx111_2
          have HR111_1 := Aside0.mk hi111_1
          have HC111_1 := Aside0.mk hl111_1
          clear hi111_1 hl111_1
          have HR111_2 := Aside0.mk hi111_2
          have HC111_2 := Aside0.mk hl111_2
          clear hi111_2 hl111_2
          replace p111 := eq_true p111
          replace q111 := eq_true q111
          have p112 : 0 ≤ (x5_2 : Int) := of_decide_eq_true (by first | (with_reducible assumption) | assumption)
          have q112 : x5_2 < (l1_2.length : Int) := of_decide_eq_true (by first | (with_reducible assumption) | assumption)
          obtain ⟨ad112, A112_1, c112_1, A112_2, c112_2, e112, hx112_0, hx112_1, hx112_2, hl112_1, hi112_1, hl112_2, hi112_2⟩ := at_T28 HR1_2.out x5_2 p112 q112
          have hw112_2 := hx112_2
          have hw112_1 := hx112_1
          have hw112_0 := hx112_0
          cases e112
          replace hx112_0 := (HB.out.cell (World.block_lt_of_cell? w _ hx112_0)).trans hx112_0
          replace hx112_1 := (HB.out.cell (World.block_lt_of_cell? w _ hx112_1)).trans hx112_1
          replace hx112_2 := (HB.out.cell (World.block_lt_of_cell? w _ hx112_2)).trans hx112_2
          have HR112_1 := Aside0.mk hi112_1
          have HC112_1 := Aside0.mk hl112_1
          clear hi112_1 hl112_1
          have HR112_2 := Aside0.mk hi112_2
          have HC112_2 := Aside0.mk hl112_2
          clear hi112_2 hl112_2
          replace p112 := eq_true p112
          replace q112 := eq_true q112
          refine start_ (n := 12) (S := fun w' => w'.cell? ⟨gb109, 0, none⟩ = some (.int .i64 a0_0) ∧ w'.cell? ⟨gb109, 1, none⟩ = some (.slice A0_1 l0_1.length c0_1) ∧ w'.cell? ⟨gb109, 2, none⟩ = some (.slice (some ad111) l0_2.length c0_2) ∧ w'.cell? ⟨gb110, 0, none⟩ = some (.int .i64 a1_0) ∧ w'.cell? ⟨gb110, 1, none⟩ = some (.slice A1_1 l1_1.length c1_1) ∧ w'.cell? ⟨gb110, 2, none⟩ = some (.slice (some ad112) l1_2.length c1_2) ∧ w'.cell? (ad111.add ((x5_2).toNat * 3)) = some (.int .i64 ((rd_T28 l0_2 x5_2).f0)) ∧ w'.cell? ⟨(ad111.add ((x5_2).toNat * 3)).block, (ad111.add ((x5_2).toNat * 3)).off + 1, none⟩ = some (.slice A111_1 ((rd_T28 l0_2 x5_2).f1).length c111_1) ∧ w'.cell? ⟨(ad111.add ((x5_2).toNat * 3)).block, (ad111.add ((x5_2).toNat * 3)).off + 2, none⟩ = some (.slice A111_2 ((rd_T28 l0_2 x5_2).f2).length c111_2) ∧ w'.cell? (ad112.add ((x5_2).toNat * 3)) = some (.int .i64 ((rd_T28 l1_2 x5_2).f0)) ∧ w'.cell? ⟨(ad112.add ((x5_2).toNat * 3)).block, (ad112.add ((x5_2).toNat * 3)).off + 1, none⟩ = some (.slice A112_1 ((rd_T28 l1_2 x5_2).f1).length c112_1) ∧ w'.cell? ⟨(ad112.add ((x5_2).toNat * 3)).block, (ad112.add ((x5_2).toNat * 3)).off + 2, none⟩ = some (.slice A112_2 ((rd_T28 l1_2 x5_2).f2).length c112_2)) (ds := []) #[false, false, false, false, false, false, false, false, false, false, false, false] (by kernel_rfl) rfl rfl ⟨(blk_cell BK109.out 0).trans rfl, (blk_cell BK109.out 1).trans rfl, (blk_cell BK109.out 2).trans rfl, (blk_cell BK110.out 0).trans rfl, (blk_cell BK110.out 1).trans rfl, (blk_cell BK110.out 2).trans rfl, ((HB.out.cell (World.block_lt_of_cell? w _ hw111_0)).trans hw111_0), ((HB.out.cell (World.block_lt_of_cell? w _ hw111_1)).trans hw111_1), ((HB.out.cell (World.block_lt_of_cell? w _ hw111_2)).trans hw111_2), ((HB.out.cell (World.block_lt_of_cell? w _ hw112_0)).trans hw112_0), ((HB.out.cell (World.block_lt_of_cell? w _ hw112_1)).trans hw112_1), ((HB.out.cell (World.block_lt_of_cell? w _ hw112_2)).trans hw112_2)⟩ (fun hHeld => ?_); refine with_tabW lanyardref04_Same.tab6 lanyardref04_Same.bits6 (fun HT_ HW_ => ?_)
          generalize wr.drew = w33 at BK109 BK110 HB HR111_1 HR111_2 HR112_1 HR112_2 hx111_0 hx111_1 hx111_2 hx112_0 hx112_1 hx112_2 hHeld ⊢
          refine pure_ (i := 0) (N := some 36) (v := ?_) (a' := ?_) #[true, false, false, false, false, false, false, false, false, false, false, false] rfl rfl (any_of HT_.out (by kernel_rfl)) (fun _ _ _ h => h) (Or.inl ⟨by rfl, ?_⟩) ?_ ?_
          rotate_left
          ·intro w'
           go_simp
           with_reducible rfl
          rotate_left
          ·simp only [Act.put, List.setIfInBounds_toArray, List.set_cons_zero, List.set_cons_succ, i64_w, i32_w]
           rfl
          refine pure_ (i := 2) (N := some 38) (v := ?_) (a' := ?_) #[true, false, true, false, false, false, false, false, false, false, false, false] rfl rfl (any_of HT_.out (by kernel_rfl)) (fun _ _ _ h => h) (Or.inl ⟨by rfl, ?_⟩) ?_ ?_
          rotate_left
          ·intro w'
           go_simp
           with_reducible rfl
          rotate_left
          ·simp only [Act.put, List.setIfInBounds_toArray, List.set_cons_zero, List.set_cons_succ, i64_w, i32_w]
           rfl
          refine pure_ (i := 5) (N := some 41) (v := ?_) (a' := ?_) #[true, false, true, false, false, true, false, false, false, false, false, false] rfl rfl (any_of HT_.out (by kernel_rfl)) (fun _ _ _ h => h) (Or.inl ⟨by rfl, ?_⟩) ?_ ?_
          rotate_left
          ·intro w'
           go_simp
           with_reducible rfl
          rotate_left
          ·simp only [Act.put, List.setIfInBounds_toArray, List.set_cons_zero, List.set_cons_succ, i64_w, i32_w]
           rfl
          refine pure_ (i := 7) (N := some 43) (v := ?_) (a' := ?_) #[true, false, true, false, false, true, false, true, false, false, false, false] rfl rfl (any_of HT_.out (by kernel_rfl)) (fun _ _ _ h => h) (Or.inl ⟨by rfl, ?_⟩) ?_ ?_
          rotate_left
          ·intro w'
           go_simp
           with_reducible rfl
          rotate_left
          ·simp only [Act.put, List.setIfInBounds_toArray, List.set_cons_zero, List.set_cons_succ, i64_w, i32_w]
           rfl
          refine take_ (i := 1) (N := some 37) (v := ?_) (a' := ?_) #[true, true, true, false, false, true, false, true, false, false, false, false] rfl rfl (take_ofW HT_.out HW_.out (by kernel_rfl)) (fun _ _ _ h => h) (Or.inl ⟨by rfl, ?_⟩) hHeld ?_ ?_
          rotate_left
          ·rintro w' ⟨s0, s1, s2, s3, s4, s5, s6, s7, s8, s9, s10, s11⟩
           go_simp
           with_reducible rfl
          rotate_left
          ·simp only [Act.put, List.setIfInBounds_toArray, List.set_cons_zero, List.set_cons_succ, i64_w, i32_w]
           rfl
          refine pure_ (i := 3) (N := some 39) (v := ?_) (a' := ?_) #[true, true, true, true, false, true, false, true, false, false, false, false] rfl rfl (any_of HT_.out (by kernel_rfl)) (fun _ _ _ h => h) (Or.inl ⟨by rfl, ?_⟩) ?_ ?_
          rotate_left
          ·intro w'
           go_simp
           with_reducible rfl
          rotate_left
          ·simp only [Act.put, List.setIfInBounds_toArray, List.set_cons_zero, List.set_cons_succ, i64_w, i32_w]
           rfl
          refine take_ (i := 4) (N := some 40) (v := ?_) (a' := ?_) #[true, true, true, true, true, true, false, true, false, false, false, false] rfl rfl (take_ofW HT_.out HW_.out (by kernel_rfl)) (fun _ _ _ h => h) (Or.inl ⟨by rfl, ?_⟩) hHeld ?_ ?_
          rotate_left
          ·rintro w' ⟨s0, s1, s2, s3, s4, s5, s6, s7, s8, s9, s10, s11⟩
           go_simp
           with_reducible rfl
          rotate_left
          ·simp only [Act.put, List.setIfInBounds_toArray, List.set_cons_zero, List.set_cons_succ, i64_w, i32_w]
           rfl
          refine take_ (i := 6) (N := some 42) (v := ?_) (a' := ?_) #[true, true, true, true, true, true, true, true, false, false, false, false] rfl rfl (take_ofW HT_.out HW_.out (by kernel_rfl)) (fun _ _ _ h => h) (Or.inl ⟨by rfl, ?_⟩) hHeld ?_ ?_
          rotate_left
          ·rintro w' ⟨s0, s1, s2, s3, s4, s5, s6, s7, s8, s9, s10, s11⟩
           go_simp
           with_reducible rfl
          rotate_left
          ·simp only [Act.put, List.setIfInBounds_toArray, List.set_cons_zero, List.set_cons_succ, i64_w, i32_w]
           rfl
          refine pure_ (i := 8) (N := some 44) (v := ?_) (a' := ?_) #[true, true, true, true, true, true, true, true, true, false, false, false] rfl rfl (any_of HT_.out (by kernel_rfl)) (fun _ _ _ h => h) (Or.inl ⟨by rfl, ?_⟩) ?_ ?_
          rotate_left
          ·intro w'
           go_simp
           with_reducible rfl
          rotate_left
          ·simp only [Act.put, List.setIfInBounds_toArray, List.set_cons_zero, List.set_cons_succ, i64_w, i32_w]
           rfl
          refine take_ (i := 9) (N := some 45) (v := ?_) (a' := ?_) #[true, true, true, true, true, true, true, true, true, true, false, false] rfl rfl (take_ofW HT_.out HW_.out (by kernel_rfl)) (fun _ _ _ h => h) (Or.inl ⟨by rfl, ?_⟩) hHeld ?_ ?_
          rotate_left
          ·rintro w' ⟨s0, s1, s2, s3, s4, s5, s6, s7, s8, s9, s10, s11⟩
           go_simp
           with_reducible rfl
          rotate_left
          ·simp only [Act.put, List.setIfInBounds_toArray, List.set_cons_zero, List.set_cons_succ, i64_w, i32_w]
           rfl
          refine one_ (i := 10) (N := some 46) #[true, true, true, true, true, true, true, true, true, true, true, false] rfl rfl (one_of HT_.out (by kernel_rfl)) (by decide) (fun K hK => ?_)
          refine goes_ Tryd.func11 (by kernel_rfl) rfl #[.agg #[.int .i64 ((rd_T28 l0_2 x5_2).f0), .slice A111_1 ((rd_T28 l0_2 x5_2).f1).length c111_1, .slice A111_2 ((rd_T28 l0_2 x5_2).f2).length c111_2], .agg #[.int .i64 ((rd_T28 l1_2 x5_2).f0), .slice A112_1 ((rd_T28 l1_2 x5_2).f1).length c112_1, .slice A112_2 ((rd_T28 l1_2 x5_2).f2).length c112_2]] (by rfl) rfl rfl (by (try simp only [List.map_toArray, List.map_cons, List.map_nil]); first | done | rfl | (simp only [List.length_drop, List.length_take]; rfl)) ?_
          with_reducible refine (ih k2 (by have := HJ2.out; have := HK2.out; omega) ((rd_T28 l0_2 x5_2).f0) _ _ ((rd_T28 l0_2 x5_2).f1) _ _ ((rd_T28 l0_2 x5_2).f2) ((rd_T28 l1_2 x5_2).f0) _ _ ((rd_T28 l1_2 x5_2).f1) _ _ ((rd_T28 l1_2 x5_2).f2) false _ ?side1 ?side2 ?side3 ?side4 ?side5 ?side6 ?side7 ?side8 A25.out).mono ?_
          (case side1 => repeat (first | exact (Kd.C_below HR111_1.out HB.out) | (with_reducible refine Kd.C_alloc ?_ _) | (with_reducible refine Kd.C_drewN ?_ _) | (with_reducible refine Kd.C_drew ?_)))
          (case side2 => exact HC111_1.out)
          (case side3 => repeat (first | exact (Kd.C_below HR111_2.out HB.out) | (with_reducible refine Kd.C_alloc ?_ _) | (with_reducible refine Kd.C_drewN ?_ _) | (with_reducible refine Kd.C_drew ?_)))
          (case side4 => exact HC111_2.out)
          (case side5 => repeat (first | exact (Kd.C_below HR112_1.out HB.out) | (with_reducible refine Kd.C_alloc ?_ _) | (with_reducible refine Kd.C_drewN ?_ _) | (with_reducible refine Kd.C_drew ?_)))
          (case side6 => exact HC112_1.out)
          (case side7 => repeat (first | exact (Kd.C_below HR112_2.out HB.out) | (with_reducible refine Kd.C_alloc ?_ _) | (with_reducible refine Kd.C_drewN ?_ _) | (with_reducible refine Kd.C_drew ?_)))
          (case side8 => exact HC112_2.out)
          rintro e w34 ⟨rfl, hb⟩
          refine ⟨_, rfl, ?_⟩
          have n0_ := Aside0.mk (blk_below (g := gb109) (o := .cells #[.int .i64 a0_0, .slice A0_1 l0_1.length c0_1, .slice (some ad111) l0_2.length c0_2] 28 (0, 0)) (by (with_reducible repeat (first | refine blk_drewN ?_ _ | refine blk_drew ?_ | refine blk_alloc ?_ _)); exact BK109.out) hb)
          have n1_ := Aside0.mk (blk_below (g := gb110) (o := .cells #[.int .i64 a1_0, .slice A1_1 l1_1.length c1_1, .slice (some ad112) l1_2.length c1_2] 28 (0, 0)) (by (with_reducible repeat (first | refine blk_drewN ?_ _ | refine blk_drew ?_ | refine blk_alloc ?_ _)); exact BK110.out) hb)
          have n2_ := Aside0.mk (below_step (by repeat (first | (with_reducible first | exact HB.out | apply below_alloc | apply pw_below_drewN | apply below_drew1 | refine below_set ?_ GE109.out | refine below_set ?_ GE110.out) | exact HB.out)) hb)
          clear BK109
          clear BK110
          clear HB
          have BK109 := n0_
          have BK110 := n1_
          have HB := n2_
          clear n0_ n1_ n2_
          (try clear hb)
          (try clear hb2)
          (try clear hk)
          (try clear hi)
          refine hK.out _ _ ⟨(blk_cell BK109.out 0).trans rfl, (blk_cell BK109.out 1).trans rfl, (blk_cell BK109.out 2).trans rfl, (blk_cell BK110.out 0).trans rfl, (blk_cell BK110.out 1).trans rfl, (blk_cell BK110.out 2).trans rfl, ((HB.out.cell (World.block_lt_of_cell? w _ hw111_0)).trans hw111_0), ((HB.out.cell (World.block_lt_of_cell? w _ hw111_1)).trans hw111_1), ((HB.out.cell (World.block_lt_of_cell? w _ hw111_2)).trans hw111_2), ((HB.out.cell (World.block_lt_of_cell? w _ hw112_0)).trans hw112_0), ((HB.out.cell (World.block_lt_of_cell? w _ hw112_1)).trans hw112_1), ((HB.out.cell (World.block_lt_of_cell? w _ hw112_2)).trans hw112_2)⟩ (fun hHeld => ?_)
          clear hK K
          refine norm_ (a' := ?_) ?_ ?_
          rotate_left
          ·show Act.put _ (some 46) _ = _
           simp only [Act.put, List.setIfInBounds_toArray, List.set_cons_zero, List.set_cons_succ, i64_w, i32_w]
           rfl
          refine pure_ (i := 11) (N := some 47) (v := ?_) (a' := ?_) #[true, true, true, true, true, true, true, true, true, true, true, true] rfl rfl (any_of HT_.out (by kernel_rfl)) (fun _ _ _ h => h) (Or.inl ⟨by rfl, ?_⟩) ?_ ?_
          rotate_left
          ·intro w'
           go_simp
           with_reducible rfl
          rotate_left
          ·simp only [Act.put, List.setIfInBounds_toArray, List.set_cons_zero, List.set_cons_succ, i64_w, i32_w]
           rfl
          refine done_ (done_of HT_.out (by kernel_rfl)) ?_
          try go_wp2
          go_ret
          exact ⟨by first | rfl | (simp [errW_none, errW_some] <;> rfl) | (simp [*, errW_none, errW_some] <;> rfl), by repeat (first | (with_reducible first | exact HB.out | apply below_alloc | apply pw_below_drewN | apply below_drew1 | refine below_set ?_ GE109.out | refine below_set ?_ GE110.out) | exact HB.out)⟩
        ·rw [if_neg c24] at H
         exact absurd H (by simp)
       ·rw [if_neg c23] at H
        exact absurd H (by simp)
      ·rw [if_neg c22] at H
       have c22b0 : decide (x5_2 < (l0_2.length : Int)) = false := decide_eq_false c22
       clear c22
       obtain rfl := Option.some.inj H
       have hnb35 := NB109_110.out
       have hnc35 := NB110_109.out
       have hcz36_0 : wr.cell? ⟨gb109, 0, none⟩ = some (.int .i64 a0_0) := (blk_cell BK109.out 0).trans rfl
       have hcz36_1 : wr.cell? ⟨gb109, 1, none⟩ = some (.slice A0_1 l0_1.length c0_1) := (blk_cell BK109.out 1).trans rfl
       have hcz36_2 : wr.cell? ⟨gb109, 2, none⟩ = some (.slice A0_2 l0_2.length c0_2) := (blk_cell BK109.out 2).trans rfl
       have hfz36_0 := blk_frozen BK109.out 0
       have hfz36_1 := blk_frozen BK109.out 1
       have hfz36_2 := blk_frozen BK109.out 2
       go_wp2
       go_ret
       exact ⟨by first | rfl | (simp [errW_none, errW_some] <;> rfl) | (simp [*, errW_none, errW_some] <;> rfl), by repeat (first | (with_reducible first | exact HB.out | apply below_alloc | apply pw_below_drewN | apply below_drew1 | refine below_set ?_ GE109.out | refine below_set ?_ GE110.out) | exact HB.out)⟩

end Go.Proofs.YtmbgjhkemlliaaaDoor.PT
end

section
set_option linter.unusedVariables false
set_option linter.unusedSimpArgs false
namespace Go.Proofs.YtmbgjhkemlliaaaDoor.Tlv
open Go.RowKit Go.Proofs.YtmbgjhkemlliaaaDoorW.PrintWords Go.Proofs.YtmbgjhkemlliaaaDoorW.PrintLast Go.Proofs.YtmbgjhkemlliaaaDoorW.PrintMore Go.Proofs.YtmbgjhkemlliaaaDoor.PT

mutual
/-- Are two elements the same? -/
def eqT : T → T → Bool
 | ⟨a, b, c⟩, ⟨x, y, z⟩ => decide (a = x) && eqB b y && eqL c z
def eqL : List T → List T → Bool
 | [], [] => true
 | t :: l, u :: m => eqT t u && eqL l m
 | _, _ => false
end
mutual
theorem eqT_rfl : ∀ t : T, eqT t t = true
 | ⟨a, b, c⟩ => by rw [eqT, eqB_rfl, eqL_rfl c, decide_eq_true rfl]; rfl
theorem eqL_rfl : ∀ l : List T, eqL l l = true
 | [] => by rw [eqL]
 | t :: l => by rw [eqL, eqT_rfl t, eqL_rfl l]; rfl
end
mutual
/-- All bodies are of bytes. -/
def byT : T → Prop
 | ⟨_, b, c⟩ => (∀ v ∈ b, 0 ≤ v ∧ v < 256) ∧ byL c
def byL : List T → Prop
 | [] => True
 | t :: l => byT t ∧ byL l
end
mutual
theorem eqT_eq : ∀ t u : T, byT t → byT u → eqT t u = true → t = u
 | ⟨a, b, c⟩, ⟨x, y, z⟩, h1, h2, h => by
  rw [byT] at h1 h2
  rw [eqT, Bool.and_eq_true, Bool.and_eq_true] at h
  rw [of_decide_eq_true h.1.1, eqB_eq h1.1 h2.1 h.1.2, eqL_eq c z h1.2 h2.2 h.2]
theorem eqL_eq : ∀ l m : List T, byL l → byL m → eqL l m = true → l = m
 | [], [], _, _, _ => rfl
 | [], _ :: _, _, _, h => by simp [eqL] at h
 | _ :: _, [], _, _, h => by simp [eqL] at h
 | t :: l, u :: m, h1, h2, h => by
  rw [byL] at h1 h2
  rw [eqL, Bool.and_eq_true] at h
  rw [eqT_eq t u h1.1 h2.1 h.1, eqL_eq l m h1.2 h2.2 h.2]
end
theorem eqL_len : ∀ l m : List T, l.length ≠ m.length → eqL l m = false
 | [], [], h => absurd rfl h
 | [], _ :: _, _ => by simp [eqL]
 | _ :: _, [], _ => by simp [eqL]
 | t :: l, u :: m, h => by
  rw [eqL, eqL_len l m (fun e => h (by simp [e])), Bool.and_false]
theorem byT_mk {a : Int} {b : List Int} {c : List T} (h1 : ∀ v ∈ b, 0 ≤ v ∧ v < 256) (h2 : byL c) : byT ⟨a, b, c⟩ := ⟨h1, h2⟩
theorem sm_up {a : Int} {b : List Int} {c : List T} {x : Int} {y : List Int} {z : List T} {r : Bool} {k : Nat} (h : lanyardref04_Same.f k a b c x y z = some r) : ∀ j, lanyardref04_Same.f (k + j) a b c x y z = some r
 | 0 => h
 | j + 1 => lanyardref04_Same.mono a b c x y z (k + j) r (sm_up h j)
theorem sml_up {i a : Int} {b : List Int} {c : List T} {x : Int} {y : List Int} {z : List T} {r : Bool} {k : Nat} (h : lanyardref04_Same.l0 k i a b c x y z = some r) : ∀ j, lanyardref04_Same.l0 (k + j) i a b c x y z = some r
 | 0 => h
 | j + 1 => (lanyardref04_Same.mono_l (k + j)).2.2 i a b c x y z r (sml_up h j)
def SameC (t : T) : Prop := ∀ u : T, ∃ k, lanyardref04_Same.f k t.f0 t.f1 t.f2 u.f0 u.f1 u.f2 = some (eqT t u)
theorem sm_loop (a : Int) (b : List Int) (c : List T) (x : Int) (y : List Int) (z : List T) (hl : c.length ≤ 1000000) : ∀ (l m pre qre : List T), c = pre ++ l → z = qre ++ m → pre.length = qre.length → l.length = m.length → (∀ t, t ∈ l → SameC t) → ∃ k, lanyardref04_Same.l0 k (pre.length : Int) a b c x y z = some (eqL l m)
 | [], [], pre, qre, e1, e2, e3, _, _ => by
  rw [List.append_nil] at e1
  subst e1
  exact ⟨1, by rw [lanyardref04_Same.l0, if_neg (by omega), eqL]⟩
 | [], _ :: _, _, _, _, _, _, h, _ => by simp at h
 | _ :: _, [], _, _, _, _, _, h, _ => by simp at h
 | t :: l, u :: m, pre, qre, e1, e2, e3, h, ih => by
  have hlen : (pre.length : Int) < c.length := by rw [e1]; simp; omega
  have hlen2 : (pre.length : Int) < z.length := by rw [e2]; simp; omega
  have hr1 : rd_T28 c (pre.length : Int) = t := by simp [rd_T28, e1]
  have hr2 : rd_T28 z (pre.length : Int) = u := by rw [e3]; simp [rd_T28, e2]
  obtain ⟨k1, h1⟩ := ih t List.mem_cons_self u
  cases hq : eqT t u with
  | false =>
   refine ⟨k1 + 1, ?_⟩
   rw [lanyardref04_Same.l0, if_pos hlen, if_pos (by omega), if_pos hlen2, hr1, hr2, h1, hq, eqL, hq]
   rfl
  | true =>
   obtain ⟨k2, h2⟩ := sm_loop a b c x y z hl l m (pre ++ [t]) (qre ++ [u]) (by rw [e1]; simp) (by rw [e2]; simp) (by simp [e3]) (by simpa using h) (fun v hv => ih v (List.mem_cons_of_mem _ hv))
   refine ⟨(k1 + k2) + 1, ?_⟩
   have h3 := sml_up h2 k1
   rw [Nat.add_comm k2 k1, show ((pre ++ [t]).length : Int) = (pre.length : Int) + 1 by simp] at h3
   rw [lanyardref04_Same.l0, if_pos hlen, if_pos (by omega), if_pos hlen2, hr1, hr2, sm_up h1 k2, hq, Option.bind_some, if_pos rfl, wrap64_in _ (by omega), h3, eqL, hq]
   rfl
theorem sm_step (n : T) (hw : wT n ≤ 1000000) (ih : ∀ t, t ∈ n.f2 → SameC t) : SameC n := by
 have hk := kids_w hw
 obtain ⟨a, b, c⟩ := n
 rintro ⟨x, y, z⟩
 dsimp only at ih hk ⊢
 rw [eqT]
 by_cases h0 : a = x
 ·by_cases h1 : (strOfNums b).toList = (strOfNums y).toList
  ·have hb : eqB b y = true := by unfold eqB; rw [h1]; exact beq_self_eq_true _
   by_cases h2 : c.length = z.length
   ·obtain ⟨k, hk2⟩ := sm_loop a b c x y z hk.1 c z [] [] rfl rfl rfl h2 ih
    have hk2 : lanyardref04_Same.l0 k 0 a b c x y z = some (eqL c z) := hk2
    refine ⟨k + 2, ?_⟩
    have hne : ((c.length : Int) != (z.length : Int)) = false := by rw [h2]; exact bne_self_eq_false _
    rw [lanyardref04_Same.f, if_pos h0, if_pos h1, hne, lanyardref04_Same.j0, if_neg (by decide), hk2, decide_eq_true h0, hb]
    rfl
   ·refine ⟨2, ?_⟩
    have hne : ((c.length : Int) != (z.length : Int)) = true := by simp; omega
    rw [lanyardref04_Same.f, if_pos h0, if_pos h1, hne, lanyardref04_Same.j0, if_pos rfl, eqL_len c z h2, Bool.and_false]
  ·have hb : eqB b y = false := by unfold eqB; exact beq_eq_false_iff_ne.2 h1
   refine ⟨2, ?_⟩
   rw [lanyardref04_Same.f, if_pos h0, if_neg h1, lanyardref04_Same.j0, if_pos rfl, hb, Bool.and_false, Bool.false_and]
 ·refine ⟨2, ?_⟩
  rw [lanyardref04_Same.f, if_neg h0, lanyardref04_Same.j0, if_pos rfl, decide_eq_false h0, Bool.false_and, Bool.false_and]
theorem sm_any (n : T) (hw : wT n ≤ 1000000) : SameC n := node_any sm_step n hw

end Go.Proofs.YtmbgjhkemlliaaaDoor.Tlv
end

section
set_option linter.unusedVariables false
set_option linter.unusedSimpArgs false
namespace Go.Proofs.YtmbgjhkemlliaaaDoor.Tlv
open Go.RowKit Go.Proofs.YtmbgjhkemlliaaaDoorW.PrintWords Go.Proofs.YtmbgjhkemlliaaaDoorW.PrintLast Go.Proofs.YtmbgjhkemlliaaaDoorW.PrintMore Go.Proofs.YtmbgjhkemlliaaaDoor.PT

theorem head_cons (tag n : Int) (ht : 0 ≤ tag ∧ tag < 256) (hn : 0 ≤ n ∧ n < 65536) (short : Int) (r : List Int) : ∃ l, head tag n ++ r = tag :: l ∧ lenP short l = .ok (n, r) := by
 have e : tag % 256 = tag := by omega
 unfold head
 by_cases h1 : n < 128
 ·refine ⟨n % 256 :: r, by rw [if_pos h1, e]; rfl, ?_⟩
  have : n % 256 = n := by omega
  rw [this]
  unfold lenP
  dsimp only
  rw [if_neg (by omega), if_neg (by omega), if_pos h1]
 ·by_cases h2 : n < 256
  ·refine ⟨129 :: n % 256 :: r, by rw [if_neg h1, if_pos h2, e]; rfl, ?_⟩
   have : n % 256 = n := by omega
   rw [this]
   unfold lenP
   dsimp only
   rw [if_pos rfl, if_pos (by omega)]
  ·refine ⟨130 :: n / 256 % 256 :: n % 256 :: r, by rw [if_neg h1, if_neg h2, e]; rfl, ?_⟩
   unfold lenP
   dsimp only
   rw [if_neg (by decide), if_pos rfl, if_pos (by omega)]
   congr 2
   omega
mutual
theorem elemP_enc : ∀ (n : Nat) (t : T) (deep short : Int) (r : List Int), rightT t = true → sizeT t ≤ 60000 → 0 ≤ deep → deep + deepT t ≤ 32 → (encT t).length + 1 ≤ n → elemP n deep short (encT t ++ r) = .ok (t, r)
 | 0, t, _, _, _, _, _, _, _, hn => by omega
 | n + 1, ⟨tag, body, kids⟩, deep, short, r, hr, hs, h0, hd, hn => by
  have hsz := size_enc ⟨tag, body, kids⟩
  rw [rightT, Bool.and_eq_true, Bool.and_eq_true] at hr
  obtain ⟨⟨h1, h2⟩, h3⟩ := hr
  have ht := isTag_range h1
  have hm := manyL_le kids
  by_cases hH : holdsB tag = true
  ·rw [sizeT, if_pos hH] at hs
   rw [deepT, if_pos hH] at hd
   rw [encT, if_pos hH] at hn ⊢
   have hh := headLen_pos (sizeL kids)
   have hl := head_length tag (sizeL kids)
   have hsl := size_encL kids
   rw [if_pos hH] at h2
   have hb0 : body = [] := of_decide_eq_true h2
   subst hb0
   rw [List.length_append] at hn
   obtain ⟨l, e1, e2⟩ := head_cons tag (sizeL kids) ht (by omega) short (encL kids ++ r)
   rw [List.append_assoc, e1, elemP, if_pos h1, e2]
   dsimp only
   rw [if_neg (by rw [List.length_append]; omega), if_neg (by omega), if_pos hH]
   have et : (sizeL kids).toNat = (encL kids).length := by omega
   rw [et, List.take_left, List.drop_left]
   rw [kidsP_enc n kids (deep + 1) h3 (by omega) (by omega) (by omega) (by omega)]
  ·rw [sizeT, if_neg hH] at hs
   rw [deepT, if_neg hH] at hd
   rw [encT, if_neg hH] at hn ⊢
   have hh := headLen_pos (body.length : Int)
   rw [if_neg hH] at h2
   have hk0 : kids = [] := of_decide_eq_true h2
   subst hk0
   rw [List.length_append] at hn
   obtain ⟨l, e1, e2⟩ := head_cons tag (body.length : Int) ht (by omega) short (body ++ r)
   rw [List.append_assoc, e1, elemP, if_pos h1, e2]
   dsimp only
   rw [if_neg (by rw [List.length_append]; omega), if_neg (by omega), if_neg hH, Int.toNat_natCast, List.take_left, List.drop_left]
theorem kidsP_enc : ∀ (n : Nat) (l : List T) (deep : Int), rightL l = true → sizeL l ≤ 60000 → 0 ≤ deep → deep + deepL l ≤ 32 → (encL l).length + 2 ≤ n → kidsP n deep (encL l) = .ok l
 | 0, _, _, _, _, _, _, hn => by omega
 | n + 1, [], _, _, _, _, _, _ => by rw [encL, kidsP]
 | n + 1, t :: l, deep, hr, hs, h0, hd, hn => by
  rw [rightL, Bool.and_eq_true] at hr
  rw [sizeL] at hs
  rw [deepL] at hd
  have h1 := many_le t
  have h2 := manyL_le l
  rw [encL, List.length_append] at hn
  have h3 := encT_len t
  have he := elemP_enc n t deep 2 (encL l) hr.1 (by omega) h0 (by omega) (by omega)
  have hk := kidsP_enc n l deep hr.2 (by omega) h0 (by omega) (by omega)
  rw [encL]
  cases hx : encT t ++ encL l with
  | nil =>
   have := congrArg List.length hx
   rw [List.length_append, List.length_nil] at this
   omega
  | cons x b =>
   rw [hx] at he
   rw [kidsP, he]
   dsimp only
   rw [hk]
end
/-- What Write gives is read as it was. -/
theorem readP_write {t : T} {b : List Int} (h : writeP t = .ok b) : readP b = .ok t := by
 unfold writeP at h
 by_cases h1 : rightT t = false
 ·rw [if_pos h1] at h; cases h
 ·rw [if_neg h1] at h
  by_cases h2 : 32 < deepT t
  ·rw [if_pos h2] at h; cases h
  ·rw [if_neg h2] at h
   by_cases h3 : 20000 < sizeT t
   ·rw [if_pos h3] at h; cases h
   ·rw [if_neg h3] at h
    injection h with h
    subst h
    have hsz := size_enc t
    have := elemP_enc ((encT t).length + 1) t 0 3 [] (by simpa using h1) (by omega) (by decide) (by omega) (Nat.le_refl _)
    rw [List.append_nil] at this
    unfold readP
    rw [if_neg (by omega), this]
    rfl
end Go.Proofs.YtmbgjhkemlliaaaDoor.Tlv
end

section
set_option linter.unusedVariables false
set_option linter.unusedSimpArgs false
namespace Go.Proofs.YtmbgjhkemlliaaaDoor.Tlv
open Go.RowKit Go.Proofs.YtmbgjhkemlliaaaDoorW.PrintWords Go.Proofs.YtmbgjhkemlliaaaDoorW.PrintLast Go.Proofs.YtmbgjhkemlliaaaDoorW.PrintMore Go.Proofs.YtmbgjhkemlliaaaDoor.PT

mutual
theorem enc_by : ∀ t : T, byT t → ∀ v ∈ encT t, 0 ≤ v ∧ v < 256
 | ⟨tag, body, kids⟩, h => by
  rw [byT] at h
  intro v hv
  rw [encT] at hv
  by_cases hH : holdsB tag = true
  ·rw [if_pos hH] at hv
   rcases List.mem_append.1 hv with hv | hv
   ·exact head_bytes _ _ v hv
   ·exact encL_by kids h.2 v hv
  ·rw [if_neg hH] at hv
   rcases List.mem_append.1 hv with hv | hv
   ·exact head_bytes _ _ v hv
   ·exact h.1 v hv
theorem encL_by : ∀ l : List T, byL l → ∀ v ∈ encL l, 0 ≤ v ∧ v < 256
 | [], _ => by intro v hv; rw [encL] at hv; cases hv
 | t :: l, h => by
  rw [byL] at h
  intro v hv
  rw [encL] at hv
  rcases List.mem_append.1 hv with hv | hv
  ·exact enc_by t h.1 v hv
  ·exact encL_by l h.2 v hv
end
mutual
theorem by_enc : ∀ t : T, rightT t = true → (∀ v ∈ encT t, 0 ≤ v ∧ v < 256) → byT t
 | ⟨tag, body, kids⟩, h, hv => by
  rw [rightT, Bool.and_eq_true, Bool.and_eq_true] at h
  rw [encT] at hv
  rw [byT]
  by_cases hH : holdsB tag = true
  ·rw [if_pos hH] at hv h
   have : body = [] := of_decide_eq_true h.1.2
   exact ⟨(fun v hb => by rw [this] at hb; cases hb), byL_enc kids h.2 (fun v hk => hv v (List.mem_append_right _ hk))⟩
  ·rw [if_neg hH] at hv h
   have : kids = [] := of_decide_eq_true h.1.2
   refine ⟨fun v hb => hv v (List.mem_append_right _ hb), ?_⟩
   rw [this]
   trivial
theorem byL_enc : ∀ l : List T, rightL l = true → (∀ v ∈ encL l, 0 ≤ v ∧ v < 256) → byL l
 | [], _, _ => trivial
 | t :: l, h, hv => by
  rw [rightL, Bool.and_eq_true] at h
  rw [encL] at hv
  exact ⟨by_enc t h.1 (fun v hk => hv v (List.mem_append_left _ hk)), byL_enc l h.2 (fun v hk => hv v (List.mem_append_right _ hk))⟩
end
theorem writeP_ok {u : T} {l : List Int} (hu : writeP u = .ok l) : l = encT u ∧ rightT u = true ∧ deepT u ≤ 32 ∧ sizeT u ≤ 20000 := by
 unfold writeP at hu
 by_cases h1 : rightT u = false
 ·rw [if_pos h1] at hu; cases hu
 ·rw [if_neg h1] at hu
  by_cases h2 : 32 < deepT u
  ·rw [if_pos h2] at hu; cases hu
  ·rw [if_neg h2] at hu
   by_cases h3 : 20000 < sizeT u
   ·rw [if_pos h3] at hu; cases hu
   ·rw [if_neg h3] at hu
    injection hu with hu
    exact ⟨hu.symm, by simpa using h1, by omega, by omega⟩
end Go.Proofs.YtmbgjhkemlliaaaDoor.Tlv
end

section
set_option linter.unusedVariables false
set_option linter.unusedSimpArgs false
namespace Go.Proofs.YtmbgjhkemlliaaaDoor.Tlv
open Go.RowKit Go.Proofs.YtmbgjhkemlliaaaDoorW.PrintWords Go.Proofs.YtmbgjhkemlliaaaDoorW.PrintLast Go.Proofs.YtmbgjhkemlliaaaDoorW.PrintMore Go.Proofs.YtmbgjhkemlliaaaDoor.PT

/-- The bytes of bits, however many of them count. -/
def ofC (c : T) (t : List Int) (r : Int × List Int × List T × Int) : Option (List Int) := if r.2.2.2 = 0 ∧ sameB ⟨r.1, r.2.1, r.2.2.1⟩ c = true then some t else none
def ofH (c : T) (h : Int) (t : List Int) : Option (List Int) := (scalar_Bits.f t (wrap64 (wrap64 (8 * (t.length : Int)) - h))).bind (ofC c t)
def ofL (c : T) : List Int → Option (List Int)
 | [] => none
 | h :: t => ofH c h t
def ofP (c : T) : Option (List Int) := ofL c c.f1
/-- What is read of an element that may be a key's. -/
def keyX (x n : T) : Option (List Int × Int) := match x.f2 with
 | [a, c] => match greatP a with
  | none => none
  | some l => match uintP c with
   | none => none
   | some u => if u < 4294967296 ∧ rightK l u = true ∧ sameP (nodeT l u) n = true then some (l, u) else none
 | _ => none
def keyP (n : T) : Option (List Int × Int) := match n.f2 with
 | [_, y] => match ofP y with
  | none => none
  | some b => match readP b with
   | .err _ => none
   | .ok x => keyX x n
 | _ => none
/-- The world while the closure runs: block q has the key. -/
structure KS (w0 w W : World) (q : Nat) (v0 v1 : Value) : Prop where
 b : Below w0.heap.size w0 W
 o : ∀ k, k < w.heap.size → k ≠ q → W.heap[k]? = w.heap[k]?
 h : W.heap[q]? = some (.cells #[v0, v1] 25 (0, 0))
 s : w.heap.size ≤ W.heap.size
theorem KS.step {w0 w W W2 : World} {q : Nat} {v0 v1 : Value} (h : KS w0 w W q v0 v1) (hB : Below W.heap.size W W2) : KS w0 w W2 q v0 v1 :=
 ⟨h.b.trans (hB.mono h.b.size), fun k hk hq => (hB.block k (by have := h.s; omega)).trans (h.o k hk hq), (hB.block _ (heap_lt h.h)).trans h.h, Nat.le_trans h.s hB.size⟩
end Go.Proofs.YtmbgjhkemlliaaaDoor.Tlv
end

section
set_option linter.unusedVariables false
set_option linter.unusedSimpArgs false
namespace Go.Proofs.YtmbgjhkemlliaaaDoor.Tlv
open Go.RowKit Go.Proofs.YtmbgjhkemlliaaaDoorW.PrintWords Go.Proofs.YtmbgjhkemlliaaaDoorW.PrintLast Go.Proofs.YtmbgjhkemlliaaaDoorW.PrintMore Go.Proofs.YtmbgjhkemlliaaaDoor.PT

theorem keyP_two (tag : Int) (body : List Int) (z y : T) : keyP ⟨tag, body, [z, y]⟩ = match ofP y with
 | none => none
 | some b => match readP b with
  | .err _ => none
  | .ok x => keyX x ⟨tag, body, [z, y]⟩ := rfl
theorem keyX_two (tag : Int) (body : List Int) (a c n : T) : keyX ⟨tag, body, [a, c]⟩ n = match greatP a with
 | none => none
 | some l => match uintP c with
  | none => none
  | some u => if u < 4294967296 ∧ rightK l u = true ∧ sameP (nodeT l u) n = true then some (l, u) else none := rfl
theorem wT_node (l : List Int) (E : Int) : wT (nodeT l E) ≤ 21000 := by
 unfold nodeT
 have h1 : wT (algT 1) = 12 := by decide
 have h2 : wT (bitT (ownB l E)) = 1 + ((0 :: ownB l E).length : Int) + 0 := by unfold bitT; rw [wT, wL]
 have h3 := ownB_len l E
 rw [wT, wL, wL, wL, h1, h2]
 simp only [List.length_cons, List.length_nil]
 omega

end Go.Proofs.YtmbgjhkemlliaaaDoor.Tlv
end

section
set_option linter.unusedVariables false
set_option linter.unusedSimpArgs false
namespace Go.Proofs.YtmbgjhkemlliaaaDoor.Tlv
open Go.RowKit Go.Proofs.YtmbgjhkemlliaaaDoorW.PrintWords Go.Proofs.YtmbgjhkemlliaaaDoorW.PrintLast Go.Proofs.YtmbgjhkemlliaaaDoorW.PrintMore Go.Proofs.YtmbgjhkemlliaaaDoor.PT

theorem writeP_of {t : T} (h1 : rightT t = true) (h2 : deepT t ≤ 32) (h3 : sizeT t ≤ 20000) : writeP t = .ok (encT t) := by
 unfold writeP
 rw [if_neg (by rw [h1]; simp), if_neg (by omega), if_neg (by omega)]
theorem sameB_rfl {n : T} (h : n.f2 = []) : sameB n n = true := by
 unfold sameB
 rw [h, eqB_rfl]
 simp [wrap64]
theorem strip_big (s : List Int) (h : stripZ s = s) : stripZ (bigB s) = s := by
 cases s with
 | nil => rfl
 | cons x l =>
  have hx := stripZ_head h
  unfold bigB
  simp only
  split
  ·rw [stripZ, if_pos rfl]; exact h
  ·exact h
theorem bigT_big (l : List Int) : bigT (bigT l).f1 = bigT l := by
 show bigT (bigB (stripZ l)) = bigT l
 unfold bigT
 rw [strip_big _ (stripZ_twice l)]
theorem numF_strip : ∀ l : List Int, numF (stripZ l) = numF l
 | [] => rfl
 | x :: l => by
  by_cases h : x = 0
  ·rw [stripZ, if_pos h, numF_strip l, h]; unfold numF; rfl
  ·rw [stripZ_nz h]
theorem numF_big (l : List Int) : numF (bigB l) = numF l := by
 cases l with
 | nil => rfl
 | cons x l =>
  unfold bigB
  simp only
  split
  ·unfold numF; rfl
  ·rfl
theorem rightK_strip {l : List Int} {E : Int} (hl : l.length ≤ 100000) (h : rightK l E = true) : stripZ l = l := by
 have hf := right_f l E hl
 rw [h] at hf
 unfold rsa_Right.f at hf
 by_cases c1 : (l.length : Int) ≥ 62
 ·have hw : wrap64 ((l.length : Int) - 1) = (l.length : Int) - 1 := by unfold wrap64; omega
  rw [if_pos c1, hw] at hf
  by_cases c2 : (l.length : Int) ≤ 512
  ·rw [if_pos c2, if_pos (by omega)] at hf
   by_cases c3 : rd l 0 = 0
   ·rw [if_pos c3] at hf; simp at hf
   ·cases l with
    | nil => simp at c1
    | cons x l => exact stripZ_nz c3
  ·rw [if_neg c2] at hf; simp at hf
 ·rw [if_neg c1] at hf; simp at hf
theorem greatP_big {l : List Int} (h : stripZ l = l) : greatP (bigT l) = some l := by
 unfold greatP
 rw [bigT_big, if_pos ⟨rfl, sameB_rfl rfl⟩]
 show some (stripZ (bigB (stripZ l))) = some l
 rw [strip_big _ (stripZ_twice l), h]
theorem uintP_int {E : Int} (h0 : 0 ≤ E) (h1 : E < 4294967296) : uintP (intT E) = some E := by
 obtain ⟨m, m1, m2, hm, hp⟩ := least_p E h0 (by omega)
 have hb := bE_byte m E
 have hlen : (leastP E).length ≤ 4 := by
  have : leastP E = bE 1 E ∨ leastP E = bE 2 E ∨ leastP E = bE 3 E ∨ leastP E = bE 4 E := by
   unfold leastP
   by_cases c1 : E / 256 = 0
   ·exact .inl (by rw [if_pos c1])
   rw [if_neg c1]
   by_cases c2 : E / 65536 = 0
   ·exact .inr (.inl (by rw [if_pos c2]))
   rw [if_neg c2]
   by_cases c3 : E / 16777216 = 0
   ·exact .inr (.inr (.inl (by rw [if_pos c3])))
   rw [if_neg c3]
   exact .inr (.inr (.inr (by rw [if_pos (by omega)])))
  rcases this with h | h | h | h <;> rw [h, (bE_byte _ _).2] <;> decide
 have e : numP (intT E).f1 = some E := by
  show numP (bigB (stripZ (leastP E))) = some E
  have g1 := bigB_len (stripZ (leastP E))
  have g2 := stripZ_len (leastP E)
  rw [numP_small (by omega), numF_big, numF_strip, hm, numF_bE m E h0 hp]
 unfold uintP
 rw [e]
 simp only
 rw [if_pos (sameB_rfl rfl)]
theorem ofP_bit {b : List Int} (hb : b.length ≤ 1000000) : ofP (bitT b) = some b := by
 show ofL (bitT b) (0 :: b) = some b
 show (scalar_Bits.f b (wrap64 (wrap64 (8 * (b.length : Int)) - 0))).bind (ofC (bitT b) b) = some b
 rw [bits_zero b hb]
 show ofC (bitT b) b (3, 0 :: b, [], 0) = some b
 unfold ofC
 rw [if_pos ⟨rfl, by exact sameB_rfl rfl⟩]
theorem bigB_by {l : List Int} (h : ∀ v ∈ l, 0 ≤ v ∧ v < 256) : ∀ v ∈ bigB (stripZ l), 0 ≤ v ∧ v < 256 := by
 have h2 : ∀ v ∈ stripZ l, 0 ≤ v ∧ v < 256 := fun v hv => h v (stripZ_mem l v hv)
 generalize stripZ l = s at h2 ⊢
 intro v hv
 cases s with
 | nil => unfold bigB at hv; simp at hv; omega
 | cons x m =>
  unfold bigB at hv
  simp only at hv
  split at hv
  ·rcases List.mem_cons.1 hv with rfl | hv
   ·omega
   ·exact h2 v hv
  ·exact h2 v hv
theorem bigT_by {l : List Int} (h : ∀ v ∈ l, 0 ≤ v ∧ v < 256) : byT (bigT l) := byT_mk (bigB_by h) trivial
theorem own_by {l : List Int} {E : Int} (h : ∀ v ∈ l, 0 ≤ v ∧ v < 256) (h0 : 0 ≤ E) (h1 : E < 4294967296) : byT (ownT l E) :=
 byT_mk (fun v hv => by cases hv) ⟨bigT_by h, bigT_by (leastP_len E h0 (by omega)).2, trivial⟩
theorem own_ok (l : List Int) (E : Int) (hl : l.length ≤ 140) (hv : ∀ v ∈ l, 0 ≤ v ∧ v < 256) (h0 : 0 ≤ E) (h1 : E < 4294967296) : writeP (ownT l E) = .ok (ownB l E) ∧ (ownB l E).length ≤ 2000 := by
 have hlE := (leastP_len E h0 (by omega)).1
 have g1 := bigB_len (stripZ (leastP E))
 have g2 := stripZ_len (leastP E)
 have g3 := bigB_len (stripZ l)
 have g4 := stripZ_len l
 have e48 : holdsB 48 = true := by decide
 have e2 : holdsB 2 = false := by decide
 have n2 : ¬ (false = true) := by decide
 have i48 : isTagB 48 = true := by decide
 have i2 : isTagB 2 = true := by decide
 have hr : rightT (ownT l E) = true := by
  unfold ownT intT bigT
  rw [rightT, rightL, rightL, rightL, rightT, rightT, rightL, e48, e2, i48, i2]
  rfl
 have hd : deepT (ownT l E) ≤ 32 := by
  unfold ownT intT bigT
  rw [deepT, deepL, deepL, deepL, deepT, deepT, e48, e2, if_pos rfl, if_neg n2]
  decide
 have hs : sizeT (ownT l E) ≤ 1000 := by
  unfold ownT intT bigT
  rw [sizeT, sizeL, sizeL, sizeL, sizeT, sizeT, e48, e2, if_pos rfl, if_neg n2, if_neg n2]
  have k1 := headLen_pos (bigB (stripZ l)).length
  have k2 := headLen_pos (bigB (stripZ (leastP E))).length
  have k3 := headLen_pos ((((bigB (stripZ l)).length : Int) + headLen ((bigB (stripZ l)).length)) + (((bigB (stripZ (leastP E))).length : Int) + headLen ((bigB (stripZ (leastP E))).length) + 0))
  omega
 have hw := writeP_of hr hd (by omega)
 have ho : ownB l E = encT (ownT l E) := by unfold ownB; rw [hw]; rfl
 refine ⟨by rw [ho]; exact hw, ?_⟩
 have hq := readP_write hw
 have := (readP_ok (enc_by _ (own_by hv h0 h1)) hq).2.2.1
 rw [ho]
 omega
theorem node_ok (l : List Int) (E : Int) (hl : l.length ≤ 140) (hv : ∀ v ∈ l, 0 ≤ v ∧ v < 256) (h0 : 0 ≤ E) (h1 : E < 4294967296) : writeP (nodeT l E) = .ok (encT (nodeT l E)) := by
 have hb := (own_ok l E hl hv h0 h1).2
 have e48 : holdsB 48 = true := by decide
 have e3 : holdsB 3 = false := by decide
 have n2 : ¬ (false = true) := by decide
 have i48 : isTagB 48 = true := by decide
 have i3 : isTagB 3 = true := by decide
 have a1 : rightT (algT 1) = true := by decide
 have a2 : deepT (algT 1) ≤ 3 := by decide
 have a3 : sizeT (algT 1) ≤ 30 := by decide
 refine writeP_of ?_ ?_ ?_
 ·unfold nodeT bitT
  rw [rightT, rightL, rightL, rightL, rightT, rightL, e48, e3, i48, i3, a1]
  rfl
 ·unfold nodeT bitT
  rw [deepT, deepL, deepL, deepL, deepT, e48, e3, if_pos rfl, if_neg n2]
  omega
 ·unfold nodeT bitT
  rw [sizeT, sizeL, sizeL, sizeL, sizeT, e48, e3, if_pos rfl, if_neg n2, List.length_cons]
  have k1 := headLen_pos ((ownB l E).length + 1 : Nat)
  have k3 := headLen_pos (sizeT (algT 1) + ((((ownB l E).length + 1 : Nat) : Int) + headLen (((ownB l E).length + 1 : Nat)) + 0))
  omega
/-- A key that may be comes back of its element. -/
theorem key_back {l : List Int} {E : Int} (hl : l.length ≤ 140) (hv : ∀ v ∈ l, 0 ≤ v ∧ v < 256) (h0 : 0 ≤ E) (h1 : E < 4294967296) (hr : rightK l E = true) : keyP (nodeT l E) = some (l, E) := by
 have ho := own_ok l E hl hv h0 h1
 have hn := node_ok l E hl hv h0 h1
 have hs := rightK_strip (by omega) hr
 unfold nodeT
 rw [keyP_two, ofP_bit (by omega)]
 simp only
 rw [readP_write ho.1]
 simp only
 unfold ownT
 rw [keyX_two, greatP_big hs]
 simp only
 rw [uintP_int h0 h1]
 simp only
 have hsm : sameP (nodeT l E) (nodeT l E) = true := by
  unfold sameP
  rw [hn]
  exact eqB_rfl _
 unfold nodeT at hsm
 rw [if_pos ⟨h1, hr, hsm⟩]
theorem ownB_by {m : List Int} {v : Int} (hm : ∀ x ∈ m, 0 ≤ x ∧ x < 256) (h0 : 0 ≤ v) (h1 : v < 4294967296) : ∀ x ∈ ownB m v, 0 ≤ x ∧ x < 256 := by
 unfold ownB
 cases hw2 : writeP (ownT m v) with
 | err e => intro x hx; cases hx
 | ok o =>
  have := (writeP_ok hw2).1
  intro x hx
  refine enc_by _ (own_by hm h0 h1) x ?_
  rw [← this]
  exact hx
theorem node_by {m : List Int} {v : Int} (hm : ∀ x ∈ m, 0 ≤ x ∧ x < 256) (h0 : 0 ≤ v) (h1 : v < 4294967296) : byT (nodeT m v) := byT_mk (fun v hv => by cases hv) ⟨by_enc (algT 1) (by decide) (by decide), byT_mk (fun x hx => by rcases List.mem_cons.1 hx with rfl | hx; omega; exact ownB_by hm h0 h1 x hx) trivial, trivial⟩
end Go.Proofs.YtmbgjhkemlliaaaDoor.Tlv
end

section
namespace Go.Proofs.YtmbgjhkemlliaaaDoor.PT
open Go.RowKit Go.Proofs.YtmbgjhkemlliaaaDoorW.PrintWords Go.Proofs.YtmbgjhkemlliaaaDoorW.PrintLast Go.Proofs.YtmbgjhkemlliaaaDoorW.PrintMore
attribute [local go_sem] max2_int min2_int max_two min_two max_three min_three max_four min_four   -- for this text's walks alone
set_option linter.unusedVariables false
set_option linter.unusedSimpArgs false

end Go.Proofs.YtmbgjhkemlliaaaDoor.PT
end

section
namespace Go.Proofs.YtmbgjhkemlliaaaDoor.PT
open Go.RowKit Go.Proofs.YtmbgjhkemlliaaaDoorW.PrintWords Go.Proofs.YtmbgjhkemlliaaaDoorW.PrintLast Go.Proofs.YtmbgjhkemlliaaaDoorW.PrintMore
attribute [local go_sem] max2_int min2_int max_two min_two max_three min_three max_four min_four   -- for this text's walks alone
set_option linter.unusedVariables false
set_option linter.unusedSimpArgs false

end Go.Proofs.YtmbgjhkemlliaaaDoor.PT
end

section
set_option linter.unusedVariables false
set_option linter.unusedSimpArgs false
namespace Go.Proofs.YtmbgjhkemlliaaaDoor.Sha
open Go.RowKit Go.Proofs.YtmbgjhkemlliaaaDoorW.PrintWords Go.Proofs.YtmbgjhkemlliaaaDoorW.PrintLast Go.Proofs.YtmbgjhkemlliaaaDoorW.PrintMore Go.Proofs.YtmbgjhkemlliaaaDoor.PT

/-- Bits turned to the right. -/
def turnP (x n : Int) : Int := Go.bits .or .u32 (x * 2 ^ (32 - n).toNat % 4294967296) (x / 2 ^ n.toNat)

set_option maxRecDepth 100000 in
theorem rot_walk (x n m k : Int) (w : World) (hm : IntKind.u64.wrap m = k) (hk : Go.bits .and .u64 k 31 = 32 - n) (hn : 0 ≤ 32 - n) (hn1 : IntKind.u64.wrap (32 - (32 - n)) = n) (hn0 : 0 ≤ n) :
 Calls Tryd.prog 78 #[.int .u32 x, .int .i64 m] w fun e w' => e = .returned (.int .u32 (turnP x n)) ∧ w' = w := by
 go_enter Tryd.func78, Tryd.ntmps78
 go_wp2
 go_ret
 exact ⟨rfl, rfl⟩
set_option maxRecDepth 100000 in
theorem turn_walk (x n : Int) (w : World) (hn : n ∈ [(2 : Int), 6, 7, 11, 13, 17, 18, 19, 22, 25]) :
 Calls Tryd.prog 77 #[.int .u32 x, .int .i64 n] w fun e w' => e = .returned (.int .u32 (turnP x n)) ∧ w' = w := by
 have HR : ∃ m k, IntKind.i64.wrap (-n) = m ∧ IntKind.u64.wrap m = k ∧ Go.bits .and .u64 k 31 = 32 - n ∧ 0 ≤ 32 - n ∧ IntKind.u64.wrap (32 - (32 - n)) = n ∧ 0 ≤ n := by
  simp only [List.mem_cons, List.mem_nil_iff, or_false] at hn
  rcases hn with rfl | rfl | rfl | rfl | rfl | rfl | rfl | rfl | rfl | rfl <;> exact ⟨_, _, rfl, rfl, by decide +kernel, by decide, by decide, by decide⟩
 obtain ⟨m, k, h1, h2, h3, h4, h5, h6⟩ := HR
 have HW := Lib.hid (rot_walk x n m k w h2 h3 h4 h5 h6)
 clear h2 h3 h4 h5 h6 hn
 go_enter Tryd.func77, Tryd.ntmps77
 go_wp2_with (fail)
 refine HW.out.mono ?_
 rintro e w' ⟨rfl, rfl⟩
 go_wp2
 go_ret
 exact ⟨rfl, rfl⟩

end Go.Proofs.YtmbgjhkemlliaaaDoor.Sha
end

section
set_option linter.unusedVariables false
set_option linter.unusedSimpArgs false
namespace Go.Proofs.YtmbgjhkemlliaaaDoor.Sha
open Go.RowKit Go.Proofs.YtmbgjhkemlliaaaDoorW.PrintWords Go.Proofs.YtmbgjhkemlliaaaDoorW.PrintLast Go.Proofs.YtmbgjhkemlliaaaDoorW.PrintMore Go.Proofs.YtmbgjhkemlliaaaDoor.PT

theorem info64 : (Tryd.prog.info? 112).map (·.size) = some 64 := by kernel_rfl
/-- Words in an array of 64. -/
def arr (n : Nat) (L : List Int) : Array Value := ((L ++ List.replicate (n - L.length) 0).map (Value.int .u32)).toArray
theorem arr_get {n : Nat} {L : List Int} {j : Nat} (h : j < L.length) : (arr n L)[j]? = some (.int .u32 (L.getD j 0)) := by
 unfold arr
 rw [List.getElem?_toArray, List.getElem?_map, List.getElem?_append_left h, List.getElem?_eq_getElem h]
 simp [List.getD, List.getElem?_eq_getElem h]
theorem arr_size {n : Nat} {L : List Int} (h : L.length ≤ n) : (arr n L).size = n := by
 unfold arr
 simp
 omega
theorem arr_one {n : Nat} {L : List Int} : (arr n L).all (·.oneCell') = true := by
 rw [Array.all_eq_true_iff_forall_mem]
 intro v hv
 unfold arr at hv
 simp only [List.mem_toArray, List.mem_map] at hv
 obtain ⟨x, _, rfl⟩ := hv
 rfl
theorem arr_pad {n k : Nat} {L : List Int} (hk : L.length = k) (h : k < n) : (arr n L)[k]? = some (.int .u32 0) := by
 subst hk
 unfold arr
 rw [List.getElem?_toArray, List.getElem?_map, List.getElem?_append_right (Nat.le_refl _)]
 simp [List.getElem?_replicate]
 omega
theorem arr_set {n k : Nat} {L : List Int} (hk : L.length = k) (h : k < n) (v : Int) : (arr n L).setIfInBounds k (.int .u32 v) = arr n (L ++ [v]) := by
 subst hk
 obtain ⟨m, rfl⟩ : ∃ m, n = L.length + (m + 1) := ⟨n - L.length - 1, by omega⟩
 unfold arr
 have e1 : L.length + (m + 1) - L.length = m + 1 := by omega
 have e2 : L.length + (m + 1) - (L ++ [v]).length = m := by simp; omega
 rw [e1, e2]
 simp [List.replicate_succ, List.map_append]
/-- A word of four bytes. -/
def wordP (b : List Int) (t : Nat) : Int := Go.bits .or .u32 (Go.bits .or .u32 (Go.bits .or .u32 (IntKind.u32.wrap (IntKind.u32.wrap (b[4 * t]?.getD 0) * 16777216)) (IntKind.u32.wrap (IntKind.u32.wrap (b[4 * t + 1]?.getD 0) * 65536))) (IntKind.u32.wrap (IntKind.u32.wrap (b[4 * t + 2]?.getD 0) * 256))) (IntKind.u32.wrap (b[4 * t + 3]?.getD 0))
def nextP (L : List Int) (t : Nat) : Int := (L[t - 16]?.getD 0 + Go.bits .xor .u32 (Go.bits .xor .u32 (turnP (L[t - 15]?.getD 0) 7) (turnP (L[t - 15]?.getD 0) 18)) (L[t - 15]?.getD 0 / 8) + L[t - 7]?.getD 0 + Go.bits .xor .u32 (Go.bits .xor .u32 (turnP (L[t - 2]?.getD 0) 17) (turnP (L[t - 2]?.getD 0) 19)) (L[t - 2]?.getD 0 / 1024)) % 4294967296
def spreadN (b : List Int) : Nat → List Int
 | 0 => []
 | t + 1 => spreadN b t ++ [if t < 16 then wordP b t else nextP (spreadN b t) t]
theorem spreadN_len (b : List Int) : ∀ t, (spreadN b t).length = t
 | 0 => rfl
 | t + 1 => by rw [spreadN, List.length_append, spreadN_len b t]; rfl

set_option maxHeartbeats 1000000 in
set_option maxRecDepth 100000 in
theorem spread_walk (p o : Nat) (b : List Int) (w : World) (hb : ∀ i, i < 64 → w.cell? ⟨p, o + i, none⟩ = some (.int .u8 (b.getD i 0))) (hp : p < w.heap.size) (hv : ∀ i, 0 ≤ b.getD i 0 ∧ b.getD i 0 < 256) :
 Calls Tryd.prog 75 #[.pointer (some ⟨p, o, none⟩)] w fun e w' => e = .returned (.agg (arr 64 (spreadN b 64))) ∧ Below w.heap.size w w' := by
 have HB := Lib.hid hb
 have HV := Lib.hid hv
 have hn0 : (w.alloc (.cells (arr 64 []) 112)).heap[w.heap.size]? = some (.cells (arr 64 []) 112 (0, 0)) := heap_alloc_new w _
 have hB0 : Below w.heap.size w (w.alloc (.cells (arr 64 []) 112)) := (Below.refl _ _).alloc (Nat.le_refl _) _
 have HN := Lib.hid (And.intro hn0 hB0)
 clear hb hv hn0 hB0
 go_enter Tryd.func75, Tryd.ntmps75
 go_wp2
 go_loopw [6] (fun iv wr => ∃ k : Nat, k ≤ 64 ∧ iv = .int .i64 k ∧ Hid (wr.heap[w.heap.size]? = some (.cells (arr 64 (spreadN b k)) 112 (0, 0))) ∧ Hid (Below w.heap.size w wr)) (fun iv _ => 64 - (intOf iv).toNat)
 case atStart => exact ⟨0, Nat.zero_le _, rfl, Lib.hid HN.out.1, Lib.hid HN.out.2⟩
 case round =>
  obtain ⟨k, hk, rfl, H1, H2⟩ := hrel
  have hlen := spreadN_len b k
  by_cases h64 : k < 64
  ·by_cases h16 : k < 16
   ·have hd1 := eq_true (show (k : Int) < 64 by omega)
    have hd2 : decide ((k : Int) < 64) = true := decide_eq_true (by omega)
    have hd3 := eq_true (show (k : Int) < 16 by omega)
    have hd4 : decide ((k : Int) < 16) = true := decide_eq_true (by omega)
    obtain ⟨j0, hj0⟩ : ∃ j, j = 4 * k := ⟨_, rfl⟩
    obtain ⟨j1, hj1⟩ : ∃ j, j = 4 * k + 1 := ⟨_, rfl⟩
    obtain ⟨j2, hj2⟩ : ∃ j, j = 4 * k + 2 := ⟨_, rfl⟩
    obtain ⟨j3, hj3⟩ : ∃ j, j = 4 * k + 3 := ⟨_, rfl⟩
    have hw0 : IntKind.i64.wrap (4 * (k : Int)) = (j0 : Int) := by simp [IntKind.wrap, IntKind.bits, IntKind.signed]; omega
    have hw1 : IntKind.i64.wrap ((j0 : Int) + 1) = (j1 : Int) := by simp [IntKind.wrap, IntKind.bits, IntKind.signed]; omega
    have hw2 : IntKind.i64.wrap ((j0 : Int) + 2) = (j2 : Int) := by simp [IntKind.wrap, IntKind.bits, IntKind.signed]; omega
    have hw3 : IntKind.i64.wrap ((j0 : Int) + 3) = (j3 : Int) := by simp [IntKind.wrap, IntKind.bits, IntKind.signed]; omega
    have g0 := eq_true (show (j0 : Int) < 64 by omega)
    have g1 := eq_true (show (j1 : Int) < 64 by omega)
    have g2 := eq_true (show (j2 : Int) < 64 by omega)
    have g3 := eq_true (show (j3 : Int) < 64 by omega)
    have c0 := (H2.out.cell (p := ⟨p, o + j0, none⟩) hp).trans (HB.out j0 (by omega))
    have c1 := (H2.out.cell (p := ⟨p, o + j1, none⟩) hp).trans (HB.out j1 (by omega))
    have c2 := (H2.out.cell (p := ⟨p, o + j2, none⟩) hp).trans (HB.out j2 (by omega))
    have c3 := (H2.out.cell (p := ⟨p, o + j3, none⟩) hp).trans (HB.out j3 (by omega))
    have HJ := Lib.hid (And.intro hj0 (And.intro hj1 (And.intro hj2 hj3)))
    clear hj0 hj1 hj2 hj3
    have hx := (Lib.cell_of_heap H1.out k).trans (arr_pad hlen (by omega))
    have HLN := Lib.hid hlen
    have hf := Lib.frozen_of_heap H1.out k
    clear hlen
    go_wp2
    go_still_tail 39, (by kernel_rfl)
    change wpList _ _ _ _ _ wr.drew
    have hx' : wr.drew.cell? ⟨w.heap.size, k, none⟩ = some (.int .u32 0) := hx
    have hf' : wr.drew.frozen? ⟨w.heap.size, k, none⟩ = false := hf
    have H1' : Hid (wr.drew.heap[w.heap.size]? = some (.cells (arr 64 (spreadN b k)) 112 (0, 0))) := H1
    have H2' := Lib.hid (H2.out.drew)
    clear c0 c1 c2 c3 g0 g1 g2 g3 hw0 hw1 hw2 hw3 hx hf H1 H2
    generalize wr.drew = wd at hx' hf' H1' H2' ⊢
    go_wp2
    go_roundw
    case rel =>
     refine ⟨k + 1, by omega, by go_num, ?_, ?_⟩
     ·refine Lib.hid ?_
      have := heap_setCell_same wd w.heap.size k _ _ (.int .u32 (wordP b k)) H1'.out
      rw [arr_set HLN.out (by omega)] at this
      rw [spreadN, if_pos (by omega)]
      obtain ⟨q0, q1, q2, q3⟩ := HJ.out
      subst q0 q1 q2 q3
      exact this
     ·exact Lib.hid (Below.setCell H2'.out (p := ⟨w.heap.size, k, none⟩) (Nat.le_refl _) _)
    case measure => simp [intOf]; omega
   ·have hd1 := eq_true (show (k : Int) < 64 by omega)
    have hd2 : decide ((k : Int) < 64) = true := decide_eq_true (by omega)
    have hd3 := eq_false (show ¬ (k : Int) < 16 by omega)
    have hd4 : decide ((k : Int) < 16) = false := decide_eq_false (by omega)
    obtain ⟨j0, hj0⟩ : ∃ j, j = k - 16 := ⟨_, rfl⟩
    obtain ⟨j1, hj1⟩ : ∃ j, j = k - 15 := ⟨_, rfl⟩
    obtain ⟨j2, hj2⟩ : ∃ j, j = k - 7 := ⟨_, rfl⟩
    obtain ⟨j3, hj3⟩ : ∃ j, j = k - 2 := ⟨_, rfl⟩
    have hw0 : IntKind.i64.wrap ((k : Int) - 16) = (j0 : Int) := by simp [IntKind.wrap, IntKind.bits, IntKind.signed]; omega
    have hw1 : IntKind.i64.wrap ((k : Int) - 15) = (j1 : Int) := by simp [IntKind.wrap, IntKind.bits, IntKind.signed]; omega
    have hw2 : IntKind.i64.wrap ((k : Int) - 7) = (j2 : Int) := by simp [IntKind.wrap, IntKind.bits, IntKind.signed]; omega
    have hw3 : IntKind.i64.wrap ((k : Int) - 2) = (j3 : Int) := by simp [IntKind.wrap, IntKind.bits, IntKind.signed]; omega
    have g0 := eq_true (show (j0 : Int) < 64 by omega)
    have g1 := eq_true (show (j1 : Int) < 64 by omega)
    have g2 := eq_true (show (j2 : Int) < 64 by omega)
    have g3 := eq_true (show (j3 : Int) < 64 by omega)
    have c0 := (Lib.cell_of_heap H1.out j0).trans (arr_get (by omega))
    have c1 := (Lib.cell_of_heap H1.out j1).trans (arr_get (by omega))
    have c2 := (Lib.cell_of_heap H1.out j2).trans (arr_get (by omega))
    have c3 := (Lib.cell_of_heap H1.out j3).trans (arr_get (by omega))
    have HJ := Lib.hid (And.intro hj0 (And.intro hj1 (And.intro hj2 hj3)))
    clear hj0 hj1 hj2 hj3
    have hx := (Lib.cell_of_heap H1.out k).trans (arr_pad hlen (by omega))
    have HLN := Lib.hid hlen
    have hf := Lib.frozen_of_heap H1.out k
    clear hlen
    go_wp2
    refine wp_region_still_lit (by kernel_rfl) (by kernel_rfl) ?_
    repeat still_step
    refine wpStill_nil ?_
    change Exit.then _ _ _ _ wr.drew
    replace c0 : wr.drew.cell? ⟨w.heap.size, j0, none⟩ = _ := c0
    replace c1 : wr.drew.cell? ⟨w.heap.size, j1, none⟩ = _ := c1
    replace c2 : wr.drew.cell? ⟨w.heap.size, j2, none⟩ = _ := c2
    replace c3 : wr.drew.cell? ⟨w.heap.size, j3, none⟩ = _ := c3
    replace hx : wr.drew.cell? ⟨w.heap.size, k, none⟩ = some (.int .u32 0) := hx
    replace hf : wr.drew.frozen? ⟨w.heap.size, k, none⟩ = false := hf
    replace H1 : Hid (wr.drew.heap[w.heap.size]? = some (.cells (arr 64 (spreadN b k)) 112 (0, 0))) := H1
    replace H2 := Lib.hid (H2.out.drew)
    generalize wr.drew = wd at hx hf H1 H2 c0 c1 c2 c3 ⊢
    obtain ⟨x, hX⟩ : ∃ x, (spreadN b k)[j1]?.getD 0 = x := ⟨_, rfl⟩
    obtain ⟨y, hY⟩ : ∃ y, (spreadN b k)[j3]?.getD 0 = y := ⟨_, rfl⟩
    rw [hX, hY]
    have HXY := Lib.hid (And.intro hX hY)
    clear hX hY
    go_wp2
    refine wp_region_still_tail 29 (by kernel_rfl) (by kernel_rfl) ?_
    simp only [List.take_succ_cons, List.take_zero, List.drop_succ_cons, List.drop_zero]
    repeat (first | still_step | still_call (turn_walk _ _ _ (by simp)))
    refine wpStill_nil ?_
    change wpList _ _ _ _ _ wd.drew
    replace hx : wd.drew.cell? ⟨w.heap.size, k, none⟩ = some (.int .u32 0) := hx
    replace hf : wd.drew.frozen? ⟨w.heap.size, k, none⟩ = false := hf
    replace H1 : Hid (wd.drew.heap[w.heap.size]? = some (.cells (arr 64 (spreadN b k)) 112 (0, 0))) := H1
    replace H2 := Lib.hid (H2.out.drew)
    clear c0 c1 c2 c3 g0 g1 g2 g3 hw0 hw1 hw2 hw3
    generalize wd.drew = we at hx hf H1 H2 ⊢
    go_wp2
    go_roundw
    case rel =>
     refine ⟨k + 1, by omega, by go_num, ?_, ?_⟩
     ·refine Lib.hid ?_
      have := heap_setCell_same we w.heap.size k _ _ (.int .u32 (nextP (spreadN b k) k)) H1.out
      rw [arr_set HLN.out (by omega)] at this
      rw [spreadN, if_neg (by omega)]
      unfold nextP at this ⊢
      obtain ⟨q0, q1, q2, q3⟩ := HJ.out
      subst q0 q1 q2 q3
      rw [HXY.out.1, HXY.out.2] at this ⊢
      exact this
     ·exact Lib.hid (Below.setCell H2.out (p := ⟨w.heap.size, k, none⟩) (Nat.le_refl _) _)
    case measure => simp [intOf]; omega
  ·have hk64 : k = 64 := by omega
   subst hk64
   have hd2 : decide (((64 : Nat) : Int) < 64) = false := by decide
   have hd1 := eq_false (show ¬ ((64 : Nat) : Int) < 64 by decide)
   go_upto_region 9 with (fail)
   have hsz := arr_size (n := 64) (L := spreadN b 64) (by omega)
   generalize hM : arr 64 (spreadN b 64) = M at H1 hsz ⊢
   have hone : M.all (·.oneCell') = true := by rw [← hM]; exact arr_one
   refine wp_region_lit ?_
   refine wpList_load_row rfl 112 (.tmp 2) rfl w.heap.size rfl 112 M (0, 0) _ H1.out Tryd.underlying112 rfl (by rw [hsz]; exact info64) ?_
   refine wpList_store_row rfl 112 (.tmp 2) (.tmp 88) rfl w.heap.size M rfl rfl 112 M H1.out (by rw [hsz]; exact info64) rfl hone ?_
   rw [setRow_self _ _ _ _ _ H1.out]
   refine wpList_nil ?_
   go_wp2
   have hi : (Tryd.prog.info? 112).map (·.size) = some M.size := by rw [hsz]; exact info64
   refine bodyPost_ret (v := .agg M) ?_ rfl ⟨by rw [hM], H2.out⟩
   exact results_cell_row (P := Tryd.prog) (p := 2) (ty := 112) Tryd.results75 _ _ w.heap.size 112 M (0, 0) _ rfl H1.out Tryd.underlying112 rfl hi

end Go.Proofs.YtmbgjhkemlliaaaDoor.Sha
end

section
set_option linter.unusedVariables false
set_option linter.unusedSimpArgs false
namespace Go.Proofs.YtmbgjhkemlliaaaDoor.Sha
open Go.RowKit Go.Proofs.YtmbgjhkemlliaaaDoorW.PrintWords Go.Proofs.YtmbgjhkemlliaaaDoorW.PrintLast Go.Proofs.YtmbgjhkemlliaaaDoorW.PrintMore Go.Proofs.YtmbgjhkemlliaaaDoor.PT

def constP : List Int := [
 0x428a2f98, 0x71374491, 0xb5c0fbcf, 0xe9b5dba5, 0x3956c25b, 0x59f111f1, 0x923f82a4, 0xab1c5ed5,
 0xd807aa98, 0x12835b01, 0x243185be, 0x550c7dc3, 0x72be5d74, 0x80deb1fe, 0x9bdc06a7, 0xc19bf174,
 0xe49b69c1, 0xefbe4786, 0x0fc19dc6, 0x240ca1cc, 0x2de92c6f, 0x4a7484aa, 0x5cb0a9dc, 0x76f988da,
 0x983e5152, 0xa831c66d, 0xb00327c8, 0xbf597fc7, 0xc6e00bf3, 0xd5a79147, 0x06ca6351, 0x14292967,
 0x27b70a85, 0x2e1b2138, 0x4d2c6dfc, 0x53380d13, 0x650a7354, 0x766a0abb, 0x81c2c92e, 0x92722c85,
 0xa2bfe8a1, 0xa81a664b, 0xc24b8b70, 0xc76c51a3, 0xd192e819, 0xd6990624, 0xf40e3585, 0x106aa070,
 0x19a4c116, 0x1e376c08, 0x2748774c, 0x34b0bcb5, 0x391c0cb3, 0x4ed8aa4a, 0x5b9cca4f, 0x682e6ff3,
 0x748f82ee, 0x78a5636f, 0x84c87814, 0x8cc70208, 0x90befffa, 0xa4506ceb, 0xbef9a3f7, 0xc67178f2]
def startP : List Int := [0x6a09e667, 0xbb67ae85, 0x3c6ef372, 0xa54ff53a, 0x510e527f, 0x9b05688c, 0x1f83d9ab, 0x5be0cd19]

set_option maxHeartbeats 1000000 in
set_option maxRecDepth 100000 in
theorem const_walk (w : World) :
 Calls Tryd.prog 76 #[] w fun e w' => e = .returned (.pointer (some ⟨w.heap.size, 0, none⟩)) ∧ w' = w.alloc (.cells (arr 64 constP) 112) := by
 go_enter Tryd.func76, Tryd.ntmps76
 go_wp2
 go_ret
 exact ⟨rfl, rfl⟩

/-- The block of a hash. -/
def hashC (ws rest : List Int) (many : Int) : Array Value := (ws.map (Value.int .u32) ++ rest.map (Value.int .u8) ++ [Value.int .u64 many]).toArray
set_option maxHeartbeats 1000000 in
set_option maxRecDepth 100000 in
theorem new_walk (w : World) :
 Calls Tryd.prog 65 #[] w fun e w' => e = .returned (.pointer (some ⟨w.heap.size, 0, none⟩)) ∧ w' = w.alloc (.cells (hashC startP (List.replicate 64 0) 0) 111) := by
 go_enter Tryd.func65, Tryd.ntmps65
 go_wp2
 go_ret
 refine ⟨rfl, congrArg (fun c => w.alloc (.cells c 111)) ?_⟩
 kernel_rfl

end Go.Proofs.YtmbgjhkemlliaaaDoor.Sha
end

section
set_option linter.unusedVariables false
set_option linter.unusedSimpArgs false
namespace Go.Proofs.YtmbgjhkemlliaaaDoor.Sha
open Go.RowKit Go.Proofs.YtmbgjhkemlliaaaDoorW.PrintWords Go.Proofs.YtmbgjhkemlliaaaDoorW.PrintLast Go.Proofs.YtmbgjhkemlliaaaDoorW.PrintMore Go.Proofs.YtmbgjhkemlliaaaDoor.PT

theorem copy_step {P : Program} {ops : Array Oper} {o : Oper} {a : Act} {w : World} {K : Act → World → Prop} {Q : Exit → Act → World → Prop} {E : Prop} (hw : Region.wanted o (yielded ops a.tmps) = true) (d s : Operand) (dT sT : TypeId)
 (ho : o.op = .call { callee := .builtin .copy, args := #[d, s], argTypes := #[dT, sT] }) (elem : TypeId) (hu : P.underlying dT = some (.slice elem)) (hsz : (P.info? elem).map (·.size) = some 1)
 (ad : Addr) (dLen dCap sLen sCap : Nat) (g off : Nat) (hd : a.eval d = .slice (some ⟨g, off, none⟩) dLen dCap) (hs : a.eval s = .slice (some ad) sLen sCap)
 (cur : List Value) (t : TypeId) (hg : w.heap[g]? = some (.cells cur.toArray t (0, 0))) (cs : List Value) (hn : cs.length = Nat.min sLen dLen)
 (hsrc : ∀ j v, cs[j]? = some v → w.cell? (ad.add j) = some v)
 (hfit : off + cs.length ≤ cur.length) (h1 : ∀ v ∈ cs, v.oneCell' = true)
 (h : K (a.put o.dst (goInt cs.length)) (w.setRow g (cur.take off ++ cs ++ cur.drop (off + cs.length)).toArray)) :
 if Region.wanted o (yielded ops a.tmps) = true then Oper.wp P o a w K Q else E := by
 rw [if_pos hw]
 have hrun := run_copy_row (P := P) w dT sT o.type elem g off dLen dCap ad sLen sCap cur.toArray t cs hu hsz hg hn hsrc (by simpa using hfit) h1
 unfold Oper.wp
 simp [execOp, ho, resolve, invoke, builtin, hd, hs, hrun, Result.andThen]
 simp only [List.append_assoc] at h
 exact h
/-- One round: the eight words behind it. -/
def roundP (c w : Int) (v : List Int) : List Int :=
 let e := v.getD 4 0
 let a := v.getD 0 0
 let p := v.getD 7 0 + Go.bits .xor .u32 (Go.bits .xor .u32 (turnP e 6) (turnP e 11)) (turnP e 25) + Go.bits .xor .u32 (v.getD 6 0) (Go.bits .and .u32 e (Go.bits .xor .u32 (v.getD 5 0) (v.getD 6 0))) + c + w
 let q := Go.bits .xor .u32 (Go.bits .xor .u32 (turnP a 2) (turnP a 13)) (turnP a 22) + Go.bits .or .u32 (Go.bits .and .u32 a (Go.bits .or .u32 (v.getD 1 0) (v.getD 2 0))) (Go.bits .and .u32 (v.getD 1 0) (v.getD 2 0))
 [(p + q) % 4294967296, a, v.getD 1 0, v.getD 2 0, (v.getD 3 0 + p) % 4294967296, e, v.getD 5 0, v.getD 6 0]
/-- The words behind t rounds. -/
def roundsP (W v : List Int) : Nat → List Int
 | 0 => v
 | t + 1 => roundP (constP.getD t 0) (W.getD t 0) (roundsP W v t)
/-- The words behind a block. -/
def fullP (v b : List Int) : List Int := List.zipWith (fun x y => (x + y) % 4294967296) v (roundsP (spreadN b 64) v 64)
/-- What a hash has gone through: its words, the block that is not full, the number of bytes. -/
structure HS where
 ws : List Int
 rest : List Int
 many : Int
def pushP (s : HS) (x : Int) : HS :=
 let r := s.rest.set (s.many % 64).toNat x
 ⟨if (s.many + 1) % 64 = 0 then fullP s.ws r else s.ws, r, (s.many + 1) % 18446744073709551616⟩
def writeH (s : HS) (l : List Int) : HS := l.foldl pushP s

end Go.Proofs.YtmbgjhkemlliaaaDoor.Sha
end
