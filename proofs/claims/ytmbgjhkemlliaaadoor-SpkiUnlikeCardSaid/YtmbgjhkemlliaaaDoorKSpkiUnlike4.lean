/- Merged by a program of this session (wip/tools/pack.py). -/
import Derived.Test.YtmbgjhkemlliaaaDoorKSpkiUnlike3
import Derived.Deep.CutBlock
import Derived.Outline
import Derived.StillTailTactics
import Derived.Lib.JoinLaws
import Derived.Deep.Slices
import Derived.Deep.Fields
import Derived.ChangeSame
import Derived.OpenShut
section
set_option linter.unusedVariables false
set_option linter.unusedSimpArgs false
namespace Go.Proofs.YtmbgjhkemlliaaaDoor.Sha
open Go.RowKit Go.Proofs.YtmbgjhkemlliaaaDoorW.PrintWords Go.Proofs.YtmbgjhkemlliaaaDoorW.PrintLast Go.Proofs.YtmbgjhkemlliaaaDoorW.PrintMore Go.Proofs.YtmbgjhkemlliaaaDoor.PT

theorem roundsP_len (W v : List Int) (hv : v.length = 8) : ∀ t, (roundsP W v t).length = 8
 | 0 => hv
 | t + 1 => rfl
theorem eight {v : List Int} (h : v.length = 8) : ∃ a b c d e f g h : Int, v = [a, b, c, d, e, f, g, h] := by
 match v, h with
 | [a, b, c, d, e, f, g, h], _ => exact ⟨a, b, c, d, e, f, g, h, rfl⟩
theorem infoU32 : (Tryd.prog.info? 23).map (·.size) = some 1 := by kernel_rfl
theorem only_drew {a w : World} {row : Option Nat} (h : a.grownBy w row) : a.grownBy w.drew row := ⟨h.os, h.tape, h.output, h.size, h.block⟩
theorem only_setCell {a w : World} {g : Nat} (h : a.grownBy w (some g)) {p : Addr} (hp : p.block = g ∨ a.heap.size ≤ p.block) (u : Value) : a.grownBy (w.setCell p u) (some g) :=
 ⟨h.os, h.tape, h.output, by simpa [World.setCell] using h.size, fun i hi hne => (Below.heap_setCell w p u i (by
  rintro rfl
  rcases hp with hp | hp
  ·exact hne (by rw [hp])
  ·omega)).trans (h.block i hi hne)⟩
theorem only_of_below {a w : World} (h : Below a.heap.size a w) (row : Option Nat) : a.grownBy w row := ⟨h.os, h.tape, h.output, h.size, fun i hi _ => h.block i hi⟩
theorem only_trans {a b c : World} {g : Nat} (h : a.grownBy b (some g)) (k : b.grownBy c (some g)) : a.grownBy c (some g) :=
 ⟨k.os.trans h.os, k.tape.trans h.tape, k.output.trans h.output, Nat.le_trans h.size k.size, fun i hi hne => (k.block i (Nat.lt_of_lt_of_le hi h.size) hne).trans (h.block i hi hne)⟩
theorem below_of_only {a b : World} {g B : Nat} (h : a.grownBy b (some g)) (hg : B ≤ g) (hB : B ≤ a.heap.size) : Below B a b :=
 ⟨h.os, h.tape, h.output, h.size, fun i hi => h.block i (by omega) (fun e => by injection e with e; omega)⟩
/-- What holds of the blocks while a block is gone through. -/
structure FS (w W : World) (p g2 gc g4 : Nat) (Wd v : List Int) (H : Array Value) : Prop where
 h2 : W.heap[g2]? = some (.cells (arr 64 Wd) 112 (0, 0))
 hc : W.heap[gc]? = some (.cells (arr 64 constP) 112 (0, 0))
 h4 : W.heap[g4]? = some (.cells (v.map (Value.int .u32)).toArray 108 (0, 0))
 hp : W.heap[p]? = some (.cells H 111 (0, 0))
 n2 : g2 ≠ g4
 nc : gc ≠ g4
 b2 : w.heap.size ≤ g2
 bc : w.heap.size ≤ gc
 b4 : w.heap.size ≤ g4
 bp : p < w.heap.size
 b : Below w.heap.size w W
theorem FS.drew {w W : World} {p g2 gc g4 : Nat} {Wd v : List Int} {H : Array Value} (h : FS w W p g2 gc g4 Wd v H) : FS w W.drew p g2 gc g4 Wd v H := ⟨h.h2, h.hc, h.h4, h.hp, h.n2, h.nc, h.b2, h.bc, h.b4, h.bp, h.b.drew⟩

theorem FS.v {w W : World} {p g2 gc g4 : Nat} {Wd v : List Int} {H : Array Value} (h : FS w W p g2 gc g4 Wd v H) {W' : World} {v' : List Int} (h4 : W'.heap[g4]? = some (.cells (v'.map (Value.int .u32)).toArray 108 (0, 0))) (ho : ∀ k, k ≠ g4 → W'.heap[k]? = W.heap[k]?) (hB : Below w.heap.size w W') : FS w W' p g2 gc g4 Wd v' H :=
 ⟨(ho _ h.n2).trans h.h2, (ho _ h.nc).trans h.hc, h4, (ho _ (by have := h.bp; have := h.b4; omega)).trans h.hp, h.n2, h.nc, h.b2, h.bc, h.b4, h.bp, hB⟩
theorem FS.two {w W : World} {p g2 gc g4 : Nat} {Wd : List Int} {v0 v1 v2 v3 v4 v5 v6 : Int} {H : Array Value} (h : FS w W p g2 gc g4 Wd [v0, v0, v1, v2, v3, v4, v5, v6] H) (x y : Int) : FS w ((W.setCell ⟨g4, 4, none⟩ (.int .u32 x)).setCell ⟨g4, 0, none⟩ (.int .u32 y)) p g2 gc g4 Wd [y, v0, v1, v2, x, v4, v5, v6] H := by
 have h1 : FS w (W.setCell ⟨g4, 4, none⟩ (.int .u32 x)) p g2 gc g4 Wd [v0, v0, v1, v2, x, v4, v5, v6] H := h.v (heap_setCell_same _ g4 4 _ _ (.int .u32 x) h.h4) (fun k hk => heap_setCell_other _ _ _ _ hk) (Below.setCell h.b (p := ⟨g4, 4, none⟩) h.b4 _)
 exact h1.v (heap_setCell_same _ g4 0 _ _ (.int .u32 y) h1.h4) (fun k hk => heap_setCell_other _ _ _ _ hk) (Below.setCell h1.b (p := ⟨g4, 0, none⟩) h1.b4 _)
theorem FS.cells {w W : World} {p g2 gc g4 k : Nat} {Wd : List Int} {v0 v1 v2 v3 v4 v5 v6 v7 : Int} {H : Array Value} (h : FS w W p g2 gc g4 Wd [v0, v1, v2, v3, v4, v5, v6, v7] H) (hk : k < 64) (hW : Wd.length = 64) :
 W.cell? ⟨g2, k, none⟩ = some (.int .u32 (Wd.getD k 0)) ∧ W.cell? ⟨gc, k, none⟩ = some (.int .u32 (constP.getD k 0)) ∧ W.cell? ⟨g4, 0, none⟩ = some (.int .u32 v0) ∧ W.cell? ⟨g4, 1, none⟩ = some (.int .u32 v1) ∧ W.cell? ⟨g4, 2, none⟩ = some (.int .u32 v2) ∧ W.cell? ⟨g4, 4, none⟩ = some (.int .u32 v4) ∧ W.cell? ⟨g4, 5, none⟩ = some (.int .u32 v5) ∧ W.cell? ⟨g4, 6, none⟩ = some (.int .u32 v6) ∧ W.cell? ⟨g4, 7, none⟩ = some (.int .u32 v7) :=
 ⟨(Lib.cell_of_heap h.h2 k).trans (arr_get (by omega)), (Lib.cell_of_heap h.hc k).trans (arr_get (by show k < 64; exact hk)), Lib.cell_of_heap h.h4 0, Lib.cell_of_heap h.h4 1, Lib.cell_of_heap h.h4 2, Lib.cell_of_heap h.h4 4, Lib.cell_of_heap h.h4 5, Lib.cell_of_heap h.h4 6, Lib.cell_of_heap h.h4 7⟩

/-- The words of which the first m have been added. -/
def mixP (ws V : List Int) (m : Nat) : List Int := (List.zipWith (fun x y => (x + y) % 4294967296) ws V).take m ++ ws.drop m
theorem mixP_full {ws V : List Int} (h1 : ws.length = 8) (h2 : V.length = 8) : mixP ws V 8 = List.zipWith (fun x y => (x + y) % 4294967296) ws V := by
 unfold mixP
 rw [List.take_of_length_le (by simp; omega), List.drop_eq_nil_of_le (by omega), List.append_nil]
theorem hash_get {ws rest : List Int} {many : Int} {m : Nat} (h : m < ws.length) : (hashC ws rest many)[m]? = some (.int .u32 (ws.getD m 0)) := by
 unfold hashC
 rw [List.getElem?_toArray, List.getElem?_append_left (by simp; omega), List.getElem?_append_left (by simp; omega), List.getElem?_map, List.getElem?_eq_getElem h]
 simp [List.getD, List.getElem?_eq_getElem h]
theorem mixP_get {ws V : List Int} {m : Nat} (h : m < ws.length) (h1 : ws.length = 8) (h2 : V.length = 8) : (mixP ws V m).length = 8 ∧ (mixP ws V m).getD m 0 = ws.getD m 0 := by
 have hl : ((List.zipWith (fun x y => (x + y) % 4294967296) ws V).take m).length = m := by simp; omega
 refine ⟨by unfold mixP; rw [List.length_append, hl, List.length_drop]; omega, ?_⟩
 unfold mixP
 simp only [List.getD]
 rw [List.getElem?_append_right (by omega), hl, List.getElem?_drop]
 simp
theorem mixP_step {ws V rest : List Int} {many : Int} {m : Nat} (h : m < 8) (h1 : ws.length = 8) (h2 : V.length = 8) : (hashC (mixP ws V m) rest many).setIfInBounds m (.int .u32 ((ws.getD m 0 + V.getD m 0) % 4294967296)) = hashC (mixP ws V (m + 1)) rest many := by
 obtain ⟨a0, a1, a2, a3, a4, a5, a6, a7, rfl⟩ := eight h1
 obtain ⟨b0, b1, b2, b3, b4, b5, b6, b7, rfl⟩ := eight h2
 have hm : m = 0 ∨ m = 1 ∨ m = 2 ∨ m = 3 ∨ m = 4 ∨ m = 5 ∨ m = 6 ∨ m = 7 := by omega
 unfold hashC
 rcases hm with rfl | rfl | rfl | rfl | rfl | rfl | rfl | rfl <;> simp [mixP]
theorem hlt_ {W : World} {g : Nat} {o : Obj} (h : W.heap[g]? = some o) : g < W.heap.size := (Array.getElem?_eq_some_iff.1 h).1
/-- A block of one's own, whole. -/
def Bk (w W : World) (g : Nat) (t : TypeId) (cs : Array Value) : Prop := W.heap[g]? = some (.cells cs t (0, 0)) ∧ w.heap.size ≤ g
theorem Bk.lt {w W : World} {g : Nat} {t : TypeId} {cs : Array Value} (h : Bk w W g t cs) : g < W.heap.size := (Array.getElem?_eq_some_iff.1 h.1).1
theorem Bk.step {w W W2 : World} {g : Nat} {t : TypeId} {cs : Array Value} (h : Bk w W g t cs) (hB : Below W.heap.size W W2) : Bk w W2 g t cs := ⟨(hB.block _ h.lt).trans h.1, h.2⟩
theorem Bk.new {w W : World} {t : TypeId} {cs : Array Value} (h : w.heap.size ≤ W.heap.size) : Bk w (W.alloc (.cells cs t)) W.heap.size t cs := ⟨heap_alloc_new W _, h⟩
def SF (p : Nat) (H : Array Value) (w W : World) : Prop := W.heap[p]? = some (.cells H 111 (0, 0)) ∧ Below w.heap.size w W
theorem info8 : (Tryd.prog.info? 108).map (·.size) = some 8 := by kernel_rfl
theorem hash_at {ws rest : List Int} {many : Int} {w' : World} {p : Nat} (i : Nat) (h : i < ws.length) (hp : w'.heap[p]? = some (.cells (hashC ws rest many) 111 (0, 0))) : w'.cell? ⟨p, i, none⟩ = some (.int .u32 (ws.getD i 0)) := (Lib.cell_of_heap hp i).trans (hash_get h)
theorem hash_rest {ws rest : List Int} {many : Int} {w' : World} {p : Nat} (hw : ws.length = 8) (hr : rest.length = 64) (hp : w'.heap[p]? = some (.cells (hashC ws rest many) 111 (0, 0))) : ∀ i, i < 64 → w'.cell? ⟨p, 8 + i, none⟩ = some (.int .u8 (rest.getD i 0)) := by
 intro i hi
 refine (Lib.cell_of_heap hp (8 + i)).trans ?_
 unfold hashC
 rw [List.getElem?_toArray, List.getElem?_append_left (by simp; omega), List.getElem?_append_right (by simp; omega), List.getElem?_map]
 have e : 8 + i - (ws.map (Value.int .u32)).length = i := by simp; omega
 rw [e, List.getElem?_eq_getElem (by omega)]
 simp [List.getD, List.getElem?_eq_getElem (show i < rest.length by omega)]

set_option maxHeartbeats 8000000 in
set_option maxRecDepth 100000 in
theorem full_walk (p : Nat) (ws rest : List Int) (many : Int) (hw : ws.length = 8) (hr : rest.length = 64) (w : World) (hv : ∀ i, 0 ≤ rest.getD i 0 ∧ rest.getD i 0 < 256) (hp : w.heap[p]? = some (.cells (hashC ws rest many) 111 (0, 0))) :
 Calls Tryd.prog 73 #[.pointer (some ⟨p, 0, none⟩)] w fun e w' => e = .returned (.tuple #[]) ∧ w'.heap[p]? = some (.cells (hashC (fullP ws rest) rest many) 111 (0, 0)) ∧ w.grownBy w' (some p) := by
 have HP := Lib.hid (And.intro hp (And.intro hw hr))
 have HVR := Lib.hid hv
 clear hp hw hr hv
 go_enter Tryd.func73, Tryd.ntmps73
 go_upto_region 0 with (fail)
 go_cut [2, 3, 4] from 11 to 19 (fun a2 a3 a4 wx => ∃ g2 gc g4, a2 = .pointer (some ⟨g2, 0, none⟩) ∧ a3 = .pointer (some ⟨gc, 0, none⟩) ∧ a4 = .pointer (some ⟨g4, 0, none⟩) ∧ Hid (FS w wx p g2 gc g4 (spreadN rest 64) ws (hashC ws rest many)))
 case first =>
  have hS0 : SF p (hashC ws rest many) w w.drew := ⟨HP.out.1, (Below.refl _ _).drew⟩
  have HSP := Lib.hid (fun (w' : World) (h : SF p (hashC ws rest many) w w') => spread_walk p 8 rest w' (hash_rest HP.out.2.1 HP.out.2.2 h.1) (hlt_ h.1) HVR.out)
  have HBP := Lib.hid (hlt_ HP.out.1)
  have HW8 := HP.out.2.1
  obtain ⟨x0, x1, x2, x3, x4, x5, x6, x7, rfl⟩ := eight HW8
  clear HW8
  have HWS : Hid (∀ w' : World, w'.heap[p]? = some (.cells (hashC [x0, x1, x2, x3, x4, x5, x6, x7] rest many) 111 (0, 0)) → w'.cell? ⟨p, 0, none⟩ = some (.int .u32 x0) ∧ w'.cell? ⟨p, 1, none⟩ = some (.int .u32 x1) ∧ w'.cell? ⟨p, 2, none⟩ = some (.int .u32 x2) ∧ w'.cell? ⟨p, 3, none⟩ = some (.int .u32 x3) ∧ w'.cell? ⟨p, 4, none⟩ = some (.int .u32 x4) ∧ w'.cell? ⟨p, 5, none⟩ = some (.int .u32 x5) ∧ w'.cell? ⟨p, 6, none⟩ = some (.int .u32 x6) ∧ w'.cell? ⟨p, 7, none⟩ = some (.int .u32 x7)) := Lib.hid (fun w' h => ⟨hash_at 0 (by simp) h, hash_at 1 (by simp) h, hash_at 2 (by simp) h, hash_at 3 (by simp) h, hash_at 4 (by simp) h, hash_at 5 (by simp) h, hash_at 6 (by simp) h, hash_at 7 (by simp) h⟩)
  clear HP
  generalize hHH : hashC [x0, x1, x2, x3, x4, x5, x6, x7] rest many = H at hS0 HSP HWS ⊢
  have hwl := spreadN_len rest 64
  generalize hWd : spreadN rest 64 = Wd at HSP hwl ⊢
  have HEQ := Lib.hid (And.intro hWd hHH)
  clear hWd hHH
  have hz1 : (arr 64 Wd).size = 64 := arr_size (by omega)
  have hz2 := @arr_one 64 Wd
  obtain ⟨WA, hWA⟩ : ∃ WA, WA = arr 64 Wd := ⟨_, rfl⟩
  rw [← hWA] at HSP hz1 hz2
  have HWA := Lib.hid (And.intro hWA (And.intro hz1 hz2))
  clear hWA hz1 hz2 hwl
  refine start_ (n := 14) (S := SF p H w) (ds := []) #[false, false, false, false, false, false, false, false, false, false, false, false, false, false] (by kernel_rfl) rfl rfl hS0 (fun hHeld => ?_)
  clear hS0
  generalize w.drew = wd at hHeld ⊢
  refine pure_ (i := 0) (N := some 11) (v := ?_) (a' := ?_) #[true, false, false, false, false, false, false, false, false, false, false, false, false, false] rfl rfl (by kernel_rfl) (fun _ _ _ h => h) (Or.inl ⟨by rfl, ?_⟩) ?_ ?_
  rotate_left
  ·intro w'
   go_simp
   with_reducible rfl
  rotate_left
  ·simp only [Act.put, List.setIfInBounds_toArray, List.set_cons_zero, List.set_cons_succ, i64_w, i32_w]
   rfl
  refine pure_ (i := 1) (N := some 12) (v := ?_) (a' := ?_) #[true, true, false, false, false, false, false, false, false, false, false, false, false, false] rfl rfl (by kernel_rfl) (fun _ _ _ h => h) (Or.inl ⟨by rfl, ?_⟩) ?_ ?_
  rotate_left
  ·intro w'
   go_simp
   with_reducible rfl
  rotate_left
  ·simp only [Act.put, List.setIfInBounds_toArray, List.set_cons_zero, List.set_cons_succ, i64_w, i32_w]
   rfl
  refine pure_ (i := 2) (N := some 13) (v := ?_) (a' := ?_) #[true, true, true, false, false, false, false, false, false, false, false, false, false, false] rfl rfl (by kernel_rfl) (fun _ _ _ h => h) (Or.inl ⟨by rfl, ?_⟩) ?_ ?_
  rotate_left
  ·intro w'
   go_simp
   with_reducible rfl
  rotate_left
  ·simp only [Act.put, List.setIfInBounds_toArray, List.set_cons_zero, List.set_cons_succ, i64_w, i32_w]
   rfl
  refine pure_ (i := 5) (N := some 16) (v := ?_) (a' := ?_) #[true, true, true, false, false, true, false, false, false, false, false, false, false, false] rfl rfl (by kernel_rfl) (fun _ _ _ h => h) (Or.inl ⟨by rfl, ?_⟩) ?_ ?_
  rotate_left
  ·intro w'
   go_simp
   with_reducible rfl
  rotate_left
  ·simp only [Act.put, List.setIfInBounds_toArray, List.set_cons_zero, List.set_cons_succ, i64_w, i32_w]
   rfl
  refine pure_ (i := 6) (N := some 17) (v := ?_) (a' := ?_) #[true, true, true, false, false, true, true, false, false, false, false, false, false, false] rfl rfl (by kernel_rfl) (fun _ _ _ h => h) (Or.inl ⟨by rfl, ?_⟩) ?_ ?_
  rotate_left
  ·intro w'
   go_simp
   with_reducible rfl
  rotate_left
  ·simp only [Act.put, List.setIfInBounds_toArray, List.set_cons_zero, List.set_cons_succ, i64_w, i32_w]
   rfl
  refine pure_ (i := 7) (N := some 18) (v := ?_) (a' := ?_) #[true, true, true, false, false, true, true, true, false, false, false, false, false, false] rfl rfl (by kernel_rfl) (fun _ _ _ h => h) (Or.inl ⟨by rfl, ?_⟩) ?_ ?_
  rotate_left
  ·intro w'
   go_simp
   with_reducible rfl
  rotate_left
  ·simp only [Act.put, List.setIfInBounds_toArray, List.set_cons_zero, List.set_cons_succ, i64_w, i32_w]
   rfl
  refine take_ (i := 8) (N := some 19) (v := ?_) (a' := ?_) #[true, true, true, false, false, true, true, true, true, false, false, false, false, false] rfl rfl (by kernel_rfl) (fun _ _ _ h => h) (Or.inl ⟨by rfl, ?_⟩) hHeld ?_ ?_
  rotate_left
  ·rintro w' s0
   obtain ⟨c0, c1, c2, c3, c4, c5, c6, c7⟩ := HWS.out w' s0.1
   clear s0
   go_simp
   with_reducible rfl
  rotate_left
  ·simp only [Act.put, List.setIfInBounds_toArray, List.set_cons_zero, List.set_cons_succ, i64_w, i32_w]
   rfl
  refine join_ (σ := Nat × Nat × Nat) 3 #[true, true, true, true, true, true, true, true, true, true, true, false, false, false] (fun s_ => [(14, .agg WA), (15, .pointer (some ⟨s_.2.1, 0, none⟩)), (2, .pointer (some ⟨s_.1, 0, none⟩)), (4, .pointer (some ⟨s_.2.2, 0, none⟩))]) (fun s_ w' => SF p H w w' ∧ Bk w w' s_.1 112 (arr 64 []) ∧ Bk w w' s_.2.1 112 (arr 64 constP) ∧ Bk w w' s_.2.2 108 (arr 8 []) ∧ s_.1 ≠ s_.2.1 ∧ s_.1 ≠ s_.2.2 ∧ s_.2.1 ≠ s_.2.2) ?_ ?_
  rotate_left
  ·intro hCont
   refine three_ (i := 3) (j := 9) (k := 10) (Ni := some 14) (Nj := some 2) (Nk := some 4) #[true, true, true, true, false, true, true, true, true, false, false, false, false, false] #[true, true, true, false, false, true, true, true, true, true, false, false, false, false] #[true, true, true, false, false, true, true, true, true, false, true, false, false, false] rfl rfl rfl rfl rfl rfl (by kernel_rfl) (by decide) (by decide) (by decide) (fun K hK => ?_) (fun K hK => ?_) (fun K hK => ?_)
   ·skip
    refine goes_ Tryd.func75 (by kernel_rfl) rfl #[.pointer (some ⟨p, 8, none⟩)] (by rfl) rfl rfl (by simp only [List.map_toArray, List.map_cons, List.map_nil]; rfl) ?_
    refine (HSP.out wd hHeld).mono ?_
    rintro e w7_1 ⟨rfl, hB⟩
    refine ⟨_, rfl, ?_⟩
    have hS2 : SF p H w w7_1 := ⟨(hB.block _ (hlt_ hHeld.1)).trans hHeld.1, hHeld.2.trans (hB.mono hHeld.2.size)⟩
    clear hB hHeld
    refine hK.out _ _ hS2 (fun hHeld => ?_)
    clear hK K hS2
    refine norm_ (a' := ?_) ?_ ?_
    rotate_left
    ·show Act.put _ (some 14) _ = _
     simp only [Act.put, List.setIfInBounds_toArray, List.set_cons_zero, List.set_cons_succ, i64_w, i32_w]
     rfl
    refine three_ (i := 4) (j := 9) (k := 10) (Ni := some 15) (Nj := some 2) (Nk := some 4) #[true, true, true, true, true, true, true, true, true, false, false, false, false, false] #[true, true, true, true, false, true, true, true, true, true, false, false, false, false] #[true, true, true, true, false, true, true, true, true, false, true, false, false, false] rfl rfl rfl rfl rfl rfl (by kernel_rfl) (by decide) (by decide) (by decide) (fun K hK => ?_) (fun K hK => ?_) (fun K hK => ?_)
    ·skip
     refine goes_ Tryd.func76 (by kernel_rfl) rfl #[] (by rfl) rfl rfl (by simp only [List.map_toArray, List.map_cons, List.map_nil]) ?_
     refine (const_walk w7_1).mono ?_
     rintro e w8_2 ⟨rfl, hw⟩
     refine ⟨_, rfl, ?_⟩
     have hB : Below w7_1.heap.size w7_1 w8_2 := by rw [hw]; exact (Below.refl _ _).alloc (Nat.le_refl _) _
     have hn : Bk w w8_2 w7_1.heap.size 112 (arr 64 constP) := by rw [hw]; exact Bk.new hHeld.2.size
     clear hw
     obtain ⟨gc, he⟩ : ∃ g, g = w7_1.heap.size := ⟨_, rfl⟩
     rw [← he] at hn ⊢
     have Hc := hn
     clear hn he
     have hS2 : SF p H w w8_2 := ⟨(hB.block _ (hlt_ hHeld.1)).trans hHeld.1, hHeld.2.trans (hB.mono hHeld.2.size)⟩
     clear hB hHeld
     refine hK.out _ _ hS2 (fun hHeld => ?_)
     clear hK K hS2
     refine norm_ (a' := ?_) ?_ ?_
     rotate_left
     ·show Act.put _ (some 15) _ = _
      simp only [Act.put, List.setIfInBounds_toArray, List.set_cons_zero, List.set_cons_succ, i64_w, i32_w]
      rfl
     refine two_ (i := 9) (j := 10) (Ni := some 2) (Nj := some 4) #[true, true, true, true, true, true, true, true, true, true, false, false, false, false] #[true, true, true, true, true, true, true, true, true, false, true, false, false, false] rfl rfl rfl rfl (by kernel_rfl) (by decide) (by decide) (fun K hK => ?_) (fun K hK => ?_)
     ·skip
      refine value_ (N := some 2) (by rfl) rfl (v := .pointer (some ⟨w8_2.heap.size, 0, none⟩)) (w1 := w8_2.alloc (.cells (arr 64 []) 112)) (by go_simp; try rfl) ?_
      have hB : Below w8_2.heap.size w8_2 (w8_2.alloc (.cells (arr 64 []) 112)) := (Below.refl _ _).alloc (Nat.le_refl _) _
      have hn : Bk w (w8_2.alloc (.cells (arr 64 []) 112)) w8_2.heap.size 112 (arr 64 []) := Bk.new hHeld.2.size
      generalize w8_2.alloc (.cells (arr 64 []) 112) = w9_3 at hB hn ⊢
      have nc2 : gc ≠ w8_2.heap.size := by have := Bk.lt Hc; omega
      replace Hc := Bk.step Hc hB
      obtain ⟨g2, he⟩ : ∃ g, g = w8_2.heap.size := ⟨_, rfl⟩
      rw [← he] at hn nc2 ⊢
      have H2 := hn
      clear hn he
      have hS2 : SF p H w w9_3 := ⟨(hB.block _ (hlt_ hHeld.1)).trans hHeld.1, hHeld.2.trans (hB.mono hHeld.2.size)⟩
      clear hB hHeld
      refine hK.out _ _ hS2 (fun hHeld => ?_)
      clear hK K hS2
      refine norm_ (a' := ?_) ?_ ?_
      rotate_left
      ·show Act.put _ (some 2) _ = _
       simp only [Act.put, List.setIfInBounds_toArray, List.set_cons_zero, List.set_cons_succ, i64_w, i32_w]
       rfl
      refine one_ (i := 10) (N := some 4) #[true, true, true, true, true, true, true, true, true, true, true, false, false, false] rfl rfl (by kernel_rfl) (by decide) (fun K hK => ?_)
      refine value_ (N := some 4) (by rfl) rfl (v := .pointer (some ⟨w9_3.heap.size, 0, none⟩)) (w1 := w9_3.alloc (.cells (arr 8 []) 108)) (by go_simp; try rfl) ?_
      have hB : Below w9_3.heap.size w9_3 (w9_3.alloc (.cells (arr 8 []) 108)) := (Below.refl _ _).alloc (Nat.le_refl _) _
      have hn : Bk w (w9_3.alloc (.cells (arr 8 []) 108)) w9_3.heap.size 108 (arr 8 []) := Bk.new hHeld.2.size
      generalize w9_3.alloc (.cells (arr 8 []) 108) = w10_4 at hB hn ⊢
      have nc4 : gc ≠ w9_3.heap.size := by have := Bk.lt Hc; omega
      have n24 : g2 ≠ w9_3.heap.size := by have := Bk.lt H2; omega
      replace Hc := Bk.step Hc hB
      replace H2 := Bk.step H2 hB
      obtain ⟨g4, he⟩ : ∃ g, g = w9_3.heap.size := ⟨_, rfl⟩
      rw [← he] at hn nc4 n24 ⊢
      have H4 := hn
      clear hn he
      have hS2 : SF p H w w10_4 := ⟨(hB.block _ (hlt_ hHeld.1)).trans hHeld.1, hHeld.2.trans (hB.mono hHeld.2.size)⟩
      clear hB hHeld
      refine hK.out _ _ hS2 (fun hHeld => ?_)
      clear hK K hS2
      refine norm_ (a' := ?_) ?_ ?_
      rotate_left
      ·show Act.put _ (some 4) _ = _
       simp only [Act.put, List.setIfInBounds_toArray, List.set_cons_zero, List.set_cons_succ, i64_w, i32_w]
       rfl
      exact norm_ (by simp only [putAll, Act.put, List.setIfInBounds_toArray, List.set_cons_zero, List.set_cons_succ]) (hCont (g2, gc, g4) _ ⟨hHeld, H2, Hc, H4, (Ne.symm nc2), n24, nc4⟩)
     ·skip
      refine value_ (N := some 4) (by rfl) rfl (v := .pointer (some ⟨w8_2.heap.size, 0, none⟩)) (w1 := w8_2.alloc (.cells (arr 8 []) 108)) (by go_simp; try rfl) ?_
      have hB : Below w8_2.heap.size w8_2 (w8_2.alloc (.cells (arr 8 []) 108)) := (Below.refl _ _).alloc (Nat.le_refl _) _
      have hn : Bk w (w8_2.alloc (.cells (arr 8 []) 108)) w8_2.heap.size 108 (arr 8 []) := Bk.new hHeld.2.size
      generalize w8_2.alloc (.cells (arr 8 []) 108) = w9_5 at hB hn ⊢
      have nc4 : gc ≠ w8_2.heap.size := by have := Bk.lt Hc; omega
      replace Hc := Bk.step Hc hB
      obtain ⟨g4, he⟩ : ∃ g, g = w8_2.heap.size := ⟨_, rfl⟩
      rw [← he] at hn nc4 ⊢
      have H4 := hn
      clear hn he
      have hS2 : SF p H w w9_5 := ⟨(hB.block _ (hlt_ hHeld.1)).trans hHeld.1, hHeld.2.trans (hB.mono hHeld.2.size)⟩
      clear hB hHeld
      refine hK.out _ _ hS2 (fun hHeld => ?_)
      clear hK K hS2
      refine norm_ (a' := ?_) ?_ ?_
      rotate_left
      ·show Act.put _ (some 4) _ = _
       simp only [Act.put, List.setIfInBounds_toArray, List.set_cons_zero, List.set_cons_succ, i64_w, i32_w]
       rfl
      refine one_ (i := 9) (N := some 2) #[true, true, true, true, true, true, true, true, true, true, true, false, false, false] rfl rfl (by kernel_rfl) (by decide) (fun K hK => ?_)
      refine value_ (N := some 2) (by rfl) rfl (v := .pointer (some ⟨w9_5.heap.size, 0, none⟩)) (w1 := w9_5.alloc (.cells (arr 64 []) 112)) (by go_simp; try rfl) ?_
      have hB : Below w9_5.heap.size w9_5 (w9_5.alloc (.cells (arr 64 []) 112)) := (Below.refl _ _).alloc (Nat.le_refl _) _
      have hn : Bk w (w9_5.alloc (.cells (arr 64 []) 112)) w9_5.heap.size 112 (arr 64 []) := Bk.new hHeld.2.size
      generalize w9_5.alloc (.cells (arr 64 []) 112) = w10_6 at hB hn ⊢
      have nc2 : gc ≠ w9_5.heap.size := by have := Bk.lt Hc; omega
      have n42 : g4 ≠ w9_5.heap.size := by have := Bk.lt H4; omega
      replace Hc := Bk.step Hc hB
      replace H4 := Bk.step H4 hB
      obtain ⟨g2, he⟩ : ∃ g, g = w9_5.heap.size := ⟨_, rfl⟩
      rw [← he] at hn nc2 n42 ⊢
      have H2 := hn
      clear hn he
      have hS2 : SF p H w w10_6 := ⟨(hB.block _ (hlt_ hHeld.1)).trans hHeld.1, hHeld.2.trans (hB.mono hHeld.2.size)⟩
      clear hB hHeld
      refine hK.out _ _ hS2 (fun hHeld => ?_)
      clear hK K hS2
      refine norm_ (a' := ?_) ?_ ?_
      rotate_left
      ·show Act.put _ (some 2) _ = _
       simp only [Act.put, List.setIfInBounds_toArray, List.set_cons_zero, List.set_cons_succ, i64_w, i32_w]
       rfl
      exact norm_ (by simp only [putAll, Act.put, List.setIfInBounds_toArray, List.set_cons_zero, List.set_cons_succ]) (hCont (g2, gc, g4) _ ⟨hHeld, H2, Hc, H4, (Ne.symm nc2), (Ne.symm n42), nc4⟩)
    ·skip
     refine value_ (N := some 2) (by rfl) rfl (v := .pointer (some ⟨w7_1.heap.size, 0, none⟩)) (w1 := w7_1.alloc (.cells (arr 64 []) 112)) (by go_simp; try rfl) ?_
     have hB : Below w7_1.heap.size w7_1 (w7_1.alloc (.cells (arr 64 []) 112)) := (Below.refl _ _).alloc (Nat.le_refl _) _
     have hn : Bk w (w7_1.alloc (.cells (arr 64 []) 112)) w7_1.heap.size 112 (arr 64 []) := Bk.new hHeld.2.size
     generalize w7_1.alloc (.cells (arr 64 []) 112) = w8_7 at hB hn ⊢
     obtain ⟨g2, he⟩ : ∃ g, g = w7_1.heap.size := ⟨_, rfl⟩
     rw [← he] at hn ⊢
     have H2 := hn
     clear hn he
     have hS2 : SF p H w w8_7 := ⟨(hB.block _ (hlt_ hHeld.1)).trans hHeld.1, hHeld.2.trans (hB.mono hHeld.2.size)⟩
     clear hB hHeld
     refine hK.out _ _ hS2 (fun hHeld => ?_)
     clear hK K hS2
     refine norm_ (a' := ?_) ?_ ?_
     rotate_left
     ·show Act.put _ (some 2) _ = _
      simp only [Act.put, List.setIfInBounds_toArray, List.set_cons_zero, List.set_cons_succ, i64_w, i32_w]
      rfl
     refine two_ (i := 4) (j := 10) (Ni := some 15) (Nj := some 4) #[true, true, true, true, true, true, true, true, true, true, false, false, false, false] #[true, true, true, true, false, true, true, true, true, true, true, false, false, false] rfl rfl rfl rfl (by kernel_rfl) (by decide) (by decide) (fun K hK => ?_) (fun K hK => ?_)
     ·skip
      refine goes_ Tryd.func76 (by kernel_rfl) rfl #[] (by rfl) rfl rfl (by simp only [List.map_toArray, List.map_cons, List.map_nil]) ?_
      refine (const_walk w8_7).mono ?_
      rintro e w9_8 ⟨rfl, hw⟩
      refine ⟨_, rfl, ?_⟩
      have hB : Below w8_7.heap.size w8_7 w9_8 := by rw [hw]; exact (Below.refl _ _).alloc (Nat.le_refl _) _
      have hn : Bk w w9_8 w8_7.heap.size 112 (arr 64 constP) := by rw [hw]; exact Bk.new hHeld.2.size
      clear hw
      have n2c : g2 ≠ w8_7.heap.size := by have := Bk.lt H2; omega
      replace H2 := Bk.step H2 hB
      obtain ⟨gc, he⟩ : ∃ g, g = w8_7.heap.size := ⟨_, rfl⟩
      rw [← he] at hn n2c ⊢
      have Hc := hn
      clear hn he
      have hS2 : SF p H w w9_8 := ⟨(hB.block _ (hlt_ hHeld.1)).trans hHeld.1, hHeld.2.trans (hB.mono hHeld.2.size)⟩
      clear hB hHeld
      refine hK.out _ _ hS2 (fun hHeld => ?_)
      clear hK K hS2
      refine norm_ (a' := ?_) ?_ ?_
      rotate_left
      ·show Act.put _ (some 15) _ = _
       simp only [Act.put, List.setIfInBounds_toArray, List.set_cons_zero, List.set_cons_succ, i64_w, i32_w]
       rfl
      refine one_ (i := 10) (N := some 4) #[true, true, true, true, true, true, true, true, true, true, true, false, false, false] rfl rfl (by kernel_rfl) (by decide) (fun K hK => ?_)
      refine value_ (N := some 4) (by rfl) rfl (v := .pointer (some ⟨w9_8.heap.size, 0, none⟩)) (w1 := w9_8.alloc (.cells (arr 8 []) 108)) (by go_simp; try rfl) ?_
      have hB : Below w9_8.heap.size w9_8 (w9_8.alloc (.cells (arr 8 []) 108)) := (Below.refl _ _).alloc (Nat.le_refl _) _
      have hn : Bk w (w9_8.alloc (.cells (arr 8 []) 108)) w9_8.heap.size 108 (arr 8 []) := Bk.new hHeld.2.size
      generalize w9_8.alloc (.cells (arr 8 []) 108) = w10_9 at hB hn ⊢
      have n24 : g2 ≠ w9_8.heap.size := by have := Bk.lt H2; omega
      have nc4 : gc ≠ w9_8.heap.size := by have := Bk.lt Hc; omega
      replace H2 := Bk.step H2 hB
      replace Hc := Bk.step Hc hB
      obtain ⟨g4, he⟩ : ∃ g, g = w9_8.heap.size := ⟨_, rfl⟩
      rw [← he] at hn n24 nc4 ⊢
      have H4 := hn
      clear hn he
      have hS2 : SF p H w w10_9 := ⟨(hB.block _ (hlt_ hHeld.1)).trans hHeld.1, hHeld.2.trans (hB.mono hHeld.2.size)⟩
      clear hB hHeld
      refine hK.out _ _ hS2 (fun hHeld => ?_)
      clear hK K hS2
      refine norm_ (a' := ?_) ?_ ?_
      rotate_left
      ·show Act.put _ (some 4) _ = _
       simp only [Act.put, List.setIfInBounds_toArray, List.set_cons_zero, List.set_cons_succ, i64_w, i32_w]
       rfl
      exact norm_ (by simp only [putAll, Act.put, List.setIfInBounds_toArray, List.set_cons_zero, List.set_cons_succ]) (hCont (g2, gc, g4) _ ⟨hHeld, H2, Hc, H4, n2c, n24, nc4⟩)
     ·skip
      refine value_ (N := some 4) (by rfl) rfl (v := .pointer (some ⟨w8_7.heap.size, 0, none⟩)) (w1 := w8_7.alloc (.cells (arr 8 []) 108)) (by go_simp; try rfl) ?_
      have hB : Below w8_7.heap.size w8_7 (w8_7.alloc (.cells (arr 8 []) 108)) := (Below.refl _ _).alloc (Nat.le_refl _) _
      have hn : Bk w (w8_7.alloc (.cells (arr 8 []) 108)) w8_7.heap.size 108 (arr 8 []) := Bk.new hHeld.2.size
      generalize w8_7.alloc (.cells (arr 8 []) 108) = w9_10 at hB hn ⊢
      have n24 : g2 ≠ w8_7.heap.size := by have := Bk.lt H2; omega
      replace H2 := Bk.step H2 hB
      obtain ⟨g4, he⟩ : ∃ g, g = w8_7.heap.size := ⟨_, rfl⟩
      rw [← he] at hn n24 ⊢
      have H4 := hn
      clear hn he
      have hS2 : SF p H w w9_10 := ⟨(hB.block _ (hlt_ hHeld.1)).trans hHeld.1, hHeld.2.trans (hB.mono hHeld.2.size)⟩
      clear hB hHeld
      refine hK.out _ _ hS2 (fun hHeld => ?_)
      clear hK K hS2
      refine norm_ (a' := ?_) ?_ ?_
      rotate_left
      ·show Act.put _ (some 4) _ = _
       simp only [Act.put, List.setIfInBounds_toArray, List.set_cons_zero, List.set_cons_succ, i64_w, i32_w]
       rfl
      refine one_ (i := 4) (N := some 15) #[true, true, true, true, true, true, true, true, true, true, true, false, false, false] rfl rfl (by kernel_rfl) (by decide) (fun K hK => ?_)
      refine goes_ Tryd.func76 (by kernel_rfl) rfl #[] (by rfl) rfl rfl (by simp only [List.map_toArray, List.map_cons, List.map_nil]) ?_
      refine (const_walk w9_10).mono ?_
      rintro e w10_11 ⟨rfl, hw⟩
      refine ⟨_, rfl, ?_⟩
      have hB : Below w9_10.heap.size w9_10 w10_11 := by rw [hw]; exact (Below.refl _ _).alloc (Nat.le_refl _) _
      have hn : Bk w w10_11 w9_10.heap.size 112 (arr 64 constP) := by rw [hw]; exact Bk.new hHeld.2.size
      clear hw
      have n2c : g2 ≠ w9_10.heap.size := by have := Bk.lt H2; omega
      have n4c : g4 ≠ w9_10.heap.size := by have := Bk.lt H4; omega
      replace H2 := Bk.step H2 hB
      replace H4 := Bk.step H4 hB
      obtain ⟨gc, he⟩ : ∃ g, g = w9_10.heap.size := ⟨_, rfl⟩
      rw [← he] at hn n2c n4c ⊢
      have Hc := hn
      clear hn he
      have hS2 : SF p H w w10_11 := ⟨(hB.block _ (hlt_ hHeld.1)).trans hHeld.1, hHeld.2.trans (hB.mono hHeld.2.size)⟩
      clear hB hHeld
      refine hK.out _ _ hS2 (fun hHeld => ?_)
      clear hK K hS2
      refine norm_ (a' := ?_) ?_ ?_
      rotate_left
      ·show Act.put _ (some 15) _ = _
       simp only [Act.put, List.setIfInBounds_toArray, List.set_cons_zero, List.set_cons_succ, i64_w, i32_w]
       rfl
      exact norm_ (by simp only [putAll, Act.put, List.setIfInBounds_toArray, List.set_cons_zero, List.set_cons_succ]) (hCont (g2, gc, g4) _ ⟨hHeld, H2, Hc, H4, n2c, n24, (Ne.symm n4c)⟩)
    ·skip
     refine value_ (N := some 4) (by rfl) rfl (v := .pointer (some ⟨w7_1.heap.size, 0, none⟩)) (w1 := w7_1.alloc (.cells (arr 8 []) 108)) (by go_simp; try rfl) ?_
     have hB : Below w7_1.heap.size w7_1 (w7_1.alloc (.cells (arr 8 []) 108)) := (Below.refl _ _).alloc (Nat.le_refl _) _
     have hn : Bk w (w7_1.alloc (.cells (arr 8 []) 108)) w7_1.heap.size 108 (arr 8 []) := Bk.new hHeld.2.size
     generalize w7_1.alloc (.cells (arr 8 []) 108) = w8_12 at hB hn ⊢
     obtain ⟨g4, he⟩ : ∃ g, g = w7_1.heap.size := ⟨_, rfl⟩
     rw [← he] at hn ⊢
     have H4 := hn
     clear hn he
     have hS2 : SF p H w w8_12 := ⟨(hB.block _ (hlt_ hHeld.1)).trans hHeld.1, hHeld.2.trans (hB.mono hHeld.2.size)⟩
     clear hB hHeld
     refine hK.out _ _ hS2 (fun hHeld => ?_)
     clear hK K hS2
     refine norm_ (a' := ?_) ?_ ?_
     rotate_left
     ·show Act.put _ (some 4) _ = _
      simp only [Act.put, List.setIfInBounds_toArray, List.set_cons_zero, List.set_cons_succ, i64_w, i32_w]
      rfl
     refine two_ (i := 4) (j := 9) (Ni := some 15) (Nj := some 2) #[true, true, true, true, true, true, true, true, true, false, true, false, false, false] #[true, true, true, true, false, true, true, true, true, true, true, false, false, false] rfl rfl rfl rfl (by kernel_rfl) (by decide) (by decide) (fun K hK => ?_) (fun K hK => ?_)
     ·skip
      refine goes_ Tryd.func76 (by kernel_rfl) rfl #[] (by rfl) rfl rfl (by simp only [List.map_toArray, List.map_cons, List.map_nil]) ?_
      refine (const_walk w8_12).mono ?_
      rintro e w9_13 ⟨rfl, hw⟩
      refine ⟨_, rfl, ?_⟩
      have hB : Below w8_12.heap.size w8_12 w9_13 := by rw [hw]; exact (Below.refl _ _).alloc (Nat.le_refl _) _
      have hn : Bk w w9_13 w8_12.heap.size 112 (arr 64 constP) := by rw [hw]; exact Bk.new hHeld.2.size
      clear hw
      have n4c : g4 ≠ w8_12.heap.size := by have := Bk.lt H4; omega
      replace H4 := Bk.step H4 hB
      obtain ⟨gc, he⟩ : ∃ g, g = w8_12.heap.size := ⟨_, rfl⟩
      rw [← he] at hn n4c ⊢
      have Hc := hn
      clear hn he
      have hS2 : SF p H w w9_13 := ⟨(hB.block _ (hlt_ hHeld.1)).trans hHeld.1, hHeld.2.trans (hB.mono hHeld.2.size)⟩
      clear hB hHeld
      refine hK.out _ _ hS2 (fun hHeld => ?_)
      clear hK K hS2
      refine norm_ (a' := ?_) ?_ ?_
      rotate_left
      ·show Act.put _ (some 15) _ = _
       simp only [Act.put, List.setIfInBounds_toArray, List.set_cons_zero, List.set_cons_succ, i64_w, i32_w]
       rfl
      refine one_ (i := 9) (N := some 2) #[true, true, true, true, true, true, true, true, true, true, true, false, false, false] rfl rfl (by kernel_rfl) (by decide) (fun K hK => ?_)
      refine value_ (N := some 2) (by rfl) rfl (v := .pointer (some ⟨w9_13.heap.size, 0, none⟩)) (w1 := w9_13.alloc (.cells (arr 64 []) 112)) (by go_simp; try rfl) ?_
      have hB : Below w9_13.heap.size w9_13 (w9_13.alloc (.cells (arr 64 []) 112)) := (Below.refl _ _).alloc (Nat.le_refl _) _
      have hn : Bk w (w9_13.alloc (.cells (arr 64 []) 112)) w9_13.heap.size 112 (arr 64 []) := Bk.new hHeld.2.size
      generalize w9_13.alloc (.cells (arr 64 []) 112) = w10_14 at hB hn ⊢
      have n42 : g4 ≠ w9_13.heap.size := by have := Bk.lt H4; omega
      have nc2 : gc ≠ w9_13.heap.size := by have := Bk.lt Hc; omega
      replace H4 := Bk.step H4 hB
      replace Hc := Bk.step Hc hB
      obtain ⟨g2, he⟩ : ∃ g, g = w9_13.heap.size := ⟨_, rfl⟩
      rw [← he] at hn n42 nc2 ⊢
      have H2 := hn
      clear hn he
      have hS2 : SF p H w w10_14 := ⟨(hB.block _ (hlt_ hHeld.1)).trans hHeld.1, hHeld.2.trans (hB.mono hHeld.2.size)⟩
      clear hB hHeld
      refine hK.out _ _ hS2 (fun hHeld => ?_)
      clear hK K hS2
      refine norm_ (a' := ?_) ?_ ?_
      rotate_left
      ·show Act.put _ (some 2) _ = _
       simp only [Act.put, List.setIfInBounds_toArray, List.set_cons_zero, List.set_cons_succ, i64_w, i32_w]
       rfl
      exact norm_ (by simp only [putAll, Act.put, List.setIfInBounds_toArray, List.set_cons_zero, List.set_cons_succ]) (hCont (g2, gc, g4) _ ⟨hHeld, H2, Hc, H4, (Ne.symm nc2), (Ne.symm n42), (Ne.symm n4c)⟩)
     ·skip
      refine value_ (N := some 2) (by rfl) rfl (v := .pointer (some ⟨w8_12.heap.size, 0, none⟩)) (w1 := w8_12.alloc (.cells (arr 64 []) 112)) (by go_simp; try rfl) ?_
      have hB : Below w8_12.heap.size w8_12 (w8_12.alloc (.cells (arr 64 []) 112)) := (Below.refl _ _).alloc (Nat.le_refl _) _
      have hn : Bk w (w8_12.alloc (.cells (arr 64 []) 112)) w8_12.heap.size 112 (arr 64 []) := Bk.new hHeld.2.size
      generalize w8_12.alloc (.cells (arr 64 []) 112) = w9_15 at hB hn ⊢
      have n42 : g4 ≠ w8_12.heap.size := by have := Bk.lt H4; omega
      replace H4 := Bk.step H4 hB
      obtain ⟨g2, he⟩ : ∃ g, g = w8_12.heap.size := ⟨_, rfl⟩
      rw [← he] at hn n42 ⊢
      have H2 := hn
      clear hn he
      have hS2 : SF p H w w9_15 := ⟨(hB.block _ (hlt_ hHeld.1)).trans hHeld.1, hHeld.2.trans (hB.mono hHeld.2.size)⟩
      clear hB hHeld
      refine hK.out _ _ hS2 (fun hHeld => ?_)
      clear hK K hS2
      refine norm_ (a' := ?_) ?_ ?_
      rotate_left
      ·show Act.put _ (some 2) _ = _
       simp only [Act.put, List.setIfInBounds_toArray, List.set_cons_zero, List.set_cons_succ, i64_w, i32_w]
       rfl
      refine one_ (i := 4) (N := some 15) #[true, true, true, true, true, true, true, true, true, true, true, false, false, false] rfl rfl (by kernel_rfl) (by decide) (fun K hK => ?_)
      refine goes_ Tryd.func76 (by kernel_rfl) rfl #[] (by rfl) rfl rfl (by simp only [List.map_toArray, List.map_cons, List.map_nil]) ?_
      refine (const_walk w9_15).mono ?_
      rintro e w10_16 ⟨rfl, hw⟩
      refine ⟨_, rfl, ?_⟩
      have hB : Below w9_15.heap.size w9_15 w10_16 := by rw [hw]; exact (Below.refl _ _).alloc (Nat.le_refl _) _
      have hn : Bk w w10_16 w9_15.heap.size 112 (arr 64 constP) := by rw [hw]; exact Bk.new hHeld.2.size
      clear hw
      have n4c : g4 ≠ w9_15.heap.size := by have := Bk.lt H4; omega
      have n2c : g2 ≠ w9_15.heap.size := by have := Bk.lt H2; omega
      replace H4 := Bk.step H4 hB
      replace H2 := Bk.step H2 hB
      obtain ⟨gc, he⟩ : ∃ g, g = w9_15.heap.size := ⟨_, rfl⟩
      rw [← he] at hn n4c n2c ⊢
      have Hc := hn
      clear hn he
      have hS2 : SF p H w w10_16 := ⟨(hB.block _ (hlt_ hHeld.1)).trans hHeld.1, hHeld.2.trans (hB.mono hHeld.2.size)⟩
      clear hB hHeld
      refine hK.out _ _ hS2 (fun hHeld => ?_)
      clear hK K hS2
      refine norm_ (a' := ?_) ?_ ?_
      rotate_left
      ·show Act.put _ (some 15) _ = _
       simp only [Act.put, List.setIfInBounds_toArray, List.set_cons_zero, List.set_cons_succ, i64_w, i32_w]
       rfl
      exact norm_ (by simp only [putAll, Act.put, List.setIfInBounds_toArray, List.set_cons_zero, List.set_cons_succ]) (hCont (g2, gc, g4) _ ⟨hHeld, H2, Hc, H4, n2c, (Ne.symm n42), (Ne.symm n4c)⟩)
   ·skip
    refine value_ (N := some 2) (by rfl) rfl (v := .pointer (some ⟨wd.heap.size, 0, none⟩)) (w1 := wd.alloc (.cells (arr 64 []) 112)) (by go_simp; try rfl) ?_
    have hB : Below wd.heap.size wd (wd.alloc (.cells (arr 64 []) 112)) := (Below.refl _ _).alloc (Nat.le_refl _) _
    have hn : Bk w (wd.alloc (.cells (arr 64 []) 112)) wd.heap.size 112 (arr 64 []) := Bk.new hHeld.2.size
    generalize wd.alloc (.cells (arr 64 []) 112) = w7_17 at hB hn ⊢
    obtain ⟨g2, he⟩ : ∃ g, g = wd.heap.size := ⟨_, rfl⟩
    rw [← he] at hn ⊢
    have H2 := hn
    clear hn he
    have hS2 : SF p H w w7_17 := ⟨(hB.block _ (hlt_ hHeld.1)).trans hHeld.1, hHeld.2.trans (hB.mono hHeld.2.size)⟩
    clear hB hHeld
    refine hK.out _ _ hS2 (fun hHeld => ?_)
    clear hK K hS2
    refine norm_ (a' := ?_) ?_ ?_
    rotate_left
    ·show Act.put _ (some 2) _ = _
     simp only [Act.put, List.setIfInBounds_toArray, List.set_cons_zero, List.set_cons_succ, i64_w, i32_w]
     rfl
    refine two_ (i := 3) (j := 10) (Ni := some 14) (Nj := some 4) #[true, true, true, true, false, true, true, true, true, true, false, false, false, false] #[true, true, true, false, false, true, true, true, true, true, true, false, false, false] rfl rfl rfl rfl (by kernel_rfl) (by decide) (by decide) (fun K hK => ?_) (fun K hK => ?_)
    ·skip
     refine goes_ Tryd.func75 (by kernel_rfl) rfl #[.pointer (some ⟨p, 8, none⟩)] (by rfl) rfl rfl (by simp only [List.map_toArray, List.map_cons, List.map_nil]; rfl) ?_
     refine (HSP.out w7_17 hHeld).mono ?_
     rintro e w8_18 ⟨rfl, hB⟩
     refine ⟨_, rfl, ?_⟩
     replace H2 := Bk.step H2 hB
     have hS2 : SF p H w w8_18 := ⟨(hB.block _ (hlt_ hHeld.1)).trans hHeld.1, hHeld.2.trans (hB.mono hHeld.2.size)⟩
     clear hB hHeld
     refine hK.out _ _ hS2 (fun hHeld => ?_)
     clear hK K hS2
     refine norm_ (a' := ?_) ?_ ?_
     rotate_left
     ·show Act.put _ (some 14) _ = _
      simp only [Act.put, List.setIfInBounds_toArray, List.set_cons_zero, List.set_cons_succ, i64_w, i32_w]
      rfl
     refine two_ (i := 4) (j := 10) (Ni := some 15) (Nj := some 4) #[true, true, true, true, true, true, true, true, true, true, false, false, false, false] #[true, true, true, true, false, true, true, true, true, true, true, false, false, false] rfl rfl rfl rfl (by kernel_rfl) (by decide) (by decide) (fun K hK => ?_) (fun K hK => ?_)
     ·skip
      refine goes_ Tryd.func76 (by kernel_rfl) rfl #[] (by rfl) rfl rfl (by simp only [List.map_toArray, List.map_cons, List.map_nil]) ?_
      refine (const_walk w8_18).mono ?_
      rintro e w9_19 ⟨rfl, hw⟩
      refine ⟨_, rfl, ?_⟩
      have hB : Below w8_18.heap.size w8_18 w9_19 := by rw [hw]; exact (Below.refl _ _).alloc (Nat.le_refl _) _
      have hn : Bk w w9_19 w8_18.heap.size 112 (arr 64 constP) := by rw [hw]; exact Bk.new hHeld.2.size
      clear hw
      have n2c : g2 ≠ w8_18.heap.size := by have := Bk.lt H2; omega
      replace H2 := Bk.step H2 hB
      obtain ⟨gc, he⟩ : ∃ g, g = w8_18.heap.size := ⟨_, rfl⟩
      rw [← he] at hn n2c ⊢
      have Hc := hn
      clear hn he
      have hS2 : SF p H w w9_19 := ⟨(hB.block _ (hlt_ hHeld.1)).trans hHeld.1, hHeld.2.trans (hB.mono hHeld.2.size)⟩
      clear hB hHeld
      refine hK.out _ _ hS2 (fun hHeld => ?_)
      clear hK K hS2
      refine norm_ (a' := ?_) ?_ ?_
      rotate_left
      ·show Act.put _ (some 15) _ = _
       simp only [Act.put, List.setIfInBounds_toArray, List.set_cons_zero, List.set_cons_succ, i64_w, i32_w]
       rfl
      refine one_ (i := 10) (N := some 4) #[true, true, true, true, true, true, true, true, true, true, true, false, false, false] rfl rfl (by kernel_rfl) (by decide) (fun K hK => ?_)
      refine value_ (N := some 4) (by rfl) rfl (v := .pointer (some ⟨w9_19.heap.size, 0, none⟩)) (w1 := w9_19.alloc (.cells (arr 8 []) 108)) (by go_simp; try rfl) ?_
      have hB : Below w9_19.heap.size w9_19 (w9_19.alloc (.cells (arr 8 []) 108)) := (Below.refl _ _).alloc (Nat.le_refl _) _
      have hn : Bk w (w9_19.alloc (.cells (arr 8 []) 108)) w9_19.heap.size 108 (arr 8 []) := Bk.new hHeld.2.size
      generalize w9_19.alloc (.cells (arr 8 []) 108) = w10_20 at hB hn ⊢
      have n24 : g2 ≠ w9_19.heap.size := by have := Bk.lt H2; omega
      have nc4 : gc ≠ w9_19.heap.size := by have := Bk.lt Hc; omega
      replace H2 := Bk.step H2 hB
      replace Hc := Bk.step Hc hB
      obtain ⟨g4, he⟩ : ∃ g, g = w9_19.heap.size := ⟨_, rfl⟩
      rw [← he] at hn n24 nc4 ⊢
      have H4 := hn
      clear hn he
      have hS2 : SF p H w w10_20 := ⟨(hB.block _ (hlt_ hHeld.1)).trans hHeld.1, hHeld.2.trans (hB.mono hHeld.2.size)⟩
      clear hB hHeld
      refine hK.out _ _ hS2 (fun hHeld => ?_)
      clear hK K hS2
      refine norm_ (a' := ?_) ?_ ?_
      rotate_left
      ·show Act.put _ (some 4) _ = _
       simp only [Act.put, List.setIfInBounds_toArray, List.set_cons_zero, List.set_cons_succ, i64_w, i32_w]
       rfl
      exact norm_ (by simp only [putAll, Act.put, List.setIfInBounds_toArray, List.set_cons_zero, List.set_cons_succ]) (hCont (g2, gc, g4) _ ⟨hHeld, H2, Hc, H4, n2c, n24, nc4⟩)
     ·skip
      refine value_ (N := some 4) (by rfl) rfl (v := .pointer (some ⟨w8_18.heap.size, 0, none⟩)) (w1 := w8_18.alloc (.cells (arr 8 []) 108)) (by go_simp; try rfl) ?_
      have hB : Below w8_18.heap.size w8_18 (w8_18.alloc (.cells (arr 8 []) 108)) := (Below.refl _ _).alloc (Nat.le_refl _) _
      have hn : Bk w (w8_18.alloc (.cells (arr 8 []) 108)) w8_18.heap.size 108 (arr 8 []) := Bk.new hHeld.2.size
      generalize w8_18.alloc (.cells (arr 8 []) 108) = w9_21 at hB hn ⊢
      have n24 : g2 ≠ w8_18.heap.size := by have := Bk.lt H2; omega
      replace H2 := Bk.step H2 hB
      obtain ⟨g4, he⟩ : ∃ g, g = w8_18.heap.size := ⟨_, rfl⟩
      rw [← he] at hn n24 ⊢
      have H4 := hn
      clear hn he
      have hS2 : SF p H w w9_21 := ⟨(hB.block _ (hlt_ hHeld.1)).trans hHeld.1, hHeld.2.trans (hB.mono hHeld.2.size)⟩
      clear hB hHeld
      refine hK.out _ _ hS2 (fun hHeld => ?_)
      clear hK K hS2
      refine norm_ (a' := ?_) ?_ ?_
      rotate_left
      ·show Act.put _ (some 4) _ = _
       simp only [Act.put, List.setIfInBounds_toArray, List.set_cons_zero, List.set_cons_succ, i64_w, i32_w]
       rfl
      refine one_ (i := 4) (N := some 15) #[true, true, true, true, true, true, true, true, true, true, true, false, false, false] rfl rfl (by kernel_rfl) (by decide) (fun K hK => ?_)
      refine goes_ Tryd.func76 (by kernel_rfl) rfl #[] (by rfl) rfl rfl (by simp only [List.map_toArray, List.map_cons, List.map_nil]) ?_
      refine (const_walk w9_21).mono ?_
      rintro e w10_22 ⟨rfl, hw⟩
      refine ⟨_, rfl, ?_⟩
      have hB : Below w9_21.heap.size w9_21 w10_22 := by rw [hw]; exact (Below.refl _ _).alloc (Nat.le_refl _) _
      have hn : Bk w w10_22 w9_21.heap.size 112 (arr 64 constP) := by rw [hw]; exact Bk.new hHeld.2.size
      clear hw
      have n2c : g2 ≠ w9_21.heap.size := by have := Bk.lt H2; omega
      have n4c : g4 ≠ w9_21.heap.size := by have := Bk.lt H4; omega
      replace H2 := Bk.step H2 hB
      replace H4 := Bk.step H4 hB
      obtain ⟨gc, he⟩ : ∃ g, g = w9_21.heap.size := ⟨_, rfl⟩
      rw [← he] at hn n2c n4c ⊢
      have Hc := hn
      clear hn he
      have hS2 : SF p H w w10_22 := ⟨(hB.block _ (hlt_ hHeld.1)).trans hHeld.1, hHeld.2.trans (hB.mono hHeld.2.size)⟩
      clear hB hHeld
      refine hK.out _ _ hS2 (fun hHeld => ?_)
      clear hK K hS2
      refine norm_ (a' := ?_) ?_ ?_
      rotate_left
      ·show Act.put _ (some 15) _ = _
       simp only [Act.put, List.setIfInBounds_toArray, List.set_cons_zero, List.set_cons_succ, i64_w, i32_w]
       rfl
      exact norm_ (by simp only [putAll, Act.put, List.setIfInBounds_toArray, List.set_cons_zero, List.set_cons_succ]) (hCont (g2, gc, g4) _ ⟨hHeld, H2, Hc, H4, n2c, n24, (Ne.symm n4c)⟩)
    ·skip
     refine value_ (N := some 4) (by rfl) rfl (v := .pointer (some ⟨w7_17.heap.size, 0, none⟩)) (w1 := w7_17.alloc (.cells (arr 8 []) 108)) (by go_simp; try rfl) ?_
     have hB : Below w7_17.heap.size w7_17 (w7_17.alloc (.cells (arr 8 []) 108)) := (Below.refl _ _).alloc (Nat.le_refl _) _
     have hn : Bk w (w7_17.alloc (.cells (arr 8 []) 108)) w7_17.heap.size 108 (arr 8 []) := Bk.new hHeld.2.size
     generalize w7_17.alloc (.cells (arr 8 []) 108) = w8_23 at hB hn ⊢
     have n24 : g2 ≠ w7_17.heap.size := by have := Bk.lt H2; omega
     replace H2 := Bk.step H2 hB
     obtain ⟨g4, he⟩ : ∃ g, g = w7_17.heap.size := ⟨_, rfl⟩
     rw [← he] at hn n24 ⊢
     have H4 := hn
     clear hn he
     have hS2 : SF p H w w8_23 := ⟨(hB.block _ (hlt_ hHeld.1)).trans hHeld.1, hHeld.2.trans (hB.mono hHeld.2.size)⟩
     clear hB hHeld
     refine hK.out _ _ hS2 (fun hHeld => ?_)
     clear hK K hS2
     refine norm_ (a' := ?_) ?_ ?_
     rotate_left
     ·show Act.put _ (some 4) _ = _
      simp only [Act.put, List.setIfInBounds_toArray, List.set_cons_zero, List.set_cons_succ, i64_w, i32_w]
      rfl
     refine one_ (i := 3) (N := some 14) #[true, true, true, true, false, true, true, true, true, true, true, false, false, false] rfl rfl (by kernel_rfl) (by decide) (fun K hK => ?_)
     refine goes_ Tryd.func75 (by kernel_rfl) rfl #[.pointer (some ⟨p, 8, none⟩)] (by rfl) rfl rfl (by simp only [List.map_toArray, List.map_cons, List.map_nil]; rfl) ?_
     refine (HSP.out w8_23 hHeld).mono ?_
     rintro e w9_24 ⟨rfl, hB⟩
     refine ⟨_, rfl, ?_⟩
     replace H2 := Bk.step H2 hB
     replace H4 := Bk.step H4 hB
     have hS2 : SF p H w w9_24 := ⟨(hB.block _ (hlt_ hHeld.1)).trans hHeld.1, hHeld.2.trans (hB.mono hHeld.2.size)⟩
     clear hB hHeld
     refine hK.out _ _ hS2 (fun hHeld => ?_)
     clear hK K hS2
     refine norm_ (a' := ?_) ?_ ?_
     rotate_left
     ·show Act.put _ (some 14) _ = _
      simp only [Act.put, List.setIfInBounds_toArray, List.set_cons_zero, List.set_cons_succ, i64_w, i32_w]
      rfl
     refine one_ (i := 4) (N := some 15) #[true, true, true, true, true, true, true, true, true, true, true, false, false, false] rfl rfl (by kernel_rfl) (by decide) (fun K hK => ?_)
     refine goes_ Tryd.func76 (by kernel_rfl) rfl #[] (by rfl) rfl rfl (by simp only [List.map_toArray, List.map_cons, List.map_nil]) ?_
     refine (const_walk w9_24).mono ?_
     rintro e w10_25 ⟨rfl, hw⟩
     refine ⟨_, rfl, ?_⟩
     have hB : Below w9_24.heap.size w9_24 w10_25 := by rw [hw]; exact (Below.refl _ _).alloc (Nat.le_refl _) _
     have hn : Bk w w10_25 w9_24.heap.size 112 (arr 64 constP) := by rw [hw]; exact Bk.new hHeld.2.size
     clear hw
     have n2c : g2 ≠ w9_24.heap.size := by have := Bk.lt H2; omega
     have n4c : g4 ≠ w9_24.heap.size := by have := Bk.lt H4; omega
     replace H2 := Bk.step H2 hB
     replace H4 := Bk.step H4 hB
     obtain ⟨gc, he⟩ : ∃ g, g = w9_24.heap.size := ⟨_, rfl⟩
     rw [← he] at hn n2c n4c ⊢
     have Hc := hn
     clear hn he
     have hS2 : SF p H w w10_25 := ⟨(hB.block _ (hlt_ hHeld.1)).trans hHeld.1, hHeld.2.trans (hB.mono hHeld.2.size)⟩
     clear hB hHeld
     refine hK.out _ _ hS2 (fun hHeld => ?_)
     clear hK K hS2
     refine norm_ (a' := ?_) ?_ ?_
     rotate_left
     ·show Act.put _ (some 15) _ = _
      simp only [Act.put, List.setIfInBounds_toArray, List.set_cons_zero, List.set_cons_succ, i64_w, i32_w]
      rfl
     exact norm_ (by simp only [putAll, Act.put, List.setIfInBounds_toArray, List.set_cons_zero, List.set_cons_succ]) (hCont (g2, gc, g4) _ ⟨hHeld, H2, Hc, H4, n2c, n24, (Ne.symm n4c)⟩)
   ·skip
    refine value_ (N := some 4) (by rfl) rfl (v := .pointer (some ⟨wd.heap.size, 0, none⟩)) (w1 := wd.alloc (.cells (arr 8 []) 108)) (by go_simp; try rfl) ?_
    have hB : Below wd.heap.size wd (wd.alloc (.cells (arr 8 []) 108)) := (Below.refl _ _).alloc (Nat.le_refl _) _
    have hn : Bk w (wd.alloc (.cells (arr 8 []) 108)) wd.heap.size 108 (arr 8 []) := Bk.new hHeld.2.size
    generalize wd.alloc (.cells (arr 8 []) 108) = w7_26 at hB hn ⊢
    obtain ⟨g4, he⟩ : ∃ g, g = wd.heap.size := ⟨_, rfl⟩
    rw [← he] at hn ⊢
    have H4 := hn
    clear hn he
    have hS2 : SF p H w w7_26 := ⟨(hB.block _ (hlt_ hHeld.1)).trans hHeld.1, hHeld.2.trans (hB.mono hHeld.2.size)⟩
    clear hB hHeld
    refine hK.out _ _ hS2 (fun hHeld => ?_)
    clear hK K hS2
    refine norm_ (a' := ?_) ?_ ?_
    rotate_left
    ·show Act.put _ (some 4) _ = _
     simp only [Act.put, List.setIfInBounds_toArray, List.set_cons_zero, List.set_cons_succ, i64_w, i32_w]
     rfl
    refine two_ (i := 3) (j := 9) (Ni := some 14) (Nj := some 2) #[true, true, true, true, false, true, true, true, true, false, true, false, false, false] #[true, true, true, false, false, true, true, true, true, true, true, false, false, false] rfl rfl rfl rfl (by kernel_rfl) (by decide) (by decide) (fun K hK => ?_) (fun K hK => ?_)
    ·skip
     refine goes_ Tryd.func75 (by kernel_rfl) rfl #[.pointer (some ⟨p, 8, none⟩)] (by rfl) rfl rfl (by simp only [List.map_toArray, List.map_cons, List.map_nil]; rfl) ?_
     refine (HSP.out w7_26 hHeld).mono ?_
     rintro e w8_27 ⟨rfl, hB⟩
     refine ⟨_, rfl, ?_⟩
     replace H4 := Bk.step H4 hB
     have hS2 : SF p H w w8_27 := ⟨(hB.block _ (hlt_ hHeld.1)).trans hHeld.1, hHeld.2.trans (hB.mono hHeld.2.size)⟩
     clear hB hHeld
     refine hK.out _ _ hS2 (fun hHeld => ?_)
     clear hK K hS2
     refine norm_ (a' := ?_) ?_ ?_
     rotate_left
     ·show Act.put _ (some 14) _ = _
      simp only [Act.put, List.setIfInBounds_toArray, List.set_cons_zero, List.set_cons_succ, i64_w, i32_w]
      rfl
     refine two_ (i := 4) (j := 9) (Ni := some 15) (Nj := some 2) #[true, true, true, true, true, true, true, true, true, false, true, false, false, false] #[true, true, true, true, false, true, true, true, true, true, true, false, false, false] rfl rfl rfl rfl (by kernel_rfl) (by decide) (by decide) (fun K hK => ?_) (fun K hK => ?_)
     ·skip
      refine goes_ Tryd.func76 (by kernel_rfl) rfl #[] (by rfl) rfl rfl (by simp only [List.map_toArray, List.map_cons, List.map_nil]) ?_
      refine (const_walk w8_27).mono ?_
      rintro e w9_28 ⟨rfl, hw⟩
      refine ⟨_, rfl, ?_⟩
      have hB : Below w8_27.heap.size w8_27 w9_28 := by rw [hw]; exact (Below.refl _ _).alloc (Nat.le_refl _) _
      have hn : Bk w w9_28 w8_27.heap.size 112 (arr 64 constP) := by rw [hw]; exact Bk.new hHeld.2.size
      clear hw
      have n4c : g4 ≠ w8_27.heap.size := by have := Bk.lt H4; omega
      replace H4 := Bk.step H4 hB
      obtain ⟨gc, he⟩ : ∃ g, g = w8_27.heap.size := ⟨_, rfl⟩
      rw [← he] at hn n4c ⊢
      have Hc := hn
      clear hn he
      have hS2 : SF p H w w9_28 := ⟨(hB.block _ (hlt_ hHeld.1)).trans hHeld.1, hHeld.2.trans (hB.mono hHeld.2.size)⟩
      clear hB hHeld
      refine hK.out _ _ hS2 (fun hHeld => ?_)
      clear hK K hS2
      refine norm_ (a' := ?_) ?_ ?_
      rotate_left
      ·show Act.put _ (some 15) _ = _
       simp only [Act.put, List.setIfInBounds_toArray, List.set_cons_zero, List.set_cons_succ, i64_w, i32_w]
       rfl
      refine one_ (i := 9) (N := some 2) #[true, true, true, true, true, true, true, true, true, true, true, false, false, false] rfl rfl (by kernel_rfl) (by decide) (fun K hK => ?_)
      refine value_ (N := some 2) (by rfl) rfl (v := .pointer (some ⟨w9_28.heap.size, 0, none⟩)) (w1 := w9_28.alloc (.cells (arr 64 []) 112)) (by go_simp; try rfl) ?_
      have hB : Below w9_28.heap.size w9_28 (w9_28.alloc (.cells (arr 64 []) 112)) := (Below.refl _ _).alloc (Nat.le_refl _) _
      have hn : Bk w (w9_28.alloc (.cells (arr 64 []) 112)) w9_28.heap.size 112 (arr 64 []) := Bk.new hHeld.2.size
      generalize w9_28.alloc (.cells (arr 64 []) 112) = w10_29 at hB hn ⊢
      have n42 : g4 ≠ w9_28.heap.size := by have := Bk.lt H4; omega
      have nc2 : gc ≠ w9_28.heap.size := by have := Bk.lt Hc; omega
      replace H4 := Bk.step H4 hB
      replace Hc := Bk.step Hc hB
      obtain ⟨g2, he⟩ : ∃ g, g = w9_28.heap.size := ⟨_, rfl⟩
      rw [← he] at hn n42 nc2 ⊢
      have H2 := hn
      clear hn he
      have hS2 : SF p H w w10_29 := ⟨(hB.block _ (hlt_ hHeld.1)).trans hHeld.1, hHeld.2.trans (hB.mono hHeld.2.size)⟩
      clear hB hHeld
      refine hK.out _ _ hS2 (fun hHeld => ?_)
      clear hK K hS2
      refine norm_ (a' := ?_) ?_ ?_
      rotate_left
      ·show Act.put _ (some 2) _ = _
       simp only [Act.put, List.setIfInBounds_toArray, List.set_cons_zero, List.set_cons_succ, i64_w, i32_w]
       rfl
      exact norm_ (by simp only [putAll, Act.put, List.setIfInBounds_toArray, List.set_cons_zero, List.set_cons_succ]) (hCont (g2, gc, g4) _ ⟨hHeld, H2, Hc, H4, (Ne.symm nc2), (Ne.symm n42), (Ne.symm n4c)⟩)
     ·skip
      refine value_ (N := some 2) (by rfl) rfl (v := .pointer (some ⟨w8_27.heap.size, 0, none⟩)) (w1 := w8_27.alloc (.cells (arr 64 []) 112)) (by go_simp; try rfl) ?_
      have hB : Below w8_27.heap.size w8_27 (w8_27.alloc (.cells (arr 64 []) 112)) := (Below.refl _ _).alloc (Nat.le_refl _) _
      have hn : Bk w (w8_27.alloc (.cells (arr 64 []) 112)) w8_27.heap.size 112 (arr 64 []) := Bk.new hHeld.2.size
      generalize w8_27.alloc (.cells (arr 64 []) 112) = w9_30 at hB hn ⊢
      have n42 : g4 ≠ w8_27.heap.size := by have := Bk.lt H4; omega
      replace H4 := Bk.step H4 hB
      obtain ⟨g2, he⟩ : ∃ g, g = w8_27.heap.size := ⟨_, rfl⟩
      rw [← he] at hn n42 ⊢
      have H2 := hn
      clear hn he
      have hS2 : SF p H w w9_30 := ⟨(hB.block _ (hlt_ hHeld.1)).trans hHeld.1, hHeld.2.trans (hB.mono hHeld.2.size)⟩
      clear hB hHeld
      refine hK.out _ _ hS2 (fun hHeld => ?_)
      clear hK K hS2
      refine norm_ (a' := ?_) ?_ ?_
      rotate_left
      ·show Act.put _ (some 2) _ = _
       simp only [Act.put, List.setIfInBounds_toArray, List.set_cons_zero, List.set_cons_succ, i64_w, i32_w]
       rfl
      refine one_ (i := 4) (N := some 15) #[true, true, true, true, true, true, true, true, true, true, true, false, false, false] rfl rfl (by kernel_rfl) (by decide) (fun K hK => ?_)
      refine goes_ Tryd.func76 (by kernel_rfl) rfl #[] (by rfl) rfl rfl (by simp only [List.map_toArray, List.map_cons, List.map_nil]) ?_
      refine (const_walk w9_30).mono ?_
      rintro e w10_31 ⟨rfl, hw⟩
      refine ⟨_, rfl, ?_⟩
      have hB : Below w9_30.heap.size w9_30 w10_31 := by rw [hw]; exact (Below.refl _ _).alloc (Nat.le_refl _) _
      have hn : Bk w w10_31 w9_30.heap.size 112 (arr 64 constP) := by rw [hw]; exact Bk.new hHeld.2.size
      clear hw
      have n4c : g4 ≠ w9_30.heap.size := by have := Bk.lt H4; omega
      have n2c : g2 ≠ w9_30.heap.size := by have := Bk.lt H2; omega
      replace H4 := Bk.step H4 hB
      replace H2 := Bk.step H2 hB
      obtain ⟨gc, he⟩ : ∃ g, g = w9_30.heap.size := ⟨_, rfl⟩
      rw [← he] at hn n4c n2c ⊢
      have Hc := hn
      clear hn he
      have hS2 : SF p H w w10_31 := ⟨(hB.block _ (hlt_ hHeld.1)).trans hHeld.1, hHeld.2.trans (hB.mono hHeld.2.size)⟩
      clear hB hHeld
      refine hK.out _ _ hS2 (fun hHeld => ?_)
      clear hK K hS2
      refine norm_ (a' := ?_) ?_ ?_
      rotate_left
      ·show Act.put _ (some 15) _ = _
       simp only [Act.put, List.setIfInBounds_toArray, List.set_cons_zero, List.set_cons_succ, i64_w, i32_w]
       rfl
      exact norm_ (by simp only [putAll, Act.put, List.setIfInBounds_toArray, List.set_cons_zero, List.set_cons_succ]) (hCont (g2, gc, g4) _ ⟨hHeld, H2, Hc, H4, n2c, (Ne.symm n42), (Ne.symm n4c)⟩)
    ·skip
     refine value_ (N := some 2) (by rfl) rfl (v := .pointer (some ⟨w7_26.heap.size, 0, none⟩)) (w1 := w7_26.alloc (.cells (arr 64 []) 112)) (by go_simp; try rfl) ?_
     have hB : Below w7_26.heap.size w7_26 (w7_26.alloc (.cells (arr 64 []) 112)) := (Below.refl _ _).alloc (Nat.le_refl _) _
     have hn : Bk w (w7_26.alloc (.cells (arr 64 []) 112)) w7_26.heap.size 112 (arr 64 []) := Bk.new hHeld.2.size
     generalize w7_26.alloc (.cells (arr 64 []) 112) = w8_32 at hB hn ⊢
     have n42 : g4 ≠ w7_26.heap.size := by have := Bk.lt H4; omega
     replace H4 := Bk.step H4 hB
     obtain ⟨g2, he⟩ : ∃ g, g = w7_26.heap.size := ⟨_, rfl⟩
     rw [← he] at hn n42 ⊢
     have H2 := hn
     clear hn he
     have hS2 : SF p H w w8_32 := ⟨(hB.block _ (hlt_ hHeld.1)).trans hHeld.1, hHeld.2.trans (hB.mono hHeld.2.size)⟩
     clear hB hHeld
     refine hK.out _ _ hS2 (fun hHeld => ?_)
     clear hK K hS2
     refine norm_ (a' := ?_) ?_ ?_
     rotate_left
     ·show Act.put _ (some 2) _ = _
      simp only [Act.put, List.setIfInBounds_toArray, List.set_cons_zero, List.set_cons_succ, i64_w, i32_w]
      rfl
     refine one_ (i := 3) (N := some 14) #[true, true, true, true, false, true, true, true, true, true, true, false, false, false] rfl rfl (by kernel_rfl) (by decide) (fun K hK => ?_)
     refine goes_ Tryd.func75 (by kernel_rfl) rfl #[.pointer (some ⟨p, 8, none⟩)] (by rfl) rfl rfl (by simp only [List.map_toArray, List.map_cons, List.map_nil]; rfl) ?_
     refine (HSP.out w8_32 hHeld).mono ?_
     rintro e w9_33 ⟨rfl, hB⟩
     refine ⟨_, rfl, ?_⟩
     replace H4 := Bk.step H4 hB
     replace H2 := Bk.step H2 hB
     have hS2 : SF p H w w9_33 := ⟨(hB.block _ (hlt_ hHeld.1)).trans hHeld.1, hHeld.2.trans (hB.mono hHeld.2.size)⟩
     clear hB hHeld
     refine hK.out _ _ hS2 (fun hHeld => ?_)
     clear hK K hS2
     refine norm_ (a' := ?_) ?_ ?_
     rotate_left
     ·show Act.put _ (some 14) _ = _
      simp only [Act.put, List.setIfInBounds_toArray, List.set_cons_zero, List.set_cons_succ, i64_w, i32_w]
      rfl
     refine one_ (i := 4) (N := some 15) #[true, true, true, true, true, true, true, true, true, true, true, false, false, false] rfl rfl (by kernel_rfl) (by decide) (fun K hK => ?_)
     refine goes_ Tryd.func76 (by kernel_rfl) rfl #[] (by rfl) rfl rfl (by simp only [List.map_toArray, List.map_cons, List.map_nil]) ?_
     refine (const_walk w9_33).mono ?_
     rintro e w10_34 ⟨rfl, hw⟩
     refine ⟨_, rfl, ?_⟩
     have hB : Below w9_33.heap.size w9_33 w10_34 := by rw [hw]; exact (Below.refl _ _).alloc (Nat.le_refl _) _
     have hn : Bk w w10_34 w9_33.heap.size 112 (arr 64 constP) := by rw [hw]; exact Bk.new hHeld.2.size
     clear hw
     have n4c : g4 ≠ w9_33.heap.size := by have := Bk.lt H4; omega
     have n2c : g2 ≠ w9_33.heap.size := by have := Bk.lt H2; omega
     replace H4 := Bk.step H4 hB
     replace H2 := Bk.step H2 hB
     obtain ⟨gc, he⟩ : ∃ g, g = w9_33.heap.size := ⟨_, rfl⟩
     rw [← he] at hn n4c n2c ⊢
     have Hc := hn
     clear hn he
     have hS2 : SF p H w w10_34 := ⟨(hB.block _ (hlt_ hHeld.1)).trans hHeld.1, hHeld.2.trans (hB.mono hHeld.2.size)⟩
     clear hB hHeld
     refine hK.out _ _ hS2 (fun hHeld => ?_)
     clear hK K hS2
     refine norm_ (a' := ?_) ?_ ?_
     rotate_left
     ·show Act.put _ (some 15) _ = _
      simp only [Act.put, List.setIfInBounds_toArray, List.set_cons_zero, List.set_cons_succ, i64_w, i32_w]
      rfl
     exact norm_ (by simp only [putAll, Act.put, List.setIfInBounds_toArray, List.set_cons_zero, List.set_cons_succ]) (hCont (g2, gc, g4) _ ⟨hHeld, H2, Hc, H4, n2c, (Ne.symm n42), (Ne.symm n4c)⟩)
  ·rintro ⟨g2, gc, g4⟩ wx ⟨hHeld, H2, Hc, H4, n2c, n24, nc4⟩
   refine norm_ (a' := ?_) ?_ ?_
   rotate_left
   ·simp only [putAll, Act.put, List.setIfInBounds_toArray, List.set_cons_zero, List.set_cons_succ]
    rfl
   refine one_ (i := 11) (N := none) #[true, true, true, true, true, true, true, true, true, true, true, true, false, false] rfl rfl (by kernel_rfl) (by decide) (fun K hK => ?_)
   have hzz : (arr 64 []).size = 64 := arr_size (by simp)
   generalize arr 64 [] = Z at H2 hzz
   rw [if_pos (by rfl)]
   refine wp_store_row 112 (.tmp 2) (.tmp 14) rfl g2 WA (by rfl) (by rfl) _ Z H2.1 (by rw [info64, HWA.out.2.1]) (by rw [hzz, HWA.out.2.1]) HWA.out.2.2 ?_
   have hF1 : SF p H w (wx.setRow g2 WA) := ⟨(setRow_other _ _ _ _ (by have := H2.2; have := HBP.out; omega)).trans hHeld.1, below_setRow hHeld.2 H2.2 _⟩
   have hF2 : Bk w (wx.setRow g2 WA) g2 112 WA := ⟨setRow_heap wx g2 _ _ _ _ H2.1, H2.2⟩
   have hFc : Bk w (wx.setRow g2 WA) gc 112 (arr 64 constP) := ⟨(setRow_other _ _ _ _ n2c.symm).trans Hc.1, Hc.2⟩
   have hF4 : Bk w (wx.setRow g2 WA) g4 108 (arr 8 []) := ⟨(setRow_other _ _ _ _ n24.symm).trans H4.1, H4.2⟩
   generalize wx.setRow g2 WA = wy at hF1 hF2 hFc hF4 ⊢
   clear H2 Hc H4 hHeld hzz
   refine hK.out _ _ hF1 (fun hHeld => ?_)
   clear hK K hF1
   refine one_ (i := 12) (N := some 3) #[true, true, true, true, true, true, true, true, true, true, true, true, true, false] rfl rfl (by kernel_rfl) (by decide) (fun K hK => ?_)
   refine value_ (N := some 3) (by rfl) rfl (v := .pointer (some ⟨gc, 0, none⟩)) (w1 := wy) (by go_simp; try rfl) ?_
   refine hK.out _ _ hHeld (fun hHeld => ?_)
   clear hK K
   refine norm_ (a' := ?_) ?_ ?_
   rotate_left
   ·show Act.put (Act.put _ none _) (some 3) _ = _
    simp only [Act.put, List.setIfInBounds_toArray, List.set_cons_zero, List.set_cons_succ, i64_w, i32_w]
    rfl
   refine one_ (i := 13) (N := none) #[true, true, true, true, true, true, true, true, true, true, true, true, true, true] rfl rfl (by kernel_rfl) (by decide) (fun K hK => ?_)
   have hzz : (arr 8 []).size = 8 := arr_size (by simp)
   generalize arr 8 [] = Z at hF4 hzz
   rw [if_pos (by rfl)]
   refine wp_store_row 108 (.tmp 4) (.tmp 19) rfl g4 ([x0, x1, x2, x3, x4, x5, x6, x7].map (Value.int .u32)).toArray (by rfl) (by rfl) _ Z hF4.1 (by rw [info8]; rfl) (by rw [hzz]; rfl) (by simp [Value.oneCell']) ?_
   have hG : FS w (wy.setRow g4 ([x0, x1, x2, x3, x4, x5, x6, x7].map (Value.int .u32)).toArray) p g2 gc g4 Wd [x0, x1, x2, x3, x4, x5, x6, x7] H :=
    ⟨by rw [← HWA.out.1]; exact (setRow_other _ _ _ _ n24).trans hF2.1, (setRow_other _ _ _ _ nc4).trans hFc.1, setRow_heap wy g4 _ _ _ _ hF4.1, (setRow_other _ _ _ _ (by have := hF4.2; have := HBP.out; omega)).trans hHeld.1, n24, nc4, hF2.2, hFc.2, hF4.2, HBP.out, below_setRow hHeld.2 hF4.2 _⟩
   have hS3 : SF p H w (wy.setRow g4 ([x0, x1, x2, x3, x4, x5, x6, x7].map (Value.int .u32)).toArray) := ⟨hG.hp, hG.b⟩
   generalize wy.setRow g4 ([x0, x1, x2, x3, x4, x5, x6, x7].map (Value.int .u32)).toArray = wz at hG hS3 ⊢
   refine hK.out _ _ hS3 (fun _ => ?_)
   clear hK K
   refine norm_ (a' := ?_) ?_ ?_
   rotate_left
   ·show Act.put _ none _ = _
    simp only [Act.put]
    rfl
   refine done_ (by kernel_rfl) ?_
   have hG2 := hG
   rw [← HEQ.out.1, ← HEQ.out.2] at hG2
   have HG := Lib.hid hG2
   clear hG hG2 hS3 hF2 hFc hF4 hHeld
   simp only [Exit.then]
   apply_assumption
   go_meet
   case rel => exact ⟨g2, gc, g4, rfl, rfl, rfl, HG⟩
 case rest =>
  obtain ⟨g2, gc, g4, rfl, rfl, rfl, HF⟩ := hcut
  go_upto_block 0 with (fail)
  go_cut [4] from 20 to 93 (fun a4 wx => a4 = .pointer (some ⟨g4, 0, none⟩) ∧ Hid (FS w wx p g2 gc g4 (spreadN rest 64) (roundsP (spreadN rest 64) ws 64) (hashC ws rest many)))
  case first =>
   go_wp2
   go_loopw [20] (fun iv wr => ∃ k : Nat, k ≤ 64 ∧ iv = .int .i64 k ∧ Hid (FS w wr p g2 gc g4 (spreadN rest 64) (roundsP (spreadN rest 64) ws k) (hashC ws rest many))) (fun iv _ => 64 - (intOf iv).toNat)
   case atStart => exact ⟨0, Nat.zero_le _, rfl, HF⟩
   case round =>
    obtain ⟨k, hk, rfl, H1⟩ := hrel
    clear HF
    by_cases hlt : k < 64
    ·have hd1 := eq_true (show (k : Int) < 64 by omega)
     have hd2 : decide ((k : Int) < 64) = true := decide_eq_true (by omega)
     have hlw := spreadN_len rest 64
     have hl8 := roundsP_len (spreadN rest 64) ws HP.out.2.1 k
     have hnx : roundsP (spreadN rest 64) ws (k + 1) = roundP (constP.getD k 0) ((spreadN rest 64).getD k 0) (roundsP (spreadN rest 64) ws k) := rfl
     generalize roundsP (spreadN rest 64) ws k = V at H1 hl8 hnx
     obtain ⟨v0, v1, v2, v3, v4, v5, v6, v7, rfl⟩ := eight hl8
     have HNX := Lib.hid hnx
     have HLW := Lib.hid hlw
     generalize hWd : spreadN rest 64 = Wd at H1 HLW HNX ⊢
     clear hWd hlw hl8 hnx
     obtain ⟨x, hX⟩ : ∃ x, Wd.getD k 0 = x := ⟨_, rfl⟩
     obtain ⟨y, hY⟩ : ∃ y, constP.getD k 0 = y := ⟨_, rfl⟩
     go_wp2
     have hcl := FS.cells H1.out.drew hlt HLW.out
     rw [hX, hY] at hcl
     obtain ⟨c2, cc, q0, q1, q2, q4, q5, q6, q7⟩ := hcl
     have HX := Lib.hid (And.intro hX hY)
     clear hX hY
     refine wp_region_still_lit (by kernel_rfl) (by kernel_rfl) ?_
     change wpStill _ _ wr.drew (fun a' => Exit.then _ _ Exit.normal a' wr.drew) _ _
     have H2 := Lib.hid H1.out.drew
     generalize wr.drew = W1 at H2 c2 cc q0 q1 q2 q4 q5 q6 q7 ⊢
     clear H1
     repeat still_step
     refine wpStill_nil ?_
     go_wp2
     clear c2 cc q0 q1 q2 q4 q5 q6 q7
     have hcl := FS.cells H2.out.drew hlt HLW.out
     rw [HX.out.1, HX.out.2] at hcl
     obtain ⟨c2, cc, q0, q1, q2, q4, q5, q6, q7⟩ := hcl
     refine wp_region_still_lit (by kernel_rfl) (by kernel_rfl) ?_
     change wpStill _ _ W1.drew (fun a' => Exit.then _ _ Exit.normal a' W1.drew) _ _
     have H3 := Lib.hid H2.out.drew
     generalize W1.drew = W2 at H3 c2 cc q0 q1 q2 q4 q5 q6 q7 ⊢
     clear H2
     repeat (first | still_step | still_call (turn_walk _ _ _ (by simp)))
     refine wpStill_nil ?_
     go_wp2
     clear c2 cc q0 q1 q2 q4 q5 q6 q7
     have hcl := FS.cells H3.out.drew hlt HLW.out
     rw [HX.out.1, HX.out.2] at hcl
     obtain ⟨c2, cc, q0, q1, q2, q4, q5, q6, q7⟩ := hcl
     refine wp_region_still_lit (by kernel_rfl) (by kernel_rfl) ?_
     change wpStill _ _ W2.drew (fun a' => Exit.then _ _ Exit.normal a' W2.drew) _ _
     have H4 := Lib.hid H3.out.drew
     generalize W2.drew = W3 at H4 c2 cc q0 q1 q2 q4 q5 q6 q7 ⊢
     clear H3
     repeat (first | still_step | still_call (turn_walk _ _ _ (by simp)))
     refine wpStill_nil ?_
     go_wp2
     have HW := Lib.hid H4.out.drew
     have HSRC : Hid (∀ (j : Nat) (v : Value), ([v0, v1, v2, v3, v4, v5, v6].map (Value.int .u32))[j]? = some v → W3.drew.cell? ((⟨g4, 0, none⟩ : Addr).add j) = some v) := Lib.hid (fun j v hj => by
      have hadd : (⟨g4, 0, none⟩ : Addr).add j = ⟨g4, j, none⟩ := by simp [Addr.add]; intro h; omega
      rw [hadd, Lib.cell_of_heap HW.out.h4 j, List.getElem?_toArray]
      have e : [v0, v1, v2, v3, v4, v5, v6].map (Value.int .u32) = ([v0, v1, v2, v3, v4, v5, v6, v7].map (Value.int .u32)).take 7 := rfl
      rw [e, List.getElem?_take] at hj
      split at hj
      ·exact hj
      ·cases hj)
     clear c2 cc q0 q1 q2 q4 q5 q6 q7
     refine start_ (n := 3) (S := fun _ => True) (ds := []) #[false, false, false] (by kernel_rfl) rfl rfl trivial (fun hHeld => ?_)
     refine pure_ (i := 0) (N := some 81) (v := ?_) (a' := ?_) #[true, false, false] rfl rfl (by kernel_rfl) (fun _ _ _ h => h) (Or.inl ⟨by rfl, ?_⟩) ?_ ?_
     rotate_left
     ·intro w'
      go_simp
      with_reducible rfl
     rotate_left
     ·simp only [Act.put, List.setIfInBounds_toArray, List.set_cons_zero, List.set_cons_succ, i64_w, i32_w]
      rfl
     refine pure_ (i := 1) (N := some 82) (v := ?_) (a' := ?_) #[true, true, false] rfl rfl (by kernel_rfl) (fun _ _ _ h => h) (Or.inl ⟨by rfl, ?_⟩) ?_ ?_
     rotate_left
     ·intro w'
      go_simp
      with_reducible rfl
     rotate_left
     ·simp only [Act.put, List.setIfInBounds_toArray, List.set_cons_zero, List.set_cons_succ, i64_w, i32_w]
      rfl
     refine one_ (i := 2) (N := some 83) #[true, true, true] rfl rfl (by kernel_rfl) (by decide) (fun K hK => ?_)
     refine copy_step (by rfl) (.tmp 81) (.tmp 82) 62 62 rfl 23 Tryd.underlying62 infoU32 ⟨g4, 0, none⟩ 7 7 7 8 g4 1 (by rfl) (by rfl) _ _ HW.out.h4 ([v0, v1, v2, v3, v4, v5, v6].map (Value.int .u32)) (by rfl) HSRC.out (by simp) (by simp [Value.oneCell']) ?_
     refine hK.out _ _ trivial (fun hHeld => ?_)
     clear hK K
     refine norm_ (a' := ?_) ?_ ?_
     rotate_left
     ·show Act.put _ (some 83) _ = _
      simp only [Act.put, List.setIfInBounds_toArray, List.set_cons_zero, List.set_cons_succ, i64_w, i32_w]
      rfl
     refine done_ (by kernel_rfl) ?_
     have HV := Lib.hid (HW.out.v (v' := [v0, v0, v1, v2, v3, v4, v5, v6]) (setRow_heap W3.drew g4 _ (([v0, v1, v2, v3, v4, v5, v6, v7].map (Value.int .u32)).take 1 ++ [v0, v1, v2, v3, v4, v5, v6].map (Value.int .u32) ++ ([v0, v1, v2, v3, v4, v5, v6, v7].map (Value.int .u32)).drop (1 + ([v0, v1, v2, v3, v4, v5, v6].map (Value.int .u32)).length)).toArray _ _ HW.out.h4) (fun k hk => setRow_other _ _ _ _ hk) (below_setRow HW.out.b HW.out.b4 _))
     generalize W3.drew.setRow g4 _ = W4 at HV ⊢
     clear HW HSRC H4
     have q0 := Lib.cell_of_heap HV.out.h4 0
     have q4 := Lib.cell_of_heap HV.out.h4 4
     have f0 := Lib.frozen_of_heap HV.out.h4 0
     have f4 := Lib.frozen_of_heap HV.out.h4 4
     go_wp2
     go_roundw
     case rel =>
      refine ⟨k + 1, by omega, by go_num, ?_⟩
      rw [HNX.out, HX.out.1, HX.out.2]
      refine Lib.hid ?_
      exact HV.out.two _ _
     case measure => simp [intOf]; omega
    ·have hk64 : k = 64 := by omega
     subst hk64
     have hd2 : decide (((64 : Nat) : Int) < 64) = false := by decide
     have hd1 := eq_false (show ¬ ((64 : Nat) : Int) < 64 by decide)
     go_wp2
     go_meet
     case rel => exact ⟨rfl, H1⟩
  case rest =>
   obtain ⟨rfl, H1⟩ := hcut
   have hV8 := roundsP_len (spreadN rest 64) ws HP.out.2.1 64
   have hfu : fullP ws rest = List.zipWith (fun x y => (x + y) % 4294967296) ws (roundsP (spreadN rest 64) ws 64) := rfl
   generalize roundsP (spreadN rest 64) ws 64 = V at H1 hV8 hfu
   generalize spreadN rest 64 = Wd at H1
   have HV := Lib.hid (And.intro hV8 hfu)
   clear hV8 hfu
   go_wp2
   go_loopw [94] (fun iv wz => ∃ m : Nat, m ≤ 8 ∧ iv = .int .i64 m ∧ Hid (wz.heap[p]? = some (.cells (hashC (mixP ws V m) rest many) 111 (0, 0)) ∧ wz.heap[g4]? = some (.cells (V.map (Value.int .u32)).toArray 108 (0, 0)) ∧ w.grownBy wz (some p) ∧ p < w.heap.size ∧ w.heap.size ≤ g4)) (fun iv _ => 8 - (intOf iv).toNat)
   case atStart => exact ⟨0, Nat.zero_le _, rfl, Lib.hid ⟨by have := H1.out.hp; simpa [mixP] using this, H1.out.h4, only_of_below H1.out.b _, H1.out.bp, H1.out.b4⟩⟩
   case round =>
    obtain ⟨m, hm, rfl, G⟩ := hrel
    clear H1
    by_cases hlt : m < 8
    ·have hd1 := eq_true (show (m : Int) < 8 by omega)
     have hd2 : decide ((m : Int) < 8) = true := decide_eq_true (by omega)
     have hmx := mixP_get (ws := ws) (V := V) (m := m) (by have := HP.out.2.1; omega) HP.out.2.1 HV.out.1
     have c0 := (Lib.cell_of_heap G.out.1 m).trans (hash_get (ws := mixP ws V m) (by rw [hmx.1]; exact hlt))
     rw [hmx.2] at c0
     have c1 : wr.cell? ⟨g4, m, none⟩ = some (.int .u32 (V.getD m 0)) := by
      rw [Lib.cell_of_heap G.out.2.1 m, List.getElem?_toArray, List.getElem?_map, List.getElem?_eq_getElem (by have := HV.out.1; omega)]
      simp [List.getD, List.getElem?_eq_getElem (show m < V.length by have := HV.out.1; omega)]
     have f0 := Lib.frozen_of_heap G.out.1 m
     obtain ⟨x, hX⟩ : ∃ x, ws.getD m 0 = x := ⟨_, rfl⟩
     obtain ⟨y, hY⟩ : ∃ y, V.getD m 0 = y := ⟨_, rfl⟩
     rw [hX] at c0
     rw [hY] at c1
     have HX := Lib.hid (And.intro hX hY)
     clear hX hY hmx
     go_wp2
     refine wp_region_still_tail 13 (by kernel_rfl) (by kernel_rfl) ?_
     simp only [List.take_succ_cons, List.take_zero, List.drop_succ_cons, List.drop_zero]
     repeat still_step
     refine wpStill_nil ?_
     change wpList _ _ _ _ _ wr.drew
     replace c0 : wr.drew.cell? ⟨p, m, none⟩ = some (.int .u32 x) := c0
     replace f0 : wr.drew.frozen? ⟨p, m, none⟩ = false := f0
     have G2 : Hid (wr.drew.heap[p]? = some (.cells (hashC (mixP ws V m) rest many) 111 (0, 0)) ∧ wr.drew.heap[g4]? = some (.cells (V.map (Value.int .u32)).toArray 108 (0, 0)) ∧ w.grownBy wr.drew (some p) ∧ p < w.heap.size ∧ w.heap.size ≤ g4) := Lib.hid ⟨G.out.1, G.out.2.1, only_drew G.out.2.2.1, G.out.2.2.2⟩
     clear c1 G
     generalize wr.drew = W1 at c0 f0 G2 ⊢
     go_wp2
     go_roundw
     case rel =>
      have hset := heap_setCell_same W1 p m _ _ (.int .u32 ((ws.getD m 0 + V.getD m 0) % 4294967296)) G2.out.1
      rw [mixP_step hlt HP.out.2.1 HV.out.1, HX.out.1, HX.out.2] at hset
      have hrel : Hid ((W1.setCell ⟨p, m, none⟩ (.int .u32 ((x + y) % 4294967296))).heap[p]? = some (.cells (hashC (mixP ws V (m + 1)) rest many) 111 (0, 0)) ∧ (W1.setCell ⟨p, m, none⟩ (.int .u32 ((x + y) % 4294967296))).heap[g4]? = some (.cells (V.map (Value.int .u32)).toArray 108 (0, 0)) ∧ w.grownBy (W1.setCell ⟨p, m, none⟩ (.int .u32 ((x + y) % 4294967296))) (some p) ∧ p < w.heap.size ∧ w.heap.size ≤ g4) :=
       Lib.hid ⟨hset, (heap_setCell_other W1 ⟨p, m, none⟩ g4 _ (by show g4 ≠ p; have := G2.out.2.2.2; omega)).trans G2.out.2.1, only_setCell G2.out.2.2.1 (p := ⟨p, m, none⟩) (.inl rfl) _, G2.out.2.2.2⟩
      exact ⟨m + 1, by omega, by go_num, hrel⟩
     case measure => simp [intOf]; omega
    ·have hm8 : m = 8 := by omega
     subst hm8
     have hd2 : decide (((8 : Nat) : Int) < 8) = false := by decide
     have hd1 := eq_false (show ¬ ((8 : Nat) : Int) < 8 by decide)
     have g1 := G.out.1
     rw [mixP_full HP.out.2.1 HV.out.1, ← HV.out.2] at g1
     have HG := Lib.hid g1
     clear g1
     go_wp2
     go_end0
     exact ⟨rfl, HG.out, G.out.2.2.1⟩

end Go.Proofs.YtmbgjhkemlliaaaDoor.Sha
end

section
set_option linter.unusedVariables false
set_option linter.unusedSimpArgs false
namespace Go.Proofs.YtmbgjhkemlliaaaDoor.Sha
open Go.RowKit Go.Proofs.YtmbgjhkemlliaaaDoorW.PrintWords Go.Proofs.YtmbgjhkemlliaaaDoorW.PrintLast Go.Proofs.YtmbgjhkemlliaaaDoorW.PrintMore Go.Proofs.YtmbgjhkemlliaaaDoor.PT

theorem infoB3 : (Tryd.prog.info? 5).map (fun i => (i.zero, i.size, i.bytes)) = some (some (.int .u8 0), 1, 1) := by kernel_rfl
theorem infoU8 : (Tryd.prog.info? 5).map (·.size) = some 1 := by kernel_rfl
/-- What may be gone on with. -/
structure Ok (s : HS) (m : Nat) : Prop where
 ws : s.ws.length = 8
 rest : s.rest.length = 64
 many : s.many = (m : Int)
 by_ : ∀ x ∈ s.rest, 0 ≤ x ∧ x < 256
theorem fullP_len {v b : List Int} (h : v.length = 8) : (fullP v b).length = 8 := by
 unfold fullP
 rw [List.length_zipWith, roundsP_len _ _ h, h]
 rfl
theorem put_rest {rest l : List Int} {o n : Nat} {x : Int} (hr : rest.length = 64) (ho : o + n < 64) (hl : l.length = n) : (rest.take o ++ l ++ rest.drop (o + n)).set (o + n) x = rest.take o ++ (l ++ [x]) ++ rest.drop (o + (n + 1)) := by
 have e := List.drop_eq_getElem_cons (l := rest) (i := o + n) (by omega)
 have h1 : (rest.take o ++ l).length = o + n := by simp; omega
 rw [e, List.set_append_right _ _ (by omega), h1, Nat.sub_self, List.set_cons_zero]
 simp [Nat.add_assoc]
/-- A piece that does not pass the block's end. -/
theorem write_piece (ws rest l : List Int) (m : Nat) (hr : rest.length = 64) (hm : m + l.length < 18446744073709551616) : ∀ n, n ≤ l.length → m % 64 + n ≤ 64 →
 writeH ⟨ws, rest, (m : Int)⟩ (l.take n) = ⟨if 0 < n ∧ (m + n) % 64 = 0 then fullP ws (rest.take (m % 64) ++ l.take n ++ rest.drop (m % 64 + n)) else ws, rest.take (m % 64) ++ l.take n ++ rest.drop (m % 64 + n), ((m + n : Nat) : Int)⟩
 | 0, _, _ => by simp [writeH]
 | n + 1, h, h2 => by
  have ih := write_piece ws rest l m hr hm n (by omega) (by omega)
  have hn0 : ¬ (0 < n ∧ (m + n) % 64 = 0) := by omega
  rw [if_neg hn0] at ih
  have htl : (l.take n).length = n := by simp; omega
  have hw : writeH ⟨ws, rest, (m : Int)⟩ (l.take (n + 1)) = pushP (writeH ⟨ws, rest, (m : Int)⟩ (l.take n)) (l[n]'(by omega)) := by
   unfold writeH
   rw [← List.take_append_getElem (show n < l.length by omega), List.foldl_append]
   rfl
  have hidx : (((m + n : Nat) : Int) % 64).toNat = m % 64 + n := by omega
  rw [hw, ih]
  unfold pushP
  simp only [hidx]
  rw [put_rest hr (by omega) htl, List.take_append_getElem (show n < l.length by omega)]
  have e1 : (((m + n : Nat) : Int) + 1) % 18446744073709551616 = ((m + (n + 1) : Nat) : Int) := by omega
  have e2 : ((((m + n : Nat) : Int) + 1) % 64 = 0) ↔ (0 < n + 1 ∧ (m + (n + 1)) % 64 = 0) := by omega
  rw [e1]
  simp only [e2]
theorem writeH_split (s : HS) (l : List Int) (n : Nat) : writeH s l = writeH (writeH s (l.take n)) (l.drop n) := by
 unfold writeH
 rw [← List.foldl_append, List.take_append_drop]
def lenV : Value → Nat | .slice _ n _ => n | _ => 0
theorem hash_many {ws rest : List Int} {many : Int} (h1 : ws.length = 8) (h2 : rest.length = 64) : (hashC ws rest many)[72]? = some (.int .u64 many) := by
 unfold hashC
 rw [List.getElem?_toArray, List.getElem?_append_right (by simp; omega)]
 simp [h1, h2]
theorem hash_row {ws rest l : List Int} {many : Int} {o n : Nat} (h1 : ws.length = 8) (h2 : rest.length = 64) (hl : l.length = n) (ho : o + n ≤ 64) :
 ((ws.map (Value.int .u32) ++ rest.map (Value.int .u8) ++ [Value.int .u64 many]).take (8 + o) ++ l.map (Value.int .u8) ++ (ws.map (Value.int .u32) ++ rest.map (Value.int .u8) ++ [Value.int .u64 many]).drop (8 + o + (l.map (Value.int .u8)).length)).toArray = hashC ws (rest.take o ++ l ++ rest.drop (o + n)) many := by
 have hw : (ws.map (Value.int .u32)).length = 8 := by simp [h1]
 have e1 : (ws.map (Value.int .u32) ++ rest.map (Value.int .u8) ++ [Value.int .u64 many]).take (8 + o) = ws.map (Value.int .u32) ++ (rest.take o).map (Value.int .u8) := by
  rw [List.append_assoc, ← hw, List.take_append, List.take_of_length_le (by omega), Nat.add_sub_cancel_left, List.take_append_of_le_length (by simp; omega), List.map_take]
 have e2 : (ws.map (Value.int .u32) ++ rest.map (Value.int .u8) ++ [Value.int .u64 many]).drop (8 + o + (l.map (Value.int .u8)).length) = (rest.drop (o + n)).map (Value.int .u8) ++ [Value.int .u64 many] := by
  rw [List.length_map, hl, List.append_assoc, Nat.add_assoc, ← hw, List.drop_append, List.drop_eq_nil_of_le (by omega), List.nil_append, Nat.add_sub_cancel_left, List.drop_append_of_le_length (by simp; omega), List.map_drop]
 rw [e1, e2]
 unfold hashC
 simp
theorem hash_set_many {ws rest : List Int} {many m2 : Int} (h1 : ws.length = 8) (h2 : rest.length = 64) : (hashC ws rest many).setIfInBounds 72 (.int .u64 m2) = hashC ws rest m2 := by
 unfold hashC
 have : (ws.map (Value.int .u32) ++ rest.map (Value.int .u8)).length = 72 := by simp [h1, h2]
 rw [List.setIfInBounds_toArray, List.set_append_right _ _ (by omega), this]
 rfl
theorem only_setRow {a w : World} {g : Nat} (h : a.grownBy w (some g)) (cs : Array Value) : a.grownBy (w.setRow g cs) (some g) :=
 ⟨h.os, h.tape, h.output, by simpa [World.setRow] using h.size, fun i hi hne => (setRow_other _ _ _ _ (fun e => hne (by rw [e]))).trans (h.block i hi hne)⟩
/-- Bytes that stay as they are whatever becomes of block p. -/
def Src (w : World) (p : Nat) (A : Option Addr) (l : List Int) : Prop := ∀ w1, w.grownBy w1 (some p) → (Kd.int .u8).C w1 A l.length l
theorem Src.of {w : World} {p : Nat} {A : Option Addr} {l : List Int} (h : (Kd.int .u8).C w A l.length l) (hne : ∀ ad, A = some ad → 0 < l.length → ad.block ≠ p) : Src w p A l := by
 intro w1 hg
 have hr := Kd.reads_of_C (d := (0 : Int)) h
 refine Kd.C_of_reads (d := (0 : Int)) ⟨hr.1, hr.2.1, fun hn => ?_⟩
 obtain ⟨ad, e, hc⟩ := hr.2.2 hn
 refine ⟨ad, e, fun j hj => ?_⟩
 have h0 := hc j hj
 have hlt := World.block_lt_of_cell? w _ h0
 have hb : (ad.add j).block = ad.block := by unfold Addr.add; split <;> rfl
 rw [World.cell?_of_block (hg.block _ hlt (fun e2 => by injection e2 with e2; exact hne ad e hn (by rw [← hb, e2])))]
 exact h0

set_option maxHeartbeats 8000000 in
set_option maxRecDepth 100000 in
theorem write_walk (p : Nat) (s : HS) (m : Nat) (A : Option Addr) (c : Nat) (l : List Int) (w : World) (hs : Ok s m) (hl : m + l.length ≤ 1000000000000) (hc : l.length ≤ c) (hv : ∀ x ∈ l, 0 ≤ x ∧ x < 256) (hsrc : Src w p A l) (hp : w.heap[p]? = some (.cells (hashC s.ws s.rest s.many) 111 (0, 0))) :
 Calls Tryd.prog 66 #[.pointer (some ⟨p, 0, none⟩), .slice A l.length c] w fun e w' => e = .returned (.tuple #[]) ∧ w'.heap[p]? = some (.cells (hashC (writeH s l).ws (writeH s l).rest (writeH s l).many) 111 (0, 0)) ∧ w.grownBy w' (some p) := by
 obtain ⟨fin, hfin⟩ : ∃ fin, fin = writeH s l := ⟨_, rfl⟩
 rw [← hfin]
 obtain ⟨i0, hi, _, hsz, _⟩ := info_parts infoB3
 have HST : Hid (∃ s m, Ok s m ∧ m + l.length ≤ 1000000000000 ∧ fin = writeH s l ∧ w.heap[p]? = some (.cells (hashC s.ws s.rest s.many) 111 (0, 0))) := Lib.hid ⟨s, m, hs, hl, hfin, hp⟩
 have HSR := Lib.hid hsrc
 have HV := Lib.hid hv
 clear hs hl hfin hp hsrc hv
 go_enter Tryd.func66, Tryd.ntmps66
 go_wp2
 go_loopw [1] (fun bv wr => ∃ (A' : Option Addr) (c' : Nat) (l' : List Int), bv = .slice A' l'.length c' ∧ l'.length ≤ c' ∧ Hid (Src w p A' l') ∧ Hid (∀ x ∈ l', 0 ≤ x ∧ x < 256) ∧ Hid (w.grownBy wr (some p)) ∧ Hid (∃ s m, Ok s m ∧ m + l'.length ≤ 1000000000000 ∧ fin = writeH s l' ∧ wr.heap[p]? = some (.cells (hashC s.ws s.rest s.many) 111 (0, 0)))) (fun bv _ => lenV bv)
 case atStart => exact ⟨A, c, l, rfl, hc, HSR, HV, Lib.hid (World.grownBy.refl w _), HST⟩
 case round =>
  obtain ⟨A', c', l', rfl, hc', HSR', HV', HGB, HST'⟩ := hrel
  clear HST HSR HV
  obtain ⟨s, m, hok, hml, hfin, hg⟩ := HST'.out
  clear HST'
  by_cases h0 : l'.length = 0
  ·have hl0 : l' = [] := List.length_eq_zero_iff.1 h0
   subst hl0
   have hff : fin = s := hfin
   have HF := Lib.hid hff
   have HG := Lib.hid hg
   clear hfin hff hg h0
   simp only [List.length_nil]
   go_wp2
   go_end0
   exact ⟨rfl, by rw [HF.out]; exact HG.out, HGB.out⟩
  ·obtain ⟨ad, eA, _⟩ := (Kd.reads_of_C (d := (0 : Int)) (HSR'.out wr HGB.out)).2.2 (by omega)
   subst eA
   obtain ⟨ws, rest, many⟩ := s
   obtain ⟨h8, h64, hmm, hrb⟩ := hok
   replace hmm : many = (m : Int) := hmm
   subst hmm
   obtain ⟨o, ho⟩ : ∃ o, o = m % 64 := ⟨_, rfl⟩
   obtain ⟨n, hn⟩ : ∃ n, n = min (64 - o) l'.length := ⟨_, rfl⟩
   have hlen : 0 < l'.length := by omega
   have HPC := Lib.hid (write_piece ws rest l' m h64 (by omega) n (by omega) (by omega))
   have HFN : Hid (fin = writeH (writeH ⟨ws, rest, (m : Int)⟩ (l'.take n)) (l'.drop n)) := Lib.hid (by rw [hfin]; exact writeH_split _ _ n)
   have d0 : decide ((0 : Int) < (l'.length : Int)) = true := decide_eq_true (by omega)
   have d0' := eq_true (show (0 : Int) < (l'.length : Int) by omega)
   have d0n : 0 < l'.length := hlen
   have HG0 := Lib.hid hg
   have HOK := Lib.hid (And.intro h8 (And.intro h64 hrb))
   have HON := Lib.hid (And.intro ho (And.intro hn hml))
   have ho64 : o < 64 := by omega
   have hn64 : o + n ≤ 64 := by omega
   have hn1 : 0 < n := by omega
   have hnl : n ≤ l'.length := by omega
   have hrem : (m : Int) % 64 = (o : Int) := by omega
   have hrem2 : Int.tmod (m : Int) 64 = (o : Int) := by rw [Int.tmod_eq_emod_of_nonneg (by omega)]; exact hrem
   clear hg hfin h8 h64 hrb ho hn h0 hlen
   go_wp2
   have cm : wr.drew.cell? ⟨p, 72, none⟩ = some (.int .u64 (m : Int)) := (Lib.cell_of_heap HG0.out 72).trans (hash_many HOK.out.1 HOK.out.2.1)
   have HG : Hid (wr.drew.heap[p]? = some (.cells (ws.map (Value.int .u32) ++ rest.map (Value.int .u8) ++ [Value.int .u64 (m : Int)]).toArray 111 (0, 0)) ∧ w.grownBy wr.drew (some p)) := Lib.hid ⟨HG0.out, only_drew HGB.out⟩
   clear HG0 HGB
   have hb64 : (o : Int) ≤ 64 := by omega
   have hne64 := eq_false (show ¬ 64 = o by omega)
   have htl : (l'.take n).length = n := by simp; omega
   have HCN : Hid (((l'.take n).map (Value.int .u8)).length = Nat.min l'.length (64 - o)) := Lib.hid (by
    rw [List.length_map, htl, HON.out.2.1]
    show min (64 - o) l'.length = min l'.length (64 - o)
    omega)
   have HFIT : Hid (8 + o + ((l'.take n).map (Value.int .u8)).length ≤ (ws.map (Value.int .u32) ++ rest.map (Value.int .u8) ++ [Value.int .u64 (m : Int)]).length) := Lib.hid (by
    rw [List.length_map, htl]
    simp [HOK.out.1, HOK.out.2.1]
    omega)
   have HSRC : Hid (∀ j v, ((l'.take n).map (Value.int .u8))[j]? = some v → wr.drew.cell? (ad.add j) = some v) := Lib.hid (fun j v hj => by
    obtain ⟨ad', e', hc2⟩ := (Kd.reads_of_C (d := (0 : Int)) (HSR'.out _ HG.out.2)).2.2 (by omega)
    injection e' with e'
    subst e'
    rw [List.getElem?_map, List.getElem?_take] at hj
    by_cases hjn : j < n
    ·rw [if_pos hjn, List.getElem?_eq_getElem (by omega)] at hj
     have := hc2 j (by omega)
     rw [List.getD_eq_getElem?_getD, List.getElem?_eq_getElem (by omega)] at this
     rw [← Option.some.inj hj]
     exact this
    ·rw [if_neg hjn] at hj; cases hj)
   have hROW := hash_row (l := l'.take n) (o := o) (n := n) (many := (m : Int)) HOK.out.1 HOK.out.2.1 htl hn64
   obtain ⟨R, hR⟩ : ∃ R, R = rest.take o ++ l'.take n ++ rest.drop (o + n) := ⟨_, rfl⟩
   have hRl : R.length = 64 := by rw [hR]; simp [HOK.out.2.1, htl]; omega
   have hRb : ∀ x ∈ R, 0 ≤ x ∧ x < 256 := by
    intro x hx
    rw [hR] at hx
    rcases List.mem_append.1 hx with hx | hx
    ·rcases List.mem_append.1 hx with hx | hx
     ·exact HOK.out.2.2 x (List.mem_of_mem_take hx)
     ·exact HV'.out x (List.mem_of_mem_take hx)
    ·exact HOK.out.2.2 x (List.mem_of_mem_drop hx)
   rw [← hR] at hROW
   have HR := Lib.hid (And.intro hRl hRb)
   have HRE := Lib.hid hR
   have HROW := Lib.hid hROW
   have HTL := Lib.hid htl
   clear hROW hR hRl hRb htl
   refine start_ (n := 12) (S := fun w' => w'.cell? ⟨p, 72, none⟩ = some (.int .u64 (m : Int))) (ds := []) #[false, false, false, false, false, false, false, false, false, false, false, false] (by kernel_rfl) rfl rfl cm (fun hHeld => ?_)
   refine pure_ (i := 0) (N := some 8) (v := ?_) (a' := ?_) #[true, false, false, false, false, false, false, false, false, false, false, false] rfl rfl (by kernel_rfl) (fun _ _ _ h => h) (Or.inl ⟨by rfl, ?_⟩) ?_ ?_
   rotate_left
   ·intro w'
    go_simp
    with_reducible rfl
   rotate_left
   ·simp only [Act.put, List.setIfInBounds_toArray, List.set_cons_zero, List.set_cons_succ, i64_w, i32_w]
    rfl
   refine pure_ (i := 1) (N := some 9) (v := ?_) (a' := ?_) #[true, true, false, false, false, false, false, false, false, false, false, false] rfl rfl (by kernel_rfl) (fun _ _ _ h => h) (Or.inl ⟨by rfl, ?_⟩) ?_ ?_
   rotate_left
   ·intro w'
    go_simp
    with_reducible rfl
   rotate_left
   ·simp only [Act.put, List.setIfInBounds_toArray, List.set_cons_zero, List.set_cons_succ, i64_w, i32_w]
    rfl
   refine pure_ (i := 2) (N := some 10) (v := ?_) (a' := ?_) #[true, true, true, false, false, false, false, false, false, false, false, false] rfl rfl (by kernel_rfl) (fun _ _ _ h => h) (Or.inl ⟨by rfl, ?_⟩) ?_ ?_
   rotate_left
   ·intro w'
    go_simp
    with_reducible rfl
   rotate_left
   ·simp only [Act.put, List.setIfInBounds_toArray, List.set_cons_zero, List.set_cons_succ, i64_w, i32_w]
    rfl
   refine pure_ (i := 3) (N := some 11) (v := ?_) (a' := ?_) #[true, true, true, true, false, false, false, false, false, false, false, false] rfl rfl (by kernel_rfl) (fun _ _ _ h => h) (Or.inl ⟨by rfl, ?_⟩) ?_ ?_
   rotate_left
   ·intro w'
    go_simp
    with_reducible rfl
   rotate_left
   ·simp only [Act.put, List.setIfInBounds_toArray, List.set_cons_zero, List.set_cons_succ, i64_w, i32_w]
    rfl
   refine pure_ (i := 4) (N := some 12) (v := ?_) (a' := ?_) #[true, true, true, true, true, false, false, false, false, false, false, false] rfl rfl (by kernel_rfl) (fun _ _ _ h => h) (Or.inl ⟨by rfl, ?_⟩) ?_ ?_
   rotate_left
   ·intro w'
    go_simp
    with_reducible rfl
   rotate_left
   ·simp only [Act.put, List.setIfInBounds_toArray, List.set_cons_zero, List.set_cons_succ, i64_w, i32_w]
    rfl
   refine pure_ (i := 5) (N := some 13) (v := ?_) (a' := ?_) #[true, true, true, true, true, true, false, false, false, false, false, false] rfl rfl (by kernel_rfl) (fun _ _ _ h => h) (Or.inl ⟨by rfl, ?_⟩) ?_ ?_
   rotate_left
   ·intro w'
    go_simp
    with_reducible rfl
   rotate_left
   ·simp only [Act.put, List.setIfInBounds_toArray, List.set_cons_zero, List.set_cons_succ, i64_w, i32_w]
    rfl
   refine take_ (i := 6) (N := some 14) (v := ?_) (a' := ?_) #[true, true, true, true, true, true, true, false, false, false, false, false] rfl rfl (by kernel_rfl) (fun _ _ _ h => h) (Or.inl ⟨by rfl, ?_⟩) hHeld ?_ ?_
   rotate_left
   ·rintro w' s0
    go_simp
    with_reducible rfl
   rotate_left
   ·simp only [Act.put, List.setIfInBounds_toArray, List.set_cons_zero, List.set_cons_succ, i64_w, i32_w]
    rfl
   refine pure_ (i := 7) (N := some 15) (v := ?_) (a' := ?_) #[true, true, true, true, true, true, true, true, false, false, false, false] rfl rfl (by kernel_rfl) (fun _ _ _ h => h) (Or.inl ⟨by rfl, ?_⟩) ?_ ?_
   rotate_left
   ·intro w'
    go_simp
    with_reducible rfl
   rotate_left
   ·simp only [Act.put, List.setIfInBounds_toArray, List.set_cons_zero, List.set_cons_succ, i64_w, i32_w]
    rfl
   refine pure_ (i := 8) (N := some 16) (v := ?_) (a' := ?_) #[true, true, true, true, true, true, true, true, true, false, false, false] rfl rfl (by kernel_rfl) (fun _ _ _ h => h) (Or.inl ⟨by rfl, ?_⟩) ?_ ?_
   rotate_left
   ·intro w'
    go_simp
    with_reducible rfl
   rotate_left
   ·simp only [Act.put, List.setIfInBounds_toArray, List.set_cons_zero, List.set_cons_succ, i64_w, i32_w]
    rfl
   refine pure_ (i := 9) (N := some 17) (v := ?_) (a' := ?_) #[true, true, true, true, true, true, true, true, true, true, false, false] rfl rfl (by kernel_rfl) (fun _ _ _ h => h) (Or.inl ⟨by rfl, ?_⟩) ?_ ?_
   rotate_left
   ·intro w'
    go_simp
    with_reducible rfl
   rotate_left
   ·simp only [Act.put, List.setIfInBounds_toArray, List.set_cons_zero, List.set_cons_succ, i64_w, i32_w]
    rfl
   refine one_ (i := 10) (N := some 18) #[true, true, true, true, true, true, true, true, true, true, true, false] rfl rfl (by kernel_rfl) (by decide) (fun K hK => ?_)
   refine copy_step (by rfl) (.tmp 16) (.tmp 17) 22 22 rfl 5 Tryd.underlying22 infoU8 ad (64 - o) (64 - o) l'.length c' p (8 + o) (by rfl) (by rfl) _ _ HG.out.1 ((l'.take n).map (Value.int .u8)) HCN.out HSRC.out HFIT.out (by intro v hv; obtain ⟨x, _, rfl⟩ := List.mem_map.1 hv; rfl) ?_
   have hgi : goInt ((l'.take n).map (Value.int .u8)).length = .int .i64 (n : Int) := by rw [List.length_map, HTL.out]; rfl
   rw [hgi]
   have hy1 : (wr.drew.setRow p ((ws.map (Value.int .u32) ++ rest.map (Value.int .u8) ++ [Value.int .u64 (m : Int)]).take (8 + o) ++ (l'.take n).map (Value.int .u8) ++ (ws.map (Value.int .u32) ++ rest.map (Value.int .u8) ++ [Value.int .u64 (m : Int)]).drop (8 + o + ((l'.take n).map (Value.int .u8)).length)).toArray).heap[p]? = some (.cells (hashC ws R (m : Int)) 111 (0, 0)) := by
    rw [HROW.out]
    exact setRow_heap wr.drew p _ _ _ _ HG.out.1
   have hy2 := only_setRow HG.out.2 ((ws.map (Value.int .u32) ++ rest.map (Value.int .u8) ++ [Value.int .u64 (m : Int)]).take (8 + o) ++ (l'.take n).map (Value.int .u8) ++ (ws.map (Value.int .u32) ++ rest.map (Value.int .u8) ++ [Value.int .u64 (m : Int)]).drop (8 + o + ((l'.take n).map (Value.int .u8)).length)).toArray
   generalize wr.drew.setRow p ((ws.map (Value.int .u32) ++ rest.map (Value.int .u8) ++ [Value.int .u64 (m : Int)]).take (8 + o) ++ (l'.take n).map (Value.int .u8) ++ (ws.map (Value.int .u32) ++ rest.map (Value.int .u8) ++ [Value.int .u64 (m : Int)]).drop (8 + o + ((l'.take n).map (Value.int .u8)).length)).toArray = wy at hy1 hy2 ⊢
   have HY := Lib.hid (And.intro hy1 hy2)
   have HCM : Hid (wy.cell? ⟨p, 72, none⟩ = some (.int .u64 (m : Int))) := Lib.hid ((Lib.cell_of_heap hy1 72).trans (hash_many HOK.out.1 HR.out.1))
   clear hy1 hy2 hgi HG HSRC HFIT HCN
   refine hK.out _ _ HCM.out (fun hHeld => ?_)
   clear hK K
   refine norm_ (a' := ?_) ?_ ?_
   rotate_left
   ·show Act.put _ (some 18) _ = _
    simp only [Act.put, List.setIfInBounds_toArray, List.set_cons_zero, List.set_cons_succ, i64_w, i32_w]
    rfl
   refine one_ (i := 11) (N := some 4) #[true, true, true, true, true, true, true, true, true, true, true, true] rfl rfl (by kernel_rfl) (by decide) (fun K hK => ?_)
   refine value_ (N := some 4) (by rfl) rfl (v := .int .i64 (n : Int)) (w1 := wy) (by go_simp; try rfl) ?_
   refine hK.out _ _ HCM.out (fun hHeld => ?_)
   clear hK K
   refine norm_ (a' := ?_) ?_ ?_
   rotate_left
   ·show Act.put _ (some 4) _ = _
    simp only [Act.put, List.setIfInBounds_toArray, List.set_cons_zero, List.set_cons_succ, i64_w, i32_w]
    rfl
   refine done_ (by kernel_rfl) ?_
   obtain ⟨A2, hcut, hcr, hcc2⟩ := print_cut_int (P := Tryd.prog) (k := .u8) 22 5 Tryd.underlying22 hi hsz (some ad) c' l' (n : Int) (by omega) (by omega) hc'
   simp only [Int.toNat_natCast] at hcut hcr hcc2
   have hdl : (l'.drop n).length = l'.length - n := by simp
   have HSR2 : Hid (Src w p A2 (l'.drop n)) := Lib.hid (fun w1 h => Kd.C_of_reads (enc := Value.int .u8) (d := (0 : Int)) (h1 := fun _ => rfl) (hcr w1 (Kd.reads_of_C (d := (0 : Int)) (HSR'.out w1 h))))
   have HV2 : Hid (∀ x ∈ l'.drop n, 0 ≤ x ∧ x < 256) := Lib.hid (fun x hx => HV'.out x (List.mem_of_mem_drop hx))
   obtain ⟨M2, hM2⟩ : ∃ M2, M2 = m + n := ⟨_, rfl⟩
   have hM2i : (m : Int) + (n : Int) = (M2 : Int) := by omega
   have hM2b : (M2 : Int) ≤ 1000000000000 := by have := HON.out.2.2; omega
   have hM2l : M2 + (l'.length - n) ≤ 1000000000000 := by have := HON.out.2.2; omega
   obtain ⟨q, hq⟩ : ∃ q, q = M2 % 64 := ⟨_, rfl⟩
   have hM2r : (M2 : Int) % 64 = (q : Int) := by omega
   have hM2t : Int.tmod (M2 : Int) 64 = (q : Int) := by rw [Int.tmod_eq_emod_of_nonneg (by omega)]; exact hM2r
   have c72 := HCM.out
   have f72 := Lib.frozen_of_heap HY.out.1 72
   have hset := heap_setCell_same wy p 72 _ _ (.int .u64 (M2 : Int)) HY.out.1
   rw [hash_set_many HOK.out.1 HR.out.1] at hset
   have hG2 := only_setCell HY.out.2 (p := ⟨p, 72, none⟩) (.inl rfl) (.int .u64 (M2 : Int))
   have HS2 := Lib.hid (And.intro hset hG2)
   have c72b : (wy.setCell ⟨p, 72, none⟩ (.int .u64 (M2 : Int))).cell? ⟨p, 72, none⟩ = some (.int .u64 (M2 : Int)) := (Lib.cell_of_heap hset 72).trans (hash_many HOK.out.1 HR.out.1)
   have HPCE : Hid (writeH ⟨ws, rest, (m : Int)⟩ (l'.take n) = ⟨if 0 < n ∧ M2 % 64 = 0 then fullP ws R else ws, R, (M2 : Int)⟩) := Lib.hid (by
    rw [HPC.out, HRE.out, ← HON.out.1, ← hM2])
   have HQ := Lib.hid (And.intro hq (And.intro hM2 hM2l))
   clear hcr hset hG2 hM2 hq hM2l HPC HRE HSR' HV' hrem hrem2 hne64 hb64
   by_cases hq0 : q = 0
   ·subst hq0
    have e0 : ((0 : Nat) : Int) = 0 := rfl
    rw [e0] at hM2r hM2t
    have HFULL := Lib.hid (full_walk p ws R (M2 : Int) HOK.out.1 HR.out.1 (wy.setCell ⟨p, 72, none⟩ (.int .u64 (M2 : Int))) (fun i => by
     by_cases hi : i < R.length
     ·rw [List.getD_eq_getElem?_getD, List.getElem?_eq_getElem hi]; exact HR.out.2 _ (List.getElem_mem hi)
     ·rw [List.getD_eq_getElem?_getD, List.getElem?_eq_none (by omega)]; simp) HS2.out.1)
    go_wp2_with (fail)
    refine HFULL.out.mono ?_
    rintro e wz ⟨rfl, hz1, hz2⟩
    have HZ := Lib.hid (And.intro hz1 (only_trans HS2.out.2 hz2))
    clear hz1 hz2 HFULL
    go_wp2
    exact ⟨⟨A2, c' - n, l'.drop n, by first | rfl | simp, by rw [hdl]; omega, HSR2, HV2, Lib.hid HZ.out.2, Lib.hid ⟨⟨fullP ws R, R, (M2 : Int)⟩, M2, ⟨fullP_len HOK.out.1, HR.out.1, rfl, HR.out.2⟩, by rw [hdl]; exact HQ.out.2.2, by rw [HFN.out, HPCE.out, if_pos ⟨hn1, HQ.out.1.symm⟩], HZ.out.1⟩⟩, by simp [lenV]; omega⟩
   ·have hqi : ((q : Int) == 0) = false := by rw [beq_eq_false_iff_ne]; omega
    have hqi2 := eq_false (show ¬ (q : Int) = 0 by omega)
    go_wp2
    exact ⟨⟨A2, c' - n, l'.drop n, by first | rfl | simp, by rw [hdl]; omega, HSR2, HV2, Lib.hid HS2.out.2, Lib.hid ⟨⟨ws, R, (M2 : Int)⟩, M2, ⟨HOK.out.1, HR.out.1, rfl, HR.out.2⟩, by rw [hdl]; exact HQ.out.2.2, by rw [HFN.out, HPCE.out, if_neg (fun h => hq0 (by rw [HQ.out.1]; exact h.2))], HS2.out.1⟩⟩, by simp [lenV]; omega⟩
end Go.Proofs.YtmbgjhkemlliaaaDoor.Sha
end

section
set_option linter.unusedVariables false
set_option linter.unusedSimpArgs false
namespace Go.Proofs.YtmbgjhkemlliaaaDoor.Sha
open Go.RowKit Go.Proofs.YtmbgjhkemlliaaaDoorW.PrintWords Go.Proofs.YtmbgjhkemlliaaaDoorW.PrintLast Go.Proofs.YtmbgjhkemlliaaaDoorW.PrintMore Go.Proofs.YtmbgjhkemlliaaaDoor.PT

theorem infoH : (Tryd.prog.info? 111).map (·.size) = some 73 := by kernel_rfl
theorem infoO : (Tryd.prog.info? 82).map (·.size) = some 32 := by kernel_rfl
theorem valL {P : Program} {ops : Array Oper} {rest : List Oper} {o : Oper} {a : Act} {w w1 : World} {v : Value} {Q : Exit → Act → World → Prop} (hgd : o.guard = none) (hrun : (execOp a.eval o).run P w = .ok (.value v) w1)
 (h : wpList P ops Q rest (a.put o.dst v) w1) : wpList P ops Q (o :: rest) a w := wpList_plain hgd fun _ hK => by
 unfold Oper.wp
 rw [hrun]
 exact hK _ _ h
theorem hash_size {ws rest : List Int} {many : Int} (h1 : ws.length = 8) (h2 : rest.length = 64) : (hashC ws rest many).size = 73 := by simp [hashC, h1, h2]
theorem hash_one {ws rest : List Int} {many : Int} : (hashC ws rest many).all (·.oneCell') = true := by
 rw [Array.all_eq_true']
 intro x hx
 simp only [hashC, List.mem_toArray, List.mem_append, List.mem_map, List.mem_singleton] at hx
 rcases hx with (⟨y, _, rfl⟩ | ⟨y, _, rfl⟩) | rfl <;> rfl
/-- What holds of the blocks of Sum. -/
structure SS (w W : World) (p : Nat) (H Z : Array Value) (s : HS) : Prop where
 hx : W.heap[w.heap.size + 1]? = some (.cells (hashC s.ws s.rest s.many) 111 (0, 0))
 hr : W.heap[w.heap.size]? = some (.cells Z 82 (0, 0))
 hp : W.heap[p]? = some (.cells H 111 (0, 0))
 b : Below w.heap.size w W
theorem pushP_ok {s : HS} {m : Nat} {x : Int} (h : Ok s m) (hm : m + 1 ≤ 1000000000000) (hx : 0 ≤ x ∧ x < 256) : Ok (pushP s x) (m + 1) := by
 have hr : (s.rest.set (s.many % 64).toNat x).length = 64 := by simp [h.rest]
 refine ⟨?_, hr, ?_, ?_⟩
 ·unfold pushP
  dsimp only
  split
  ·exact fullP_len h.ws
  ·exact h.ws
 ·show (s.many + 1) % 18446744073709551616 = _
  rw [h.many]
  omega
 ·intro y hy
  rcases List.mem_or_eq_of_mem_set hy with hy | rfl
  ·exact h.by_ y hy
  ·exact hx
theorem writeH_ok : ∀ (l : List Int) {s : HS} {m : Nat}, Ok s m → m + l.length ≤ 1000000000000 → (∀ x ∈ l, 0 ≤ x ∧ x < 256) → Ok (writeH s l) (m + l.length)
 | [], s, m, h, _, _ => h
 | x :: l, s, m, h, hm, hv => by
  have h1 := pushP_ok h (by simp at hm; omega) (hv x (by simp))
  have h2 := writeH_ok l h1 (by simp at hm; omega) (fun y hy => hv y (by simp [hy]))
  have e : m + (x :: l).length = m + 1 + l.length := by simp; omega
  rw [e]
  exact h2
theorem piece_walk (w W : World) (p : Nat) (H Z : Array Value) (s : HS) (m : Nat) (A : Option Addr) (c : Nat) (l : List Int) (hS : SS w W p H Z s) (hp : p < w.heap.size) (hs : Ok s m) (hl : m + l.length ≤ 1000000000000) (hc : l.length ≤ c) (hv : ∀ x ∈ l, 0 ≤ x ∧ x < 256) (hC : (Kd.int .u8).C W A l.length l) (hne : ∀ ad, A = some ad → 0 < l.length → ad.block ≠ w.heap.size + 1) :
 Calls Tryd.prog 66 #[.pointer (some ⟨w.heap.size + 1, 0, none⟩), .slice A l.length c] W fun e w' => e = .returned (.tuple #[]) ∧ SS w w' p H Z (writeH s l) := by
 refine (write_walk (w.heap.size + 1) s m A c l W hs hl hc hv (Src.of hC hne) hS.hx).mono ?_
 rintro e w' ⟨he, hx, hg⟩
 have hlt := hlt_ hS.hx
 refine ⟨he, hx, ?_, ?_, ?_⟩
 ·exact (hg.block _ (by omega) (by simp)).trans hS.hr
 ·exact (hg.block _ (by omega) (by simp; omega)).trans hS.hp
 ·exact hS.b.trans (below_of_only hg (by omega) (by omega))
theorem SS.alloc {w W : World} {p : Nat} {H Z : Array Value} {s : HS} (h : SS w W p H Z s) (o : Obj) : SS w (W.alloc o) p H Z s :=
 ⟨(heap_alloc_old W o (hlt_ h.hx)).trans h.hx, (heap_alloc_old W o (hlt_ h.hr)).trans h.hr, (heap_alloc_old W o (hlt_ h.hp)).trans h.hp, h.b.alloc (by have := hlt_ h.hx; omega) o⟩
theorem SS.below {w W W' : World} {p : Nat} {H Z : Array Value} {s : HS} (h : SS w W p H Z s) (hB : Below W.heap.size W W') : SS w W' p H Z s :=
 ⟨(hB.block _ (hlt_ h.hx)).trans h.hx, (hB.block _ (hlt_ h.hr)).trans h.hr, (hB.block _ (hlt_ h.hp)).trans h.hp, h.b.trans (hB.mono (by have := hlt_ h.hx; omega))⟩
/-- One byte, in a row of its own. -/
theorem byte_walk (w W : World) (p : Nat) (H Z : Array Value) (s : HS) (m : Nat) (x : Int) (hS : SS w W p H Z s) (hp : p < w.heap.size) (hs : Ok s m) (hl : m + 1 ≤ 1000000000000) (hv : 0 ≤ x ∧ x < 256) :
 Calls Tryd.prog 66 #[.pointer (some ⟨w.heap.size + 1, 0, none⟩), .slice (some ⟨W.heap.size, 0, none⟩) 1 1] (W.alloc (.cells #[.int .u8 x] 5)) fun e w' => e = .returned (.tuple #[]) ∧ SS w w' p H Z (pushP s x) := by
 have hb0 : (W.alloc (.cells #[.int .u8 x] 5)).heap[W.heap.size]? = some (.cells ([x].map (Value.int .u8)).toArray 5 (0, 0)) := heap_alloc_new W _
 have hlt := hlt_ hS.hx
 exact piece_walk w _ p H Z s m (some ⟨W.heap.size, 0, none⟩) 1 [x] (hS.alloc _) hp hs hl (Nat.le_refl _) (by simpa using hv) (Tlv.C_ints hb0 (by simp)) (fun ad e _ => by injection e with e; subst e; show W.heap.size ≠ _; omega)
def len8 (n : Int) : List Int := [shr .u64 n 56 % 256, shr .u64 n 48 % 256, shr .u64 n 40 % 256, shr .u64 n 32 % 256, shr .u64 n 24 % 256, shr .u64 n 16 % 256, shr .u64 n 8 % 256, shr .u64 n 0 % 256]
theorem len8_bytes (n : Int) : ∀ x ∈ len8 n, 0 ≤ x ∧ x < 256 := by
 intro x hx
 simp only [len8, List.mem_cons, List.not_mem_nil, or_false] at hx
 rcases hx with rfl | rfl | rfl | rfl | rfl | rfl | rfl | rfl <;> omega
/-- The hash behind the padding. -/
def padS (s : HS) (m : Nat) : HS := writeH (writeH (pushP s 128) (List.replicate ((55 - (m : Int)) % 64).toNat 0)) (len8 ((m : Int) * 8))
/-- Byte i of the words. -/
def byteAt (ws : List Int) (i : Nat) : Int := ws[i / 4]?.getD 0 / 2 ^ (24 - i % 4 * 8) % 256
/-- The bytes laid up to i. -/
def outC (ws : List Int) (i : Nat) : Array Value := ((List.range 32).map fun j => if j < i then Value.int .u8 (byteAt ws j) else .int .u8 0).toArray
theorem outC_set {ws : List Int} {i : Nat} (h : i < 32) : (outC ws i).setIfInBounds i (.int .u8 (byteAt ws i)) = outC ws (i + 1) := by
 unfold outC
 rw [List.setIfInBounds_toArray]
 congr 1
 apply List.ext_getElem (by simp)
 intro k h1 h2
 simp only [List.getElem_set, List.getElem_map, List.getElem_range]
 by_cases hk : i = k
 ·subst hk; simp
 ·rw [if_neg hk]
  have e : (k < i + 1) ↔ (k < i) := by omega
  simp only [e]
theorem outC_get {ws : List Int} {i : Nat} (h : i < 32) : (outC ws i)[i]? = some (.int .u8 0) := by
 unfold outC
 rw [List.getElem?_toArray, List.getElem?_map, List.getElem?_range h]
 simp
theorem outC_size {ws : List Int} {i : Nat} : (outC ws i).size = 32 := by simp [outC]
theorem outC_one {ws : List Int} {i : Nat} : (outC ws i).all (·.oneCell') = true := by
 rw [Array.all_eq_true']
 intro x hx
 simp only [outC, List.mem_toArray, List.mem_map] at hx
 obtain ⟨j, _, rfl⟩ := hx
 split <;> rfl
def zero32 : Array Value := (List.replicate 32 (Value.int .u8 0)).toArray

set_option maxHeartbeats 1000000 in
set_option maxRecDepth 100000 in
theorem sum_walk (p : Nat) (s : HS) (m : Nat) (w : World) (hs : Ok s m) (hm : m ≤ 100000000000) (hp : w.heap[p]? = some (.cells (hashC s.ws s.rest s.many) 111 (0, 0))) :
 Calls Tryd.prog 67 #[.pointer (some ⟨p, 0, none⟩)] w fun e w' => e = .returned (.agg (outC (padS s m).ws 32)) ∧ Below w.heap.size w w' := by
 have hlt := hlt_ hp
 have hz := hash_size (many := s.many) hs.ws hs.rest
 have h1 := @hash_one s.ws s.rest s.many
 have hc72 := hash_many (many := s.many) hs.ws hs.rest
 generalize hH : hashC s.ws s.rest s.many = H at hp hz h1 hc72
 have HP := Lib.hid (And.intro hp (And.intro hz (And.intro h1 (And.intro hc72 hH))))
 have HS_ := Lib.hid (And.intro hs hlt)
 clear hp hs hz h1 hlt hc72 hH
 go_enter Tryd.func67, Tryd.ntmps67
 go_upto_region 1 with (fail)
 have q0 : (w.alloc (.cells zero32 82)).heap[w.heap.size]? = some (.cells zero32 82 (0, 0)) := heap_alloc_new w _
 have q1 : (w.alloc (.cells zero32 82)).heap[p]? = some (.cells H 111 (0, 0)) := (heap_alloc_old w _ HS_.out.2).trans HP.out.1
 have q2 : Below w.heap.size w (w.alloc (.cells zero32 82)) := (Below.refl _ _).alloc (Nat.le_refl _) _
 have q3 : (w.alloc (.cells zero32 82)).heap.size = w.heap.size + 1 := Array.size_push ..
 change Code.wp _ _ _ _ (w.alloc (.cells zero32 82))
 generalize w.alloc (.cells zero32 82) = wa at q0 q1 q2 q3 ⊢
 refine wp_region_lit ?_
 refine valL rfl (v := .pointer (some ⟨p, 0, none⟩)) (w1 := wa) (by go_simp; try rfl) ?_
 refine valL rfl (v := .pointer (some ⟨p, 0, none⟩)) (w1 := wa) (by go_simp; try rfl) ?_
 refine wpList_load_row rfl 111 (.tmp 9) rfl p rfl 111 H (0, 0) _ q1 Tryd.underlying111 rfl (by rw [HP.out.2.1]; exact infoH) ?_
 refine valL rfl (v := .pointer (some ⟨wa.heap.size, 0, none⟩)) (w1 := wa.alloc (.cells (hashC (List.replicate 8 0) (List.replicate 64 0) 0) 111)) (by go_simp; try rfl) ?_
 have u0 : (wa.alloc (.cells (hashC (List.replicate 8 0) (List.replicate 64 0) 0) 111)).heap[w.heap.size + 1]? = some (.cells (hashC (List.replicate 8 0) (List.replicate 64 0) 0) 111 (0, 0)) := by rw [← q3]; exact heap_alloc_new wa _
 have u1 := (heap_alloc_old wa (.cells (hashC (List.replicate 8 0) (List.replicate 64 0) 0) 111) (hlt_ q1)).trans q1
 have u2 := (heap_alloc_old wa (.cells (hashC (List.replicate 8 0) (List.replicate 64 0) 0) 111) (hlt_ q0)).trans q0
 have u3 := q2.alloc (by rw [q3]; omega) (.cells (hashC (List.replicate 8 0) (List.replicate 64 0) 0) 111)
 have u4 : (hashC (List.replicate 8 0) (List.replicate 64 0) 0).size = H.size := by rw [HP.out.2.1]; exact hash_size (by simp) (by simp)
 rw [q3]
 generalize wa.alloc (.cells (hashC (List.replicate 8 0) (List.replicate 64 0) 0) 111) = wb at u0 u1 u2 u3 ⊢
 generalize hashC (List.replicate 8 0) (List.replicate 64 0) 0 = H0 at u0 u4
 clear q0 q1 q2 q3 wa
 refine wpList_store_row rfl 111 (.tmp 3) (.tmp 10) rfl (w.heap.size + 1) H rfl rfl 111 H0 u0 (by rw [HP.out.2.1]; exact infoH) u4 HP.out.2.2.1 ?_
 have v0 : (wb.setRow (w.heap.size + 1) H).heap[w.heap.size + 1]? = some (.cells H 111 (0, 0)) := setRow_heap wb _ _ _ _ _ u0
 have v1 := (setRow_other wb (w.heap.size + 1) p H (by have := HS_.out.2; omega)).trans u1
 have v2 := (setRow_other wb (w.heap.size + 1) w.heap.size H (by omega)).trans u2
 have v3 := below_setRow u3 (g := w.heap.size + 1) (by omega) H
 generalize wb.setRow (w.heap.size + 1) H = wc at v0 v1 v2 v3 ⊢
 clear u0 u1 u2 u3 u4 wb H0
 rw [← HP.out.2.2.2.2] at v0
 have HSS : Hid (SS w wc p H zero32 s) := Lib.hid ⟨v0, v2, v1, v3⟩
 clear v0 v1 v2 v3
 refine wpList_nil ?_
 go_upto_region 2 with (fail)
 have HW1 := Lib.hid (byte_walk w wc p H zero32 s m 128 HSS.out HS_.out.2 HS_.out.1 (by omega) (by decide))
 go_wp2_with (fail)
 refine HW1.out.mono ?_
 rintro e wd ⟨rfl, hd⟩
 have HSD := Lib.hid (And.intro hd (pushP_ok HS_.out.1 (by omega) (by decide : (0 : Int) ≤ 128 ∧ (128 : Int) < 256)))
 clear hd HW1 HSS
 generalize wc.heap.size = n0
 clear wc
 obtain ⟨z, hz⟩ : ∃ z : Nat, z = ((55 - (m : Int)) % 64).toNat := ⟨_, rfl⟩
 have hz0 : z < 64 := by omega
 go_wp2
 go_loopw [] (fun wr => ∃ j : Nat, Hid (j ≤ z) ∧ Hid (SS w wr p H zero32 (writeH (pushP s 128) (List.replicate j 0)))) (fun wr => match wr.cell? ⟨w.heap.size + 1, 72, none⟩ with | some (.int _ v) => ((56 - v) % 64).toNat | _ => 0)
 case atStart => exact ⟨0, Lib.hid (Nat.zero_le _), Lib.hid HSD.out.1⟩
 case round =>
  obtain ⟨j, HJ, HSJ⟩ := hrel
  have hok := writeH_ok (List.replicate j 0) HSD.out.2 (by have := HJ.out; simp; omega) (fun x hx => by rw [List.eq_of_mem_replicate hx]; decide)
  rw [List.length_replicate] at hok
  have hnx : writeH (pushP s 128) (List.replicate (j + 1) 0) = pushP (writeH (pushP s 128) (List.replicate j 0)) 0 := by
   unfold writeH
   rw [List.replicate_succ', List.foldl_append]
   rfl
  generalize hT : writeH (pushP s 128) (List.replicate j 0) = t at HSJ hok hnx
  obtain ⟨M, hM⟩ : ∃ M, M = m + 1 + j := ⟨_, rfl⟩
  rw [← hM] at hok
  have HT := Lib.hid (And.intro hT (And.intro hM (And.intro hok hnx)))
  have c72 := (Lib.cell_of_heap HSJ.out.hx 72).trans (hash_many hok.ws hok.rest)
  rw [hok.many] at c72
  have HMB := Lib.hid (show M ≤ 100000000065 by have := HJ.out; omega)
  obtain ⟨q, hq⟩ : ∃ q, q = M % 64 := ⟨_, rfl⟩
  have hM2t : Int.tmod (M : Int) 64 = (q : Int) := by rw [Int.tmod_eq_emod_of_nonneg (by omega)]; omega
  have hM2r : (M : Int) % 64 = (q : Int) := by omega
  have HQ := Lib.hid hq
  clear hT hM hok hnx hq
  by_cases h56 : q = 56
  ·have hfin : padS s m = writeH t (len8 ((m : Int) * 8)) := by
    unfold padS
    rw [← HT.out.1]
    have h1 := HT.out.2.1
    have h2 := HQ.out
    have h3 := HJ.out
    have : j = z := by omega
    rw [this, hz]
   have cp := (Lib.cell_of_heap HSJ.out.hp 72).trans HP.out.2.2.2.1
   rw [HS_.out.1.many] at cp
   have hokf := writeH_ok (len8 ((m : Int) * 8)) HT.out.2.2.1 (by have := HMB.out; simp [len8]; omega) (len8_bytes _)
   have HFIN := Lib.hid (And.intro hfin hokf)
   clear hfin hokf
   subst h56
   have HBY := Lib.hid (octet_Bytes.calls 12 ((m : Int) * 8) 8 (len8 ((m : Int) * 8)) true wr (Tlv.by8 _))
   go_wp2_with (fail)
   refine HBY.out.mono ?_
   rintro e we ⟨v0, rfl, hR, hB⟩
   obtain ⟨A8, c8, rfl, hc8, hC8⟩ := Kd.R_reads hR
   have hne8 := Kd.R_base hR
   have HSE := Lib.hid (HSJ.out.below hB)
   have hlx := hlt_ HSJ.out.hx
   have HW3 := Lib.hid (piece_walk w we p H zero32 t M A8 c8 (len8 ((m : Int) * 8)) HSE.out HS_.out.2 HT.out.2.2.1 (by have := HMB.out; simp [len8]; omega) hc8 (len8_bytes _) hC8 (fun ad e _ => by subst e; have := hne8 ad.block rfl; omega))
   clear hR hB hC8 hne8 HBY HSJ
   have hl8 : (len8 ((m : Int) * 8)).length = 8 := rfl
   generalize hL8 : len8 ((m : Int) * 8) = L8 at HW3 HFIN hl8 hc8
   rw [hl8] at HW3 hc8
   rw [hl8]
   have hHL8 := Lib.hid hL8
   clear hL8 hl8
   go_wp2_with (fail)
   refine HW3.out.mono ?_
   rintro e wf ⟨rfl, hd⟩
   have HSF := Lib.hid hd
   clear hd HW3 HSE c72 cp hM2t hM2r
   clear we
   generalize hfs : writeH t L8 = fs at HFIN HSF
   have HFS := Lib.hid HFIN.out
   clear hfs HFIN HMB HQ HT HJ hHL8 HSD hz hz0 hc8
   have hg0 : (wf.alloc (.cells (outC fs.ws 0) 82)).heap[wf.heap.size]? = some (.cells (outC fs.ws 0) 82 (0, 0)) := heap_alloc_new wf _
   have HG0 := Lib.hid (And.intro hg0 (HSF.out.alloc (.cells (outC fs.ws 0) 82)))
   obtain ⟨g6, hg6⟩ : ∃ g6, g6 = wf.heap.size := ⟨_, rfl⟩
   have HG6 := Lib.hid (show w.heap.size + 1 < g6 by have := hlt_ HSF.out.hx; omega)
   clear hg0
   go_wp2
   rw [← hg6] at HG0 ⊢
   clear hg6 HSF
   go_loopw [30] (fun iv wr => ∃ i : Nat, i ≤ 32 ∧ iv = .int .i64 i ∧ Hid (wr.heap[g6]? = some (.cells (outC fs.ws i) 82 (0, 0))) ∧ Hid (SS w wr p H zero32 fs)) (fun iv _ => 32 - (intOf iv).toNat)
   case atStart => exact ⟨0, Nat.zero_le _, rfl, Lib.hid HG0.out.1, Lib.hid HG0.out.2⟩
   case round =>
    obtain ⟨i, hi, rfl, HO, HSR⟩ := hrel
    by_cases h32 : i < 32
    ·have hd1 := eq_true (show (i : Int) < 32 by omega)
     have hd2 : decide ((i : Int) < 32) = true := decide_eq_true (by omega)
     obtain ⟨q, hq⟩ : ∃ q, q = i / 4 := ⟨_, rfl⟩
     obtain ⟨r, hr⟩ : ∃ r, r = i % 4 := ⟨_, rfl⟩
     obtain ⟨b, hb⟩ : ∃ b, b = r * 8 := ⟨_, rfl⟩
     obtain ⟨sh, hsh⟩ : ∃ sh, sh = 24 - b := ⟨_, rfl⟩
     have e1 : Int.tdiv (i : Int) 4 = (q : Int) := by rw [Int.tdiv_eq_ediv_of_nonneg (by omega)]; omega
     have e2 : (i : Int) / 4 = (q : Int) := by omega
     have e3 : Int.tmod (i : Int) 4 = (r : Int) := by rw [Int.tmod_eq_emod_of_nonneg (by omega)]; omega
     have e4 : (i : Int) % 4 = (r : Int) := by omega
     have e5 : (r : Int) * 8 = (b : Int) := by omega
     have e6 : 24 - (b : Int) = (sh : Int) := by omega
     have e7 : IntKind.i64.wrap ((r : Int) * 8) = (b : Int) := by simp [IntKind.wrap, IntKind.bits, IntKind.signed]; omega
     have e8 : IntKind.i64.wrap (24 - (b : Int)) = (sh : Int) := by simp [IntKind.wrap, IntKind.bits, IntKind.signed]; omega
     have gq := eq_true (show (q : Int) < 8 by omega)
     have cq := hash_at q (by rw [HFS.out.2.ws]; omega) HSR.out.hx
     have co := (Lib.cell_of_heap HO.out i).trans (outC_get h32)
     have fo := Lib.frozen_of_heap HO.out i
     have HN := Lib.hid (And.intro hq (And.intro hr (And.intro hb hsh)))
     clear hq hr hb hsh
     go_wp2
     go_roundw
     case rel =>
      refine ⟨i + 1, by omega, by go_num, Lib.hid ?_, Lib.hid ?_⟩
      ·have h := heap_setCell_same wr g6 i _ _ (.int .u8 (byteAt fs.ws i)) HO.out
       rw [outC_set h32] at h
       unfold byteAt at h
       obtain ⟨h1, h2, h3, h4⟩ := HN.out
       subst h1 h2 h3 h4
       exact h
      ·have hlt := HG6.out
       have hp2 := HS_.out.2
       exact ⟨(heap_setCell_other _ _ _ _ (by show w.heap.size + 1 ≠ g6; omega)).trans HSR.out.hx, (heap_setCell_other _ _ _ _ (by show w.heap.size ≠ g6; omega)).trans HSR.out.hr, (heap_setCell_other _ _ _ _ (by show p ≠ g6; omega)).trans HSR.out.hp, HSR.out.b.setCell (p := ⟨g6, i, none⟩) (by show w.heap.size ≤ g6; omega) _⟩
     case measure => simp [intOf]; omega
    ·have hi32 : i = 32 := by omega
     subst hi32
     have hd2 : decide (((32 : Nat) : Int) < 32) = false := by decide
     have hd1 := eq_false (show ¬ ((32 : Nat) : Int) < 32 by decide)
     have hfe := HFS.out.1
     generalize hM : outC fs.ws 32 = O at HO
     have hsz : O.size = 32 := by rw [← hM]; exact outC_size
     have hone : O.all (·.oneCell') = true := by rw [← hM]; exact outC_one
     rw [← hfe] at hM
     have HM := Lib.hid (And.intro hM (And.intro hsz hone))
     clear hM hfe hsz hone
     go_upto_region 13 with (fail)
     refine wp_region_lit ?_
     refine wpList_load_row rfl 82 (.tmp 6) rfl g6 rfl 82 O (0, 0) _ HO.out Tryd.underlying82 rfl (by rw [HM.out.2.1]; exact infoO) ?_
     refine wpList_store_row rfl 82 (.tmp 2) (.tmp 47) rfl w.heap.size O rfl rfl 82 zero32 HSR.out.hr (by rw [HM.out.2.1]; exact infoO) (by rw [HM.out.2.1]; rfl) HM.out.2.2 ?_
     have v0 : (wr.setRow w.heap.size O).heap[w.heap.size]? = some (.cells O 82 (0, 0)) := setRow_heap wr _ _ _ _ _ HSR.out.hr
     have v1 := below_setRow HSR.out.b (g := w.heap.size) (Nat.le_refl _) O
     generalize wr.setRow w.heap.size O = wz at v0 v1 ⊢
     have HV := Lib.hid (And.intro v0 v1)
     clear v0 v1 HSR HO
     refine wpList_nil ?_
     go_wp2
     have hi : (Tryd.prog.info? 82).map (·.size) = some O.size := by rw [HM.out.2.1]; exact infoO
     refine bodyPost_ret (v := .agg O) ?_ rfl ⟨by rw [HM.out.1], HV.out.2⟩
     exact results_cell_row (P := Tryd.prog) (p := 2) (ty := 82) Tryd.results67 _ _ w.heap.size 82 O (0, 0) _ rfl HV.out.1 Tryd.underlying82 rfl hi
  ·have hqi : ((q : Int) != 56) = true := by rw [bne_iff_ne]; omega
   have hqi2 := eq_false (show ¬ (q : Int) = 56 by omega)
   have HW2 := Lib.hid (byte_walk w wr p H zero32 t M 0 HSJ.out HS_.out.2 HT.out.2.2.1 (by have := HMB.out; omega) (by decide))
   go_wp2_with (fail)
   refine HW2.out.mono ?_
   rintro e wd2 ⟨rfl, hd⟩
   have hok2 := pushP_ok HT.out.2.2.1 (by have := HMB.out; omega) (by decide : (0 : Int) ≤ 0 ∧ (0 : Int) < 256)
   have c72b := (Lib.cell_of_heap hd.hx 72).trans (hash_many hok2.ws hok2.rest)
   rw [hok2.many] at c72b
   have HD2 := Lib.hid hd
   have HC72 := Lib.hid (And.intro c72 c72b)
   clear hd c72 c72b hok2 HW2
   go_wp2
   go_roundw
   case rel =>
    refine ⟨j + 1, Lib.hid ?_, Lib.hid ?_⟩
    ·have h1 := HT.out.2.1
     have h2 := HQ.out
     have h3 := HJ.out
     omega
    ·rw [HT.out.2.2.2]
     exact HD2.out
   case measure =>
    rw [HC72.out.1, HC72.out.2]
    have h2 := HQ.out
    dsimp only
    omega
end Go.Proofs.YtmbgjhkemlliaaaDoor.Sha
end

section
set_option linter.unusedVariables false
set_option linter.unusedSimpArgs false
namespace Go.Proofs.YtmbgjhkemlliaaaDoor.Tlv
open Go.RowKit Go.Proofs.YtmbgjhkemlliaaaDoorW.PrintWords Go.Proofs.YtmbgjhkemlliaaaDoorW.PrintLast Go.Proofs.YtmbgjhkemlliaaaDoorW.PrintMore Go.Proofs.YtmbgjhkemlliaaaDoor.PT

/-- A row of bytes of one's own, above base, that is not block q. -/
abbrev OwnQ (w : World) (base q : Nat) (A : Option Addr) (c : Nat) (l : List Int) : Prop := (Kd.int .u8).R 5 w base (fun k => base ≤ k ∧ k ≠ q) (.slice A l.length c) l
theorem addq_step {ops : Array Oper} {o : Oper} {a : Act} {Q : Exit → Act → World → Prop} {Kc : Act → World → Prop} (W : World) (base q : Nat) (A : Option Addr) (co : Nat) (lo : List Int) (Ax : Option Addr) (cx : Nat) (ys : List Int) (m : Nat) (s x : Operand) (hw : Region.wanted o (yielded ops a.tmps) = true)
 (ho : o.op = .call { callee := .builtin .append, args := #[s, x], argTypes := #[22, 22] }) (hs : a.eval s = .slice A lo.length co) (hx : a.eval x = .slice Ax m cx)
 (HO : OwnQ W base q A co lo) (HR : ReadsInt W .u8 Ax ys.length ys) (hm : ys.length = m) (hb : base ≤ W.heap.size) (hl : lo.length + m ≤ 1000000000) (hq : q < W.heap.size)
 (h : ∀ w1 A1 c1, OwnQ w1 base q A1 c1 (lo ++ ys) → Below base W w1 → w1.heap[q]? = W.heap[q]? → Kc (a.put o.dst (.slice A1 (lo ++ ys).length c1)) w1) :
 if Region.wanted o (yielded ops a.tmps) = true then Oper.wp Tryd.prog o a W Kc Q else Kc (a.put o.dst undef) W := by
 refine Kd.R_append_rows_step (Kd.int .u8) (w0 := W) base hw s x 22 5 (.int .u8 0) 1 ho Tryd.underlying22 infoByte rfl (by decide) (by omega) _ lo ys Ax m cx (fun k => base ≤ k ∧ k ≠ q) (fun _ => False) hs hx HO (C_of_reads HR hm) (fun x cs h => h) (fun _ h => h.elim) (fun k h => ⟨Nat.le_trans hb h, by omega⟩) (Below.refl _ _) hb (by omega) ?_
 intro v1 w1 ho1 hb1 hg1 _
 obtain ⟨Av, cv, rfl⟩ := Kd.R_slice ho1
 refine h w1 Av cv ho1 hb1 ?_
 have h1 := HO.1
 exact hg1.block q hq (fun e => by first | exact (h1 q e).2 rfl | exact (h1 q e.symm).2 rfl)
/-- A digit. -/
def digP (x : Int) : Int := [48, 49, 50, 51, 52, 53, 54, 55, 56, 57, 97, 98, 99, 100, 101, 102].getD x.toNat 0

set_option maxHeartbeats 1000000 in
set_option maxRecDepth 100000 in
theorem hex1_walk (x : Int) (h0 : 0 ≤ x) (h1 : x < 16) (base q : Nat) (A : Option Addr) (c : Nat) (l : List Int) (w : World) (tp : TypeId) (hp : w.heap[q]? = some (.cells #[.slice A l.length c] tp (0, 0))) (hown : OwnQ w base q A c l) (hb : base ≤ w.heap.size) (hl : l.length ≤ 1000000) (hbq : base ≤ q) :
 Calls Tryd.prog 68 #[.int .u8 x, .pointer (some ⟨q, 0, none⟩)] w fun e w' => e = .returned (.tuple #[]) ∧ ∃ A' c', w'.heap[q]? = some (.cells #[.slice A' (l ++ [digP x]).length c'] tp (0, 0)) ∧ OwnQ w' base q A' c' (l ++ [digP x]) ∧ Below base w w' ∧ base ≤ w'.heap.size := by
 have hd : ∀ (h : x.toNat < (ByteArray.mk #[48, 49, 50, 51, 52, 53, 54, 55, 56, 57, 97, 98, 99, 100, 101, 102]).size), (((ByteArray.mk #[48, 49, 50, 51, 52, 53, 54, 55, 56, 57, 97, 98, 99, 100, 101, 102])[x.toNat]'h).toNat : Int) = digP x := by
  have hall : ∀ n : Fin 16, (((ByteArray.mk #[48, 49, 50, 51, 52, 53, 54, 55, 56, 57, 97, 98, 99, 100, 101, 102])[n.val]'n.isLt).toNat : Int) = [48, 49, 50, 51, 52, 53, 54, 55, 56, 57, 97, 98, 99, 100, 101, 102].getD n.val 0 := by decide
  intro h
  exact hall ⟨x.toNat, by omega⟩
 have hqs := heap_lt hp
 have a0 : w.drew.cell? ⟨q, 0, none⟩ = some (.slice A l.length c) := by have := Lib.cell_of_heap hp 0; simpa using this
 have HB : Hid ((w.drew.alloc (.cells #[.int .u8 (digP x)] 5)).cell? ⟨q, 0, none⟩ = some (.slice A l.length c) ∧ OwnQ (w.drew.alloc (.cells #[.int .u8 (digP x)] 5)) base q A c l ∧ ReadsInt (w.drew.alloc (.cells #[.int .u8 (digP x)] 5)) .u8 (some ⟨w.drew.heap.size, 0, none⟩) [digP x].length [digP x] ∧ base ≤ (w.drew.alloc (.cells #[.int .u8 (digP x)] 5)).heap.size ∧ l.length + 1 ≤ 1000000000 ∧ q < (w.drew.alloc (.cells #[.int .u8 (digP x)] 5)).heap.size ∧
  (∀ (w5 : World) (A5 : Option Addr) (c5 : Nat), OwnQ w5 base q A5 c5 (l ++ [digP x]) → Below base (w.drew.alloc (.cells #[.int .u8 (digP x)] 5)) w5 → w5.heap[q]? = (w.drew.alloc (.cells #[.int .u8 (digP x)] 5)).heap[q]? → w5.cell? ⟨q, 0, none⟩ = some (.slice A l.length c) ∧ w5.heap[q]? = some (.cells #[.slice A l.length c] tp (0, 0)) ∧ w5.frozen? ⟨q, 0, none⟩ = false ∧ OwnQ w5 base q A5 c5 (l ++ [digP x]) ∧ Below base w w5)) := by
  have hbd : Below w.heap.size w w.drew := (Below.refl _ _).drew
  have hba : Below w.heap.size w (w.drew.alloc (.cells #[.int .u8 (digP x)] 5)) := hbd.alloc (Nat.le_refl _) _
  have hp2 := (hba.block q hqs).trans hp
  have hnew : (w.drew.alloc (.cells #[.int .u8 (digP x)] 5)).heap[w.drew.heap.size]? = some (.cells #[.int .u8 (digP x)] 5 (0, 0)) := heap_alloc_new w.drew _
  refine Lib.hid ⟨?_, Kd.R_below hown hba, ?_, by have := hba.size; omega, by omega, by have := hba.size; omega, fun w5 A5 c5 ho5 hb5 hq5 => ?_⟩
  ·have := Lib.cell_of_heap hp2 0; simpa using this
  ·have hR := R_ints (k := .u8) (base := 0) (ok := fun _ => True) (l := [digP x]) hnew (Nat.zero_le _) trivial (by simp)
   obtain ⟨_, _, f1, _, k1⟩ := Kd.R_reads hR
   injection f1 with f1 _ f2
   subst f1 f2
   exact reads_of_C k1
  ·have hp5 := hq5.trans hp2
   refine ⟨?_, hp5, Lib.frozen_of_heap hp5 0, ho5, (hba.mono hb).trans hb5⟩
   have := Lib.cell_of_heap hp5 0
   simpa using this
 clear hp hown
 go_enter Tryd.func68, Tryd.ntmps68
 refine start_ (n := 6) (S := fun w' => w'.cell? ⟨q, 0, none⟩ = some (.slice A l.length c)) (ds := [5]) #[false, false, false, false, false, false] (by kernel_rfl) rfl rfl a0 (fun hHeld => ?_)
 refine take_ (i := 0) (N := some 3) (v := ?_) (a' := ?_) #[true, false, false, false, false, false] rfl rfl (by kernel_rfl) (fun _ _ _ h => h) (Or.inl ⟨by rfl, ?_⟩) hHeld ?_ ?_
 rotate_left
 ·rintro w' s0
  go_simp
  with_reducible rfl
 rotate_left
 ·simp only [Act.put, List.setIfInBounds_toArray, List.set_cons_zero, List.set_cons_succ, i64_w, i32_w]
  rfl
 refine pure_ (i := 1) (N := some 4) (v := ?_) (a' := ?_) #[true, true, false, false, false, false] rfl rfl (by kernel_rfl) (fun _ _ _ h => h) (Or.inl ⟨by rfl, ?_⟩) ?_ ?_
 rotate_left
 ·intro w'
  go_simp
  with_reducible rfl
 rotate_left
 ·simp only [Act.put, List.setIfInBounds_toArray, List.set_cons_zero, List.set_cons_succ, i64_w, i32_w]
  rfl
 refine pure_ (i := 2) (N := some 5) (v := ?_) (a' := ?_) #[true, true, true, false, false, false] rfl rfl (by kernel_rfl) (fun _ _ _ h => h) (Or.inl ⟨by rfl, ?_⟩) ?_ ?_
 rotate_left
 ·intro w'
  go_simp
  with_reducible rfl
 rotate_left
 ·simp only [Act.put, List.setIfInBounds_toArray, List.set_cons_zero, List.set_cons_succ, i64_w, i32_w]
  rfl
 refine one_ (i := 3) (N := some 6) #[true, true, true, true, false, false] rfl rfl (by kernel_rfl) (by decide) (fun K hK => ?_)
 refine event_step (by rfl) (v := .slice (some ⟨w.drew.heap.size, 0, none⟩) 1 1) (w1 := w.drew.alloc (.cells #[.int .u8 (digP x)] 5)) (by go_simp) ?_
 refine hK.out _ _ HB.out.1 (fun hHeld => ?_)
 clear hK K
 refine norm_ (a' := ?_) ?_ ?_
 rotate_left
 ·show Act.put _ (some 6) _ = _
  simp only [Act.put, List.setIfInBounds_toArray, List.set_cons_zero, List.set_cons_succ, i64_w, i32_w]
  rfl
 refine one_ (i := 4) (N := some 7) #[true, true, true, true, true, false] rfl rfl (by kernel_rfl) (by decide) (fun K hK => ?_)
 refine addq_step (w.drew.alloc (.cells #[.int .u8 (digP x)] 5)) base q A c l (some ⟨w.drew.heap.size, 0, none⟩) 1 [digP x] 1 (.tmp 3) (.tmp 6) (by rfl) rfl (by rfl) (by rfl) HB.out.2.1 HB.out.2.2.1 rfl HB.out.2.2.2.1 HB.out.2.2.2.2.1 HB.out.2.2.2.2.2.1 ?_
 intro w5 A5 c5 ho5 hb5 hq5
 have HP := Lib.hid (HB.out.2.2.2.2.2.2 w5 A5 c5 ho5 hb5 hq5)
 clear ho5 hb5 hq5
 refine hK.out _ _ HP.out.1 (fun hHeld => ?_)
 clear hK K
 refine norm_ (a' := ?_) ?_ ?_
 rotate_left
 ·show Act.put _ (some 7) _ = _
  simp only [Act.put, List.setIfInBounds_toArray, List.set_cons_zero, List.set_cons_succ, i64_w, i32_w]
  rfl
 refine last_ (i := 5) (N := none) #[true, true, true, true, true, true] rfl rfl (by kernel_rfl) (by decide) (fun K hK => ?_)
 have hz1 := HP.out.1
 have hz2 := HP.out.2.2.1
 refine skip_step (by rfl) (w1 := w5.setCell ⟨q, 0, none⟩ (.slice A5 (l ++ [digP x]).length c5)) (by go_simp; try rfl) ?_
 refine hK.out _ _ ?_
 clear hK K
 refine done_ (by kernel_rfl) ?_
 have hz3 := heap_setCell_same w5 q 0 _ _ (.slice A5 (l ++ [digP x]).length c5) HP.out.2.1
 have hB := Below.setCell HP.out.2.2.2.2 (p := ⟨q, 0, none⟩) hbq (.slice A5 (l ++ [digP x]).length c5)
 have ho := HP.out.2.2.2.1
 have hs5 := HP.out.2.2.2.2.size
 go_end0
 exact ⟨rfl, A5, c5, hz3, Kd.R_mono (Kd.R_move (w1 := w5.setCell ⟨q, 0, none⟩ (.slice A5 (l ++ [digP x]).length c5)) (Kd.R_bound ho) (fun k hk => heap_setCell_other _ _ _ _ hk.1.2)) (fun k hk => hk.1), hB, by simpa using (show base ≤ w5.heap.size by omega)⟩

end Go.Proofs.YtmbgjhkemlliaaaDoor.Tlv
end

section
set_option linter.unusedVariables false
set_option linter.unusedSimpArgs false
namespace Go.Proofs.YtmbgjhkemlliaaaDoor.Tlv
open Go.RowKit Go.Proofs.YtmbgjhkemlliaaaDoorW.PrintWords Go.Proofs.YtmbgjhkemlliaaaDoorW.PrintLast Go.Proofs.YtmbgjhkemlliaaaDoorW.PrintMore Go.Proofs.YtmbgjhkemlliaaaDoor.PT

/-- The digits of bytes. -/
def hexP : List Int → List Int
 | [] => []
 | x :: l => digP (x / 16) :: digP (x % 16) :: hexP l
theorem hexP_snoc : ∀ (l : List Int) (x : Int), hexP (l ++ [x]) = hexP l ++ [digP (x / 16)] ++ [digP (x % 16)]
 | [], x => rfl
 | y :: l, x => by rw [List.cons_append, hexP, hexP, hexP_snoc l x]; simp
theorem hexP_len : ∀ l : List Int, (hexP l).length = 2 * l.length
 | [] => rfl
 | x :: l => by rw [hexP, List.length_cons, List.length_cons, hexP_len l, List.length_cons]; omega
theorem R_room {k : IntKind} {w : World} {g t base n : Nat} {cs : Array Value} {ok : Nat → Prop} (h : w.heap[g]? = some (.cells cs t (0, 0))) (hs : cs.size = n) (hb : base ≤ g) (hk : ok g) (hn : n ≤ 1000000) :
 (Kd.int k).R t w base ok (.slice (some ⟨g, 0, none⟩) 0 n) [] :=
 ⟨fun k' h' => by
  have : g = k' := by simpa [Value.ownBlock] using h'
  subst this
  exact hk, [], ⟨rfl, .inr ⟨g, n, cs, rfl, hb, h, Nat.zero_le _, by simp only [maxLen]; omega, by show cs.size = n * 1; omega, by simp⟩⟩, Kd.reps_scalar []⟩

theorem and15 (x : Int) (h0 : 0 ≤ x) (h1 : x < 256) : Go.bits .and .u8 x 15 = x % 16 := by
 have hall : ∀ n : Fin 256, Go.bits .and .u8 (n.val : Int) 15 = (n.val : Int) % 16 := by decide +kernel
 have := hall ⟨x.toNat, by omega⟩
 have e : ((x.toNat : Nat) : Int) = x := by omega
 simpa [e] using this

set_option maxHeartbeats 1000000 in
set_option maxRecDepth 100000 in
theorem hex_walk (A : Option Addr) (c : Nat) (l : List Int) (w : World) (hr : ReadsInt w .u8 A l.length l) (hc : l.length ≤ c) (hl : l.length ≤ 100000) (hv : ∀ x ∈ l, 0 ≤ x ∧ x < 256) :
 Calls Tryd.prog 52 #[.slice A l.length c] w fun e w' => e = .returned (.string (strOfNums (hexP l))) ∧ Below w.heap.size w w' := by
 have hmf : ∀ (fn : Fn) (first cap : Array Value) (w : World), (Instr.makeFunc fn first cap).run Tryd.prog w = .ok (.func fn first cap) w := fun _ _ _ _ => rfl
 have hw0 : IntKind.i64.wrap (2 * (l.length : Int)) = ((2 * l.length : Nat) : Int) := by simp [IntKind.wrap, IntKind.bits, IntKind.signed]; omega
 obtain ⟨n, hn⟩ : ∃ n, n = 2 * l.length := ⟨_, rfl⟩
 rw [← hn] at hw0
 have hmk := run_make_room (P := Tryd.prog) 22 5 (.int .u8 0) 1 Tryd.underlying22 infoByte rfl .i64 .i64 n (by omega) (by omega)
 have hm1 : (madeCells #[Value.int .u8 0] n).size = n := by simp [madeCells]
 have h1 : (w.alloc (.cells (madeCells #[Value.int .u8 0] n) 5)).heap[w.heap.size]? = some (.cells (madeCells #[Value.int .u8 0] n) 5 (0, 0)) := heap_alloc_new w _
 have h2 : ((w.alloc (.cells (madeCells #[Value.int .u8 0] n) 5)).alloc (.cells #[.slice (some ⟨w.heap.size, 0, none⟩) 0 n] 22)).heap[w.heap.size + 1]? = some (.cells #[.slice (some ⟨w.heap.size, 0, none⟩) 0 n] 22 (0, 0)) := by
  have := heap_alloc_new (w.alloc (.cells (madeCells #[Value.int .u8 0] n) 5)) (.cells #[.slice (some ⟨w.heap.size, 0, none⟩) 0 n] 22)
  simpa using this
 have hB2 : Below w.heap.size w ((w.alloc (.cells (madeCells #[Value.int .u8 0] n) 5)).alloc (.cells #[.slice (some ⟨w.heap.size, 0, none⟩) 0 n] 22)) := ((Below.refl _ _).alloc (Nat.le_refl _) _).alloc (by simp) _
 have hown : OwnQ ((w.alloc (.cells (madeCells #[Value.int .u8 0] n) 5)).alloc (.cells #[.slice (some ⟨w.heap.size, 0, none⟩) 0 n] 22)) w.heap.size (w.heap.size + 1) (some ⟨w.heap.size, 0, none⟩) n [] :=
  R_room (n := n) ((Below.heap_alloc _ _ _ (by simp)).trans h1) hm1 (Nat.le_refl _) ⟨Nat.le_refl _, by omega⟩ (by omega)
 have HST := Lib.hid (And.intro h2 (And.intro hown hB2))
 have HR := Lib.hid hr
 have HV := Lib.hid (And.intro hv hl)
 clear h1 h2 hB2 hown hm1 hn hr hv
 go_enter Tryd.func52, Tryd.ntmps52
 go_wp2
 go_loopw [13] (fun iv wr => ∃ (k : Nat) (A' : Option Addr) (c' : Nat), k ≤ l.length ∧ iv = .int .i64 k ∧ Hid (wr.heap[w.heap.size + 1]? = some (.cells #[.slice A' (hexP (l.take k)).length c'] 22 (0, 0))) ∧ Hid (OwnQ wr w.heap.size (w.heap.size + 1) A' c' (hexP (l.take k))) ∧ Hid (Below w.heap.size w wr)) (fun iv _ => l.length - (intOf iv).toNat)
 case atStart => exact ⟨0, _, _, Nat.zero_le _, rfl, Lib.hid HST.out.1, Lib.hid HST.out.2.1, Lib.hid HST.out.2.2⟩
 case round =>
  obtain ⟨k, A', c', hk, rfl, H1, H2, H3⟩ := hrel
  clear HST
  by_cases hlt : k < l.length
  ·have hd1 := eq_true (show (k : Int) < (l.length : Int) by omega)
   have hd2 : decide ((k : Int) < (l.length : Int)) = true := decide_eq_true (by omega)
   obtain ⟨ad, e, hcell⟩ := (ReadsInt_below HR.out H3.out).2.2 (by omega)
   subst e
   have hx0 := hcell k hlt
   have hm : l[k] ∈ l := List.getElem_mem hlt
   have hbx := HV.out.1 _ hm
   have hgd : l.getD k 0 = l[k] := by simp [List.getD, List.getElem?_eq_getElem hlt]
   obtain ⟨x, hx⟩ : ∃ x, l[k] = x := ⟨_, rfl⟩
   have htk : l.take (k + 1) = l.take k ++ [x] := by rw [← hx]; exact (List.take_append_getElem hlt).symm
   have hhx : hexP (l.take (k + 1)) = hexP (l.take k) ++ [digP (x / 16)] ++ [digP (x % 16)] := by rw [htk, hexP_snoc]
   rw [hx] at hgd hbx
   rw [hgd] at hx0
   have hq16 := hbx.1
   have hdv : 0 ≤ x / 16 ∧ x / 16 < 16 := by omega
   have hmd : 0 ≤ x % 16 ∧ x % 16 < 16 := by omega
   have h15 := and15 x hbx.1 hbx.2
   have hlk := hexP_len (l.take k)
   have htl : (l.take k).length = k := by simp; omega
   have HAD : Hid (∀ w1, Below w.heap.size w w1 → w1.cell? (ad.add k) = some (.int .u8 x)) := Lib.hid (fun w1 hB1 => by
    obtain ⟨ad', e', hcell'⟩ := (ReadsInt_below HR.out hB1).2.2 (by omega)
    injection e' with e'
    subst e'
    exact (hcell' k hlt).trans (by rw [hgd]))
   have hs1 : w.heap.size + 1 < wr.heap.size := heap_lt H1.out
   have HC1 := Lib.hid (hex1_walk (x / 16) hdv.1 hdv.2 w.heap.size (w.heap.size + 1) A' c' (hexP (l.take k)) wr _ H1.out H2.out (by omega) (by rw [hlk, htl]; have := HV.out.2; omega) (Nat.le_succ _))
   have HLK := Lib.hid (And.intro hlk (And.intro htl (And.intro hhx hmd)))
   have H15 := Lib.hid h15
   clear hcell hm hgd hx htk hhx hlk htl hs1 hdv hmd hbx
   go_wp2_with (fail)
   refine HC1.out.mono ?_
   rintro e w3 ⟨rfl, A3, c3, g1, g2, g3, g4⟩
   have hB3 := H3.out.trans g3
   have hx1 := HAD.out w3 hB3
   have HC2 := Lib.hid (hex1_walk (x % 16) HLK.out.2.2.2.1 HLK.out.2.2.2.2 w.heap.size (w.heap.size + 1) A3 c3 _ w3 _ g1 g2 g4 (by have := HLK.out.1; have := HLK.out.2.1; have := HV.out.2; simp; omega) (Nat.le_succ _))
   have HB3 := Lib.hid hB3
   clear g1 g2 g3 g4 hB3 HC1 H1 H2 H3 hx0
   have h15 := H15.out
   go_wp2_with (fail)
   refine HC2.out.mono ?_
   rintro e w4 ⟨rfl, A4, c4, g1, g2, g3, g4⟩
   have hBf := HB3.out.trans g3
   have G1 := Lib.hid (And.intro g1 (And.intro g2 hBf))
   clear g1 g2 g3 g4 hBf HC2 HB3 hx1
   go_wp2
   go_roundw
   case rel =>
    refine ⟨k + 1, A4, c4, by omega, by go_num, ?_, ?_, Lib.hid G1.out.2.2⟩
    ·rw [HLK.out.2.2.1]; exact Lib.hid G1.out.1
    ·rw [HLK.out.2.2.1]; exact Lib.hid G1.out.2.1
   case measure => simp [intOf]; omega
  ·have hd1 := eq_false (show ¬ ((k : Int) < (l.length : Int)) by omega)
   have hd2 : decide ((k : Int) < (l.length : Int)) = false := decide_eq_false (by omega)
   have hkk : l.take k = l := List.take_of_length_le (by omega)
   rw [hkk] at H1 H2
   have a0 := Lib.cell_of_heap H1.out 0
   obtain ⟨_, _, f1, _, k1⟩ := Kd.R_reads H2.out
   injection f1 with f1 _ f2
   subst f1 f2
   have hcv1 := Kd.C_string (P := Tryd.prog) (A := A') (c := c') Tryd.underlying22 Tryd.underlying5 Tryd.underlying9 k1
   clear k1 H1 H2 hkk
   go_wp2
   go_ret
   exact ⟨rfl, H3.out⟩

end Go.Proofs.YtmbgjhkemlliaaaDoor.Tlv
end

section
set_option linter.unusedVariables false
set_option linter.unusedSimpArgs false
namespace Go.Proofs.YtmbgjhkemlliaaaDoor.Sha
open Go.RowKit Go.Proofs.YtmbgjhkemlliaaaDoorW.PrintWords Go.Proofs.YtmbgjhkemlliaaaDoorW.PrintLast Go.Proofs.YtmbgjhkemlliaaaDoorW.PrintMore Go.Proofs.YtmbgjhkemlliaaaDoor.PT

def startHS : HS := ⟨startP, List.replicate 64 0, 0⟩
theorem start_ok : Ok startHS 0 := ⟨rfl, rfl, rfl, fun x hx => by rw [List.eq_of_mem_replicate hx]; decide⟩
/-- The hash's words behind all bytes. -/
def hashW (l : List Int) : List Int := (padS (writeH startHS l) l.length).ws

set_option maxHeartbeats 1000000 in
set_option maxRecDepth 100000 in
theorem of_walk (A : Option Addr) (c : Nat) (l : List Int) (w : World) (hl : l.length ≤ 100000000000) (hc : l.length ≤ c) (hv : ∀ x ∈ l, 0 ≤ x ∧ x < 256) (hC : (Kd.int .u8).C w A l.length l) :
 Calls Tryd.prog 51 #[.slice A l.length c] w fun e w' => e = .returned (.agg (outC (hashW l) 32)) ∧ Below w.heap.size w w' := by
 have HIN := Lib.hid (And.intro hl (And.intro hc (And.intro hv hC)))
 clear hl hc hv hC
 go_enter Tryd.func51, Tryd.ntmps51
 go_upto_region 1 with (fail)
 have q0 : (w.alloc (.cells zero32 82)).heap[w.heap.size]? = some (.cells zero32 82 (0, 0)) := heap_alloc_new w _
 have q2 : Below w.heap.size w (w.alloc (.cells zero32 82)) := (Below.refl _ _).alloc (Nat.le_refl _) _
 have q3 : (w.alloc (.cells zero32 82)).heap.size = w.heap.size + 1 := Array.size_push ..
 change Code.wp _ _ _ _ (w.alloc (.cells zero32 82))
 generalize w.alloc (.cells zero32 82) = wa at q0 q2 q3 ⊢
 have HA := Lib.hid (And.intro q0 (And.intro q2 q3))
 clear q0 q2 q3
 have HNEW := Lib.hid (new_walk wa)
 go_wp2_with (fail)
 refine HNEW.out.mono ?_
 rintro e wb ⟨rfl, hb⟩
 have k0 : wb.heap[w.heap.size + 1]? = some (.cells (hashC startHS.ws startHS.rest startHS.many) 111 (0, 0)) := by rw [hb, ← HA.out.2.2]; exact heap_alloc_new wa _
 have k1 : wb.heap[w.heap.size]? = some (.cells zero32 82 (0, 0)) := by rw [hb]; exact (heap_alloc_old wa _ (hlt_ HA.out.1)).trans HA.out.1
 have k2 : Below w.heap.size w wb := by rw [hb]; exact HA.out.2.1.alloc (by have := HA.out.2.2; omega) _
 rw [HA.out.2.2]
 have HB := Lib.hid (And.intro k0 (And.intro k1 k2))
 clear k0 k1 k2 hb HNEW HA
 clear wa
 have HWR := Lib.hid (write_walk (w.heap.size + 1) startHS 0 A c l wb start_ok (by have := HIN.out.1; omega) HIN.out.2.1 HIN.out.2.2.1 (Src.of (Kd.C_below HIN.out.2.2.2 HB.out.2.2) (fun ad e hn => by
  have := Kd.reads_of_C (d := (0 : Int)) HIN.out.2.2.2
  subst e
  obtain ⟨ad2, e2, h2⟩ := this.2.2 hn
  injection e2 with e2
  subst e2
  have h3 := World.block_lt_of_cell? w _ (h2 0 hn)
  have hb : (ad.add 0).block = ad.block := by unfold Addr.add; split <;> rfl
  omega)) HB.out.1)
 go_wp2_with (fail)
 refine HWR.out.mono ?_
 rintro e wc ⟨rfl, hx, hg⟩
 have k1 := (hg.block _ (hlt_ HB.out.2.1) (by simp)).trans HB.out.2.1
 have k2 := HB.out.2.2.trans (below_of_only hg (by omega) (by have := hlt_ HB.out.1; omega))
 have hokl := writeH_ok l start_ok (by have := HIN.out.1; omega) HIN.out.2.2.1
 rw [Nat.zero_add] at hokl
 have HSUM := Lib.hid (sum_walk (w.heap.size + 1) (writeH startHS l) l.length wc hokl HIN.out.1 hx)
 have HC := Lib.hid (And.intro k1 k2)
 clear k1 k2 hx hg hokl HWR HB
 clear wb
 go_wp2_with (fail)
 refine HSUM.out.mono ?_
 rintro e wd ⟨rfl, hd⟩
 have k1 := (hd.block _ (hlt_ HC.out.1)).trans HC.out.1
 have k2 := HC.out.2.trans (hd.mono (by have := hlt_ HC.out.1; omega))
 have HD := Lib.hid (And.intro k1 k2)
 clear k1 k2 hd HC HSUM
 clear wc
 have hsz := @outC_size (hashW l) 32
 have hone := @outC_one (hashW l) 32
 change _ at hsz
 show _
 dsimp only
 apply_assumption
 refine wpList_store_row rfl 82 (.tmp 2) (.tmp 9) rfl w.heap.size (outC (hashW l) 32) rfl rfl 82 zero32 HD.out.1 (by rw [hsz]; exact infoO) (by rw [hsz]; rfl) hone ?_
 generalize hO : outC (hashW l) 32 = O at hsz hone ⊢
 have HO := Lib.hid hO
 clear hO
 have v0 : (wd.setRow w.heap.size O).heap[w.heap.size]? = some (.cells O 82 (0, 0)) := setRow_heap wd _ _ _ _ _ HD.out.1
 have v1 := below_setRow HD.out.2 (g := w.heap.size) (Nat.le_refl _) O
 generalize wd.setRow w.heap.size O = wz at v0 v1 ⊢
 have HV := Lib.hid (And.intro v0 v1)
 clear v0 v1 HD
 refine wpList_nil ?_
 go_wp2
 have hi : (Tryd.prog.info? 82).map (·.size) = some O.size := by rw [hsz]; exact infoO
 refine bodyPost_ret (v := .agg O) ?_ rfl ⟨by rw [HO.out], HV.out.2⟩
 exact results_cell_row (P := Tryd.prog) (p := 2) (ty := 82) Tryd.results51 _ _ w.heap.size 82 O (0, 0) _ rfl HV.out.1 Tryd.underlying82 rfl hi

theorem outC_full {ws : List Int} {j : Nat} (h : j < ((List.range 20).map (byteAt ws)).length) : (outC ws 32)[j]? = some (.int .u8 (((List.range 20).map (byteAt ws)).getD j 0)) := by
 have h2 : j < 20 := by simpa using h
 unfold outC
 rw [List.getElem?_toArray, List.getElem?_map, List.getElem?_range (by omega)]
 simp [List.getD_eq_getElem?_getD, List.getElem?_map, List.getElem?_range h2, show j < 32 by omega]
/-- The name of bytes. -/
def nameH (l : List Int) : List Int := Tlv.hexP ((List.range 20).map (byteAt (hashW l)))

set_option maxHeartbeats 1000000 in
set_option maxRecDepth 100000 in
theorem name_walk (A : Option Addr) (c : Nat) (l : List Int) (w : World) (hl : l.length ≤ 100000000000) (hc : l.length ≤ c) (hv : ∀ x ∈ l, 0 ≤ x ∧ x < 256) (hC : (Kd.int .u8).C w A l.length l) :
 Calls Tryd.prog 30 #[.slice A l.length c] w fun e w' => e = .returned (.string (strOfNums (nameH l))) ∧ Below w.heap.size w w' := by
 have HOF := Lib.hid (of_walk A c l w hl hc hv hC)
 clear hl hc hv hC
 go_enter Tryd.func30, Tryd.ntmps30
 go_wp2_with (fail)
 refine HOF.out.mono ?_
 rintro e wd ⟨rfl, hd⟩
 have HD := Lib.hid hd
 clear hd HOF
 have hsz := @outC_size (hashW l) 32
 have hone := @outC_one (hashW l) 32
 dsimp only
 apply_assumption
 generalize hO : outC (hashW l) 32 = O at hsz hone ⊢
 have HO := Lib.hid hO
 clear hO
 refine valL rfl (v := .pointer (some ⟨wd.heap.size, 0, none⟩)) (w1 := wd.alloc (.cells zero32 82)) (by go_simp; try rfl) ?_
 refine wpList_store_row rfl 82 (.tmp 3) (.tmp 5) rfl wd.heap.size O rfl rfl 82 zero32 (heap_alloc_new wd _) (by rw [hsz]; exact infoO) (by rw [hsz]; rfl) hone ?_
 have v0 : ((wd.alloc (.cells zero32 82)).setRow wd.heap.size O).heap[wd.heap.size]? = some (.cells O 82 (0, 0)) := setRow_heap _ _ _ _ _ _ (heap_alloc_new wd _)
 have v1 := below_setRow (HD.out.alloc HD.out.size (.cells zero32 82)) (g := wd.heap.size) HD.out.size O
 generalize (wd.alloc (.cells zero32 82)).setRow wd.heap.size O = wz at v0 v1 ⊢
 obtain ⟨g, hg⟩ : ∃ g, g = wd.heap.size := ⟨_, rfl⟩
 rw [← hg] at v0 ⊢
 clear hg HD
 have HV := Lib.hid (And.intro v0 v1)
 clear v0 v1
 clear wd
 have HEX : Hid (Calls Tryd.prog 52 #[.slice (some ⟨g, 0, none⟩) 20 32] wz fun e w' => e = .returned (.string (strOfNums (nameH l))) ∧ Below wz.heap.size wz w') := Lib.hid (Tlv.hex_walk (some ⟨g, 0, none⟩) 32 ((List.range 20).map (byteAt (hashW l))) wz ⟨rfl, by simp, fun _ => ⟨⟨g, 0, none⟩, rfl, fun j hj => by
  rw [show (⟨g, 0, none⟩ : Addr).add j = ⟨g, j, none⟩ by unfold Addr.add; split <;> simp_all]
  refine (Lib.cell_of_heap HV.out.1 j).trans ?_
  rw [← HO.out]
  exact outC_full hj⟩⟩ (by simp) (by simp) (fun x hx => by
   obtain ⟨j, _, rfl⟩ := List.mem_map.1 hx
   unfold byteAt
   omega))
 refine wpList_nil ?_
 go_wp2_with (fail)
 refine HEX.out.mono ?_
 rintro e we ⟨rfl, he⟩
 have HE := Lib.hid (HV.out.2.trans (he.mono HV.out.2.size))
 clear he HV HEX
 go_wp2
 go_ret
 exact ⟨rfl, HE.out⟩
end Go.Proofs.YtmbgjhkemlliaaaDoor.Sha
end

section
set_option linter.unusedVariables false
set_option linter.unusedSimpArgs false
namespace Go.Proofs.YtmbgjhkemlliaaaDoor.Tlv
open Go.RowKit Go.Proofs.YtmbgjhkemlliaaaDoorW.PrintWords Go.Proofs.YtmbgjhkemlliaaaDoorW.PrintLast Go.Proofs.YtmbgjhkemlliaaaDoorW.PrintMore Go.Proofs.YtmbgjhkemlliaaaDoor.PT

/-- A key's name. -/
def kname (l : List Int) (E : Int) : ByteArray := if rightK l E = true then strOfNums (Sha.nameH (ownB l E)) else ⟨#[]⟩
/-- A key's box. -/
structure KB (w W : World) (kv : Value) (E : Int) : Prop where
 k : W.heap[w.heap.size]? = some (.cells #[kv, .int .u32 E] 25 (0, 0))
 b : Below w.heap.size w W
theorem KB.step {w W W2 : World} {kv : Value} {E : Int} (h : KB w W kv E) (hB : Below W.heap.size W W2) : KB w W2 kv E :=
 ⟨(hB.block _ (heap_lt h.k)).trans h.k, h.b.trans (hB.mono h.b.size)⟩
theorem KB.new (w : World) (kv : Value) (E : Int) : KB w (w.alloc (.cells #[kv, .int .u32 E] 25)) kv E := ⟨heap_alloc_new w _, (Below.refl _ _).alloc (Nat.le_refl _) _⟩

set_option maxHeartbeats 4000000 in
set_option maxRecDepth 100000 in
theorem kname_walk (l : List Int) (E : Int) (hl : l.length ≤ 100000) (hv : ∀ x ∈ l, 0 ≤ x ∧ x < 256) (h0 : 0 ≤ E) (h1 : E < 4294967296) (A : Option Addr) (c : Nat) (w : World) (hr : (Kd.int .u8).C w A l.length l) (hc : l.length ≤ c) :
 Calls Tryd.prog 14 #[.agg #[.slice A l.length c, .int .u32 E]] w fun e w' => (∃ x : Int, e = .returned (.tuple #[.string (kname l E), .int .i64 x])) ∧ Below w.heap.size w w' := by
 have hnot : ∀ (x : Bool) (w : World), (Op.unary .not (.bool x)).run Tryd.prog w = .ok (.bool (!x)) w := fun _ _ => rfl
 have hV := KB.new w (.slice A l.length c) E
 have HR := Lib.hid (fun w1 (hB : Below w.heap.size w w1) => Kd.C_below hr hB)
 have HRIGHT := Lib.hid (rsa_Right.calls A c l E (rightK l E) _ (Kd.C_below hr hV.b) hc (right_f l E (by omega)))
 have HOWN := Lib.hid (fun w1 (hB : Below w.heap.size w w1) => own_walk l E hl hv h0 h1 A c w1 (Kd.C_below hr hB) hc)
 have HBYT := Lib.hid (And.intro hv (And.intro h0 h1))
 have HV := Lib.hid hV
 have k0 := Lib.cell_of_heap hV.k 0
 have k1 := Lib.cell_of_heap hV.k 1
 clear hV hr hc hv hl h0 h1
 go_enter Tryd.func14, Tryd.ntmps14
 go_wp2_with (fail)
 refine HRIGHT.out.mono ?_
 rintro e w2 ⟨rfl, hB2⟩
 have hV2 := HV.out.step hB2
 have HV2 := Lib.hid hV2
 have q0 := Lib.cell_of_heap hV2.k 0
 have q1 := Lib.cell_of_heap hV2.k 1
 clear k0 k1 HV HRIGHT hV2 hB2
 obtain ⟨rk, hrk⟩ : ∃ rk, rk = rightK l E := ⟨_, rfl⟩
 have HRK := Lib.hid hrk
 rw [← hrk]
 clear hrk
 cases rk with
 | false =>
  go_wp2
  refine bodyPost_ret (v := .tuple #[.string ⟨#[]⟩, .int .i64 1]) (by simp [results, Tryd.results14, go_sem]) rfl ?_
  exact ⟨⟨_, by unfold kname; rw [← HRK.out]; rfl⟩, HV2.out.b⟩
 | true =>
  have HO := Lib.hid (HOWN.out w2 HV2.out.b)
  clear HOWN
  go_wp2_with (fail)
  refine HO.out.mono ?_
  rintro e w3 ⟨B, b, d, rfl, hb, hR, hB3⟩
  obtain ⟨_, _, f1, g1, kk⟩ := Kd.R_reads hR
  injection f1 with f1 _ f1'
  subst f1 f1'
  have hbl := ownB_len l E
  have hbb := ownB_by HBYT.out.1 HBYT.out.2.1 HBYT.out.2.2
  rw [← hb] at hbl hbb
  have HNM := Lib.hid (Sha.name_walk B d b w3 (by omega) g1 hbb kk)
  have HV3 := Lib.hid (HV2.out.step hB3)
  have HB := Lib.hid hb
  clear hb hR hB3 kk hbl hbb HO HV2 g1
  go_wp2_with (fail)
  refine HNM.out.mono ?_
  rintro e w4 ⟨rfl, hB4⟩
  have HV4 := Lib.hid (HV3.out.step hB4)
  clear hB4 HNM HV3
  obtain ⟨nm, hnm⟩ : ∃ nm, nm = strOfNums (Sha.nameH b) := ⟨_, rfl⟩
  rw [← hnm]
  have HN := Lib.hid hnm
  clear hnm
  go_wp2
  refine bodyPost_ret (v := .tuple #[.string nm, .int .i64 0]) (by simp [results, Tryd.results14, go_sem]) rfl ?_
  exact ⟨⟨_, by unfold kname; rw [← HRK.out, ← HB.out, ← HN.out]; rfl⟩, HV4.out.b⟩
end Go.Proofs.YtmbgjhkemlliaaaDoor.Tlv
end

section
set_option linter.unusedVariables false
set_option linter.unusedSimpArgs false
namespace Go.Proofs.YtmbgjhkemlliaaaDoor.Tlv
open Go.RowKit Go.Proofs.YtmbgjhkemlliaaaDoorW.PrintWords Go.Proofs.YtmbgjhkemlliaaaDoorW.PrintLast Go.Proofs.YtmbgjhkemlliaaaDoorW.PrintMore Go.Proofs.YtmbgjhkemlliaaaDoor.PT

set_option maxHeartbeats 4000000 in
set_option maxRecDepth 100000 in
theorem awake_walk (w : World) : Calls Tryd.prog 5 #[] w fun e w' => e = .returned (.bool true) ∧ Below w.heap.size w w' := by
 have hb0 : (w.alloc (.cells #[.int .u8 7] 5)).heap[w.heap.size]? = some (.cells ([7].map (Value.int .u8)).toArray 5 (0, 0)) := heap_alloc_new w _
 have hB1 : Below w.heap.size w (w.alloc (.cells #[.int .u8 7] 5)) := (Below.refl _ _).alloc (Nat.le_refl _) _
 have HSEAL := Lib.hid (seal_walk ⟨5, [], []⟩ [7] (fun _ => by decide) (by simp) none 0 none 0 (some ⟨w.heap.size, 0, none⟩) 1 (w.alloc (.cells #[.int .u8 7] 5)) ⟨C_nil _ _ _, Nat.le_refl _, C_nil _ _ _, Nat.le_refl _⟩ (reads_of_C (C_ints hb0 (by simp))) (by simp))
 have HB1 := Lib.hid hB1
 clear hb0 hB1
 go_enter Tryd.func5, Tryd.ntmps5
 go_wp2_with (fail)
 refine HSEAL.out.mono ?_
 intro e w2 hp
 unfold WritePost at hp
 rw [wake_write] at hp
 obtain ⟨A, c, rfl, ho, hB2⟩ := hp
 obtain ⟨_, _, f1, g1, k1⟩ := Kd.R_reads ho
 injection f1 with f1 _ f1'
 subst f1 f1'
 have hBw := HB1.out.trans (hB2.mono HB1.out.size)
 have HOPEN := Lib.hid (open_walk A c wakeB w2 (reads_of_C k1) g1 (by decide) (by decide))
 have HBW := Lib.hid hBw
 clear ho hB2 k1 g1 hBw HSEAL HB1
 have hwl : wakeB.length = 23 := rfl
 go_wp2_with (fail)
 rw [hwl] at HOPEN
 refine HOPEN.out.mono ?_
 intro e w3 hp
 unfold OpenPost at hp
 rw [wake_open] at hp
 obtain ⟨A1, c1, A2, c2, S, cs, G, cg, rfl, hn, hS, hcs, hG, hcg, hB3⟩ := hp
 have hBw := HBW.out.trans (hB3.mono HBW.out.size)
 have HB3 := Lib.hid hBw
 have hal : Below w3.heap.size w3 (w3.alloc (.cells #[.int .i64 5, .slice A1 0 c1, .slice A2 0 c2] 28)) := (Below.refl _ _).alloc (Nat.le_refl _) _
 have s0 : strOfNums [5, 0] = ⟨#[5, 0]⟩ := rfl
 have s1 : strOfNums [7] = ⟨#[7]⟩ := rfl
 have hcv1 := Kd.C_string (P := Tryd.prog) (A := S) (c := cs) Tryd.underlying22 Tryd.underlying5 Tryd.underlying9 (Kd.C_below (C_of_reads hS rfl) hal)
 have hcv2 := Kd.C_string (P := Tryd.prog) (A := G) (c := cg) Tryd.underlying22 Tryd.underlying5 Tryd.underlying9 (Kd.C_below (C_of_reads hG rfl) hal)
 rw [s0, show ([5, 0] : List Int).length = 2 from rfl] at hcv1
 rw [s1, show ([7] : List Int).length = 1 from rfl] at hcv2
 have HBF := Lib.hid (HB3.out.trans (hal.mono HB3.out.size))
 clear hn hB3 hBw HOPEN HBW hal s0 s1 hS hG hcs hcg
 go_wp2
 go_ret
 exact ⟨by first | rfl | (simp; done) | decide, HBF.out⟩

end Go.Proofs.YtmbgjhkemlliaaaDoor.Tlv
end

section
namespace Go.Proofs.YtmbgjhkemlliaaaDoor.PT
open Go.RowKit Go.Proofs.YtmbgjhkemlliaaaDoorW.PrintWords Go.Proofs.YtmbgjhkemlliaaaDoorW.PrintLast Go.Proofs.YtmbgjhkemlliaaaDoorW.PrintMore
attribute [local go_sem] max2_int min2_int max_two min_two max_three min_three max_four min_four   -- for this text's walks alone
set_option linter.unusedVariables false
set_option linter.unusedSimpArgs false

def lanyardref14_Same.f (l0_0 : List Int) (a0_1 : Int) (l1_0 : List Int) (a1_1 : Int) : Option (Bool) := if (strOfNums l0_0).toList = (strOfNums l1_0).toList then (some (a0_1 == a1_1)) else (some false)
set_option maxHeartbeats 8000000 in
set_option maxRecDepth 100000 in
theorem lanyardref14_Same.calls (A0_0 : Option Addr) (c0_0 : Nat) (l0_0 : List Int) (a0_1 : Int) (A1_0 : Option Addr) (c1_0 : Nat) (l1_0 : List Int) (a1_1 : Int) (r : Bool) (w : World) (hr0_0 : Kd.C (Kd.int .u8) w A0_0 l0_0.length l0_0) (hc0_0 : l0_0.length ≤ c0_0) (hr1_0 : Kd.C (Kd.int .u8) w A1_0 l1_0.length l1_0) (hc1_0 : l1_0.length ≤ c1_0) (h : lanyardref14_Same.f l0_0 a0_1 l1_0 a1_1 = some r) :
 Calls Tryd.prog 10 #[.agg #[.slice A0_0 l0_0.length c0_0, .int .u32 a0_1], .agg #[.slice A1_0 l1_0.length c1_0, .int .u32 a1_1]] w fun e w' => e = .returned (.bool r) ∧ Below w.heap.size w w' := by
 have hu25 := Tryd.underlying25
 have HR0_0 := Aside0.mk hr0_0
 have HC0_0 := Aside0.mk hc0_0
 clear hr0_0 hc0_0
 have HR1_0 := Aside0.mk hr1_0
 have HC1_0 := Aside0.mk hc1_0
 clear hr1_0 hc1_0
 have HB := Aside0.mk (Below.refl w.heap.size w)
 have H : (if (strOfNums l0_0).toList = (strOfNums l1_0).toList then (some (a0_1 == a1_1)) else (some false)) = some r := h
 clear h
 by_cases c3 : (strOfNums l0_0).toList = (strOfNums l1_0).toList
 ·rw [if_pos c3] at H
  have c3b0 : ((strOfNums l0_0).toList == (strOfNums l1_0).toList) = true := beq_iff_eq.mpr c3
  have c3b1 : ((strOfNums l0_0).toList != (strOfNums l1_0).toList) = false := bne_eq_false_iff_eq.mpr c3
  clear c3
  obtain rfl := Option.some.inj H
  go_enter Tryd.func10, Tryd.ntmps10
  go_wp2_with (first | ((with_reducible refine gate_dst (N := 2) rfl ?_); refine box_event ?hg (N := 2) ?hd (cs := #[.slice A0_0 l0_0.length c0_0, .int .u32 a0_1]) (t := 25) ?hr ?_; (case hd => rfl); (case hg => rfl); (case hr => first | (go_simp; done) | (go_simp; rfl)); intro gb101 hg w4 hbox hb; have n0_ := Aside0.mk (below_step (by repeat (first | (with_reducible first | exact HB.out | apply below_alloc | apply pw_below_drewN | apply below_drew1) | exact HB.out)) hb); have n1_ := Aside0.mk (hbox); have n2_ := Aside0.mk ((by rw [hg]; exact (below_size (by repeat (first | (with_reducible first | exact HB.out | apply below_alloc | apply pw_below_drewN | apply below_drew1) | exact HB.out))) : w.heap.size ≤ gb101)); have n3_ := Aside0.mk ((by rw [hg]; exact (below_size (by repeat (first | (with_reducible first | exact HB.out | apply below_alloc | apply pw_below_drewN | apply below_drew1) | exact HB.out))) : w.heap.size ≤ gb101)); clear HB; have HB := n0_; have BK101 := n1_; have GW101 := n2_; have GE101 := n3_; clear n0_ n1_ n2_ n3_; clear hb hbox hg) | ((with_reducible refine gate_dst (N := 3) rfl ?_); refine box_event ?hg (N := 3) ?hd (cs := #[.slice A1_0 l1_0.length c1_0, .int .u32 a1_1]) (t := 25) ?hr ?_; (case hd => rfl); (case hg => rfl); (case hr => first | (go_simp; done) | (go_simp; rfl)); intro gb102 hg w5 hbox hb; have n0_ := Aside0.mk (blk_below (g := gb101) (o := .cells #[.slice A0_0 l0_0.length c0_0, .int .u32 a0_1] 25 (0, 0)) (by (with_reducible repeat (first | refine blk_drewN ?_ _ | refine blk_drew ?_ | refine blk_alloc ?_ _)); exact BK101.out) hb); have n1_ := Aside0.mk (below_step (by repeat (first | (with_reducible first | exact HB.out | apply below_alloc | apply pw_below_drewN | apply below_drew1 | refine below_set ?_ GE101.out) | exact HB.out)) hb); have n2_ := Aside0.mk (hbox); have n3_ := Aside0.mk ((by rw [hg]; exact (below_size (by repeat (first | (with_reducible first | exact HB.out | apply below_alloc | apply pw_below_drewN | apply below_drew1 | refine below_set ?_ GE101.out) | exact HB.out))) : w.heap.size ≤ gb102)); have n4_ := Aside0.mk ((by rw [hg]; exact (below_size (by repeat (first | (with_reducible first | exact HB.out | apply below_alloc | apply pw_below_drewN | apply below_drew1 | refine below_set ?_ GE101.out) | exact HB.out))) : w.heap.size ≤ gb102)); have n5_ := Aside0.mk ((by rw [hg]; exact Nat.ne_of_lt (blk_lt (g := gb101) (o := .cells #[.slice A0_0 l0_0.length c0_0, .int .u32 a0_1] 25 (0, 0)) (by (with_reducible repeat (first | refine blk_drewN ?_ _ | refine blk_drew ?_ | refine blk_alloc ?_ _)); exact BK101.out)) : gb101 ≠ gb102)); have n6_ := Aside0.mk ((by rw [hg]; exact Nat.ne_of_gt (blk_lt (g := gb101) (o := .cells #[.slice A0_0 l0_0.length c0_0, .int .u32 a0_1] 25 (0, 0)) (by (with_reducible repeat (first | refine blk_drewN ?_ _ | refine blk_drew ?_ | refine blk_alloc ?_ _)); exact BK101.out)) : gb102 ≠ gb101)); clear BK101; clear HB; have BK101 := n0_; have HB := n1_; have BK102 := n2_; have GW102 := n3_; have GE102 := n4_; have NB101_102 := n5_; have NB102_101 := n6_; clear n0_ n1_ n2_ n3_ n4_ n5_ n6_; clear hb hbox hg; have hnb6 := NB101_102.out; have hnc6 := NB102_101.out; have hcz7_0 : w5.cell? ⟨gb101, 0, none⟩ = some (.slice A0_0 l0_0.length c0_0) := (blk_cell BK101.out 0).trans rfl; have hcz7_1 : w5.cell? ⟨gb101, 1, none⟩ = some (.int .u32 a0_1) := (blk_cell BK101.out 1).trans rfl; have hfz7_0 := blk_frozen BK101.out 0; have hfz7_1 := blk_frozen BK101.out 1; have hcv8 := Kd.C_string (P := Tryd.prog) (A := A0_0) (c := c0_0) Tryd.underlying22 Tryd.underlying5 Tryd.underlying9 (Kd.C_below HR0_0.out HB.out); have hcz9_0 : w5.cell? ⟨gb102, 0, none⟩ = some (.slice A1_0 l1_0.length c1_0) := (blk_cell BK102.out 0).trans rfl; have hcz9_1 : w5.cell? ⟨gb102, 1, none⟩ = some (.int .u32 a1_1) := (blk_cell BK102.out 1).trans rfl; have hfz9_0 := blk_frozen BK102.out 0; have hfz9_1 := blk_frozen BK102.out 1; have hcv10 := Kd.C_string (P := Tryd.prog) (A := A1_0) (c := c1_0) Tryd.underlying22 Tryd.underlying5 Tryd.underlying9 (Kd.C_below HR1_0.out HB.out)))
  go_ret
  exact ⟨by first | rfl | (simp [errW_none, errW_some] <;> rfl) | (simp [*, errW_none, errW_some] <;> rfl), by repeat (first | (with_reducible first | exact HB.out | apply below_alloc | apply pw_below_drewN | apply below_drew1 | refine below_set ?_ GE101.out | refine below_set ?_ GE102.out) | exact HB.out)⟩
 ·rw [if_neg c3] at H
  have c3b0 : ((strOfNums l0_0).toList == (strOfNums l1_0).toList) = false := beq_eq_false_iff_ne.mpr c3
  have c3b1 : ((strOfNums l0_0).toList != (strOfNums l1_0).toList) = true := bne_iff_ne.mpr c3
  obtain rfl := Option.some.inj H
  go_enter Tryd.func10, Tryd.ntmps10
  go_wp2_with (first | ((with_reducible refine gate_dst (N := 2) rfl ?_); refine box_event ?hg (N := 2) ?hd (cs := #[.slice A0_0 l0_0.length c0_0, .int .u32 a0_1]) (t := 25) ?hr ?_; (case hd => rfl); (case hg => rfl); (case hr => first | (go_simp; done) | (go_simp; rfl)); intro gb101 hg w11 hbox hb; have n0_ := Aside0.mk (below_step (by repeat (first | (with_reducible first | exact HB.out | apply below_alloc | apply pw_below_drewN | apply below_drew1) | exact HB.out)) hb); have n1_ := Aside0.mk (hbox); have n2_ := Aside0.mk ((by rw [hg]; exact (below_size (by repeat (first | (with_reducible first | exact HB.out | apply below_alloc | apply pw_below_drewN | apply below_drew1) | exact HB.out))) : w.heap.size ≤ gb101)); have n3_ := Aside0.mk ((by rw [hg]; exact (below_size (by repeat (first | (with_reducible first | exact HB.out | apply below_alloc | apply pw_below_drewN | apply below_drew1) | exact HB.out))) : w.heap.size ≤ gb101)); clear HB; have HB := n0_; have BK101 := n1_; have GW101 := n2_; have GE101 := n3_; clear n0_ n1_ n2_ n3_; clear hb hbox hg) | ((with_reducible refine gate_dst (N := 3) rfl ?_); refine box_event ?hg (N := 3) ?hd (cs := #[.slice A1_0 l1_0.length c1_0, .int .u32 a1_1]) (t := 25) ?hr ?_; (case hd => rfl); (case hg => rfl); (case hr => first | (go_simp; done) | (go_simp; rfl)); intro gb102 hg w12 hbox hb; have n0_ := Aside0.mk (blk_below (g := gb101) (o := .cells #[.slice A0_0 l0_0.length c0_0, .int .u32 a0_1] 25 (0, 0)) (by (with_reducible repeat (first | refine blk_drewN ?_ _ | refine blk_drew ?_ | refine blk_alloc ?_ _)); exact BK101.out) hb); have n1_ := Aside0.mk (below_step (by repeat (first | (with_reducible first | exact HB.out | apply below_alloc | apply pw_below_drewN | apply below_drew1 | refine below_set ?_ GE101.out) | exact HB.out)) hb); have n2_ := Aside0.mk (hbox); have n3_ := Aside0.mk ((by rw [hg]; exact (below_size (by repeat (first | (with_reducible first | exact HB.out | apply below_alloc | apply pw_below_drewN | apply below_drew1 | refine below_set ?_ GE101.out) | exact HB.out))) : w.heap.size ≤ gb102)); have n4_ := Aside0.mk ((by rw [hg]; exact (below_size (by repeat (first | (with_reducible first | exact HB.out | apply below_alloc | apply pw_below_drewN | apply below_drew1 | refine below_set ?_ GE101.out) | exact HB.out))) : w.heap.size ≤ gb102)); have n5_ := Aside0.mk ((by rw [hg]; exact Nat.ne_of_lt (blk_lt (g := gb101) (o := .cells #[.slice A0_0 l0_0.length c0_0, .int .u32 a0_1] 25 (0, 0)) (by (with_reducible repeat (first | refine blk_drewN ?_ _ | refine blk_drew ?_ | refine blk_alloc ?_ _)); exact BK101.out)) : gb101 ≠ gb102)); have n6_ := Aside0.mk ((by rw [hg]; exact Nat.ne_of_gt (blk_lt (g := gb101) (o := .cells #[.slice A0_0 l0_0.length c0_0, .int .u32 a0_1] 25 (0, 0)) (by (with_reducible repeat (first | refine blk_drewN ?_ _ | refine blk_drew ?_ | refine blk_alloc ?_ _)); exact BK101.out)) : gb102 ≠ gb101)); clear BK101; clear HB; have BK101 := n0_; have HB := n1_; have BK102 := n2_; have GW102 := n3_; have GE102 := n4_; have NB101_102 := n5_; have NB102_101 := n6_; clear n0_ n1_ n2_ n3_ n4_ n5_ n6_; clear hb hbox hg; have hnb13 := NB101_102.out; have hnc13 := NB102_101.out; have hcz14_0 : w12.cell? ⟨gb101, 0, none⟩ = some (.slice A0_0 l0_0.length c0_0) := (blk_cell BK101.out 0).trans rfl; have hcz14_1 : w12.cell? ⟨gb101, 1, none⟩ = some (.int .u32 a0_1) := (blk_cell BK101.out 1).trans rfl; have hfz14_0 := blk_frozen BK101.out 0; have hfz14_1 := blk_frozen BK101.out 1; have hcv15 := Kd.C_string (P := Tryd.prog) (A := A0_0) (c := c0_0) Tryd.underlying22 Tryd.underlying5 Tryd.underlying9 (Kd.C_below HR0_0.out HB.out); have hcz16_0 : w12.cell? ⟨gb102, 0, none⟩ = some (.slice A1_0 l1_0.length c1_0) := (blk_cell BK102.out 0).trans rfl; have hcz16_1 : w12.cell? ⟨gb102, 1, none⟩ = some (.int .u32 a1_1) := (blk_cell BK102.out 1).trans rfl; have hfz16_0 := blk_frozen BK102.out 0; have hfz16_1 := blk_frozen BK102.out 1; have hcv17 := Kd.C_string (P := Tryd.prog) (A := A1_0) (c := c1_0) Tryd.underlying22 Tryd.underlying5 Tryd.underlying9 (Kd.C_below HR1_0.out HB.out)))
  go_ret
  exact ⟨by first | rfl | (simp [errW_none, errW_some] <;> rfl) | (simp [*, errW_none, errW_some] <;> rfl), by repeat (first | (with_reducible first | exact HB.out | apply below_alloc | apply pw_below_drewN | apply below_drew1 | refine below_set ?_ GE101.out | refine below_set ?_ GE102.out) | exact HB.out)⟩

end Go.Proofs.YtmbgjhkemlliaaaDoor.PT
end

section
namespace Go.Proofs.YtmbgjhkemlliaaaDoor.PT
open Go.RowKit Go.Proofs.YtmbgjhkemlliaaaDoorW.PrintWords Go.Proofs.YtmbgjhkemlliaaaDoorW.PrintLast Go.Proofs.YtmbgjhkemlliaaaDoorW.PrintMore
attribute [local go_sem] max2_int min2_int max_two min_two max_three min_three max_four min_four   -- for this text's walks alone
set_option linter.unusedVariables false
set_option linter.unusedSimpArgs false

def lanyardref09_LightKey.f (l0_0 : List Int) (a0_1 : Int) : Option (Bool) := some (decide ((l0_0.length : Int) ≤ 140))
set_option maxHeartbeats 8000000 in
set_option maxRecDepth 100000 in
theorem lanyardref09_LightKey.calls (A0_0 : Option Addr) (c0_0 : Nat) (l0_0 : List Int) (a0_1 : Int) (r : Bool) (w : World) (hr0_0 : Kd.C (Kd.int .u8) w A0_0 l0_0.length l0_0) (hc0_0 : l0_0.length ≤ c0_0) (h : lanyardref09_LightKey.f l0_0 a0_1 = some r) :
 Calls Tryd.prog 6 #[.agg #[.slice A0_0 l0_0.length c0_0, .int .u32 a0_1]] w fun e w' => e = .returned (.bool r) ∧ Below w.heap.size w w' := by
 have hu25 := Tryd.underlying25
 have HR0_0 := Aside0.mk hr0_0
 have HC0_0 := Aside0.mk hc0_0
 clear hr0_0 hc0_0
 have HB := Aside0.mk (Below.refl w.heap.size w)
 have H : (some (decide ((l0_0.length : Int) ≤ 140))) = some r := h
 clear h
 obtain rfl := Option.some.inj H
 go_enter Tryd.func6, Tryd.ntmps6
 go_wp2_with (first | ((with_reducible refine gate_dst (N := 1) rfl ?_); refine box_event ?hg (N := 1) ?hd (cs := #[.slice A0_0 l0_0.length c0_0, .int .u32 a0_1]) (t := 25) ?hr ?_; (case hd => rfl); (case hg => rfl); (case hr => first | (go_simp; done) | (go_simp; rfl)); intro gb103 hg w2 hbox hb; have n0_ := Aside0.mk (below_step (by repeat (first | (with_reducible first | exact HB.out | apply below_alloc | apply pw_below_drewN | apply below_drew1) | exact HB.out)) hb); have n1_ := Aside0.mk (hbox); have n2_ := Aside0.mk ((by rw [hg]; exact (below_size (by repeat (first | (with_reducible first | exact HB.out | apply below_alloc | apply pw_below_drewN | apply below_drew1) | exact HB.out))) : w.heap.size ≤ gb103)); have n3_ := Aside0.mk ((by rw [hg]; exact (below_size (by repeat (first | (with_reducible first | exact HB.out | apply below_alloc | apply pw_below_drewN | apply below_drew1) | exact HB.out))) : w.heap.size ≤ gb103)); clear HB; have HB := n0_; have BK103 := n1_; have GW103 := n2_; have GE103 := n3_; clear n0_ n1_ n2_ n3_; clear hb hbox hg; have hcz3_0 : w2.cell? ⟨gb103, 0, none⟩ = some (.slice A0_0 l0_0.length c0_0) := (blk_cell BK103.out 0).trans rfl; have hcz3_1 : w2.cell? ⟨gb103, 1, none⟩ = some (.int .u32 a0_1) := (blk_cell BK103.out 1).trans rfl; have hfz3_0 := blk_frozen BK103.out 0; have hfz3_1 := blk_frozen BK103.out 1))
 go_ret
 exact ⟨by first | rfl | (simp [errW_none, errW_some] <;> rfl) | (simp [*, errW_none, errW_some] <;> rfl), by repeat (first | (with_reducible first | exact HB.out | apply below_alloc | apply pw_below_drewN | apply below_drew1 | refine below_set ?_ GE103.out) | exact HB.out)⟩

end Go.Proofs.YtmbgjhkemlliaaaDoor.PT
end

section
set_option linter.unusedVariables false
set_option linter.unusedSimpArgs false
namespace Go.Proofs.YtmbgjhkemlliaaaDoor.Tlv
open Go.RowKit Go.Proofs.YtmbgjhkemlliaaaDoorW.PrintWords Go.Proofs.YtmbgjhkemlliaaaDoorW.PrintLast Go.Proofs.YtmbgjhkemlliaaaDoorW.PrintMore Go.Proofs.YtmbgjhkemlliaaaDoor.PT

/-- The boxes of the two keys. -/
structure UB (w W : World) (kv : Value) (E : Int) (mv : Value) (u : Int) : Prop where
 k : W.heap[w.heap.size]? = some (.cells #[kv, .int .u32 E] 25 (0, 0))
 m : W.heap[w.heap.size + 1]? = some (.cells #[mv, .int .u32 u] 25 (0, 0))
 b : Below w.heap.size w W
theorem UB.step {w W W2 : World} {kv mv : Value} {E u : Int} (h : UB w W kv E mv u) (hB : Below W.heap.size W W2) : UB w W2 kv E mv u :=
 ⟨(hB.block _ (heap_lt h.k)).trans h.k, (hB.block _ (heap_lt h.m)).trans h.m, h.b.trans (hB.mono h.b.size)⟩
theorem UB.new (w : World) (kv : Value) (E : Int) (mv : Value) (u : Int) : UB w ((w.alloc (.cells #[kv, .int .u32 E] 25)).alloc (.cells #[mv, .int .u32 u] 25)) kv E mv u := by
 refine ⟨(Below.heap_alloc _ _ _ (by simp)).trans (heap_alloc_new w _), ?_, ((Below.refl _ _).alloc (Nat.le_refl _) _).alloc (by simp) _⟩
 have := heap_alloc_new (w.alloc (.cells #[kv, .int .u32 E] 25)) (.cells #[mv, .int .u32 u] 25)
 simpa using this
theorem keySame_iff (l : List Int) (E : Int) (m : List Int) (u : Int) (hl : ∀ v ∈ l, 0 ≤ v ∧ v < 256) (hm : ∀ v ∈ m, 0 ≤ v ∧ v < 256) : ∃ b, lanyardref14_Same.f l E m u = some b ∧ (b = true → l = m ∧ E = u) ∧ (l = m → E = u → b = true) := by
 unfold lanyardref14_Same.f
 split
 ·rename_i h
  refine ⟨_, rfl, fun hb => ⟨eqB_eq hl hm (by unfold eqB; simp only [h, beq_self_eq_true]), by simpa using hb⟩, fun _ h => by rw [h]; exact beq_self_eq_true _⟩
 ·rename_i h
  exact ⟨_, rfl, fun hb => (by cases hb), fun h1 _ => absurd (by rw [h1]) h⟩
/-- What the law says of two keys that may be. -/
theorem unlike_fact {l : List Int} {E : Int} {m : List Int} {u : Int} {b : Bool} (hl : l.length ≤ 140) (hm : m.length ≤ 140) (hlv : ∀ v ∈ l, 0 ≤ v ∧ v < 256) (hmv : ∀ v ∈ m, 0 ≤ v ∧ v < 256) (h0 : 0 ≤ E) (h1 : E < 4294967296) (g0 : 0 ≤ u) (g1 : u < 4294967296) (hr : rightK l E = true) (gr : rightK m u = true)
 (hb1 : b = true → l = m ∧ E = u) (hb2 : l = m → E = u → b = true) : eqT (nodeT l E) (nodeT m u) = b ∧ (b = true → kname l E = kname m u) := by
 cases b with
 | true =>
  obtain ⟨rfl, rfl⟩ := hb1 rfl
  exact ⟨eqT_rfl _, fun _ => rfl⟩
 | false =>
  refine ⟨?_, fun h => by cases h⟩
  cases hq : eqT (nodeT l E) (nodeT m u) with
  | false => rfl
  | true =>
   have he := eqT_eq _ _ (node_by hlv h0 h1) (node_by hmv g0 g1) hq
   have k1 := key_back hl hlv h0 h1 hr
   have k2 := key_back hm hmv g0 g1 gr
   rw [he, k2] at k1
   injection k1 with k1
   injection k1 with k1 k3
   exact absurd (hb2 k1.symm k3.symm) (by decide)

set_option maxHeartbeats 4000000 in
set_option maxRecDepth 100000 in
theorem unlike_any (l : List Int) (E : Int) (m : List Int) (u : Int) (hl : ∀ v ∈ l, 0 ≤ v ∧ v < 256) (h0 : 0 ≤ E) (h1 : E < 4294967296) (hm : ∀ v ∈ m, 0 ≤ v ∧ v < 256) (g0 : 0 ≤ u) (g1 : u < 4294967296) (A : Option Addr) (c : Nat) (B : Option Addr) (d : Nat) (w : World) (hkr : (Kd.int .u8).C w A l.length l) (hkc : l.length ≤ c) (hmr : (Kd.int .u8).C w B m.length m) (hmc : m.length ≤ d) :
 Calls Tryd.prog 4 #[.agg #[.slice A l.length c, .int .u32 E], .agg #[.slice B m.length d, .int .u32 u]] w fun e w' => e = .returned (.bool true) ∧ Below w.heap.size w w' := by
 have hnot : ∀ (x : Bool) (w : World), (Op.unary .not (.bool x)).run Tryd.prog w = .ok (.bool (!x)) w := fun _ _ => rfl
 have hbk := UB.new w (.slice A l.length c) E (.slice B m.length d) u
 have HK := Lib.hid (fun w1 (hB : Below w.heap.size w w1) => Kd.C_below hkr hB)
 have HM := Lib.hid (fun w1 (hB : Below w.heap.size w w1) => Kd.C_below hmr hB)
 have HBY := Lib.hid (And.intro hl hm)
 have HE := Lib.hid (And.intro h0 (And.intro h1 (And.intro g0 g1)))
 have HC := Lib.hid (And.intro hkc hmc)
 have HBK := Lib.hid hbk
 clear hbk hkr hmr hl hm h0 h1 g0 g1 hkc hmc
 go_enter Tryd.func4, Tryd.ntmps4
 go_wp2_with (fail)
 refine (awake_walk _).mono ?_
 rintro e w1 ⟨rfl, hB⟩
 have hbk := HBK.out.step hB
 have k0 := Lib.cell_of_heap hbk.k 0
 have k1 := Lib.cell_of_heap hbk.k 1
 have HBK1 := Lib.hid hbk
 have HCALL := Lib.hid (lanyardref09_LightKey.calls A c l E (decide ((l.length : Int) ≤ 140)) w1 (HK.out _ hbk.b) HC.out.1 rfl)
 clear hB hbk HBK
 go_wp2_with (fail)
 refine HCALL.out.mono ?_
 rintro e w2 ⟨rfl, hB⟩
 have hbk := HBK1.out.step hB
 have k0 := Lib.cell_of_heap hbk.m 0
 have k1 := Lib.cell_of_heap hbk.m 1
 have HBK2 := Lib.hid hbk
 have HCALL := Lib.hid (lanyardref09_LightKey.calls B d m u (decide ((m.length : Int) ≤ 140)) w2 (HM.out _ hbk.b) HC.out.2 rfl)
 clear hB hbk HBK1
 go_wp2_with (fail)
 refine HCALL.out.mono ?_
 rintro e w3 ⟨rfl, hB⟩
 have hbk := HBK2.out.step hB
 have HBK3 := Lib.hid hbk
 have k0 := Lib.cell_of_heap hbk.k 0
 have k1 := Lib.cell_of_heap hbk.k 1
 clear hB hbk HBK2 HCALL
 by_cases hsk : l.length ≤ 140 ∧ m.length ≤ 140
 ·obtain ⟨hl1, hm1⟩ := hsk
  have hd0 : decide ((l.length : Int) ≤ 140) = true := decide_eq_true (by omega)
  have hd1 : decide ((m.length : Int) ≤ 140) = true := decide_eq_true (by omega)
  rw [hd0, hd1]
  have HL := Lib.hid (And.intro hl1 hm1)
  clear hl1 hm1 hd0 hd1
  have HCALL := Lib.hid (node_walk l E (by have := HL.out.1; omega) HBY.out.1 HE.out.1 HE.out.2.1 A c w3 (HK.out _ HBK3.out.b) HC.out.1)
  go_wp2_with (fail)
  refine HCALL.out.mono ?_
  intro e w4 hp
  obtain ⟨X1, x1, X2, x2, n1, ex, rfl, hn1, hc1, hB⟩ := hp.uni
  have hal : Below w4.heap.size w4 (w4.alloc (.cells #[.int .i64 n1.f0, .slice X1 n1.f1.length x1, .slice X2 n1.f2.length x2] 28)) := (Below.refl _ _).alloc (Nat.le_refl _) _
  have hbx : (w4.alloc (.cells #[.int .i64 n1.f0, .slice X1 n1.f1.length x1, .slice X2 n1.f2.length x2] 28)).heap[w4.heap.size]? = some (.cells #[.int .i64 n1.f0, .slice X1 n1.f1.length x1, .slice X2 n1.f2.length x2] 28 (0, 0)) := heap_alloc_new w4 _
  have hbk := (HBK3.out.step hB).step hal
  have k0 := Lib.cell_of_heap hbk.m 0
  have k1 := Lib.cell_of_heap hbk.m 1
  have HBK4 := Lib.hid hbk
  have HN1 := Lib.hid (And.intro (hn1.below hal) (And.intro hbx hc1))
  have HCALL2 := Lib.hid (node_walk m u (by have := HL.out.2; omega) HBY.out.2 HE.out.2.2.1 HE.out.2.2.2 B d _ (HM.out _ hbk.b) HC.out.2)
  clear hp hn1 hc1 hB hal hbx hbk HBK3 HCALL
  go_wp2_with (fail)
  refine HCALL2.out.mono ?_
  intro e w5 hp
  obtain ⟨Y1, y1, Y2, y2, n2, ey, rfl, hn2, hc2, hB⟩ := hp.uni
  have hal : Below w5.heap.size w5 (w5.alloc (.cells #[.int .i64 n2.f0, .slice Y1 n2.f1.length y1, .slice Y2 n2.f2.length y2] 28)) := (Below.refl _ _).alloc (Nat.le_refl _) _
  have hby : (w5.alloc (.cells #[.int .i64 n2.f0, .slice Y1 n2.f1.length y1, .slice Y2 n2.f2.length y2] 28)).heap[w5.heap.size]? = some (.cells #[.int .i64 n2.f0, .slice Y1 n2.f1.length y1, .slice Y2 n2.f2.length y2] 28 (0, 0)) := heap_alloc_new w5 _
  have hbk := (HBK4.out.step hB).step hal
  have hbx2 := (hal.block _ (heap_lt ((hB.block _ (heap_lt HN1.out.2.1)).trans HN1.out.2.1))).trans ((hB.block _ (heap_lt HN1.out.2.1)).trans HN1.out.2.1)
  have hn1 := (HN1.out.1.below hB).below hal
  have hc1 := HN1.out.2.2
  have k0 := Lib.cell_of_heap hbk.k 0
  have k1 := Lib.cell_of_heap hbk.k 1
  have m0 := Lib.cell_of_heap hbk.m 0
  have m1 := Lib.cell_of_heap hbk.m 1
  have HBK5 := Lib.hid hbk
  have HN2 := Lib.hid (And.intro hn1 (And.intro (hn2.below hal) (And.intro hbx2 hby)))
  clear hp hn1 hn2 hB hal hbx2 hby hbk HBK4 HCALL2 HN1
  rcases hc1 with ⟨rfl, hr1, rfl⟩ | ⟨rfl, _, rfl⟩
  ·rcases hc2 with ⟨rfl, hr2, rfl⟩ | ⟨rfl, _, rfl⟩
   ·obtain ⟨sb, hsb, hs1, hs2⟩ := keySame_iff l E m u HBY.out.1 HBY.out.2
    have hfact := unlike_fact HL.out.1 HL.out.2 HBY.out.1 HBY.out.2 HE.out.1 HE.out.2.1 HE.out.2.2.1 HE.out.2.2.2 hr1 hr2 hs1 hs2
    have HS := Lib.hid (lanyardref14_Same.calls A c l E B d m u sb _ (HK.out _ HBK5.out.b) HC.out.1 (HM.out _ HBK5.out.b) HC.out.2 hsb)
    have HF := Lib.hid hfact
    have hw1 := wT_node l E
    have hw2 := wT_node m u
    clear hsb hs1 hs2 hfact hr1 hr2
    generalize nodeT l E = t1 at HN2 HF hw1 ⊢
    generalize nodeT m u = t2 at HN2 HF hw2 k0 k1 m0 m1 HBK5 HS ⊢
    go_wp2_with (fail)
    refine HS.out.mono ?_
    rintro e w6 ⟨rfl, hB⟩
    have hbk := HBK5.out.step hB
    have hbx := (hB.block _ (heap_lt HN2.out.2.2.1)).trans HN2.out.2.2.1
    have hby := (hB.block _ (heap_lt HN2.out.2.2.2)).trans HN2.out.2.2.2
    have hn1 := HN2.out.1.below hB
    have hn2 := HN2.out.2.1.below hB
    have x0 := Lib.cell_of_heap hbx 0
    have x1_ := Lib.cell_of_heap hbx 1
    have x2_ := Lib.cell_of_heap hbx 2
    have y0 := Lib.cell_of_heap hby 0
    have y1_ := Lib.cell_of_heap hby 1
    have y2_ := Lib.cell_of_heap hby 2
    obtain ⟨ks, hks⟩ := sm_any t1 (by omega) t2
    have HCALL := Lib.hid (lanyardref04_Same.calls ks t1.f0 X1 x1 t1.f1 X2 x2 t1.f2 t2.f0 Y1 y1 t2.f1 Y2 y2 t2.f2 (eqT t1 t2) w6 hn1.1 hn1.2.1 hn1.2.2.1 hn1.2.2.2 hn2.1 hn2.2.1 hn2.2.2.1 hn2.2.2.2 hks)
    have HBK6 := Lib.hid hbk
    clear hB hbk hbx hby hn1 hn2 hks k0 k1 m0 m1 HS HBK5 HN2
    go_wp2_with (fail)
    refine HCALL.out.mono ?_
    rintro e w7 ⟨rfl, hB⟩
    have hbk := HBK6.out.step hB
    have k0 := Lib.cell_of_heap hbk.k 0
    have k1 := Lib.cell_of_heap hbk.k 1
    have HBK7 := Lib.hid hbk
    have HNA := Lib.hid (kname_walk l E (by have := HL.out.1; omega) HBY.out.1 HE.out.1 HE.out.2.1 A c w7 (HK.out _ hbk.b) HC.out.1)
    clear hB hbk HBK6 HCALL x0 x1_ x2_ y0 y1_ y2_
    go_wp2_with (fail)
    refine HNA.out.mono ?_
    rintro e w8 ⟨⟨ea, rfl⟩, hB⟩
    have hbk := HBK7.out.step hB
    have k0 := Lib.cell_of_heap hbk.m 0
    have k1 := Lib.cell_of_heap hbk.m 1
    have HBK8 := Lib.hid hbk
    have HNB := Lib.hid (kname_walk m u (by have := HL.out.2; omega) HBY.out.2 HE.out.2.2.1 HE.out.2.2.2 B d w8 (HM.out _ hbk.b) HC.out.2)
    clear hB hbk HBK7 HNA
    go_wp2_with (fail)
    refine HNB.out.mono ?_
    rintro e w9 ⟨⟨eb, rfl⟩, hB⟩
    have HBK9 := Lib.hid (HBK8.out.step hB)
    clear hB HBK8 HNB k0 k1
    obtain ⟨hf1, hf2⟩ := HF.out
    rw [hf1]
    clear hf1 HF hw1 hw2
    generalize kname l E = na at hf2 ⊢
    generalize kname m u = nb at hf2 ⊢
    cases sb with
    | true =>
     obtain rfl := hf2 rfl
     go_wp2
     go_ret
     exact ⟨by first | rfl | (simp; done), HBK9.out.b⟩
    | false =>
     clear hf2
     go_wp2
     go_ret
     exact ⟨by first | rfl | (simp; done), HBK9.out.b⟩
   ·go_wp2
    go_ret
    exact ⟨rfl, HBK5.out.b⟩
  ·go_wp2
   go_ret
   exact ⟨rfl, HBK5.out.b⟩
 ·have hskip : (decide ((l.length : Int) ≤ 140) = false) ∨ (decide ((l.length : Int) ≤ 140) = true ∧ decide ((m.length : Int) ≤ 140) = false) := by
   by_cases c1 : l.length ≤ 140
   ·exact .inr ⟨decide_eq_true (by omega), decide_eq_false (by omega)⟩
   ·exact .inl (decide_eq_false (by omega))
  clear hsk
  generalize decide ((l.length : Int) ≤ 140) = one at hskip ⊢
  generalize decide ((m.length : Int) ≤ 140) = two at hskip ⊢
  rcases hskip with rfl | ⟨rfl, rfl⟩
  ·go_wp2
   go_ret
   exact ⟨rfl, HBK3.out.b⟩
  ·go_wp2
   go_ret
   exact ⟨rfl, HBK3.out.b⟩
end Go.Proofs.YtmbgjhkemlliaaaDoor.Tlv
end

section
set_option linter.unusedVariables false
set_option linter.unusedSimpArgs false
namespace Go.Proofs.YtmbgjhkemlliaaaDoor.Tlv
open Go.ChangeShapes Go.WideShapes Go.Deep Go.RowKit Go.Proofs.YtmbgjhkemlliaaaDoorW.PrintWords Go.Proofs.YtmbgjhkemlliaaaDoorW.PrintLast Go.Proofs.YtmbgjhkemlliaaaDoorW.PrintMore Go.Proofs.YtmbgjhkemlliaaaDoor.PT

section
variable {H : Type} {enc : TypeId × Value → H} {w : World} {base : Nat} {held : Bool}
set_option maxRecDepth 100000 in
theorem openB_f {fuel : Nat} {cs : List Value} {x : DataW H × List MemPlace} (h : DataW.trod enc Tryd.prog w base (fun _ => true) held fuel 22 cs = some x) :
 ∃ (A : Option Addr) (c : Nat) (l : List Int), cs = [.slice A l.length c] ∧ (Kd.int .u8).C w A l.length l ∧ l.length ≤ c ∧ ∀ v ∈ l, 0 ≤ v ∧ v < 256 := by
 have hz : ∃ (a : Option Addr) (len cap : Nat) (zs : List Int), cs = [.slice a len cap] ∧ ((a = none ∧ len = 0 ∧ cap = 0 ∧ zs = []) ∨ ∃ x, a = some x ∧ len ≤ cap ∧ cap ≤ maxLen ∧ zs.length = cap ∧ (∀ i, i < zs.length → w.cell? (x.add i) = some (.int .u8 (zs.getD i 0))) ∧ ∀ n ∈ zs, (Lit.int .u8 n).wf = true) := by
  rcases open_ints Tryd.underlying22 Tryd.underlying5 (by kernel_rfl) h with ⟨hcs, _⟩ | ⟨x, l, c, zs, hcs, _, hl, hm, hz, _, hcell, hwz⟩
  ·exact ⟨none, 0, 0, [], hcs, .inl ⟨rfl, rfl, rfl, rfl⟩⟩
  ·exact ⟨some x, l, c, zs, hcs, .inr ⟨_, rfl, hl, hm, by simpa using hz, hcell, hwz⟩⟩
 obtain ⟨a, len, cap, zs, rfl, w0⟩ := hz
 obtain ⟨l0, rfl, hr0, hm0, hw0, hc0⟩ := ReadsInt.ofRowC w0
 refine ⟨a, cap, l0, rfl, C_of_reads hr0 rfl, hc0, fun v hv => ?_⟩
 have := hw0 v hv
 simp [Lit.wf, IntKind.min, IntKind.max, IntKind.signed, IntKind.bits] at this
 omega
end

end Go.Proofs.YtmbgjhkemlliaaaDoor.Tlv
end

section
set_option linter.unusedVariables false
set_option linter.unusedSimpArgs false
namespace Go.Proofs.YtmbgjhkemlliaaaDoor.Tlv
open Go.ChangeShapes Go.WideShapes Go.Deep Go.RowKit Go.Proofs.YtmbgjhkemlliaaaDoorW.PrintWords Go.Proofs.YtmbgjhkemlliaaaDoorW.PrintLast Go.Proofs.YtmbgjhkemlliaaaDoorW.PrintMore Go.Proofs.YtmbgjhkemlliaaaDoor.PT

section
variable {H : Type} {enc : TypeId × Value → H} {w : World} {base : Nat} {held : Bool}
set_option maxRecDepth 100000 in
/-- A key that came in. -/
theorem openK {r : Reach} {b0 : Nat} {v : Value} {d : DataW H} {p : List MemPlace} (hv : Value.okWide Tryd.prog w r b0 25 v) (h : DataW.Trod enc Tryd.prog w base (fun _ => true) held 25 v d p) :
 ∃ (A : Option Addr) (c : Nat) (l : List Int) (E : Int), v = .agg #[.slice A l.length c, .int .u32 E] ∧ (Kd.int .u8).C w A l.length l ∧ l.length ≤ c ∧ (∀ v ∈ l, 0 ≤ v ∧ v < 256) ∧ 0 ≤ E ∧ E < 4294967296 := by
 obtain ⟨cs, rfl, hsz⟩ := okWide_struct Tryd.underlying25 hv
 obtain ⟨fuel, hf⟩ := h
 obtain ⟨cs⟩ := cs
 obtain ⟨xs, n, hn, _, hl, hlen, hf⟩ := DataW.trod_struct Tryd.underlying25 hf
 have hl : cs.length = 2 := hl
 match cs, hl with
 | [v0, v1], _ =>
 match xs, hlen with
 | [y0, y1], _ =>
 have h0 := hf 0 _ rfl
 have h1 := hf 1 _ rfl
 replace h0 : DataW.trod enc Tryd.prog w base (fun _ => true) held n 22 [v0] = some y0 := h0
 replace h1 : DataW.trod enc Tryd.prog w base (fun _ => true) held n 23 [v1] = some y1 := h1
 obtain ⟨m0, e0, _, b0⟩ := DataW.trod_int Tryd.underlying23 h1
 obtain ⟨A1, c1, l1, e1, k1, g1, hb1⟩ := openB_f h0
 injection e0 with e0
 injection e1 with e1
 subst e0 e1
 refine ⟨A1, c1, l1, m0, rfl, k1, g1, hb1, ?_⟩
 simp [Lit.wf, IntKind.min, IntKind.max, IntKind.signed, IntKind.bits] at b0
 omega
end

end Go.Proofs.YtmbgjhkemlliaaaDoor.Tlv
end
