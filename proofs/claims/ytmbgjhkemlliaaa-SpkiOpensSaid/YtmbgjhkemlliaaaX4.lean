/- Merged by wip/tools/merge.py: YtmbgjhkemlliaaaWrite, YtmbgjhkemlliaaaMade, YtmbgjhkemlliaaaSeal, YtmbgjhkemlliaaaSame. -/
import Derived.Test.YtmbgjhkemlliaaaX3
import Derived.Test.YtmbgjhkemlliaaaT2
import Derived.Lib.Bytes
/- tlv.Write, walked. -/
set_option linter.unusedVariables false
set_option linter.unusedSimpArgs false
namespace Go.Proofs.Ytmbgjhkemlliaaa.Tlv
open Go.RowKit Go.Proofs.YtmbgjhkemlliaaaW.PrintWords Go.Proofs.YtmbgjhkemlliaaaW.PrintLast Go.Proofs.YtmbgjhkemlliaaaW.PrintMore Go.Proofs.Ytmbgjhkemlliaaa.PTlv

def writeP (t : T) : Res (List Int) := if rightT t = false then .err 2 else if 32 < deepT t then .err 4 else if 20000 < sizeT t then .err 5 else .ok (encT t)
def WritePost (w : World) (n : T) (e : Ending) (w' : World) : Prop := match writeP n with
  | .err x => e = .returned (.tuple #[.slice none 0 0, .int .i64 x]) ∧ Below w.heap.size w w'
  | .ok l => ∃ A c, e = .returned (.tuple #[.slice A l.length c, .int .i64 0]) ∧ (Kd.int .u8).R 5 w' w.heap.size (fun _ => True) (.slice A l.length c) l ∧ Below w.heap.size w w'

set_option maxHeartbeats 4000000 in
set_option maxRecDepth 100000 in
theorem write_walk (n : T) (hs : rightT n = true → sizeT n ≤ 100000000) (A1 : Option Addr) (c1 : Nat) (A2 : Option Addr) (c2 : Nat) (w : World) (hn : NodeAt w n A1 c1 A2 c2) :
    Calls Try.prog 13 #[.agg #[.int .i64 n.f0, .slice A1 n.f1.length c1, .slice A2 n.f2.length c2]] w (WritePost w n) := by
  have hnot : ∀ (x : Bool) (w : World), (Op.unary .not (.bool x)).run Try.prog w = .ok (.bool (!x)) w := fun _ _ => rfl
  have hbox : (w.alloc (.cells #[.int .i64 n.f0, .slice A1 n.f1.length c1, .slice A2 n.f2.length c2] 25)).heap[w.heap.size]? = some (.cells #[.int .i64 n.f0, .slice A1 n.f1.length c1, .slice A2 n.f2.length c2] 25 (0, 0)) := heap_alloc_new w _
  have hB1 : Below w.heap.size w (w.alloc (.cells #[.int .i64 n.f0, .slice A1 n.f1.length c1, .slice A2 n.f2.length c2] 25)) := (Below.refl _ _).alloc (Nat.le_refl _) _
  have H1 := Lib.hid (right_any n A1 c1 A2 c2 _ (hn.below hB1))
  have HS := Lib.hid hs
  have HN := Lib.hid hn
  have HB1 := Lib.hid hB1
  have hlt := heap_lt hbox
  have HLT := Lib.hid hlt
  have HBOX := Lib.hid hbox
  generalize hPP : WritePost w n = PP
  clear hs hn hbox hB1 hlt
  go_enter Try.func13, Try.ntmps13
  go_wp2_with (fail)
  refine H1.out.mono ?_
  rintro e w2 ⟨rfl, hB2⟩
  have hb2 := (hB2.block _ HLT.out).trans HBOX.out
  have a0 := Lib.cell_of_heap hb2 0
  have a1 := Lib.cell_of_heap hb2 1
  have a2 := Lib.cell_of_heap hb2 2
  have hB := HB1.out.trans (hB2.mono (by simp))
  have HB2 := Lib.hid hB
  have HBX2 := Lib.hid hb2
  clear hB hB2 hb2 H1 HB1 HBOX HLT
  cases hr : rightT n with
  | false =>
    have hp : PP = fun e w' => e = .returned (.tuple #[.slice none 0 0, .int .i64 2]) ∧ Below w.heap.size w w' := by
      rw [← hPP]; funext e w'; unfold WritePost writeP; rw [hr]; rfl
    clear hr hPP
    subst hp
    go_wp2
    go_ret2
    exact ⟨rfl, HB2.out⟩
  | true =>
    have h2 := size_walk n hr (HS.out hr) A1 c1 A2 c2 w2 (HN.out.below HB2.out)
    have H2 := Lib.hid h2
    clear h2
    have HR := Lib.hid hr
    clear hr
    go_wp2_with (fail)
    refine H2.out.mono ?_
    rintro e w3 ⟨rfl, hB3⟩
    have hb3 := (hB3.block _ (heap_lt HBX2.out)).trans HBX2.out
    have a0 := Lib.cell_of_heap hb3 0
    have a1 := Lib.cell_of_heap hb3 1
    have a2 := Lib.cell_of_heap hb3 2
    have hB := HB2.out.trans (hB3.mono (HB2.out.size))
    have HB3 := Lib.hid hB
    have HBX3 := Lib.hid hb3
    clear hB hB3 hb3 H2 HB2 HBX2
    by_cases h32 : 32 < deepT n
    · have hp : PP = fun e w' => e = .returned (.tuple #[.slice none 0 0, .int .i64 4]) ∧ Below w.heap.size w w' := by
        rw [← hPP]; funext e w'; unfold WritePost writeP; rw [HR.out, if_neg (by simp), if_pos h32]
      have hd := eq_true h32
      have hd' : decide (32 < deepT n) = true := decide_eq_true h32
      clear hPP h32
      subst hp
      go_wp2
      go_ret2
      exact ⟨rfl, HB3.out⟩
    · have hd := eq_false h32
      have hd' : decide (32 < deepT n) = false := decide_eq_false h32
      by_cases h20 : 20000 < sizeT n
      · have hp : PP = fun e w' => e = .returned (.tuple #[.slice none 0 0, .int .i64 5]) ∧ Below w.heap.size w w' := by
          rw [← hPP]; funext e w'; unfold WritePost writeP; rw [HR.out, if_neg (by simp), if_neg h32, if_pos h20]
        have hs := eq_true h20
        have hs' : decide (20000 < sizeT n) = true := decide_eq_true h20
        clear hPP h32 h20
        subst hp
        go_wp2
        go_ret2
        exact ⟨rfl, HB3.out⟩
      · have hs := eq_false h20
        have hs' : decide (20000 < sizeT n) = false := decide_eq_false h20
        have hp : PP = fun e w' => ∃ A c, e = .returned (.tuple #[.slice A (encT n).length c, .int .i64 0]) ∧ (Kd.int .u8).R 5 w' w.heap.size (fun _ => True) (.slice A (encT n).length c) (encT n) ∧ Below w.heap.size w w' := by
          rw [← hPP]; funext e w'; unfold WritePost writeP; rw [HR.out, if_neg (by simp), if_neg h32, if_neg h20]
        have hput := put_any n none 0 [] A1 c1 A2 c2 w w3 w.heap.size HN.out HB3.out (Nat.le_refl _) HB3.out.size (Kd.R_nil _ _ _ _ _) HR.out (by simp; omega)
        have HPUT := Lib.hid hput
        clear hput hPP h32 h20 HN HS HR
        subst hp
        go_wp2_with (fail)
        refine HPUT.out.mono ?_
        rintro e w4 ⟨A, c, rfl, ho4, hB4⟩
        rw [List.nil_append] at ho4 ⊢
        go_wp2
        go_ret2
        exact ⟨A, c, rfl, Kd.R_mono ho4 (fun _ _ => trivial), HB3.out.trans hB4⟩

end Go.Proofs.Ytmbgjhkemlliaaa.Tlv

/- spki.made, walked. -/
set_option linter.unusedVariables false
set_option linter.unusedSimpArgs false
namespace Go.Proofs.Ytmbgjhkemlliaaa.Tlv
open Go.RowKit Go.Proofs.YtmbgjhkemlliaaaW.PrintWords Go.Proofs.YtmbgjhkemlliaaaW.PrintLast Go.Proofs.YtmbgjhkemlliaaaW.PrintMore Go.Proofs.Ytmbgjhkemlliaaa.PTlv

theorem C_nil {α : Type} (d : Kd α) (w : World) (A : Option Addr) : d.C w A 0 [] := ⟨rfl, by omega, fun h => absurd h (by omega)⟩
theorem C_ints {k : IntKind} {w : World} {g : Nat} {t : TypeId} {l : List Int} (h : w.heap[g]? = some (.cells (l.map (Value.int k)).toArray t (0, 0))) (hl : l.length ≤ 9223372036854775807) : (Kd.int k).C w (some ⟨g, 0, none⟩) l.length l :=
  ⟨rfl, hl, fun _ => ⟨_, rfl, fun j p hj => ⟨[.int k p], rfl, rfl, fun i u hu => by
    cases i with
    | succ i => simp at hu
    | zero =>
      rw [List.getElem?_cons_zero] at hu
      injection hu with hu
      subst hu
      have e : Addr.add ⟨g, 0, none⟩ (j * 1 + 0) = ⟨g, j, none⟩ := by rw [Nat.mul_one, Nat.add_zero]; unfold Addr.add; simp; exact Eq.symm
      rw [show (Kd.int k).sz = 1 from rfl, e, Lib.cell_of_heap h j]
      rw [List.getElem?_toArray, List.getElem?_map, hj]; rfl⟩⟩⟩
/-- An element of one's own: its rows lie in blocks from base on, below m. -/
structure NodeR (w : World) (base m : Nat) (n : T) (v1 v2 : Value) : Prop where
  b : (Kd.int .u8).R 5 w base (fun k => base ≤ k ∧ k < m) v1 n.f1
  k : k25.R 25 w base (fun k => base ≤ k ∧ k < m) v2 n.f2
theorem NodeR.of {w : World} {base : Nat} {n : T} {v1 v2 : Value} {ok1 ok2 : Nat → Prop} (h1 : (Kd.int .u8).R 5 w base ok1 v1 n.f1) (h2 : k25.R 25 w base ok2 v2 n.f2) : NodeR w base w.heap.size n v1 v2 :=
  ⟨Kd.R_mono (Kd.R_bound h1) (fun _ h => ⟨h.2.1, h.2.2.1⟩), Kd.R_mono (Kd.R_bound h2) (fun _ h => ⟨h.2.1, h.2.2.1⟩)⟩
theorem NodeR.move {w w1 : World} {base m : Nat} {n : T} {v1 v2 : Value} (h : NodeR w base m n v1 v2) (hm : ∀ k, base ≤ k → k < m → w1.heap[k]? = w.heap[k]?) : NodeR w1 base m n v1 v2 :=
  ⟨Kd.R_move h.b (fun k hk => hm k hk.1 hk.2), Kd.R_move h.k (fun k hk => hm k hk.1 hk.2)⟩
theorem NodeR.widen {w : World} {base base' m m' : Nat} {n : T} {v1 v2 : Value} (h : NodeR w base m n v1 v2) (hb : base' ≤ base) (hm : m ≤ m') : NodeR w base' m' n v1 v2 :=
  ⟨Kd.R_lower (Kd.R_mono h.b (fun k hk => ⟨by omega, by omega⟩)) hb, Kd.R_lower (Kd.R_mono h.k (fun k hk => ⟨by omega, by omega⟩)) hb⟩
theorem NodeR.below {w w1 : World} {base m : Nat} {n : T} {v1 v2 : Value} (h : NodeR w base m n v1 v2) (hb : Below m w w1) : NodeR w1 base m n v1 v2 := h.move (fun k _ hk => hb.block k hk)
theorem NodeR.form {w : World} {base m : Nat} {n : T} {v1 v2 : Value} (h : NodeR w base m n v1 v2) : ∃ A1 c1 A2 c2, v1 = .slice A1 n.f1.length c1 ∧ v2 = .slice A2 n.f2.length c2 ∧ NodeAt w n A1 c1 A2 c2 := by
  obtain ⟨A1, c1, e1, hc1, hr1⟩ := Kd.R_reads h.b
  obtain ⟨A2, c2, e2, hc2, hr2⟩ := Kd.R_reads h.k
  exact ⟨A1, c1, A2, c2, e1, e2, hr1, hc1, hr2, hc2⟩
theorem NodeR.at {w : World} {base m : Nat} {n : T} {A1 : Option Addr} {c1 : Nat} {A2 : Option Addr} {c2 : Nat} (h : NodeR w base m n (.slice A1 n.f1.length c1) (.slice A2 n.f2.length c2)) : NodeAt w n A1 c1 A2 c2 := by
  obtain ⟨B1, d1, B2, d2, e1, e2, hn⟩ := h.form
  injection e1 with e1 _ e3
  injection e2 with e2 _ e4
  subst e1 e2 e3 e4
  exact hn
theorem NodeR.M {w : World} {base m g m' : Nat} {n : T} {v1 v2 : Value} (h : NodeR w base m n v1 v2) (hg : m ≤ g) (hm : m ≤ m') : k25.M w base (fun k => (base ≤ k ∧ k < m') ∧ some k ≠ some g) n [.int .i64 n.f0, v1, v2] :=
  k25_mkM w base _ n (Kd.R_mono h.b (fun k hk => ⟨⟨hk.1, by omega⟩, by simp; omega⟩)) (Kd.R_mono h.k (fun k hk => ⟨⟨hk.1, by omega⟩, by simp; omega⟩))
/-- A row of elements that has been laid in block g. -/
theorem R_row {w : World} {base g m : Nat} {l : List T} {cs : List Value} (h : w.heap[g]? = some (.cells cs.toArray 25 (0, 0))) (hb : base ≤ g) (hm : g < m) (hr : Reps (k25.M w base (fun k => (base ≤ k ∧ k < m) ∧ some k ≠ some g)) 3 l cs) (hl : l.length ≤ 1000000) :
    k25.R 25 w base (fun k => base ≤ k ∧ k < m) (.slice (some ⟨g, 0, none⟩) l.length l.length) l :=
  ⟨fun k hk => by
    have : g = k := by simpa [Value.ownBlock] using hk
    subst this
    exact ⟨hb, hm⟩, cs, ⟨hr.1, .inr ⟨g, l.length, cs.toArray, rfl, hb, h, Nat.le_refl _, by simp only [maxLen]; omega, by show cs.toArray.size = l.length * 3; rw [List.size_toArray]; exact hr.1, by
      rw [show cs.toArray.toList = cs from rfl]
      exact List.take_of_length_le (by rw [hr.1]; exact Nat.le_refl _)⟩⟩, hr⟩
theorem Reps_one {w : World} {base m g m' : Nat} {a : T} {x1 x2 : Value} (h1 : NodeR w base m a x1 x2) (hg : m ≤ g) (hm : m ≤ m') : Reps (k25.M w base (fun k => (base ≤ k ∧ k < m') ∧ some k ≠ some g)) 3 [a] [.int .i64 a.f0, x1, x2] :=
  (Reps.none _ _).snoc (p := a) (c := [.int .i64 a.f0, x1, x2]) (h1.M hg hm) rfl
theorem Reps_two {w : World} {base m g m' : Nat} {a b : T} {x1 x2 y1 y2 : Value} (h1 : NodeR w base m a x1 x2) (h2 : NodeR w base m b y1 y2) (hg : m ≤ g) (hm : m ≤ m') : Reps (k25.M w base (fun k => (base ≤ k ∧ k < m') ∧ some k ≠ some g)) 3 [a, b] [.int .i64 a.f0, x1, x2, .int .i64 b.f0, y1, y2] :=
  (Reps_one h1 hg hm).snoc (p := b) (c := [.int .i64 b.f0, y1, y2]) (h2.M hg hm) rfl
theorem Reps_three {w : World} {base m g m' : Nat} {a b c : T} {x1 x2 y1 y2 z1 z2 : Value} (h1 : NodeR w base m a x1 x2) (h2 : NodeR w base m b y1 y2) (h3 : NodeR w base m c z1 z2) (hg : m ≤ g) (hm : m ≤ m') : Reps (k25.M w base (fun k => (base ≤ k ∧ k < m') ∧ some k ≠ some g)) 3 [a, b, c] [.int .i64 a.f0, x1, x2, .int .i64 b.f0, y1, y2, .int .i64 c.f0, z1, z2] :=
  (Reps_two h1 h2 hg hm).snoc (p := c) (c := [.int .i64 c.f0, z1, z2]) (h3.M hg hm) rfl
theorem NodeR.nilnil (w : World) (base m : Nat) (a : Int) : NodeR w base m ⟨a, [], []⟩ (.slice none 0 0) (.slice none 0 0) := ⟨Kd.R_nil _ _ _ _ _, Kd.R_nil _ _ _ _ _⟩

def oidB (x : Int) : List Int := [42, 134, 72, 134, 247, 13, 1, 1, x]
def algT (x : Int) : T := ⟨48, [], [⟨6, oidB x, []⟩, ⟨5, [], []⟩]⟩
theorem oid_f11 : scalar_Oid.f 100 [1, 2, 840, 113549, 1, 1, 11] = some (6, oidB 11, [], 0) := by kernel_rfl
theorem oid_f1 : scalar_Oid.f 100 [1, 2, 840, 113549, 1, 1, 1] = some (6, oidB 1, [], 0) := by kernel_rfl

set_option maxHeartbeats 4000000 in
set_option maxRecDepth 100000 in
theorem made_walk (x : Int) (hf : scalar_Oid.f 100 [1, 2, 840, 113549, 1, 1, x] = some (6, oidB x, [], 0)) (w : World) :
    Calls Try.prog 14 #[.int .u32 x] w fun e w' => ∃ v1 v2, e = .returned (.agg #[.int .i64 48, v1, v2]) ∧ NodeR w' w.heap.size w'.heap.size (algT x) v1 v2 ∧ Below w.heap.size w w' := by
  have HF := Lib.hid hf
  clear hf
  go_enter Try.func14, Try.ntmps14
  go_wp2_with (fail)
  have hl2 : ((w.alloc (.cells #[.int .i64 0, .slice none 0 0, .slice none 0 0] 25)).alloc (.cells #[.int .u32 1, .int .u32 2, .int .u32 840, .int .u32 113549, .int .u32 1, .int .u32 1, .int .u32 x] 39)).heap[w.heap.size + 1]? = some (.cells ([1, 2, 840, 113549, 1, 1, x].map (Value.int .u32)).toArray 39 (0, 0)) := by
    have := heap_alloc_new (w.alloc (.cells #[.int .i64 0, .slice none 0 0, .slice none 0 0] 25)) (.cells #[.int .u32 1, .int .u32 2, .int .u32 840, .int .u32 113549, .int .u32 1, .int .u32 1, .int .u32 x] 39)
    simpa using this
  have hb0 : ((w.alloc (.cells #[.int .i64 0, .slice none 0 0, .slice none 0 0] 25)).alloc (.cells #[.int .u32 1, .int .u32 2, .int .u32 840, .int .u32 113549, .int .u32 1, .int .u32 1, .int .u32 x] 39)).heap[w.heap.size]? = some (.cells #[.int .i64 0, .slice none 0 0, .slice none 0 0] 25 (0, 0)) :=
    (Below.heap_alloc _ _ _ (by simp)).trans (heap_alloc_new w _)
  have hB2 : Below w.heap.size w ((w.alloc (.cells #[.int .i64 0, .slice none 0 0, .slice none 0 0] 25)).alloc (.cells #[.int .u32 1, .int .u32 2, .int .u32 840, .int .u32 113549, .int .u32 1, .int .u32 1, .int .u32 x] 39)) := ((Below.refl _ _).alloc (Nat.le_refl _) _).alloc (by simp) _
  generalize (w.alloc (.cells #[.int .i64 0, .slice none 0 0, .slice none 0 0] 25)).alloc (.cells #[.int .u32 1, .int .u32 2, .int .u32 840, .int .u32 113549, .int .u32 1, .int .u32 1, .int .u32 x] 39) = w2 at hl2 hb0 hB2 ⊢
  refine (scalar_Oid.calls 100 (some ⟨w.heap.size + 1, 0, none⟩) 7 [1, 2, 840, 113549, 1, 1, x] 6 (oidB x) [] 0 w2 (C_ints hl2 (by simp)) (by simp) HF.out).mono ?_
  rintro e w3 ⟨v1, v2, rfl, hv1, hv2, hB3⟩
  obtain ⟨A1, c1, rfl⟩ := Kd.R_slice hv1
  obtain ⟨A2, c2, rfl⟩ := Kd.R_slice hv2
  have hb3 := (hB3.block _ (heap_lt hb0)).trans hb0
  have hlt := heap_lt hb3
  have hB := hB2.trans (hB3.mono hB2.size)
  have h0 := NodeR.of (n := ⟨6, oidB x, []⟩) hv1 hv2
  have H0 := Lib.hid h0
  have HLT2 := Lib.hid (And.intro (heap_lt hb0) hB3.size)
  have HB := Lib.hid hB
  have HB3 := Lib.hid hb3
  have a0 := Lib.cell_of_heap hb3 0
  have a1 := Lib.cell_of_heap hb3 1
  have a2 := Lib.cell_of_heap hb3 2
  have f0 := Lib.frozen_of_heap hb3 0
  have f1 := Lib.frozen_of_heap hb3 1
  have f2 := Lib.frozen_of_heap hb3 2
  clear h0 hB hb3 hl2 hb0 hB2 hB3 hv1 hv2
  have holen : (oidB x).length = 9 := rfl
  rw [holen]
  go_wp2
  have z0 : (((w3.setCell ⟨w.heap.size, 0, none⟩ (.int .i64 48)).setCell ⟨w.heap.size, 1, none⟩ (.slice none 0 0)).setCell ⟨w.heap.size, 2, none⟩ (.slice (some ⟨w3.heap.size + 1, 0, none⟩) 2 2)).heap[w.heap.size]? = some (.cells #[.int .i64 48, .slice none 0 0, .slice (some ⟨w3.heap.size + 1, 0, none⟩) 2 2] 25 (0, 0)) :=
    heap_setCell_same _ _ 2 _ _ _ (heap_setCell_same _ _ 1 _ _ _ (heap_setCell_same _ _ 0 _ _ _ HB3.out))
  have zB : Below w.heap.size w (((w3.setCell ⟨w.heap.size, 0, none⟩ (.int .i64 48)).setCell ⟨w.heap.size, 1, none⟩ (.slice none 0 0)).setCell ⟨w.heap.size, 2, none⟩ (.slice (some ⟨w3.heap.size + 1, 0, none⟩) 2 2)) :=
    Below.setCell (Below.setCell (Below.setCell HB.out (p := ⟨w.heap.size, 0, none⟩) (Nat.le_refl _) _) (p := ⟨w.heap.size, 1, none⟩) (Nat.le_refl _) _) (p := ⟨w.heap.size, 2, none⟩) (Nat.le_refl _) _
  have zs : (((w3.setCell ⟨w.heap.size, 0, none⟩ (.int .i64 48)).setCell ⟨w.heap.size, 1, none⟩ (.slice none 0 0)).setCell ⟨w.heap.size, 2, none⟩ (.slice (some ⟨w3.heap.size + 1, 0, none⟩) 2 2)).heap.size = w3.heap.size := by simp
  have zk : ∀ k, k ≠ w.heap.size → (((w3.setCell ⟨w.heap.size, 0, none⟩ (.int .i64 48)).setCell ⟨w.heap.size, 1, none⟩ (.slice none 0 0)).setCell ⟨w.heap.size, 2, none⟩ (.slice (some ⟨w3.heap.size + 1, 0, none⟩) 2 2)).heap[k]? = w3.heap[k]? :=
    fun k hk => (heap_setCell_other _ _ _ _ hk).trans ((heap_setCell_other _ _ _ _ hk).trans (heap_setCell_other _ _ _ _ hk))
  generalize ((w3.setCell ⟨w.heap.size, 0, none⟩ (.int .i64 48)).setCell ⟨w.heap.size, 1, none⟩ (.slice none 0 0)).setCell ⟨w.heap.size, 2, none⟩ (.slice (some ⟨w3.heap.size + 1, 0, none⟩) 2 2) = w4 at z0 zB zs zk ⊢
  have hn := H0.out
  obtain ⟨hq1, hq2⟩ := HLT2.out
  rw [← zs]
  rw [← zs] at z0
  have hr0 : ((w4.alloc (.cells #[.int .i64 6, .slice A1 9 c1, .slice A2 0 c2] 25)).alloc (.cells #[.int .i64 6, .slice A1 9 c1, .slice A2 0 c2, .int .i64 5, .slice none 0 0, .slice none 0 0] 25)).heap[w.heap.size]? = some (.cells #[.int .i64 48, .slice none 0 0, .slice (some ⟨w4.heap.size + 1, 0, none⟩) 2 2] 25 (0, 0)) :=
    (Below.heap_alloc _ _ _ (by simp; omega)).trans ((Below.heap_alloc _ _ _ (by omega)).trans z0)
  have hk0 : ((w4.alloc (.cells #[.int .i64 6, .slice A1 9 c1, .slice A2 0 c2] 25)).alloc (.cells #[.int .i64 6, .slice A1 9 c1, .slice A2 0 c2, .int .i64 5, .slice none 0 0, .slice none 0 0] 25)).heap[w4.heap.size + 1]? = some (.cells [.int .i64 6, .slice A1 9 c1, .slice A2 0 c2, .int .i64 5, .slice none 0 0, .slice none 0 0].toArray 25 (0, 0)) := by
    have := heap_alloc_new (w4.alloc (.cells #[.int .i64 6, .slice A1 9 c1, .slice A2 0 c2] 25)) (.cells #[.int .i64 6, .slice A1 9 c1, .slice A2 0 c2, .int .i64 5, .slice none 0 0, .slice none 0 0] 25)
    simpa using this
  have hBf : Below w4.heap.size w4 ((w4.alloc (.cells #[.int .i64 6, .slice A1 9 c1, .slice A2 0 c2] 25)).alloc (.cells #[.int .i64 6, .slice A1 9 c1, .slice A2 0 c2, .int .i64 5, .slice none 0 0, .slice none 0 0] 25)) := ((Below.refl _ _).alloc (Nat.le_refl _) _).alloc (by simp) _
  have hsf : ((w4.alloc (.cells #[.int .i64 6, .slice A1 9 c1, .slice A2 0 c2] 25)).alloc (.cells #[.int .i64 6, .slice A1 9 c1, .slice A2 0 c2, .int .i64 5, .slice none 0 0, .slice none 0 0] 25)).heap.size = w4.heap.size + 2 := by simp
  generalize (w4.alloc (.cells #[.int .i64 6, .slice A1 9 c1, .slice A2 0 c2] 25)).alloc (.cells #[.int .i64 6, .slice A1 9 c1, .slice A2 0 c2, .int .i64 5, .slice none 0 0, .slice none 0 0] 25) = w5 at hr0 hk0 hBf hsf ⊢
  have b0 := Lib.cell_of_heap hr0 0
  have b1 := Lib.cell_of_heap hr0 1
  have b2 := Lib.cell_of_heap hr0 2
  have hn5 : NodeR w5 w.heap.size w4.heap.size ⟨6, oidB x, []⟩ (.slice A1 9 c1) (.slice A2 0 c2) := by
    refine (NodeR.widen (NodeR.move (w1 := w5) hn (fun k hk1 hk2 => ?_)) (by omega) (by omega))
    rw [hBf.block k (by omega)]
    exact zk k (by omega)
  refine bodyPost_ret (v := .agg #[.int .i64 48, .slice none 0 0, .slice (some ⟨w4.heap.size + 1, 0, none⟩) 2 2]) (by simp [results, Try.results14, go_sem, b0, b1, b2]) rfl ?_
  refine ⟨_, _, rfl, ⟨Kd.R_nil _ _ _ _ _, ?_⟩, zB.trans (hBf.mono (by omega))⟩
  exact R_row (l := [⟨6, oidB x, []⟩, ⟨5, [], []⟩]) hk0 (by omega) (by omega) (Reps_two hn5 (NodeR.nilnil w5 w.heap.size w4.heap.size 5) (by omega) (by omega)) (by simp)

end Go.Proofs.Ytmbgjhkemlliaaa.Tlv

/- spki.Seal, walked. -/
set_option linter.unusedVariables false
set_option linter.unusedSimpArgs false
namespace Go.Proofs.Ytmbgjhkemlliaaa.Tlv
open Go.RowKit Go.Proofs.YtmbgjhkemlliaaaW.PrintWords Go.Proofs.YtmbgjhkemlliaaaW.PrintLast Go.Proofs.YtmbgjhkemlliaaaW.PrintMore Go.Proofs.Ytmbgjhkemlliaaa.PTlv

theorem NodeAt.K {w : World} {n : T} {A1 : Option Addr} {c1 : Nat} {A2 : Option Addr} {c2 : Nat} (h : NodeAt w n A1 c1 A2 c2) : k25.K w n [.int .i64 n.f0, .slice A1 n.f1.length c1, .slice A2 n.f2.length c2] := k25_mk w n h.2.1 h.1 h.2.2.2 h.2.2.1
/-- A row of elements that has been laid in block g, as it is read. -/
theorem C_row {w : World} {g : Nat} {l : List T} {cs : List Value} (h : w.heap[g]? = some (.cells cs.toArray 25 (0, 0))) (hr : Reps (k25.K w) 3 l cs) (hl : l.length ≤ 1000000) : k25.C w (some ⟨g, 0, none⟩) l.length l := by
  have ho : w.ownsRow g 25 3 (.slice (some ⟨g, 0, none⟩) l.length l.length) l.length cs :=
    ⟨hr.1, .inr ⟨g, l.length, cs.toArray, rfl, Nat.le_refl _, h, Nat.le_refl _, by simp only [maxLen]; omega, by rw [List.size_toArray]; exact hr.1, by
      rw [show cs.toArray.toList = cs from rfl]
      exact List.take_of_length_le (by rw [hr.1]; exact Nat.le_refl _)⟩⟩
  obtain ⟨A, c, e, hc⟩ := own_reads_row ho hr rfl
  injection e with e1 _ _
  subst e1
  exact hc
theorem KReps_one {w : World} {a : T} {x1 x2 : Value} (h1 : k25.K w a [.int .i64 a.f0, x1, x2]) : Reps (k25.K w) 3 [a] [.int .i64 a.f0, x1, x2] :=
  (Reps.none _ _).snoc (p := a) (c := [.int .i64 a.f0, x1, x2]) h1 rfl
theorem KReps_two {w : World} {a b : T} {x1 x2 y1 y2 : Value} (h1 : k25.K w a [.int .i64 a.f0, x1, x2]) (h2 : k25.K w b [.int .i64 b.f0, y1, y2]) : Reps (k25.K w) 3 [a, b] [.int .i64 a.f0, x1, x2, .int .i64 b.f0, y1, y2] :=
  (KReps_one h1).snoc (p := b) (c := [.int .i64 b.f0, y1, y2]) h2 rfl
theorem KReps_three {w : World} {a b c : T} {x1 x2 y1 y2 z1 z2 : Value} (h1 : k25.K w a [.int .i64 a.f0, x1, x2]) (h2 : k25.K w b [.int .i64 b.f0, y1, y2]) (h3 : k25.K w c [.int .i64 c.f0, z1, z2]) : Reps (k25.K w) 3 [a, b, c] [.int .i64 a.f0, x1, x2, .int .i64 b.f0, y1, y2, .int .i64 c.f0, z1, z2] :=
  (KReps_two h1 h2).snoc (p := c) (c := [.int .i64 c.f0, z1, z2]) h3 rfl

def bitT (l : List Int) : T := ⟨3, 0 :: l, []⟩
def sealT (n : T) (sig : List Int) : T := ⟨48, [], [n, algT 11, bitT sig]⟩
theorem whole_f (l : List Int) (hl : l.length ≤ 1000000) : spki_whole.f l = some (3, 0 :: l, []) := by
  have e1 : wrap64 (8 * (l.length : Int)) = 8 * (l.length : Int) := by unfold wrap64; omega
  have e2 : wrap64 (8 * (l.length : Int) - 8 * (l.length : Int)) = 0 := by unfold wrap64; omega
  unfold spki_whole.f scalar_Bits.f
  rw [e1, if_neg (by omega), e2, if_neg (by omega), if_neg (by omega), if_neg (by omega)]
  have e3 : ([(0 : Int) % 256] : List Int).length + l.length < 140737488355328 := by simp; omega
  rw [Option.bind_some, if_pos e3, Option.bind_some]
  rfl

set_option maxHeartbeats 4000000 in
set_option maxRecDepth 100000 in
theorem seal_walk (n : T) (sig : List Int) (hs : rightT n = true → sizeT n ≤ 1000000) (hsl : sig.length ≤ 1000000) (A1 : Option Addr) (c1 : Nat) (A2 : Option Addr) (c2 : Nat) (As : Option Addr) (cs : Nat) (w : World) (hn : NodeAt w n A1 c1 A2 c2) (hsr : ReadsInt w .u8 As sig.length sig) (hsc : sig.length ≤ cs) :
    Calls Try.prog 7 #[.agg #[.int .i64 n.f0, .slice A1 n.f1.length c1, .slice A2 n.f2.length c2], .slice As sig.length cs] w (WritePost w (sealT n sig)) := by
  have hbox : (w.alloc (.cells #[.int .i64 n.f0, .slice A1 n.f1.length c1, .slice A2 n.f2.length c2] 25)).drew.heap[w.heap.size]? = some (.cells #[.int .i64 n.f0, .slice A1 n.f1.length c1, .slice A2 n.f2.length c2] 25 (0, 0)) := heap_alloc_new w _
  have hB1 : Below w.heap.size w (w.alloc (.cells #[.int .i64 n.f0, .slice A1 n.f1.length c1, .slice A2 n.f2.length c2] 25)).drew := ((Below.refl _ _).alloc (Nat.le_refl _) _).drew
  have hsz1 : (w.alloc (.cells #[.int .i64 n.f0, .slice A1 n.f1.length c1, .slice A2 n.f2.length c2] 25)).drew.heap.size = w.heap.size + 1 := by show (w.alloc _).heap.size = _; simp
  have a0 := Lib.cell_of_heap hbox 0
  have a1 := Lib.cell_of_heap hbox 1
  have a2 := Lib.cell_of_heap hbox 2
  have hrs : rightT (sealT n sig) = true → sizeT (sealT n sig) ≤ 100000000 := by
    intro h
    unfold sealT at h ⊢
    rw [rightT, Bool.and_eq_true] at h
    have h0 := h.2
    rw [rightL, Bool.and_eq_true] at h0
    have h1 := hs h0.1
    have e : holdsB 48 = true := by decide
    have h2 := headLen_pos (sizeL [n, algT 11, bitT sig])
    have h3 : sizeT (algT 11) = 15 := by decide
    have h4 : sizeT (bitT sig) = ((0 :: sig).length : Int) + headLen (((0 :: sig).length : Nat) : Int) := by unfold bitT; rw [sizeT, if_neg (by decide)]
    have h5 := headLen_pos (((0 :: sig).length : Nat) : Int)
    have h6 : (((0 : Int) :: sig).length : Int) = sig.length + 1 := by simp
    have h7 : sizeL [n, algT 11, bitT sig] = sizeT n + (sizeT (algT 11) + (sizeT (bitT sig) + 0)) := by rw [sizeL, sizeL, sizeL, sizeL]
    rw [sizeT, if_pos e]
    omega
  generalize hPP : WritePost w (sealT n sig) = PP
  have hseal : ∀ (w2 w3 : World) (M1 : Option Addr) (m1 : Nat) (M2 : Option Addr) (m2 : Nat), Below w.heap.size w w2 → w2.heap.size = w.heap.size + 1 → w2.heap[w.heap.size]? = some (.cells #[.int .i64 n.f0, .slice A1 n.f1.length c1, .slice A2 n.f2.length c2] 25 (0, 0)) →
      NodeR w3 w2.heap.size w3.heap.size (algT 11) (.slice M1 0 m1) (.slice M2 2 m2) → Below w2.heap.size w2 w3 →
      (w3.cell? ⟨w.heap.size, 0, none⟩ = some (.int .i64 n.f0) ∧ w3.cell? ⟨w.heap.size, 1, none⟩ = some (.slice A1 n.f1.length c1) ∧ w3.cell? ⟨w.heap.size, 2, none⟩ = some (.slice A2 n.f2.length c2)) ∧
      (Kd.int .u8).C w3 As sig.length sig ∧ sig.length ≤ cs ∧ spki_whole.f sig = some (3, 0 :: sig, []) ∧
      (∀ (w4 : World) (W1 : Option Addr) (d1 : Nat) (W2 : Option Addr) (d2 : Nat), (Kd.int .u8).R 5 w4 w3.heap.size (fun _ => True) (.slice W1 (0 :: sig).length d1) (0 :: sig) → k25.R 25 w4 w3.heap.size (fun k => some k ≠ (Value.slice W1 (0 :: sig).length d1).ownBlock) (.slice W2 ([] : List T).length d2) [] → Below w3.heap.size w3 w4 →
        (w4.cell? ⟨w.heap.size, 0, none⟩ = some (.int .i64 n.f0) ∧ w4.cell? ⟨w.heap.size, 1, none⟩ = some (.slice A1 n.f1.length c1) ∧ w4.cell? ⟨w.heap.size, 2, none⟩ = some (.slice A2 n.f2.length c2)) ∧
        ((w4.alloc (.cells #[.int .i64 n.f0, .slice A1 n.f1.length c1, .slice A2 n.f2.length c2, .int .i64 48, .slice M1 0 m1, .slice M2 2 m2, .int .i64 3, .slice W1 (sig.length + 1) d1, .slice W2 0 d2] 25)).cell? ⟨w.heap.size, 0, none⟩ = some (.int .i64 n.f0) ∧ (w4.alloc (.cells #[.int .i64 n.f0, .slice A1 n.f1.length c1, .slice A2 n.f2.length c2, .int .i64 48, .slice M1 0 m1, .slice M2 2 m2, .int .i64 3, .slice W1 (sig.length + 1) d1, .slice W2 0 d2] 25)).cell? ⟨w.heap.size, 1, none⟩ = some (.slice A1 n.f1.length c1) ∧ (w4.alloc (.cells #[.int .i64 n.f0, .slice A1 n.f1.length c1, .slice A2 n.f2.length c2, .int .i64 48, .slice M1 0 m1, .slice M2 2 m2, .int .i64 3, .slice W1 (sig.length + 1) d1, .slice W2 0 d2] 25)).cell? ⟨w.heap.size, 2, none⟩ = some (.slice A2 n.f2.length c2)) ∧
        Calls Try.prog 13 #[.agg #[.int .i64 48, .slice none 0 0, .slice (some ⟨w4.heap.size, 0, none⟩) 3 3]] (w4.alloc (.cells #[.int .i64 n.f0, .slice A1 n.f1.length c1, .slice A2 n.f2.length c2, .int .i64 48, .slice M1 0 m1, .slice M2 2 m2, .int .i64 3, .slice W1 (sig.length + 1) d1, .slice W2 0 d2] 25)) fun e w5 => ∃ va vb, e = .returned (.tuple #[va, vb]) ∧ PP (.returned (.tuple #[va, vb])) w5 ∧
          (w5.cell? ⟨w.heap.size, 0, none⟩ = some (.int .i64 n.f0) ∧ w5.cell? ⟨w.heap.size, 1, none⟩ = some (.slice A1 n.f1.length c1) ∧ w5.cell? ⟨w.heap.size, 2, none⟩ = some (.slice A2 n.f2.length c2))) := by
    intro w2 w3 M1 m1 M2 m2 hB2 hs2 h2 ho3 hB3
    have h3 := (hB3.block _ (heap_lt h2)).trans h2
    have hBw3 : Below w.heap.size w w3 := hB2.trans (hB3.mono (by omega))
    refine ⟨⟨Lib.cell_of_heap h3 0, Lib.cell_of_heap h3 1, Lib.cell_of_heap h3 2⟩, Kd.C_below (C_of_reads hsr rfl) hBw3, hsc, whole_f sig hsl, ?_⟩
    intro w4 W1 d1 W2 d2 hv1 hv2 hB4
    have h4 := (hB4.block _ (heap_lt h3)).trans h3
    have hBw4 : Below w.heap.size w w4 := hBw3.trans (hB4.mono hBw3.size)
    have hn4 := hn.below hBw4
    have hm4 := (ho3.below hB4).at (n := algT 11)
    have hw4 := (NodeR.of (n := bitT sig) hv1 hv2).at
    generalize hob : (Obj.cells #[.int .i64 n.f0, .slice A1 n.f1.length c1, .slice A2 n.f2.length c2, .int .i64 48, .slice M1 0 m1, .slice M2 2 m2, .int .i64 3, .slice W1 (sig.length + 1) d1, .slice W2 0 d2] 25 : Obj) = ob
    have h5 := (Below.heap_alloc w4 ob _ (heap_lt h4)).trans h4
    have h6 : (w4.alloc ob).heap[w4.heap.size]? = some ob := heap_alloc_new w4 _
    have hBB : Below w4.heap.size w4 (w4.alloc ob) := (Below.refl _ _).alloc (Nat.le_refl _) _
    refine ⟨⟨Lib.cell_of_heap h4 0, Lib.cell_of_heap h4 1, Lib.cell_of_heap h4 2⟩, ⟨Lib.cell_of_heap h5 0, Lib.cell_of_heap h5 1, Lib.cell_of_heap h5 2⟩, ?_⟩
    have hk : k25.C (w4.alloc ob) (some ⟨w4.heap.size, 0, none⟩) 3 [n, algT 11, bitT sig] :=
      C_row (cs := [.int .i64 n.f0, .slice A1 n.f1.length c1, .slice A2 n.f2.length c2, .int .i64 48, .slice M1 0 m1, .slice M2 2 m2, .int .i64 3, .slice W1 (sig.length + 1) d1, .slice W2 0 d2]) (by rw [h6, ← hob]) (KReps_three (NodeAt.K (n := n) (hn4.below hBB)) (NodeAt.K (n := algT 11) (hm4.below hBB)) (NodeAt.K (n := bitT sig) (hw4.below hBB))) (by simp)
    have hnode : NodeAt (w4.alloc ob) (sealT n sig) none 0 (some ⟨w4.heap.size, 0, none⟩) 3 := ⟨C_nil _ _ _, Nat.le_refl _, hk, Nat.le_refl _⟩
    refine (write_walk (sealT n sig) hrs none 0 (some ⟨w4.heap.size, 0, none⟩) 3 (w4.alloc ob) hnode).mono ?_
    intro e w5 hp
    have hBw5 : Below w.heap.size w (w4.alloc ob) := hBw4.trans (hBB.mono hBw4.size)
    have hlt5 := heap_lt h5
    unfold WritePost at hp
    have hE : ∃ va vb, e = .returned (.tuple #[va, vb]) ∧ WritePost w (sealT n sig) (.returned (.tuple #[va, vb])) w5 ∧ Below (w4.alloc ob).heap.size (w4.alloc ob) w5 := by
      unfold WritePost
      cases hq : writeP (sealT n sig) with
      | err x =>
        rw [hq] at hp
        obtain ⟨rfl, hb5⟩ := hp
        exact ⟨_, _, rfl, ⟨rfl, hBw5.trans (hb5.mono hBw5.size)⟩, hb5⟩
      | ok l =>
        rw [hq] at hp
        obtain ⟨A, c, rfl, ho5, hb5⟩ := hp
        exact ⟨_, _, rfl, ⟨A, c, rfl, Kd.R_lower ho5 hBw5.size, hBw5.trans (hb5.mono hBw5.size)⟩, hb5⟩
    obtain ⟨va, vb, rfl, hw, hb5⟩ := hE
    have h7 := (hb5.block _ hlt5).trans h5
    exact ⟨va, vb, rfl, hPP ▸ hw, Lib.cell_of_heap h7 0, Lib.cell_of_heap h7 1, Lib.cell_of_heap h7 2⟩
  have HSEAL := Lib.hid (fun w3 M1 m1 M2 m2 h3 hb3 => hseal _ w3 M1 m1 M2 m2 hB1 hsz1 hbox h3 hb3)
  clear hseal hPP hrs hbox hB1 hsz1 hn hsr hs hsl hsc
  go_enter Try.func7, Try.ntmps7
  go_wp2
  refine start_ (n := 11) (S := fun w' => w'.cell? ⟨w.heap.size, 0, none⟩ = some (.int .i64 n.f0) ∧ w'.cell? ⟨w.heap.size, 1, none⟩ = some (.slice A1 n.f1.length c1) ∧ w'.cell? ⟨w.heap.size, 2, none⟩ = some (.slice A2 n.f2.length c2)) (ds := []) #[false, false, false, false, false, false, false, false, false, false, false] (by kernel_rfl) rfl rfl ⟨a0, a1, a2⟩ (fun hHeld => ?_)
  refine pure_ (i := 2) (N := some 8) (v := ?_) (a' := ?_) #[false, false, true, false, false, false, false, false, false, false, false] rfl rfl (by kernel_rfl) (fun _ _ _ h => h) (Or.inl ⟨by rfl, ?_⟩) ?_ ?_
  rotate_left
  · intro w'
    go_simp
    with_reducible rfl
  rotate_left
  · simp only [Act.put, List.setIfInBounds_toArray, List.set_cons_zero, List.set_cons_succ, i64_w, i32_w]
    rfl
  refine take_ (i := 0) (N := some 6) (v := ?_) (a' := ?_) #[true, false, true, false, false, false, false, false, false, false, false] rfl rfl (by kernel_rfl) (fun _ _ _ h => h) (Or.inl ⟨by rfl, ?_⟩) hHeld ?_ ?_
  rotate_left
  · rintro w' ⟨s0, s1, s2⟩
    go_simp
    with_reducible rfl
  rotate_left
  · simp only [Act.put, List.setIfInBounds_toArray, List.set_cons_zero, List.set_cons_succ, i64_w, i32_w]
    rfl
  refine one_ (i := 1) (N := some 7) #[true, true, true, false, false, false, false, false, false, false, false] rfl rfl (by kernel_rfl) (by decide) (fun K hK => ?_)
  refine goes_ Try.func14 (by kernel_rfl) rfl #[.int .u32 11] (by rfl) rfl rfl (by (try simp only [List.map_toArray, List.map_cons, List.map_nil]); first | done | rfl) ?_
  refine (made_walk 11 oid_f11 _).mono ?_
  rintro e w3 ⟨v1, v2, rfl, ho3, hb3⟩
  refine ⟨_, rfl, ?_⟩
  obtain ⟨M1, m1, M2, m2, rfl, rfl, hm⟩ := ho3.form
  have HF := Lib.hid (HSEAL.out w3 M1 m1 M2 m2 ho3 hb3)
  clear ho3 hb3 hm
  refine hK.out _ _ HF.out.1 (fun hHeld => ?_)
  clear hK K
  refine norm_ (a' := ?_) ?_ ?_
  rotate_left
  · show Act.put _ (some 7) _ = _
    simp only [Act.put, List.setIfInBounds_toArray, List.set_cons_zero, List.set_cons_succ, i64_w, i32_w]
    rfl
  refine one_ (i := 3) (N := some 9) #[true, true, true, true, false, false, false, false, false, false, false] rfl rfl (by kernel_rfl) (by decide) (fun K hK => ?_)
  refine goes_ Try.func15 (by kernel_rfl) rfl #[.slice As sig.length cs] (by rfl) rfl rfl (by (try simp only [List.map_toArray, List.map_cons, List.map_nil]); first | done | rfl) ?_
  refine (spki_whole.calls As cs sig 3 (0 :: sig) [] w3 HF.out.2.1 HF.out.2.2.1 HF.out.2.2.2.1).mono ?_
  rintro e w4 ⟨v1, v2, rfl, hv1, hv2, hb4⟩
  refine ⟨_, rfl, ?_⟩
  obtain ⟨W1, d1, rfl⟩ := Kd.R_slice hv1
  obtain ⟨W2, d2, rfl⟩ := Kd.R_slice hv2
  have HG := Lib.hid (HF.out.2.2.2.2 w4 W1 d1 W2 d2 hv1 hv2 hb4)
  clear hv1 hv2 hb4
  refine hK.out _ _ HG.out.1 (fun hHeld => ?_)
  clear hK K
  refine norm_ (a' := ?_) ?_ ?_
  rotate_left
  · show Act.put _ (some 9) _ = _
    simp only [Act.put, List.setIfInBounds_toArray, List.set_cons_zero, List.set_cons_succ, i64_w, i32_w]
    rfl
  refine one_ (i := 4) (N := some 10) #[true, true, true, true, true, false, false, false, false, false, false] rfl rfl (by kernel_rfl) (by decide) (fun K hK => ?_)
  refine event_step (by rfl) (v := .slice (some ⟨w4.heap.size, 0, none⟩) 3 3) (w1 := w4.alloc (.cells #[.int .i64 n.f0, .slice A1 n.f1.length c1, .slice A2 n.f2.length c2, .int .i64 48, .slice M1 0 m1, .slice M2 2 m2, .int .i64 3, .slice W1 (sig.length + 1) d1, .slice W2 0 d2] 25)) (by go_simp; try rfl) ?_
  refine hK.out _ _ HG.out.2.1 (fun hHeld => ?_)
  clear hK K
  refine norm_ (a' := ?_) ?_ ?_
  rotate_left
  · show Act.put _ (some 10) _ = _
    simp only [Act.put, List.setIfInBounds_toArray, List.set_cons_zero, List.set_cons_succ, i64_w, i32_w]
    rfl
  refine pure_ (i := 5) (N := some 11) (v := ?_) (a' := ?_) #[true, true, true, true, true, true, false, false, false, false, false] rfl rfl (by kernel_rfl) (fun _ _ _ h => h) (Or.inl ⟨by rfl, ?_⟩) ?_ ?_
  rotate_left
  · intro w'
    go_simp
    with_reducible rfl
  rotate_left
  · simp only [Act.put, List.setIfInBounds_toArray, List.set_cons_zero, List.set_cons_succ, i64_w, i32_w]
    rfl
  refine one_ (i := 6) (N := some 12) #[true, true, true, true, true, true, true, false, false, false, false] rfl rfl (by kernel_rfl) (by decide) (fun K hK => ?_)
  refine goes_ Try.func13 (by kernel_rfl) rfl #[.agg #[.int .i64 48, .slice none 0 0, .slice (some ⟨w4.heap.size, 0, none⟩) 3 3]] (by rfl) rfl rfl (by (try simp only [List.map_toArray, List.map_cons, List.map_nil]); first | done | rfl) ?_
  refine (HG.out.2.2).mono ?_
  rintro e w5 ⟨va, vb, rfl, hpo, hs5⟩
  refine ⟨_, rfl, ?_⟩
  refine hK.out _ _ hs5 (fun hHeld => ?_)
  clear hK K
  refine norm_ (a' := ?_) ?_ ?_
  rotate_left
  · show Act.put _ (some 12) _ = _
    simp only [Act.put, List.setIfInBounds_toArray, List.set_cons_zero, List.set_cons_succ, i64_w, i32_w]
    rfl
  refine pure_ (i := 7) (N := some 13) (v := ?_) (a' := ?_) #[true, true, true, true, true, true, true, true, false, false, false] rfl rfl (by kernel_rfl) (fun _ _ _ h => h) (Or.inl ⟨by rfl, ?_⟩) ?_ ?_
  rotate_left
  · intro w'
    go_simp
    with_reducible rfl
  rotate_left
  · simp only [Act.put, List.setIfInBounds_toArray, List.set_cons_zero, List.set_cons_succ, i64_w, i32_w]
    rfl
  refine pure_ (i := 8) (N := some 14) (v := ?_) (a' := ?_) #[true, true, true, true, true, true, true, true, true, false, false] rfl rfl (by kernel_rfl) (fun _ _ _ h => h) (Or.inl ⟨by rfl, ?_⟩) ?_ ?_
  rotate_left
  · intro w'
    go_simp
    with_reducible rfl
  rotate_left
  · simp only [Act.put, List.setIfInBounds_toArray, List.set_cons_zero, List.set_cons_succ, i64_w, i32_w]
    rfl
  refine pure_ (i := 9) (N := some 4) (v := ?_) (a' := ?_) #[true, true, true, true, true, true, true, true, true, true, false] rfl rfl (by kernel_rfl) (fun _ _ _ h => h) (Or.inl ⟨by rfl, ?_⟩) ?_ ?_
  rotate_left
  · intro w'
    go_simp
    with_reducible rfl
  rotate_left
  · simp only [Act.put, List.setIfInBounds_toArray, List.set_cons_zero, List.set_cons_succ, i64_w, i32_w]
    rfl
  refine pure_ (i := 10) (N := some 5) (v := ?_) (a' := ?_) #[true, true, true, true, true, true, true, true, true, true, true] rfl rfl (by kernel_rfl) (fun _ _ _ h => h) (Or.inl ⟨by rfl, ?_⟩) ?_ ?_
  rotate_left
  · intro w'
    go_simp
    with_reducible rfl
  rotate_left
  · simp only [Act.put, List.setIfInBounds_toArray, List.set_cons_zero, List.set_cons_succ, i64_w, i32_w]
    rfl
  refine done_ (by kernel_rfl) ?_
  go_wp2
  exact hpo

end Go.Proofs.Ytmbgjhkemlliaaa.Tlv

/- spki.same, bytes.Clone, walked. -/
set_option linter.unusedVariables false
set_option linter.unusedSimpArgs false
namespace Go.Proofs.Ytmbgjhkemlliaaa.Tlv
open Go.RowKit Go.Proofs.YtmbgjhkemlliaaaW.PrintWords Go.Proofs.YtmbgjhkemlliaaaW.PrintLast Go.Proofs.YtmbgjhkemlliaaaW.PrintMore Go.Proofs.Ytmbgjhkemlliaaa.PTlv

theorem nums_of (x : List Int) (h : ∀ v ∈ x, 0 ≤ v ∧ v < 256) : x = (strOfNums x).data.toList.map fun b => (b.toNat : Int) := by
  rw [strOfNums_data, List.map_map]
  symm
  rw [List.map_congr_left (g := id) (fun v hv => ?_), List.map_id]
  have := h v hv
  have hk : v.toNat < 256 := by omega
  show ((UInt8.ofNat v.toNat).toNat : Int) = v
  have e : (UInt8.ofNat v.toNat).toNat = v.toNat := by simp; omega
  rw [e]
  omega
theorem str_inj {x y : List Int} (hx : ∀ v ∈ x, 0 ≤ v ∧ v < 256) (hy : ∀ v ∈ y, 0 ≤ v ∧ v < 256) (h : strOfNums x = strOfNums y) : x = y := by
  rw [nums_of x hx, nums_of y hy, h]
def eqB (x y : List Int) : Bool := (strOfNums x).toList == (strOfNums y).toList
theorem eqB_rfl (x : List Int) : eqB x x = true := by unfold eqB; exact beq_self_eq_true _
theorem eqB_eq {x y : List Int} (hx : ∀ v ∈ x, 0 ≤ v ∧ v < 256) (hy : ∀ v ∈ y, 0 ≤ v ∧ v < 256) (h : eqB x y = true) : x = y := by
  unfold eqB at h
  have h := eq_of_beq h
  rw [Lib.strOfNums_toList, Lib.strOfNums_toList] at h
  rw [nums_of x hx, nums_of y hy, strOfNums_data, strOfNums_data]
  exact congrArg _ h
def sameP (a b : T) : Bool := match writeP a with
  | .err _ => false
  | .ok x => match writeP b with
    | .err _ => false
    | .ok y => eqB x y
theorem writeP_err {t : T} {x : Int} (h : writeP t = .err x) : x = 2 ∨ x = 4 ∨ x = 5 := by
  unfold writeP at h
  split at h
  · injection h with h; omega
  · split at h
    · injection h with h; omega
    · split at h
      · injection h with h; omega
      · cases h
/-- What Write gives, in one form. -/
def WriteUni (w : World) (n : T) (e : Ending) (w' : World) : Prop := ∃ A l c x, e = .returned (.tuple #[.slice A (List.length l) c, .int .i64 x]) ∧ ((x ≠ 0 ∧ writeP n = .err x) ∨ (x = 0 ∧ writeP n = .ok l)) ∧ (Kd.int .u8).R 5 w' w.heap.size (fun _ => True) (.slice A l.length c) l ∧ Below w.heap.size w w'
theorem WritePost.uni {w : World} {n : T} {e : Ending} {w' : World} (h : WritePost w n e w') : WriteUni w n e w' := by
  unfold WritePost at h
  cases hq : writeP n with
  | err x =>
    rw [hq] at h
    obtain ⟨rfl, hb⟩ := h
    exact ⟨none, [], 0, x, rfl, .inl ⟨by have := writeP_err hq; omega, hq⟩, Kd.R_nil _ _ _ _ _, hb⟩
  | ok l =>
    rw [hq] at h
    obtain ⟨A, c, rfl, ho, hb⟩ := h
    exact ⟨A, l, c, 0, rfl, .inr ⟨rfl, hq⟩, ho, hb⟩

set_option maxHeartbeats 4000000 in
set_option maxRecDepth 100000 in
theorem same_walk (a b : T) (ha : rightT a = true → sizeT a ≤ 100000000) (hb : rightT b = true → sizeT b ≤ 100000000) (A1 : Option Addr) (c1 : Nat) (A2 : Option Addr) (c2 : Nat) (B1 : Option Addr) (d1 : Nat) (B2 : Option Addr) (d2 : Nat) (w : World) (hna : NodeAt w a A1 c1 A2 c2) (hnb : NodeAt w b B1 d1 B2 d2) :
    Calls Try.prog 23 #[.agg #[.int .i64 a.f0, .slice A1 a.f1.length c1, .slice A2 a.f2.length c2], .agg #[.int .i64 b.f0, .slice B1 b.f1.length d1, .slice B2 b.f2.length d2]] w fun e w' => e = .returned (.bool (sameP a b)) ∧ Below w.heap.size w w' := by
  have HW1 := Lib.hid (fun (w1 : World) (hB : Below w.heap.size w w1) => write_walk a ha A1 c1 A2 c2 w1 (hna.below hB))
  have HW2 := Lib.hid (fun (w1 : World) (hB : Below w.heap.size w w1) => write_walk b hb B1 d1 B2 d2 w1 (hnb.below hB))
  have hbox : ((w.alloc (.cells #[.int .i64 a.f0, .slice A1 a.f1.length c1, .slice A2 a.f2.length c2] 25)).alloc (.cells #[.int .i64 b.f0, .slice B1 b.f1.length d1, .slice B2 b.f2.length d2] 25)).heap[w.heap.size + 1]? = some (.cells #[.int .i64 b.f0, .slice B1 b.f1.length d1, .slice B2 b.f2.length d2] 25 (0, 0)) := by
    have := heap_alloc_new (w.alloc (.cells #[.int .i64 a.f0, .slice A1 a.f1.length c1, .slice A2 a.f2.length c2] 25)) (.cells #[.int .i64 b.f0, .slice B1 b.f1.length d1, .slice B2 b.f2.length d2] 25)
    simpa using this
  have hB : Below w.heap.size w ((w.alloc (.cells #[.int .i64 a.f0, .slice A1 a.f1.length c1, .slice A2 a.f2.length c2] 25)).alloc (.cells #[.int .i64 b.f0, .slice B1 b.f1.length d1, .slice B2 b.f2.length d2] 25)) := ((Below.refl _ _).alloc (Nat.le_refl _) _).alloc (by simp) _
  have HBOX := Lib.hid hbox
  have HB := Lib.hid hB
  clear hbox hB hna hnb ha hb
  generalize hSP : sameP a b = sp
  go_enter Try.func23, Try.ntmps23
  go_wp2_with (fail)
  refine (HW1.out _ HB.out).mono ?_
  rintro e w2 h2
  obtain ⟨X1, l1, e1, x1, rfl, hx1, hr1, hB2⟩ := WritePost.uni h2
  have hb2 := (hB2.block _ (heap_lt HBOX.out)).trans HBOX.out
  have hBw2 := HB.out.trans (hB2.mono HB.out.size)
  have a0 := Lib.cell_of_heap hb2 0
  have a1 := Lib.cell_of_heap hb2 1
  have a2 := Lib.cell_of_heap hb2 2
  have HB2 := Lib.hid hBw2
  have HR1 := Lib.hid hr1
  have HX1 := Lib.hid hx1
  clear h2 hB2 hb2 hBw2 hr1 hx1
  go_wp2_with (fail)
  refine (HW2.out _ HB2.out).mono ?_
  rintro e w3 h3
  obtain ⟨X2, l2, e2, x2, rfl, hx2, hr2, hB3⟩ := WritePost.uni h3
  have hBw3 := HB2.out.trans (hB3.mono HB2.out.size)
  have HB3 := Lib.hid hBw3
  have HR13 := Lib.hid (Kd.R_below HR1.out hB3)
  have HR2 := Lib.hid hr2
  clear h3 hB3 hBw3 hr2 a0 a1 a2
  rcases HX1.out with ⟨n1, q1⟩ | ⟨rfl, q1⟩
  · have hp : sp = false := by rw [← hSP]; unfold sameP; rw [q1]
    clear hSP
    subst hp
    have hn1 := eq_false n1
    have hn1' : decide (x1 = 0) = false := decide_eq_false n1
    clear HX1 hx2 n1 q1
    go_wp2
    go_ret
    exact ⟨by simp [hn1], HB3.out⟩
  · rcases hx2 with ⟨n2, q2⟩ | ⟨rfl, q2⟩
    · have hp : sp = false := by rw [← hSP]; unfold sameP; rw [q1, q2]
      clear hSP
      subst hp
      have hn2 := eq_false n2
      have hn2' : decide (x2 = 0) = false := decide_eq_false n2
      clear HX1 n2 q1 q2
      go_wp2
      go_ret
      exact ⟨by simp [hn2], HB3.out⟩
    · have hp : sp = eqB l1 l2 := by rw [← hSP]; unfold sameP; rw [q1, q2]
      clear hSP
      subst hp
      clear HX1 q1 q2
      obtain ⟨_, _, f1, g1, k1⟩ := Kd.R_reads HR13.out
      injection f1 with f1 _ f1'
      subst f1 f1'
      obtain ⟨_, _, f2, g2, k2⟩ := Kd.R_reads HR2.out
      injection f2 with f2 _ f2'
      subst f2 f2'
      have HEQ := Lib.hid (bytes_Equal.calls X1 e1 l1 X2 e2 l2 (eqB l1 l2) w3 k1 g1 k2 g2 rfl)
      clear g1 k1 g2 k2
      go_wp2_with (fail)
      refine HEQ.out.mono ?_
      rintro e w4 ⟨rfl, hd⟩
      have hBf := HB3.out.trans (hd.below.mono HB3.out.size)
      clear hd
      go_wp2
      go_ret
      exact ⟨rfl, hBf⟩

set_option maxHeartbeats 4000000 in
set_option maxRecDepth 100000 in
theorem clone_walk (A : Option Addr) (c : Nat) (l : List Int) (w : World) (hr : ReadsInt w .u8 A l.length l) (hc : l.length ≤ c) (hl : l.length ≤ 1000000) :
    Calls Try.prog 41 #[.slice A l.length c] w fun e w' => ∃ A' c', e = .returned (.slice A' l.length c') ∧ (Kd.int .u8).R 5 w' w.heap.size (fun _ => True) (.slice A' l.length c') l ∧ Below w.heap.size w w' := by
  cases A with
  | none =>
    have h0 : l = [] := by
      have := hr.2.2
      cases l with
      | nil => rfl
      | cons x l => obtain ⟨ad, e, _⟩ := this (by simp); cases e
    subst h0
    clear hr
    have hq : ∀ (c : Nat) (w : World), (binOp .eql 22 (.slice none 0 c) (.slice none 0 0)).run Try.prog w = .ok (.bool true) w := fun _ _ => rfl
    go_enter Try.func41, Try.ntmps41
    go_wp2
    go_ret
    exact ⟨none, 0, rfl, Kd.R_nil _ _ _ _ _, Below.refl _ _⟩
  | some ad =>
    have hq : ∀ (n c : Nat) (w : World), (binOp .eql 22 (.slice (some ad) n c) (.slice none 0 0)).run Try.prog w = .ok (.bool false) w := fun _ _ _ => rfl
    have HAP := Lib.hid (fun (ops : Array Oper) (o : Oper) (a : Act) (Q : Exit → Act → World → Prop) (rest : List Oper) (s x : Operand) hgd ho hs hx h =>
      add_in (ops := ops) (o := o) (a := a) (Q := Q) (rest := rest) (w.alloc (.cells #[] 5)) w.heap.size (some ⟨w.heap.size, 0, none⟩) 0 [] (some ad) c l l.length s x hgd ho hs hx
        (own0 w w.heap.size (fun k => w.heap.size ≤ k) (Nat.le_refl _) (Nat.le_refl _)) (ReadsInt_below hr ((Below.refl _ _).alloc (Nat.le_refl _) _)) rfl (by simp) (by simp; omega) h)
    clear hr
    go_enter Try.func41, Try.ntmps41
    go_wp2_with ((with_reducible refine at_dst 7 ?_); go_must (refine HAP.out _ _ _ _ _ (.tmp 5) (.tmp 6) rfl rfl rfl rfl ?_); rintro w1 A1 c1 ho1 hb1 hg1; rw [List.nil_append] at ho1; have HO1 := Lib.hid ho1; have HB1 := Lib.hid hb1; clear ho1 hb1 hg1)
    go_ret
    exact ⟨A1, c1, by simp, Kd.R_mono HO1.out (fun _ _ => trivial), ((Below.refl _ _).alloc (Nat.le_refl _) _).trans HB1.out⟩

end Go.Proofs.Ytmbgjhkemlliaaa.Tlv
