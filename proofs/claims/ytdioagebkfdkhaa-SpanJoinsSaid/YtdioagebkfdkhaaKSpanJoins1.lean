/- Merged by a program of this session (wip/tools/pack.py). -/
import Derived.Test.YtdioagebkfdkhaaProg
import Derived.Below
import Derived.Deep.Draws
import Derived.Deep.AppendLies
import Derived.Maps.AppendAt
import Derived.OwnWalk
import Derived.Laws.BytesArg
import Derived.Laws.MakeOwn
import Derived.Laws.OwnMore
import Derived.Deep.OwnRows
import Derived.Tactics
import Derived.Lib.ConvBytes
import Derived.Laws.Slices
import Derived.WalkKit
import Derived.KernelRfl
import Derived.RowKit3
import Derived.Deep.LoopGhost
import Derived.Deep.QuietTactic
import Derived.BigQuiet
import Derived.WideLaws
import Derived.Deep.DeepCutAuto
import Derived.Deep.CutBlock
import Derived.Deep.RegionHeld3
import Derived.Laws.Rows
import Derived.Lib.AppendStr
import Derived.ArgAppend
import Derived.Laws.IdiomCopy
import Derived.OrdersHeld
import Derived.Laws.BitsLemmas
import Derived.RowKit
import Derived.Test.YtdioagebkfdkhaaVSpanJoins
import Derived.ChangeKeysEq
import Derived.Deep.MidRow
import Derived.Laws.Tables
import Derived.Laws.CopyRow
import Derived.Laws.CopyOwn
import Derived.Lib.Hide
import Derived.WalkSmall
import Derived.LoopTactic
import Derived.Deep.DeepMust
import Derived.Outline
import Derived.StillTailTactics
import Derived.Deep.Cut
import Derived.Lib.BytesEntry
import Derived.Laws.Externs
import Derived.Sort.Grow
import Derived.Lib.Bytes
import Derived.Lib.SliceRun
namespace Go.Proofs.Ytdioagebkfdkhaa.Ad

/-- An address: 16 bytes. -/
structure A16 where
 l : List Int
 h : l.length = 16
 b : ∀ x ∈ l, 0 ≤ x ∧ x < 256
theorem A16.ext {a b : A16} (h : a.l = b.l) : a = b := by
 cases a; cases b; cases h; rfl
instance : DecidableEq A16 := fun a b => if h : a.l = b.l then isTrue (A16.ext h) else isFalse (fun e => h (e ▸ rfl))
/-- Byte i. -/
def A16.at (a : A16) (i : Nat) : Int := a.l.getD i 0
theorem A16.at_eq {a : A16} {i : Nat} (h : i < a.l.length) : a.at i = a.l[i] := by simp [A16.at, List.getD_eq_getElem?_getD, List.getElem?_eq_getElem h]
theorem A16.at_b (a : A16) (i : Nat) : 0 ≤ a.at i ∧ a.at i < 256 := by
 by_cases h : i < a.l.length
 ·rw [A16.at_eq h]; exact a.b _ (List.getElem_mem h)
 ·simp [A16.at, List.getD_eq_getElem?_getD, List.getElem?_eq_none (by omega : a.l.length ≤ i)]
theorem A16.ext_at {a b : A16} (h : ∀ i, i < 16 → a.at i = b.at i) : a = b := by
 apply A16.ext
 apply List.ext_getElem (by rw [a.h, b.h])
 intro i h1 h2
 have := h i (by rw [← a.h]; exact h1)
 rwa [A16.at_eq h1, A16.at_eq h2] at this
/-- An address out of its bytes. -/
def mk16 (f : Nat → Int) (hf : ∀ i, 0 ≤ f i ∧ f i < 256) : A16 := ⟨(List.range 16).map f, by simp, by
 intro x hx
 obtain ⟨i, _, rfl⟩ := List.mem_map.1 hx
 exact hf i⟩
theorem mk16_at {f : Nat → Int} {hf : ∀ i, 0 ≤ f i ∧ f i < 256} {i : Nat} (h : i < 16) : (mk16 f hf).at i = f i := by
 simp [A16.at, mk16, List.getD_eq_getElem?_getD, List.getElem?_range h]
def z16 : A16 := ⟨List.replicate 16 0, by simp, by simp⟩
/-- Bit i of an address. -/
def A16.bit (a : A16) (i : Nat) : Int := a.at (i / 8) / 2 ^ (7 - i % 8) % 2
structure Pfx where
 v6 : Bool
 a : A16
 n : Int
deriving DecidableEq
structure Spn where
 v6 : Bool
 lo : A16
 hi : A16
deriving DecidableEq

def mostP (v6 : Bool) : Int := if v6 then 128 else 32
/-- What an AS... a prefix must be: no longer than its family's addresses, no bits behind. -/
def rightB (p : Pfx) : Bool := decide (0 ≤ p.n) && decide (p.n ≤ mostP p.v6) && (List.range 128).all (fun i => decide ((i : Int) < p.n) || decide (p.a.bit i = 0))
theorem right_iff {p : Pfx} : rightB p = true ↔ 0 ≤ p.n ∧ p.n ≤ mostP p.v6 ∧ ∀ i : Nat, i < 128 → p.n ≤ i → p.a.bit i = 0 := by
 unfold rightB
 rw [Bool.and_eq_true, Bool.and_eq_true, decide_eq_true_iff, decide_eq_true_iff, List.all_eq_true]
 constructor
 ·rintro ⟨⟨h1, h2⟩, h3⟩
  refine ⟨h1, h2, fun i hi hn => ?_⟩
  have := h3 i (List.mem_range.2 hi)
  rw [Bool.or_eq_true, decide_eq_true_iff, decide_eq_true_iff] at this
  rcases this with h | h
  ·omega
  ·exact h
 ·rintro ⟨h1, h2, h3⟩
  refine ⟨⟨h1, h2⟩, fun i hi => ?_⟩
  rw [Bool.or_eq_true, decide_eq_true_iff, decide_eq_true_iff]
  by_cases hn : (i : Int) < p.n
  ·exact .inl hn
  ·exact .inr (h3 i (List.mem_range.1 hi) (by omega))
/-- A byte of whose bits so many count. -/
def maskP (n : Int) : Int := if n ≤ 0 then 0 else if 8 ≤ n then 255 else 256 - 2 ^ (8 - n).toNat
/-- A byte with as many of its bits. -/
def cutB (x : Int) (n : Int) : Int := if n ≤ 0 then 0 else if 8 ≤ n then x else x - x % 2 ^ (8 - n).toNat
theorem cutB_b {x n : Int} (h : 0 ≤ x ∧ x < 256) : 0 ≤ cutB x n ∧ cutB x n < 256 := by
 unfold cutB
 split
 ·omega
 split
 ·exact h
 ·have hp : (0 : Int) < 2 ^ (8 - n).toNat := Int.pow_pos (by decide)
  have h1 := Int.emod_nonneg x (Int.ne_of_gt hp)
  have h2 := Int.emod_lt_of_pos x hp
  have h3 := Int.mul_ediv_add_emod x (2 ^ (8 - n).toNat)
  have h4 : 0 ≤ (2 ^ (8 - n).toNat) * (x / 2 ^ (8 - n).toNat) := Int.mul_nonneg (Int.le_of_lt hp) (Int.ediv_nonneg h.1 (Int.le_of_lt hp))
  omega
def lenC (p : Pfx) : Int := min (max p.n 0) (mostP p.v6)
def cutP (p : Pfx) : Pfx := ⟨p.v6, mk16 (fun i => cutB (p.a.at i) (lenC p - 8 * i)) (fun i => cutB_b (p.a.at_b i)), lenC p⟩
end Go.Proofs.Ytdioagebkfdkhaa.Ad


section
namespace Go.Proofs.Ytdioagebkfdkhaa.PT
open Go.RowKit Go.Proofs.YtdioagebkfdkhaaW.PrintWords Go.Proofs.YtdioagebkfdkhaaW.PrintLast Go.Proofs.YtdioagebkfdkhaaW.PrintMore
attribute [local go_sem] max2_int min2_int max_two min_two max_three min_three max_four min_four   -- for this text's walks alone
set_option linter.unusedVariables false
set_option linter.unusedSimpArgs false



end Go.Proofs.Ytdioagebkfdkhaa.PT
end

section
set_option linter.unusedVariables false
set_option linter.unusedSimpArgs false
namespace Go.Proofs.Ytdioagebkfdkhaa.Ad
open Go.RowKit Go.Proofs.YtdioagebkfdkhaaW.PrintWords Go.Proofs.YtdioagebkfdkhaaW.PrintLast Go.Proofs.YtdioagebkfdkhaaW.PrintMore Go.Proofs.Ytdioagebkfdkhaa.PT

def A16.cells (a : A16) : List Value := a.l.map (Value.int .u8)
def Pfx.cells (p : Pfx) : List Value := .bool p.v6 :: (p.a.cells ++ [.int .i64 p.n])
def A16.arr (a : A16) : Array Value := a.cells.toArray
def Pfx.arr (p : Pfx) : Array Value := p.cells.toArray
theorem A16.cells_len (a : A16) : a.cells.length = 16 := by simp [A16.cells, a.h]
theorem Pfx.cells_len (p : Pfx) : p.cells.length = 18 := by simp [Pfx.cells, p.a.cells_len]
theorem A16.arr_size (a : A16) : a.arr.size = 16 := by simp [A16.arr, a.cells_len]
theorem Pfx.arr_size (p : Pfx) : p.arr.size = 18 := by simp [Pfx.arr, p.cells_len]
theorem A16.one (a : A16) : ∀ u ∈ a.cells, u.oneCell' = true := by
 intro u hu
 obtain ⟨x, _, rfl⟩ := List.mem_map.1 hu
 rfl
theorem Pfx.one (p : Pfx) : ∀ u ∈ p.cells, u.oneCell' = true := by
 intro u hu
 simp only [Pfx.cells, List.mem_cons, List.mem_append, List.not_mem_nil, or_false] at hu
 rcases hu with rfl | hu | rfl
 ·rfl
 ·exact p.a.one u hu
 ·rfl
theorem A16.arr_one (a : A16) : a.arr.all (·.oneCell') = true := by rw [Array.all_eq_true_iff_forall_mem]; intro u hu; exact a.one u (by simpa [A16.arr] using hu)
theorem Pfx.arr_one (a : Pfx) : a.arr.all (·.oneCell') = true := by rw [Array.all_eq_true_iff_forall_mem]; intro u hu; exact a.one u (by simpa [Pfx.arr] using hu)
theorem A16.arr_at (a : A16) {i : Nat} (h : i < 16) : a.arr[i]? = some (.int .u8 (a.at i)) := by
 have h' : i < a.l.length := by rw [a.h]; exact h
 simp [A16.arr, A16.cells, List.getElem?_map, List.getElem?_eq_getElem h', A16.at_eq h']
theorem Pfx.arr_0 (p : Pfx) : p.arr[0]? = some (.bool p.v6) := by simp [Pfx.arr, Pfx.cells]
theorem Pfx.arr_a (p : Pfx) {i : Nat} (h : i < 16) : p.arr[1 + i]? = some (.int .u8 (p.a.at i)) := by
 have h' : i < p.a.cells.length := by rw [p.a.cells_len]; exact h
 have := p.a.arr_at h
 rw [Nat.add_comm]
 simp only [A16.arr, List.getElem?_toArray] at this
 simp [Pfx.arr, Pfx.cells, List.getElem?_append_left h', this]
theorem Pfx.arr_n (p : Pfx) : p.arr[17]? = some (.int .i64 p.n) := by
 simp [Pfx.arr, Pfx.cells]
 rw [List.getElem?_append_right (by rw [p.a.cells_len]; decide), p.a.cells_len]
 rfl
theorem A16.cells_inj {a b : A16} (h : a.cells = b.cells) : a = b := by
 apply A16.ext
 have : Function.Injective (Value.int .u8) := fun x y e => by injection e
 exact (List.map_inj_right (fun x y e => this e)).1 h
theorem infoA : (Try.prog.info? 28).map (·.size) = some 16 := by kernel_rfl
theorem infoP : (Try.prog.info? 37).map (·.size) = some 18 := by kernel_rfl
theorem cellsOf8 : Try.prog.cellsOf 5 = 1 := by kernel_rfl
theorem eqItems_run (d : Nat) (w : World) (a b : A16) : ∀ is : List Nat, (∀ i ∈ is, i < 16) →
 (Op.eqItems (d + 1) 5 1 a.arr b.arr is).run Try.prog w = .ok (is.all fun i => a.at i == b.at i) w
 | [], _ => by simp [Op.eqItems]
 | i :: is, h => by
  have hi := h i (by simp)
  have ha : (part 5 a.arr (i * 1)).run Try.prog w = .ok (.int .u8 (a.at i)) w := run_part_plain w (by kernel_rfl) (by rw [Nat.mul_one]; exact a.arr_at hi)
  have hb : (part 5 b.arr (i * 1)).run Try.prog w = .ok (.int .u8 (b.at i)) w := run_part_plain w (by kernel_rfl) (by rw [Nat.mul_one]; exact b.arr_at hi)
  have he := run_equalIn_int (P := Try.prog) w d 5 .u8 .u8 (a.at i) (b.at i) Try.underlying5
  simp only [Op.eqItems, Sem.run_bind, ha, hb, he, Result.andThen_ok, List.all_cons]
  cases hx : (a.at i == b.at i)
  ·simp
  ·simpa using eqItems_run d w a b is (fun j hj => h j (by simp [hj]))
theorem all_at (a b : A16) : ((List.range 16).all fun i => a.at i == b.at i) = decide (a = b) := by
 rw [Bool.eq_iff_iff, List.all_eq_true, decide_eq_true_iff]
 constructor
 ·intro h
  exact A16.ext_at fun i hi => by simpa using h i (List.mem_range.2 hi)
 ·rintro rfl i _
  simp
theorem eqA_run (d : Nat) (w : World) (a b : A16) : (Op.equalIn (d + 2) 28 (.agg a.arr) (.agg b.arr)).run Try.prog w = .ok (decide (a = b)) w := by
 obtain ⟨i, hi⟩ : ∃ i, Try.prog.info? 5 = some i := Option.isSome_iff_exists.1 (by kernel_rfl)
 rw [run_equalIn_array w (d + 1) a.arr b.arr Try.underlying28 hi, cellsOf8, eqItems_run d w a b _ (fun i h => List.mem_range.1 h), all_at]
theorem isAggA (w : World) : (isAgg 28).run Try.prog w = .ok true w := by kernel_rfl
theorem sizeA (w : World) : (sizeOf 28).run Try.prog w = .ok 16 w := by kernel_rfl
theorem Pfx.cut_a (p : Pfx) : p.arr.extract 1 17 = p.a.arr := by
 apply Array.ext'
 simp [Pfx.arr, Pfx.cells, A16.arr, List.take_append, p.a.cells_len]
theorem eqP_run (d : Nat) (w : World) (p q : Pfx) : (Op.equalIn (d + 3) 37 (.agg p.arr) (.agg q.arr)).run Try.prog w = .ok (decide (p = q)) w := by
 refine (eqA_of Try.underlying37 (by kernel_rfl) (r := (p.v6 == q.v6) && (decide (p.a = q.a) && (p.n == q.n))) ?_).trans ?_
 ·refine eqf_cons (by rfl) (a := .bool p.v6) (b := .bool q.v6) (run_part_plain w (by kernel_rfl) p.arr_0) (run_part_plain w (by kernel_rfl) q.arr_0) (run_equalIn_bool w (d + 1) _ _ _ (by kernel_rfl)) ?_
  refine eqf_cons (by rfl) (a := .agg p.a.arr) (b := .agg q.a.arr) ?_ ?_ (eqA_run d w p.a q.a) ?_
  ·show (part 28 p.arr 1).run Try.prog w = _
   simp only [part, Sem.run_bind, isAggA, Result.andThen_ok, if_true, sizeA, Sem.run_pure]
   rw [p.cut_a]
  ·show (part 28 q.arr 1).run Try.prog w = _
   simp only [part, Sem.run_bind, isAggA, Result.andThen_ok, if_true, sizeA, Sem.run_pure]
   rw [q.cut_a]
  ·exact eqf_last (by rfl) (run_part_plain w (by kernel_rfl) p.arr_n) (run_part_plain w (by kernel_rfl) q.arr_n) (run_equalIn_int (P := Try.prog) w (d + 1) _ .i64 .i64 _ _ (by kernel_rfl))
 ·congr 1
  rw [Bool.eq_iff_iff]
  simp only [Bool.and_eq_true, beq_iff_eq, decide_eq_true_iff]
  constructor
  ·rintro ⟨h1, h2, h3⟩
   cases p; cases q; simp_all
  ·rintro rfl
   simp
theorem eqlP (w : World) (p q : Pfx) : (binOp .eql 37 (.agg p.arr) (.agg q.arr)).run Try.prog w = .ok (.bool (decide (p = q))) w := by
 rw [run_eql_struct, eqP_run 9997]; rfl
section
variable {ops : Array Oper} {rest : List Oper} {a : Act} {W : World} {Q : Exit → Act → World → Prop} {n : Tmp} {x : Operand} {ty : TypeId} {pos : String} {af : Array Edge} {b o : Nat} {S : World → Prop}
theorem loadA (v : A16) (b o : Nat) (hx : a.eval x = .pointer (some ⟨b, o, none⟩)) (hR : W.rangeAt b o v.cells) (h : wpList Try.prog ops Q rest (a.put (some n) (.agg v.arr)) W) : wpList Try.prog ops Q (⟨some n, .load 28 x, ty, pos, af, none⟩ :: rest) a W :=
 wpList_load_mid rfl _ x rfl b o hx v.cells _ hR Try.underlying28 rfl (by rw [v.cells_len]; exact infoA) h
theorem loadP (v : Pfx) (b o : Nat) (hx : a.eval x = .pointer (some ⟨b, o, none⟩)) (hR : W.rangeAt b o v.cells) (h : wpList Try.prog ops Q rest (a.put (some n) (.agg v.arr)) W) : wpList Try.prog ops Q (⟨some n, .load 37 x, ty, pos, af, none⟩ :: rest) a W :=
 wpList_load_mid rfl _ x rfl b o hx v.cells _ hR Try.underlying37 rfl (by rw [v.cells_len]; exact infoP) h
theorem yA {oi : Oper} (hw : Region.wanted oi (yielded ops a.tmps) = true) (ho : oi.op = .load 28 x) (v : A16) (b o : Nat) (hx : a.eval x = .pointer (some ⟨b, o, none⟩)) (hS : ∀ W, S W → W.rangeAt b o v.cells) : YieldsIf Try.prog ops S oi (.agg v.arr) a :=
 yieldsIf_load_mid hw _ x ho b o hx v.cells _ hS Try.underlying28 rfl (by rw [v.cells_len]; exact infoA)
theorem yP {oi : Oper} (hw : Region.wanted oi (yielded ops a.tmps) = true) (ho : oi.op = .load 37 x) (v : Pfx) (b o : Nat) (hx : a.eval x = .pointer (some ⟨b, o, none⟩)) (hS : ∀ W, S W → W.rangeAt b o v.cells) : YieldsIf Try.prog ops S oi (.agg v.arr) a :=
 yieldsIf_load_mid hw _ x ho b o hx v.cells _ hS Try.underlying37 rfl (by rw [v.cells_len]; exact infoP)
end
/-- A whole value that lies in block g. -/
def Has (W : World) (g : Nat) (cs : Array Value) (t : TypeId) : Prop := W.heap[g]? = some (.cells cs t (0, 0))
theorem Has.lt {W : World} {g : Nat} {cs : Array Value} {t : TypeId} (h : Has W g cs t) : g < W.heap.size := (Array.getElem?_eq_some_iff.1 h).1
theorem Has.c {W : World} {g : Nat} {cs : Array Value} {t : TypeId} (h : Has W g cs t) (j : Nat) : W.cell? ⟨g, j, none⟩ = cs[j]? := cell_of_row _ _ _ _ _ _ h
theorem Has.f {W : World} {g : Nat} {cs : Array Value} {t : TypeId} (h : Has W g cs t) (j : Nat) : W.frozen? ⟨g, j, none⟩ = false := frozen_of_row _ _ _ _ _ h
theorem Has.below {W W1 : World} {g : Nat} {cs : Array Value} {t : TypeId} (h : Has W g cs t) (hB : Below W.heap.size W W1) : Has W1 g cs t := (hB.block _ h.lt).trans h
theorem Has.drew {W : World} {g : Nat} {cs : Array Value} {t : TypeId} (h : Has W g cs t) : Has W.drew g cs t := h
theorem Has.new (W : World) (cs : Array Value) (t : TypeId) : Has (W.alloc (.cells cs t)) W.heap.size cs t := heap_alloc_new W _
theorem Has.alloc {W : World} {g : Nat} {cs : Array Value} {t : TypeId} (h : Has W g cs t) (o : Obj) : Has (W.alloc o) g cs t := (heap_alloc_old W o h.lt).trans h
theorem Has.far {W : World} {g : Nat} {cs : Array Value} {t : TypeId} (h : Has W g cs t) {p : Addr} (hp : g ≠ p.block) (u : Value) : Has (W.setCell p u) g cs t := (heap_setCell_other _ _ _ _ hp).trans h
theorem Has.ra {W : World} {g t : Nat} {v : A16} (h : Has W g v.arr t) : W.rangeAt g 0 v.cells := fun j u hu => by rw [Nat.zero_add, h.c]; simpa [A16.arr] using hu
theorem Has.rp {W : World} {g t : Nat} {v : Pfx} (h : Has W g v.arr t) : W.rangeAt g 0 v.cells := fun j u hu => by rw [Nat.zero_add, h.c]; simpa [Pfx.arr] using hu
/-- The address within a prefix's cells, the prefix within those of one. -/
theorem ra_of_p {W : World} {b o : Nat} {p : Pfx} (h : W.rangeAt b o p.cells) : W.rangeAt b (o + 1) p.a.cells := fun j u hu => by
 have := h (j + 1) u (by
  have hj : j < p.a.cells.length := (List.getElem?_eq_some_iff.1 hu).1
  rw [Pfx.cells, List.getElem?_cons_succ, List.getElem?_append_left hj]; exact hu)
 rwa [show o + (j + 1) = o + 1 + j by omega] at this
theorem rp_v6 {W : World} {b o : Nat} {p : Pfx} (h : W.rangeAt b o p.cells) : W.cell? ⟨b, o, none⟩ = some (.bool p.v6) := h 0 _ (by simp [Pfx.cells])
theorem rp_n {W : World} {b o : Nat} {p : Pfx} (h : W.rangeAt b o p.cells) : W.cell? ⟨b, o + 17, none⟩ = some (.int .i64 p.n) := h 17 _ (by have := p.arr_n; simpa [Pfx.arr] using this)
theorem ra_at {W : World} {b o : Nat} {a : A16} (h : W.rangeAt b o a.cells) {i : Nat} (hi : i < 16) : W.cell? ⟨b, o + i, none⟩ = some (.int .u8 (a.at i)) := h i _ (by have := a.arr_at hi; simpa [A16.arr] using this)
def Spn.cells (s : Spn) : List Value := .bool s.v6 :: (s.lo.cells ++ s.hi.cells)
def Spn.arr (s : Spn) : Array Value := s.cells.toArray
theorem Spn.cells_len (s : Spn) : s.cells.length = 33 := by simp [Spn.cells, s.lo.cells_len, s.hi.cells_len]
theorem Spn.arr_size (s : Spn) : s.arr.size = 33 := by simp [Spn.arr, s.cells_len]
theorem Spn.one (s : Spn) : ∀ u ∈ s.cells, u.oneCell' = true := by
 intro u hu
 simp only [Spn.cells, List.mem_cons, List.mem_append] at hu
 rcases hu with rfl | hu | hu
 ·rfl
 ·exact s.lo.one u hu
 ·exact s.hi.one u hu
theorem Spn.arr_one (a : Spn) : a.arr.all (·.oneCell') = true := by rw [Array.all_eq_true_iff_forall_mem]; intro u hu; exact a.one u (by simpa [Spn.arr] using hu)
theorem Spn.arr_0 (s : Spn) : s.arr[0]? = some (.bool s.v6) := by simp [Spn.arr, Spn.cells]
theorem infoS : (Try.prog.info? 30).map (·.size) = some 33 := by kernel_rfl
theorem Spn.cut_lo (s : Spn) : s.arr.extract 1 17 = s.lo.arr := by
 apply Array.ext'
 simp [Spn.arr, Spn.cells, A16.arr, List.take_append, s.lo.cells_len]
theorem Spn.cut_hi (s : Spn) : s.arr.extract 17 33 = s.hi.arr := by
 apply Array.ext'
 simp [Spn.arr, Spn.cells, A16.arr, List.drop_append, List.take_append, s.lo.cells_len, s.hi.cells_len, List.drop_of_length_le, List.take_of_length_le]
theorem eqS_run (d : Nat) (w : World) (p q : Spn) : (Op.equalIn (d + 3) 30 (.agg p.arr) (.agg q.arr)).run Try.prog w = .ok (decide (p = q)) w := by
 refine (eqA_of Try.underlying30 (by kernel_rfl) (r := (p.v6 == q.v6) && (decide (p.lo = q.lo) && decide (p.hi = q.hi))) ?_).trans ?_
 ·refine eqf_cons (by rfl) (a := .bool p.v6) (b := .bool q.v6) (run_part_plain w (by kernel_rfl) p.arr_0) (run_part_plain w (by kernel_rfl) q.arr_0) (run_equalIn_bool w (d + 1) _ _ _ (by kernel_rfl)) ?_
  refine eqf_cons (by rfl) (a := .agg p.lo.arr) (b := .agg q.lo.arr) ?_ ?_ (eqA_run d w p.lo q.lo) ?_
  ·show (part 28 p.arr 1).run Try.prog w = _
   simp only [part, Sem.run_bind, isAggA, Result.andThen_ok, if_true, sizeA, Sem.run_pure]
   rw [p.cut_lo]
  ·show (part 28 q.arr 1).run Try.prog w = _
   simp only [part, Sem.run_bind, isAggA, Result.andThen_ok, if_true, sizeA, Sem.run_pure]
   rw [q.cut_lo]
  ·refine eqf_last (by rfl) (a := .agg p.hi.arr) (b := .agg q.hi.arr) ?_ ?_ (eqA_run d w p.hi q.hi)
   ·show (part 28 p.arr 17).run Try.prog w = _
    simp only [part, Sem.run_bind, isAggA, Result.andThen_ok, if_true, sizeA, Sem.run_pure]
    rw [p.cut_hi]
   ·show (part 28 q.arr 17).run Try.prog w = _
    simp only [part, Sem.run_bind, isAggA, Result.andThen_ok, if_true, sizeA, Sem.run_pure]
    rw [q.cut_hi]
 ·congr 1
  rw [Bool.eq_iff_iff]
  simp only [Bool.and_eq_true, beq_iff_eq, decide_eq_true_iff]
  constructor
  ·rintro ⟨h1, h2, h3⟩
   cases p; cases q; simp_all
  ·rintro rfl
   simp
theorem eqlS (w : World) (p q : Spn) : (binOp .eql 30 (.agg p.arr) (.agg q.arr)).run Try.prog w = .ok (.bool (decide (p = q))) w := by
 rw [run_eql_struct, eqS_run 9997]; rfl
theorem neqS (w : World) (p q : Spn) : (binOp .neq 30 (.agg p.arr) (.agg q.arr)).run Try.prog w = .ok (.bool (!decide (p = q))) w := by
 rw [run_neq_struct, eqS_run 9997]; rfl
section
variable {ops : Array Oper} {rest : List Oper} {a : Act} {W : World} {Q : Exit → Act → World → Prop} {n : Tmp} {x : Operand} {ty : TypeId} {pos : String} {af : Array Edge} {b o : Nat} {S : World → Prop}
theorem loadS (v : Spn) (b o : Nat) (hx : a.eval x = .pointer (some ⟨b, o, none⟩)) (hR : W.rangeAt b o v.cells) (h : wpList Try.prog ops Q rest (a.put (some n) (.agg v.arr)) W) : wpList Try.prog ops Q (⟨some n, .load 30 x, ty, pos, af, none⟩ :: rest) a W :=
 wpList_load_mid rfl _ x rfl b o hx v.cells _ hR Try.underlying30 rfl (by rw [v.cells_len]; exact infoS) h
theorem yS {oi : Oper} (hw : Region.wanted oi (yielded ops a.tmps) = true) (ho : oi.op = .load 30 x) (v : Spn) (b o : Nat) (hx : a.eval x = .pointer (some ⟨b, o, none⟩)) (hS : ∀ W, S W → W.rangeAt b o v.cells) : YieldsIf Try.prog ops S oi (.agg v.arr) a :=
 yieldsIf_load_mid hw _ x ho b o hx v.cells _ hS Try.underlying30 rfl (by rw [v.cells_len]; exact infoS)
end
theorem Has.rs {W : World} {g t : Nat} {v : Spn} (h : Has W g v.arr t) : W.rangeAt g 0 v.cells := fun j u hu => by rw [Nat.zero_add, h.c]; simpa [Spn.arr] using hu
theorem rlo_of_s {W : World} {b o : Nat} {s : Spn} (h : W.rangeAt b o s.cells) : W.rangeAt b (o + 1) s.lo.cells := fun j u hu => by
 have := h (j + 1) u (by
  have hj : j < s.lo.cells.length := (List.getElem?_eq_some_iff.1 hu).1
  rw [Spn.cells, List.getElem?_cons_succ, List.getElem?_append_left hj]; exact hu)
 rwa [show o + (j + 1) = o + 1 + j by omega] at this
theorem rhi_of_s {W : World} {b o : Nat} {s : Spn} (h : W.rangeAt b o s.cells) : W.rangeAt b (o + 17) s.hi.cells := fun j u hu => by
 have := h (j + 17) u (by
  rw [Spn.cells, List.getElem?_cons_succ, List.getElem?_append_right (by rw [s.lo.cells_len]; omega), s.lo.cells_len, show j + 16 - 16 = j by omega]; exact hu)
 rwa [show o + (j + 17) = o + 17 + j by omega] at this
theorem rs_v6 {W : World} {b o : Nat} {s : Spn} (h : W.rangeAt b o s.cells) : W.cell? ⟨b, o, none⟩ = some (.bool s.v6) := h 0 _ (by simp [Spn.cells])
end Go.Proofs.Ytdioagebkfdkhaa.Ad
end

section
set_option linter.unusedVariables false
set_option linter.unusedSimpArgs false
namespace Go.Proofs.Ytdioagebkfdkhaa.Ad
open Go.RowKit Go.Proofs.YtdioagebkfdkhaaW.PrintWords Go.Proofs.YtdioagebkfdkhaaW.PrintLast Go.Proofs.YtdioagebkfdkhaaW.PrintMore Go.Proofs.Ytdioagebkfdkhaa.PT

set_option maxHeartbeats 1000000 in
set_option maxRecDepth 100000 in
theorem mask_walk (n : Int) (w : World) (h0 : -1000 ≤ n) (h1 : n ≤ 1000) :
 Calls Try.prog 44 #[.int .i64 n] w fun e w' => e = .returned (.int .u8 (maskP n)) ∧ w = w' := by
 unfold maskP
 by_cases hn : n ≤ 0
 ·rw [if_pos hn]
  go_enter Try.func44, Try.ntmps44
  go_wp2
  go_ret
  exact ⟨rfl, rfl⟩
 rw [if_neg hn]
 by_cases h8 : 8 ≤ n
 ·rw [if_pos h8]
  go_enter Try.func44, Try.ntmps44
  go_wp2
  go_ret
  exact ⟨rfl, rfl⟩
 rw [if_neg h8]
 have : n = 1 ∨ n = 2 ∨ n = 3 ∨ n = 4 ∨ n = 5 ∨ n = 6 ∨ n = 7 := by omega
 rcases this with rfl | rfl | rfl | rfl | rfl | rfl | rfl
 all_goals
  go_enter Try.func44, Try.ntmps44
  go_wp2
  go_ret
  exact ⟨rfl, rfl⟩

end Go.Proofs.Ytdioagebkfdkhaa.Ad
end

section
set_option linter.unusedVariables false
set_option linter.unusedSimpArgs false
namespace Go.Proofs.Ytdioagebkfdkhaa.Ad
open Go.RowKit Go.Proofs.YtdioagebkfdkhaaW.PrintWords Go.Proofs.YtdioagebkfdkhaaW.PrintLast Go.Proofs.YtdioagebkfdkhaaW.PrintMore Go.Proofs.Ytdioagebkfdkhaa.PT
theorem max2_mx (k k' : IntKind) (x y : Int) : Builtin.max2 (.int k x) (.int k' y) = pure (.int k (mx x y)) := max2_int k k' x y
theorem min2_mn (k k' : IntKind) (x y : Int) : Builtin.min2 (.int k x) (.int k' y) = pure (.int k (mn x y)) := min2_int k k' x y
attribute [local go_sem] max2_mx min2_mn max_two min_two
theorem lenC_mx (p : Pfx) : mn (mx p.n 0) (mostP p.v6) = lenC p := by
 unfold mn mx lenC
 split <;> split <;> omega

theorem most_walk (b : Bool) (w : World) : Calls Try.prog 43 #[.bool b] w fun e w' => e = .returned (.int .i64 (mostP b)) ∧ w' = w := by
 cases b
 all_goals
  go_enter Try.func43, Try.ntmps43
  go_wp2
  go_ret
  exact ⟨rfl, rfl⟩
/-- Byte i is another one. -/
def A16.set (a : A16) (i : Nat) (x : Int) (hx : 0 ≤ x ∧ x < 256) : A16 := ⟨a.l.set i x, by simp [a.h], fun y hy => by
 rcases List.mem_or_eq_of_mem_set hy with hy | rfl
 ·exact a.b y hy
 ·exact hx⟩
theorem A16.set_at (a : A16) {i j : Nat} (x : Int) (hx : 0 ≤ x ∧ x < 256) (hi : i < 16) : (a.set i x hx).at j = if i = j then x else a.at j := by
 unfold A16.at A16.set
 dsimp only
 rw [List.getD_eq_getElem?_getD, List.getElem?_set, List.getD_eq_getElem?_getD]
 split
 ·subst i
  simp [show j < a.l.length by rw [a.h]; exact hi]
 ·rfl
theorem Pfx.set_n (p : Pfx) (m : Int) : p.arr.setIfInBounds 17 (.int .i64 m) = (⟨p.v6, p.a, m⟩ : Pfx).arr := by
 simp only [Pfx.arr, Pfx.cells, List.setIfInBounds_toArray, List.set_cons_succ]
 congr 2
 rw [List.set_append_right _ _ (by rw [p.a.cells_len]; decide), p.a.cells_len]
 rfl
theorem Pfx.set_a (p : Pfx) {i : Nat} (hi : i < 16) (x : Int) (hx : 0 ≤ x ∧ x < 256) : p.arr.setIfInBounds (1 + i) (.int .u8 x) = (⟨p.v6, p.a.set i x hx, p.n⟩ : Pfx).arr := by
 rw [Nat.add_comm]
 simp only [Pfx.arr, Pfx.cells, List.setIfInBounds_toArray, List.set_cons_succ]
 congr 2
 rw [List.set_append_left _ _ (by rw [p.a.cells_len]; exact hi)]
 simp [A16.cells, A16.set, List.map_set]
theorem and_mask_s : ∀ x : Nat, x < 256 → ∀ m : Nat, m < 9 → Go.bits .and .u8 (x : Int) (maskP (m : Int)) = cutB (x : Int) (m : Int) := by decide +kernel
theorem and_mask (x n : Int) (h : 0 ≤ x ∧ x < 256) : Go.bits .and .u8 x (maskP n) = cutB x n := by
 obtain ⟨y, rfl⟩ := Int.eq_ofNat_of_zero_le h.1
 by_cases h0 : n ≤ 0
 ·have := and_mask_s y (by omega) 0 (by omega)
  unfold maskP cutB at this ⊢
  rw [if_pos h0, if_pos h0]
  simpa using this
 by_cases h8 : 8 ≤ n
 ·have := and_mask_s y (by omega) 8 (by omega)
  unfold maskP cutB at this ⊢
  rw [if_neg h0, if_pos h8, if_neg h0, if_pos h8]
  simpa using this
 obtain ⟨m, rfl⟩ := Int.eq_ofNat_of_zero_le (show 0 ≤ n by omega)
 exact and_mask_s y (by omega) m (by omega)
def zP : Pfx := ⟨false, z16, 0⟩
theorem zP_arr : zP.arr = #[.bool false, .int .u8 0, .int .u8 0, .int .u8 0, .int .u8 0, .int .u8 0, .int .u8 0, .int .u8 0, .int .u8 0, .int .u8 0, .int .u8 0, .int .u8 0, .int .u8 0, .int .u8 0, .int .u8 0, .int .u8 0, .int .u8 0, .int .i64 0] := rfl
/-- What holds in Cut: the two blocks. -/
structure CutS (w W : World) (q : Pfx) : Prop where
 hq : W.heap[w.heap.size]? = some (.cells q.arr 37 (0, 0))
 hz : W.heap[w.heap.size + 1]? = some (.cells zP.arr 37 (0, 0))
 b : Below w.heap.size w W
theorem CutS.drew {w W : World} {q : Pfx} (h : CutS w W q) : CutS w W.drew q := ⟨h.hq, h.hz, h.b.drew⟩
theorem CutS.c {w W : World} {q : Pfx} (h : CutS w W q) (j : Nat) : W.cell? ⟨w.heap.size, j, none⟩ = q.arr[j]? := cell_of_row _ _ _ _ _ _ h.hq
theorem CutS.f {w W : World} {q : Pfx} (h : CutS w W q) (j : Nat) : W.frozen? ⟨w.heap.size, j, none⟩ = false := frozen_of_row _ _ _ _ _ h.hq
theorem CutS.set {w W : World} {q q' : Pfx} {j : Nat} {u : Value} (h : CutS w W q) (e : q.arr.setIfInBounds j u = q'.arr) : CutS w (W.setCell ⟨w.heap.size, j, none⟩ u) q' :=
 ⟨by rw [heap_setCell_same _ _ _ _ _ _ h.hq, e], by rw [heap_setCell_other _ _ _ _ (by simp)]; exact h.hz, Below.setCell h.b (p := ⟨w.heap.size, j, none⟩) (Nat.le_refl _) _⟩
/-- A prefix of which i bytes have been cut. -/
def cutTo (p : Pfx) (i : Nat) : Pfx := ⟨p.v6, mk16 (fun j => if j < i then cutB (p.a.at j) (lenC p - 8 * j) else p.a.at j) (fun j => by split; exact cutB_b (p.a.at_b j); exact p.a.at_b j), lenC p⟩
theorem cutTo_0 (p : Pfx) : cutTo p 0 = ⟨p.v6, p.a, lenC p⟩ := by
 unfold cutTo
 congr 1
 exact A16.ext_at fun i hi => by rw [mk16_at hi]; simp
theorem cutTo_16 (p : Pfx) : cutTo p 16 = cutP p := by
 unfold cutTo cutP
 congr 1
theorem cutTo_at (p : Pfx) {i : Nat} (h : i < 16) : (cutTo p i).a.at i = p.a.at i := by
 unfold cutTo
 dsimp only
 rw [mk16_at h, if_neg (Nat.lt_irrefl i)]
theorem cutTo_succ (p : Pfx) {i : Nat} (h : i < 16) (x : Int) (hx : 0 ≤ x ∧ x < 256) (e : x = cutB (p.a.at i) (lenC p - 8 * i)) : (⟨(cutTo p i).v6, (cutTo p i).a.set i x hx, (cutTo p i).n⟩ : Pfx) = cutTo p (i + 1) := by
 subst e
 unfold cutTo
 dsimp only
 congr 1
 refine A16.ext_at fun j hj => ?_
 rw [A16.set_at _ _ _ h, mk16_at hj, mk16_at hj]
 by_cases hji : i = j
 ·subst hji; simp
 ·rw [if_neg hji]
  have e : (j < i + 1) = (j < i) := by simp; omega
  simp only [e]

theorem mask_walk' (n : Int) (w : World) (h0 : -1000 ≤ n) (h1 : n ≤ 1000) :
 Calls Try.prog 44 #[.int .i64 n] w fun e w' => e = .returned (.int .u8 (maskP n)) ∧ w' = w := (mask_walk n w h0 h1).mono fun _ _ h => ⟨h.1, h.2.symm⟩
theorem lenC_b (p : Pfx) : 0 ≤ lenC p ∧ lenC p ≤ 128 := by
 unfold lenC mostP
 split <;> omega

set_option maxHeartbeats 1000000 in
set_option maxRecDepth 100000 in
theorem cut_walk (p : Pfx) (w : World) :
 Calls Try.prog 36 #[.agg p.arr] w fun e w' => e = .returned (.agg (cutP p).arr) ∧ Below w.heap.size w w' := by
 have H0 : CutS w ((w.alloc (.cells p.arr 37)).alloc (.cells zP.arr 37)) p := ⟨heap_alloc2_old _ _ _, heap_alloc2_new _ _ _, ((Below.refl _ _).alloc (Nat.le_refl _) _).alloc (by simp) _⟩
 go_enter Try.func36, Try.ntmps36
 go_wp2
 rw [← zP_arr]
 generalize (w.alloc (.cells p.arr 37)).alloc (.cells zP.arr 37) = W at H0 ⊢
 have c0 := (H0.c 0).trans p.arr_0
 have c17 := (H0.c 17).trans p.arr_n
 refine wp_region_still_tail 8 (by kernel_rfl) (by kernel_rfl) ?_
 simp only [List.take_succ_cons, List.take_zero, List.drop_succ_cons, List.drop_zero]
 repeat (first | still_step | still_call (most_walk _ _))
 refine wpStill_nil ?_
 change wpList _ _ _ _ _ W.drew
 have H1 := H0.drew
 clear c0 c17 H0
 generalize W.drew = W1 at H1 ⊢
 have f17 := H1.f 17
 have c17 := (H1.c 17).trans p.arr_n
 rw [lenC_mx]
 go_wp2
 have H2 : Hid (CutS w (W1.setCell ⟨w.heap.size, 17, none⟩ (.int .i64 (lenC p))) (cutTo p 0)) := Lib.hid (H1.set (by rw [p.set_n, cutTo_0]))
 clear H1 f17 c17
 generalize W1.setCell ⟨w.heap.size, 17, none⟩ (.int .i64 (lenC p)) = W2 at H2 ⊢
 have hlb := lenC_b p
 go_loopw [12] (fun iv wr => ∃ k : Nat, k ≤ 16 ∧ iv = .int .i64 k ∧ Hid (CutS w wr (cutTo p k))) (fun iv _ => 16 - (intOf iv).toNat)
 case atStart => exact ⟨0, Nat.zero_le _, rfl, H2⟩
 case round =>
  obtain ⟨k, hk, rfl, H⟩ := hrel
  by_cases h16 : k < 16
  ·have hd1 := eq_true (show (k : Int) < 16 by omega)
   have hd2 : decide ((k : Int) < 16) = true := decide_eq_true (by omega)
   go_wp2
   have ca := ((H.out.c (1 + k)).trans ((cutTo p k).arr_a h16)).trans (by rw [cutTo_at p h16])
   have cn : wr.cell? ⟨w.heap.size, 17, none⟩ = some (.int .i64 (lenC p)) := (H.out.c 17).trans (cutTo p k).arr_n
   have hw1 : IntKind.i64.wrap (8 * (k : Int)) = 8 * (k : Int) := by simp [IntKind.wrap, IntKind.bits, IntKind.signed]; omega
   obtain ⟨m, hm⟩ : ∃ m, m = lenC p - 8 * (k : Int) := ⟨_, rfl⟩
   have hw2 : IntKind.i64.wrap (lenC p - 8 * (k : Int)) = m := by rw [hm]; simp [IntKind.wrap, IntKind.bits, IntKind.signed]; omega
   have hmb : -1000 ≤ m ∧ m ≤ 1000 := by omega
   obtain ⟨hm1, hm2⟩ := hmb
   have HM := Lib.hid hm
   clear hm
   refine wp_region_still_tail 13 (by kernel_rfl) (by kernel_rfl) ?_
   simp only [List.take_succ_cons, List.take_zero, List.drop_succ_cons, List.drop_zero]
   repeat (first | still_step | still_call (mask_walk' _ _ (by assumption) (by assumption)))
   refine wpStill_nil ?_
   change wpList _ _ _ _ _ wr.drew
   rw [and_mask _ _ (p.a.at_b k)]
   have H' := Lib.hid H.out.drew
   clear ca cn hw1 hw2 H
   generalize wr.drew = W3 at H' ⊢
   have ca := (H'.out.c (1 + k)).trans ((cutTo p k).arr_a h16)
   have fa := H'.out.f (1 + k)
   go_wp2
   go_roundw
   case rel => exact ⟨k + 1, by omega, by go_num, Lib.hid (H'.out.set (by rw [(cutTo p k).set_a h16 _ (cutB_b (p.a.at_b k)), cutTo_succ p h16 _ _ (by rw [HM.out])]))⟩
   case measure => simp [intOf]; omega
  ·have hk16 : k = 16 := by omega
   subst hk16
   have hd2 : decide (((16 : Nat) : Int) < 16) = false := by decide
   have hd1 := eq_false (show ¬ ((16 : Nat) : Int) < 16 by decide)
   go_upto_region 7 with (fail)
   rw [cutTo_16] at H
   refine wp_region_lit ?_
   refine wpList_load_row rfl 37 (.tmp 1) rfl w.heap.size rfl 37 _ (0, 0) _ H.out.hq Try.underlying37 rfl (by rw [Pfx.arr_size]; exact infoP) ?_
   refine wpList_store_row rfl 37 (.tmp 2) (.tmp 29) rfl (w.heap.size + 1) (cutP p).arr rfl rfl 37 zP.arr H.out.hz (by rw [Pfx.arr_size]; exact infoP) (by rw [Pfx.arr_size, Pfx.arr_size]) (Pfx.arr_one _) ?_
   have v0 : (wr.setRow (w.heap.size + 1) (cutP p).arr).heap[w.heap.size + 1]? = some (.cells (cutP p).arr 37 (0, 0)) := setRow_heap wr _ _ _ _ _ H.out.hz
   have v3 := below_setRow H.out.b (g := w.heap.size + 1) (by omega) (cutP p).arr
   generalize wr.setRow (w.heap.size + 1) (cutP p).arr = wc at v0 v3 ⊢
   refine wpList_nil ?_
   go_wp2
   refine bodyPost_ret (v := .agg (cutP p).arr) ?_ rfl ⟨rfl, v3⟩
   exact results_cell_row (P := Try.prog) (p := 2) (ty := 37) Try.results36 _ _ (w.heap.size + 1) 37 (cutP p).arr (0, 0) _ rfl v0 Try.underlying37 rfl (by rw [Pfx.arr_size]; exact infoP)

end Go.Proofs.Ytdioagebkfdkhaa.Ad
end

section
set_option linter.unusedVariables false
set_option linter.unusedSimpArgs false
namespace Go.Proofs.Ytdioagebkfdkhaa.Ad
open Go.RowKit Go.Proofs.YtdioagebkfdkhaaW.PrintWords Go.Proofs.YtdioagebkfdkhaaW.PrintLast Go.Proofs.YtdioagebkfdkhaaW.PrintMore Go.Proofs.Ytdioagebkfdkhaa.PT

/-- A value lies in block g; nothing below b has changed. -/
def HB (w : World) (b g : Nat) (cs : Array Value) (t : TypeId) (W : World) : Prop := Has W g cs t ∧ Below b w W
theorem HB.step {w W W1 : World} {b g : Nat} {cs : Array Value} {t : TypeId} (h : HB w b g cs t W) (hB : Below W.heap.size W W1) (hbs : b ≤ w.heap.size) : HB w b g cs t W1 :=
 ⟨h.1.below hB, h.2.trans (hB.mono (Nat.le_trans hbs h.2.size))⟩
theorem HB.box (w : World) (cs : Array Value) (t : TypeId) : HB w w.heap.size w.heap.size cs t (w.alloc (.cells cs t)).drew := ⟨Has.new w cs t, ((Below.refl _ _).alloc (Nat.le_refl _) _).drew⟩

set_option maxHeartbeats 1000000 in
set_option maxRecDepth 100000 in
theorem right_walk0 (p : Pfx) (w : World) :
 Calls Try.prog 19 #[.agg p.arr] w fun e w' => e = .returned (.bool (decide (cutP p = p))) ∧ Below w.heap.size w w' := by
 have H0 := HB.box w p.arr 37
 have hq : ∀ W, (binOp .eql 37 (.agg (cutP p).arr) (.agg p.arr)).run Try.prog W = .ok (.bool (decide (cutP p = p))) W := fun W => eqlP W _ _
 go_enter Try.func19, Try.ntmps19
 go_wp2
 refine start_ (n := 5) (S := HB w w.heap.size w.heap.size p.arr 37) (ds := []) #[false, false, false, false, false] (by kernel_rfl) rfl rfl H0 (fun hHeld => ?_)
 refine take_ (i := 0) (N := some 3) (v := .agg p.arr) (a' := ?_) #[true, false, false, false, false] rfl rfl (by kernel_rfl) (fun _ _ _ h => h) ?_ hHeld ?_ ?_
 ·exact yP (by rfl) rfl p w.heap.size 0 rfl (fun W h => h.1.rp)
 rotate_left
 ·simp only [Act.put, List.setIfInBounds_toArray, List.set_cons_zero, List.set_cons_succ, i64_w, i32_w]
  rfl
 refine take_ (i := 2) (N := some 5) (v := .agg p.arr) (a' := ?_) #[true, false, true, false, false] rfl rfl (by kernel_rfl) (fun _ _ _ h => h) ?_ hHeld ?_ ?_
 ·exact yP (by rfl) rfl p w.heap.size 0 rfl (fun W h => h.1.rp)
 rotate_left
 ·simp only [Act.put, List.setIfInBounds_toArray, List.set_cons_zero, List.set_cons_succ, i64_w, i32_w]
  rfl
 refine one_ (i := 1) (N := some 4) #[true, true, true, false, false] rfl rfl (by kernel_rfl) (by decide) (fun K hK => ?_)
 refine goes_ Try.func36 (by kernel_rfl) rfl #[.agg p.arr] (by rfl) rfl rfl (by (try simp only [List.map_toArray, List.map_cons, List.map_nil]); first | done | rfl) ?_
 refine (cut_walk p _).mono ?_
 rintro e w1 ⟨rfl, hB⟩
 refine ⟨_, rfl, ?_⟩
 refine hK.out _ _ (HB.step hHeld hB (Nat.le_refl _)) (fun hHeld => ?_)
 clear hK K
 refine norm_ (a' := ?_) ?_ ?_
 rotate_left
 ·show Act.put _ (some 4) _ = _
  simp only [Act.put, List.setIfInBounds_toArray, List.set_cons_zero, List.set_cons_succ, i64_w, i32_w]
  rfl
 refine pure_ (i := 3) (N := some 6) (v := ?_) (a' := ?_) #[true, true, true, true, false] rfl rfl (by kernel_rfl) (fun _ _ _ h => h) (Or.inl ⟨by rfl, ?_⟩) ?_ ?_
 rotate_left
 ·intro w'
  go_simp
  with_reducible rfl
 rotate_left
 ·simp only [Act.put, List.setIfInBounds_toArray, List.set_cons_zero, List.set_cons_succ, i64_w, i32_w]
  rfl
 refine pure_ (i := 4) (N := some 2) (v := ?_) (a' := ?_) #[true, true, true, true, true] rfl rfl (by kernel_rfl) (fun _ _ _ h => h) (Or.inl ⟨by rfl, ?_⟩) ?_ ?_
 rotate_left
 ·intro w'
  go_simp
  with_reducible rfl
 rotate_left
 ·simp only [Act.put, List.setIfInBounds_toArray, List.set_cons_zero, List.set_cons_succ, i64_w, i32_w]
  rfl
 refine done_ (by kernel_rfl) ?_
 go_wp2
 go_ret
 exact ⟨rfl, hHeld.2⟩

end Go.Proofs.Ytdioagebkfdkhaa.Ad
end

namespace Go.Proofs.Ytdioagebkfdkhaa.Ad

def bitB (x : Int) (k : Nat) : Int := x / 2 ^ (7 - k) % 2
theorem cutB_bit_s : ∀ x : Nat, x < 256 → ∀ m : Nat, m < 9 → ∀ k : Nat, k < 8 → bitB (cutB (x : Int) (m : Int)) k = if k < m then bitB (x : Int) k else 0 := by decide +kernel
theorem cutB_bit {x : Int} (h : 0 ≤ x ∧ x < 256) (m : Int) {k : Nat} (hk : k < 8) : bitB (cutB x m) k = if (k : Int) < m then bitB x k else 0 := by
 obtain ⟨y, rfl⟩ := Int.eq_ofNat_of_zero_le h.1
 by_cases h0 : m ≤ 0
 ·unfold cutB
  rw [if_pos h0, if_neg (by omega)]
  simp [bitB]
 by_cases h8 : 8 ≤ m
 ·unfold cutB
  rw [if_neg h0, if_pos h8, if_pos (by omega)]
 obtain ⟨n, rfl⟩ := Int.eq_ofNat_of_zero_le (show 0 ≤ m by omega)
 rw [cutB_bit_s y (by omega) n (by omega) k hk]
 by_cases hkn : k < n
 ·rw [if_pos hkn, if_pos (by omega)]
 ·rw [if_neg hkn, if_neg (by omega)]
theorem byte_ext {x y : Int} (hx : 0 ≤ x ∧ x < 256) (hy : 0 ≤ y ∧ y < 256) (h : ∀ k : Nat, k < 8 → bitB x k = bitB y k) : x = y := by
 have h0 : x / 128 % 2 = y / 128 % 2 := h 0 (by decide)
 have h1 : x / 64 % 2 = y / 64 % 2 := h 1 (by decide)
 have h2 : x / 32 % 2 = y / 32 % 2 := h 2 (by decide)
 have h3 : x / 16 % 2 = y / 16 % 2 := h 3 (by decide)
 have h4 : x / 8 % 2 = y / 8 % 2 := h 4 (by decide)
 have h5 : x / 4 % 2 = y / 4 % 2 := h 5 (by decide)
 have h6 : x / 2 % 2 = y / 2 % 2 := h 6 (by decide)
 have h7 : x / 1 % 2 = y / 1 % 2 := h 7 (by decide)
 omega
theorem bit_eq (a : A16) (i : Nat) : a.bit i = bitB (a.at (i / 8)) (i % 8) := rfl
theorem A16.ext_bit {a b : A16} (h : ∀ i, i < 128 → a.bit i = b.bit i) : a = b :=
 A16.ext_at fun j hj => byte_ext (a.at_b j) (b.at_b j) fun k hk => by
  have := h (8 * j + k) (by omega)
  rw [bit_eq, bit_eq, show (8 * j + k) / 8 = j by omega, show (8 * j + k) % 8 = k by omega] at this
  exact this
theorem lenC_b' (p : Pfx) : 0 ≤ lenC p ∧ lenC p ≤ mostP p.v6 := by
 unfold lenC mostP
 split <;> omega
theorem mostP_b (b : Bool) : 32 ≤ mostP b ∧ mostP b ≤ 128 := by unfold mostP; split <;> omega
theorem cutP_bit (p : Pfx) {i : Nat} (h : i < 128) : (cutP p).a.bit i = if (i : Int) < lenC p then p.a.bit i else 0 := by
 rw [bit_eq, bit_eq]
 unfold cutP
 dsimp only
 rw [mk16_at (by omega), cutB_bit (p.a.at_b _) _ (by omega)]
 by_cases hl : (i : Int) < lenC p
 ·rw [if_pos hl, if_pos (by omega)]
 ·rw [if_neg hl, if_neg (by omega)]
theorem cut_right (p : Pfx) : decide (cutP p = p) = rightB p := by
 rw [Bool.eq_iff_iff, decide_eq_true_iff, right_iff]
 constructor
 ·intro h
  have hn : lenC p = p.n := congrArg Pfx.n h
  have hb := lenC_b' p
  refine ⟨by omega, by omega, fun i hi hp => ?_⟩
  have := cutP_bit p hi
  rw [h, if_neg (by omega)] at this
  exact this
 ·rintro ⟨h1, h2, h3⟩
  have hn : lenC p = p.n := by unfold lenC; omega
  have ha : (cutP p).a = p.a := A16.ext_bit fun i hi => by
   rw [cutP_bit p hi]
   split
   ·rfl
   ·exact (h3 i hi (by omega)).symm
  have e : cutP p = ⟨(cutP p).v6, (cutP p).a, (cutP p).n⟩ := rfl
  rw [e, ha, show (cutP p).n = p.n from hn, show (cutP p).v6 = p.v6 from rfl]
end Go.Proofs.Ytdioagebkfdkhaa.Ad


section
set_option linter.unusedVariables false
set_option linter.unusedSimpArgs false
namespace Go.Proofs.Ytdioagebkfdkhaa.Ad
open Go.RowKit Go.Proofs.YtdioagebkfdkhaaW.PrintWords Go.Proofs.YtdioagebkfdkhaaW.PrintLast Go.Proofs.YtdioagebkfdkhaaW.PrintMore Go.Proofs.Ytdioagebkfdkhaa.PT

theorem at_dst (n : Tmp) {P : Program} {ops : Array Oper} {Q : Exit → Act → World → Prop} {rest : List Oper} {a : Act} {w : World} {op : Op} {ty : TypeId} {pos : String} {af : Array Edge} {g : Option (Nat × Bool)}
 (h : wpList P ops Q (⟨some n, op, ty, pos, af, g⟩ :: rest) a w) : wpList P ops Q (⟨some n, op, ty, pos, af, g⟩ :: rest) a w := h
theorem right_walk (p : Pfx) (b : Bool) (hb : rightB p = b) (w : World) :
 Calls Try.prog 19 #[.agg p.arr] w fun e w' => e = .returned (.bool b) ∧ Below w.heap.size w w' := by
 have := right_walk0 p w
 rwa [cut_right, hb] at this

/-- Two values in the blocks made first. -/
def H2 (w : World) (c d : Array Value) (t : TypeId) (W : World) : Prop := Has W w.heap.size c t ∧ Has W (w.heap.size + 1) d t ∧ Below w.heap.size w W
theorem H2.new (w : World) (c d : Array Value) (t : TypeId) : H2 w c d t ((w.alloc (.cells c t)).alloc (.cells d t)) := ⟨heap_alloc2_old _ _ _, heap_alloc2_new _ _ _, ((Below.refl _ _).alloc (Nat.le_refl _) _).alloc (by simp) _⟩
theorem H2.drew {w W : World} {c d : Array Value} {t : TypeId} (h : H2 w c d t W) : H2 w c d t W.drew := ⟨h.1, h.2.1, h.2.2.drew⟩
theorem H2.step {w W W1 : World} {c d : Array Value} {t : TypeId} (h : H2 w c d t W) (hB : Below W.heap.size W W1) : H2 w c d t W1 :=
 ⟨h.1.below hB, h.2.1.below hB, h.2.2.trans (hB.mono h.2.2.size)⟩
end Go.Proofs.Ytdioagebkfdkhaa.Ad
end

namespace Go.Proofs.Ytdioagebkfdkhaa.Ad

/-- Lists of whole numbers, as words stand in a dictionary. -/
def lexC : List Int → List Int → Int
 | x :: xs, y :: ys => if x < y then -1 else if y < x then 1 else lexC xs ys
 | _, _ => 0
theorem lexC_self : ∀ a : List Int, lexC a a = 0
 | [] => rfl
 | x :: xs => by unfold lexC; rw [if_neg (by omega), if_neg (by omega)]; exact lexC_self xs
theorem lexC_neg : ∀ a b : List Int, lexC b a = -lexC a b
 | [], b => by cases b <;> rfl
 | x :: xs, [] => rfl
 | x :: xs, y :: ys => by
  unfold lexC
  have := lexC_neg xs ys
  by_cases h1 : x < y
  ·rw [if_neg (by omega), if_pos h1, if_pos h1]; rfl
  by_cases h2 : y < x
  ·rw [if_pos h2, if_neg h1, if_pos h2]
  ·rw [if_neg h2, if_neg h1, if_neg h1, if_neg h2]; exact this
theorem lexC_cons (x y : Int) (xs ys : List Int) : lexC (x :: xs) (y :: ys) = if x < y then -1 else if y < x then 1 else lexC xs ys := rfl
end Go.Proofs.Ytdioagebkfdkhaa.Ad


section
set_option linter.unusedVariables false
set_option linter.unusedSimpArgs false
namespace Go.Proofs.Ytdioagebkfdkhaa.Ad
open Go.RowKit Go.Proofs.YtdioagebkfdkhaaW.PrintWords Go.Proofs.YtdioagebkfdkhaaW.PrintLast Go.Proofs.YtdioagebkfdkhaaW.PrintMore Go.Proofs.Ytdioagebkfdkhaa.PT

/-- New blocks and draws, nothing else. -/
def Gw (W W1 : World) : Prop := ∃ q os, W1 = Go.Sort.grow (W.drewN q) os
theorem Gw.refl (W : World) : Gw W W := ⟨0, #[], by simp [World.drewN]⟩
theorem Gw.trans {a b c : World} (h : Gw a b) (k : Gw b c) : Gw a c := by
 obtain ⟨q, os, rfl⟩ := h
 obtain ⟨q', os', rfl⟩ := k
 refine ⟨q + q', os ++ os', ?_⟩
 show Go.Sort.grow (Go.Sort.grow ((a.drewN q).drewN q') os) os' = _
 rw [Go.Sort.grow_grow]
 simp [World.drewN, Nat.add_assoc]
theorem Gw.alloc {a b : World} (h : Gw a b) (o : Obj) : Gw a (b.alloc o) := h.trans ⟨0, #[o], by rw [Go.Sort.alloc_eq_grow]; rfl⟩
theorem Gw.drew {a b : World} (h : Gw a b) : Gw a b.drew := h.trans ⟨1, #[], by rw [Go.Sort.grow_empty]; rfl⟩
theorem Gw.drewN {a b : World} (h : Gw a b) (n : Nat) : Gw a (b.drewN n) := h.trans ⟨n, #[], by rw [Go.Sort.grow_empty]⟩
theorem Gw.below {a b : World} (h : Gw a b) : Below a.heap.size a b := by
 obtain ⟨q, os, rfl⟩ := h
 refine ⟨rfl, rfl, rfl, ?_, fun k hk => ?_⟩
 ·show a.heap.size ≤ (a.heap ++ os).size
  simp
 ·show (a.heap ++ os)[k]? = a.heap[k]?
  rw [Array.getElem?_append_left hk]

theorem lex_bytes : ∀ {a b : List Int}, a.length = b.length → (∀ x ∈ a, 0 ≤ x ∧ x < 256) → (∀ x ∈ b, 0 ≤ x ∧ x < 256) → Lib.compareBytes (Lib.bytesOf a) (Lib.bytesOf b) = lexC a b
 | [], [], _, _, _ => rfl
 | x :: xs, y :: ys, hl, ha, hb => by
  have hx := ha x (by simp)
  have hy := hb y (by simp)
  have ih := lex_bytes (by simpa using hl) (fun z hz => ha z (by simp [hz])) (fun z hz => hb z (by simp [hz]))
  have e1 : x.toNat.toUInt8 < y.toNat.toUInt8 ↔ x < y := by
   rw [UInt8.lt_iff_toNat_lt]
   simp
   omega
  have e2 : y.toNat.toUInt8 < x.toNat.toUInt8 ↔ y < x := by
   rw [UInt8.lt_iff_toNat_lt]
   simp
   omega
  show (if x.toNat.toUInt8 < y.toNat.toUInt8 then (-1 : Int) else if y.toNat.toUInt8 < x.toNat.toUInt8 then 1 else Lib.compareBytes (Lib.bytesOf xs) (Lib.bytesOf ys)) = _
  rw [lexC_cons, ih]
  simp only [e1, e2]

theorem bytes16 {W : World} {b o : Nat} {a : A16} (h : W.rangeAt b o a.cells) (c : Nat) : (Extern.Bytes.bytesOf (.slice (some ⟨b, o, none⟩) 16 c)).run Try.prog W = .ok ⟨(Lib.bytesOf a.l).toArray⟩ W := by
 have hl := Lib.run_loadBytesX (P := Try.prog) W a.l ⟨b, o, none⟩ .empty (fun j x hj => by
  rw [Addr.add_mid]
  exact h j _ (by rw [A16.cells, List.getElem?_map, hj]; rfl))
 rw [a.h] at hl
 have he : (⟨ByteArray.empty.data ++ (Lib.bytesOf a.l).toArray⟩ : ByteArray) = ⟨(Lib.bytesOf a.l).toArray⟩ := by
  apply ByteArray.ext
  show (#[] : Array UInt8) ++ (Lib.bytesOf a.l).toArray = _
  simp
 rw [he] at hl
 exact hl
theorem run_cmp16 {W : World} {b o b' o' : Nat} {p q : A16} (hp : W.rangeAt b o p.cells) (hq : W.rangeAt b' o' q.cells) (c c' : Nat) :
 (Extern.BytealgCompare.compare #[.slice (some ⟨b, o, none⟩) 16 c, .slice (some ⟨b', o', none⟩) 16 c']).run Try.prog W = .ok (.int .i64 (lexC p.l q.l)) W := by
 change Sem.run Try.prog (do pure (goInt (Extern.BytealgCompare.cmp (← Extern.Bytes.bytesOf (.slice (some ⟨b, o, none⟩) 16 c)) (← Extern.Bytes.bytesOf (.slice (some ⟨b', o', none⟩) 16 c'))))) W = _
 simp only [Sem.run_bind, bytes16 hp, bytes16 hq, Result.andThen, Sem.run_pure]
 rw [Lib.cmp_eq, ← lex_bytes (by rw [p.h, q.h]) p.b q.b]
 rfl

set_option maxHeartbeats 1000000 in
set_option maxRecDepth 100000 in
theorem bcmp_walk {b o b' o' : Nat} {p q : A16} (c c' : Nat) (W : World) (hp : W.rangeAt b o p.cells) (hq : W.rangeAt b' o' q.cells) :
 Calls Try.prog 42 #[.slice (some ⟨b, o, none⟩) 16 c, .slice (some ⟨b', o', none⟩) 16 c'] W fun e w' => e = .returned (.int .i64 (lexC p.l q.l)) ∧ w' = W := by
 have hr := run_cmp16 hp hq c c'
 clear hp hq
 go_enter Try.func42, Try.ntmps42
 go_wp2
 rw [run_callFunc_extern Try.func58 (by kernel_rfl) (by kernel_rfl) (by kernel_rfl) (e := Extern.BytealgCompare.compare) (by kernel_rfl), hr]
 simp only [Result.andThen]
 rw [Oper.upon_value]
 go_wp2
 go_ret
 exact ⟨rfl, rfl⟩

end Go.Proofs.Ytdioagebkfdkhaa.Ad
end

section
set_option linter.unusedVariables false
set_option linter.unusedSimpArgs false
namespace Go.Proofs.Ytdioagebkfdkhaa.Ad
open Go.RowKit Go.Proofs.YtdioagebkfdkhaaW.PrintWords Go.Proofs.YtdioagebkfdkhaaW.PrintLast Go.Proofs.YtdioagebkfdkhaaW.PrintMore Go.Proofs.Ytdioagebkfdkhaa.PT

/-- Two values in the blocks made first; nothing but new blocks and draws. -/
def G2 (w : World) (c d : Array Value) (t : TypeId) (W : World) : Prop := Has W w.heap.size c t ∧ Has W (w.heap.size + 1) d t ∧ Gw w W
theorem G2.new (w : World) (c d : Array Value) (t : TypeId) : G2 w c d t ((w.alloc (.cells c t)).alloc (.cells d t)) := ⟨heap_alloc2_old _ _ _, heap_alloc2_new _ _ _, ((Gw.refl _).alloc _).alloc _⟩
theorem G2.drew {w W : World} {c d : Array Value} {t : TypeId} (h : G2 w c d t W) : G2 w c d t W.drew := ⟨h.1, h.2.1, h.2.2.drew⟩
theorem G2.drewN {w W : World} {c d : Array Value} {t : TypeId} (h : G2 w c d t W) (n : Nat) : G2 w c d t (W.drewN n) := ⟨h.1, h.2.1, h.2.2.drewN n⟩
theorem G2.step {w W W1 : World} {c d : Array Value} {t : TypeId} (h : G2 w c d t W) (hB : Gw W W1) : G2 w c d t W1 :=
 ⟨h.1.below hB.below, h.2.1.below hB.below, h.2.2.trans hB⟩

end Go.Proofs.Ytdioagebkfdkhaa.Ad
end

section
set_option linter.unusedVariables false
set_option linter.unusedSimpArgs false
namespace Go.Proofs.Ytdioagebkfdkhaa.Ad
open Go.RowKit Go.Proofs.YtdioagebkfdkhaaW.PrintWords Go.Proofs.YtdioagebkfdkhaaW.PrintLast Go.Proofs.YtdioagebkfdkhaaW.PrintMore Go.Proofs.Ytdioagebkfdkhaa.PT

theorem lexC_first : ∀ (k : Nat) {a b : List Int} (ha : k < a.length) (hb : k < b.length), (∀ j, j < k → a.getD j 0 = b.getD j 0) → a.getD k 0 ≠ b.getD k 0 → lexC a b = if a.getD k 0 < b.getD k 0 then -1 else 1
 | 0, x :: xs, y :: ys, _, _, _, hne => by
  rw [lexC_cons]
  simp at hne ⊢
  by_cases h : x < y
  ·rw [if_pos h, if_pos h]
  ·rw [if_neg h, if_pos (by omega), if_neg h]
 | k + 1, x :: xs, y :: ys, ha, hb, he, hne => by
  have h0 : x = y := by simpa using he 0 (by omega)
  subst h0
  rw [lexC_cons, if_neg (by omega), if_neg (by omega)]
  have := lexC_first k (a := xs) (b := ys) (by simpa using ha) (by simpa using hb) (fun j hj => by simpa using he (j + 1) (by omega)) (by simpa using hne)
  simpa using this
theorem lex_at {a b : A16} {k : Nat} (hk : k < 16) (he : ∀ j, j < k → a.at j = b.at j) (hne : a.at k ≠ b.at k) : lexC a.l b.l = if a.at k < b.at k then -1 else 1 :=
 lexC_first k (by rw [a.h]; exact hk) (by rw [b.h]; exact hk) he hne

set_option maxHeartbeats 2000000 in
set_option maxRecDepth 100000 in
theorem cmpAddr_walk (a b : A16) (w : World) :
 Calls Try.prog 17 #[.agg a.arr, .agg b.arr] w fun e w' => e = .returned (.int .i64 (lexC a.l b.l)) ∧ Gw w w' := by
 have H0 := G2.new w a.arr b.arr 28
 obtain ⟨r, hr⟩ : ∃ r, r = lexC a.l b.l := ⟨_, rfl⟩
 rw [← hr]
 have HR := Lib.hid hr
 clear hr
 go_enter Try.func17, Try.ntmps17
 go_upto_region 1 with (fail)
 generalize (w.alloc (.cells a.arr 28)).alloc (.cells b.arr 28) = W at H0 ⊢
 have HH := Lib.hid H0
 clear H0
 go_wp2
 go_loopw [5] (fun iv wr => ∃ k : Nat, k ≤ 16 ∧ iv = .int .i64 k ∧ Hid ((∀ j : Nat, j < k → a.at j = b.at j) ∧ G2 w a.arr b.arr 28 wr)) (fun iv _ => 16 - (intOf iv).toNat)
 case atStart => exact ⟨0, Nat.zero_le _, rfl, Lib.hid ⟨fun j h => by omega, HH.out⟩⟩
 case round =>
  obtain ⟨k, hk, rfl, H⟩ := hrel
  by_cases hlt : k < 16
  ·have hd1 := eq_true (show (k : Int) < 16 by omega)
   have hd2 : decide ((k : Int) < 16) = true := decide_eq_true (by omega)
   have c0 := ra_at H.out.2.1.ra hlt
   have c1 := ra_at H.out.2.2.1.ra hlt
   rw [Nat.zero_add] at c0 c1
   obtain ⟨x, hx⟩ : ∃ x, x = a.at k := ⟨_, rfl⟩
   obtain ⟨y, hy⟩ : ∃ y, y = b.at k := ⟨_, rfl⟩
   rw [← hx] at c0
   rw [← hy] at c1
   have HXY := Lib.hid (And.intro hx hy)
   clear hx hy
   by_cases h1 : x < y
   ·have hres : r = -1 := by
     rw [HR.out, lex_at hlt H.out.1 (by rw [← HXY.out.1, ← HXY.out.2]; omega), if_pos (by rw [← HXY.out.1, ← HXY.out.2]; exact h1)]
    subst hres
    have hd3 : decide (x < y) = true := decide_eq_true h1
    go_wp2
    go_quiet (fail)
    go_wp2
    go_ret
    exact ⟨rfl, H.out.2.2.2.drewN nq⟩
   ·have hd3 : decide (x < y) = false := decide_eq_false h1
    go_wp2
    go_quiet (fail)
    have H2 := Lib.hid (And.intro H.out.1 (H.out.2.drewN nq))
    have c0' : (wr.drewN nq).cell? ⟨w.heap.size, k, none⟩ = some (.int .u8 x) := c0
    have c1' : (wr.drewN nq).cell? ⟨w.heap.size + 1, k, none⟩ = some (.int .u8 y) := c1
    clear c0 c1 H
    generalize wr.drewN nq = wr2 at H2 c0' c1' ⊢
    by_cases h2 : y < x
    ·have hres : r = 1 := by
      rw [HR.out, lex_at hlt H2.out.1 (by rw [← HXY.out.1, ← HXY.out.2]; omega), if_neg (by rw [← HXY.out.1, ← HXY.out.2]; omega)]
     subst hres
     have hd4 : decide (y < x) = true := decide_eq_true h2
     go_wp2
     go_quiet (fail)
     go_wp2
     go_ret
     exact ⟨rfl, H2.out.2.2.2.drewN _⟩
    ·have hd4 : decide (y < x) = false := decide_eq_false h2
     go_wp2
     go_quiet (fail)
     have H3 := Lib.hid (And.intro H2.out.1 (H2.out.2.drewN nq))
     clear c0' c1' H2
     generalize wr2.drewN nq = wr3 at H3 ⊢
     go_wp2
     go_roundw
     case rel => exact ⟨k + 1, by omega, by go_num, Lib.hid ⟨fun j hj => by
      by_cases hjk : j = k
      ·subst hjk; rw [← HXY.out.1, ← HXY.out.2]; omega
      ·exact H3.out.1 j (by omega), H3.out.2⟩⟩
     case measure => simp [intOf]; omega
  ·have hk16 : k = 16 := by omega
   subst hk16
   have hd2 : decide (((16 : Nat) : Int) < 16) = false := by decide
   have hd1 := eq_false (show ¬ ((16 : Nat) : Int) < 16 by decide)
   have hres : r = 0 := by rw [HR.out, A16.ext_at H.out.1, lexC_self]
   subst hres
   go_wp2
   go_ret
   exact ⟨rfl, H.out.2.2.2⟩

end Go.Proofs.Ytdioagebkfdkhaa.Ad
end

namespace Go.Proofs.Ytdioagebkfdkhaa.Ad

def wid (v6 : Bool) : Nat := if v6 then 16 else 4
/-- Byte k and one. -/
def inc (a : A16) (k : Nat) : A16 := a.set k ((a.at k + 1) % 256) ⟨Int.emod_nonneg _ (by decide), Int.emod_lt_of_pos _ (by decide)⟩
/-- The address behind one, of whose bytes the first k count. -/
def nextF : Nat → A16 → A16 × Bool
 | 0, a => (a, false)
 | k + 1, a => if (a.at k + 1) % 256 ≠ 0 then (inc a k, true) else nextF k (inc a k)
def nextP (v6 : Bool) (a : A16) : A16 × Bool := nextF (wid v6) a
/-- The number of an address's first k bytes. -/
def num : Nat → A16 → Int
 | 0, _ => 0
 | k + 1, a => num k a * 256 + a.at k
theorem num_b : ∀ (k : Nat) (a : A16), 0 ≤ num k a ∧ num k a < 256 ^ k
 | 0, a => by simp [num]
 | k + 1, a => by
  have h1 := num_b k a
  have h2 := a.at_b k
  have e : (256 : Int) ^ (k + 1) = 256 ^ k * 256 := rfl
  unfold num
  rw [e]
  generalize (256 : Int) ^ k = z at *
  omega
theorem num_congr : ∀ (k : Nat) {a b : A16}, (∀ i, i < k → a.at i = b.at i) → num k a = num k b
 | 0, _, _, _ => rfl
 | k + 1, a, b, h => by
  unfold num
  rw [num_congr k (fun i hi => h i (by omega)), h k (by omega)]
theorem inc_at (a : A16) {k j : Nat} (hk : k < 16) : (inc a k).at j = if k = j then (a.at k + 1) % 256 else a.at j := A16.set_at _ _ _ hk
theorem nextF_far : ∀ (k : Nat) (a : A16), k ≤ 16 → ∀ j, k ≤ j → (nextF k a).1.at j = a.at j
 | 0, _, _, _, _ => rfl
 | k + 1, a, hk, j, hj => by
  unfold nextF
  split
  ·rw [inc_at a (by omega), if_neg (by omega)]
  ·rw [nextF_far k _ (by omega) j (by omega), inc_at a (by omega), if_neg (by omega)]
theorem nextF_num : ∀ (k : Nat) (a : A16), k ≤ 16 → ((nextF k a).2 = true → num k (nextF k a).1 = num k a + 1) ∧ ((nextF k a).2 = false → num k a + 1 = 256 ^ k)
 | 0, a, _ => by simp [nextF, num]
 | k + 1, a, hk => by
  have hb := a.at_b k
  have hi := num_congr k (a := inc a k) (b := a) (fun i h => by rw [inc_at a (by omega), if_neg (by omega)])
  have hik : (inc a k).at k = (a.at k + 1) % 256 := by rw [inc_at a (by omega), if_pos rfl]
  unfold nextF
  by_cases h : (a.at k + 1) % 256 ≠ 0
  ·rw [if_pos h]
   refine ⟨fun _ => ?_, fun h => by cases h⟩
   show num (k + 1) (inc a k) = _
   unfold num
   rw [hi, hik]
   omega
  ·rw [if_neg h]
   have ih := nextF_num k (inc a k) (by omega)
   have hf := nextF_far k (inc a k) (by omega) k (Nat.le_refl _)
   refine ⟨fun h2 => ?_, fun h2 => ?_⟩
   ·have := ih.1 h2
    unfold num
    rw [this, hf, hi, hik]
    omega
   ·have := ih.2 h2
    have e : (256 : Int) ^ (k + 1) = 256 ^ k * 256 := rfl
    rw [e, ← this, hi, show num (k + 1) a = num k a * 256 + a.at k from rfl]
    omega
theorem fold_lt : ∀ (a b : List Int), a.length = b.length → (∀ x ∈ a, 0 ≤ x ∧ x < 256) → (∀ x ∈ b, 0 ≤ x ∧ x < 256) → ∀ s t : Int,
 s < t → (a.foldl (fun z x => z * 256 + x) s) < (b.foldl (fun z x => z * 256 + x) t)
 | [], [], _, _, _, s, t, h => h
 | x :: xs, y :: ys, hl, ha, hb, s, t, h => by
  have hx := ha x (by simp)
  have hy := hb y (by simp)
  simp only [List.foldl_cons]
  exact fold_lt xs ys (by simpa using hl) (fun z hz => ha z (by simp [hz])) (fun z hz => hb z (by simp [hz])) _ _ (by omega)
theorem lex_num : ∀ (a b : List Int), a.length = b.length → (∀ x ∈ a, 0 ≤ x ∧ x < 256) → (∀ x ∈ b, 0 ≤ x ∧ x < 256) → ∀ s : Int,
 ((a.foldl (fun z x => z * 256 + x) s < b.foldl (fun z x => z * 256 + x) s) ↔ lexC a b < 0)
 | [], [], _, _, _, s => by simp [lexC]
 | x :: xs, y :: ys, hl, ha, hb, s => by
  have hl' : xs.length = ys.length := by simpa using hl
  have hax := fun z hz => ha z (List.mem_cons_of_mem x hz)
  have hby := fun z hz => hb z (List.mem_cons_of_mem y hz)
  simp only [List.foldl_cons]
  rw [lexC_cons]
  by_cases h1 : x < y
  ·rw [if_pos h1]
   have := fold_lt xs ys hl' hax hby (s * 256 + x) (s * 256 + y) (by omega)
   simp [this]
  ·rw [if_neg h1]
   by_cases h2 : y < x
   ·rw [if_pos h2]
    have := fold_lt ys xs hl'.symm hby hax (s * 256 + y) (s * 256 + x) (by omega)
    constructor
    ·intro h; omega
    ·intro h; omega
   ·rw [if_neg h2, show y = x by omega]
    exact lex_num xs ys hl' hax hby (s * 256 + x)
theorem num_fold (a : A16) : ∀ k, k ≤ 16 → num k a = (a.l.take k).foldl (fun z x => z * 256 + x) 0
 | 0, _ => rfl
 | k + 1, h => by
  have hk : k < a.l.length := by rw [a.h]; omega
  unfold num
  rw [num_fold a k (by omega), List.take_succ_eq_append_getElem hk, List.foldl_append, A16.at_eq hk]
  rfl
theorem num_lex (a b : A16) : num 16 a < num 16 b ↔ lexC a.l b.l < 0 := by
 rw [num_fold a 16 (Nat.le_refl _), num_fold b 16 (Nat.le_refl _), List.take_of_length_le (by rw [a.h]; decide), List.take_of_length_le (by rw [b.h]; decide)]
 exact lex_num a.l b.l (by rw [a.h, b.h]) a.b b.b 0
/-- Of addresses with noughts behind the first four bytes. -/
theorem num_four (a : A16) (h : ∀ i, 4 ≤ i → i < 16 → a.at i = 0) : num 16 a = num 4 a * 256 ^ 12 := by
 have e : ∀ i, 4 ≤ i → i < 16 → a.at i = 0 := h
 simp only [num, e 4 (by decide) (by decide), e 5 (by decide) (by decide), e 6 (by decide) (by decide), e 7 (by decide) (by decide), e 8 (by decide) (by decide), e 9 (by decide) (by decide), e 10 (by decide) (by decide), e 11 (by decide) (by decide), e 12 (by decide) (by decide), e 13 (by decide) (by decide), e 14 (by decide) (by decide), e 15 (by decide) (by decide)]
 omega
theorem num_inj : ∀ (k : Nat) {a b : A16}, num k a = num k b → ∀ i, i < k → a.at i = b.at i
 | k + 1, a, b, h, i, hi => by
  unfold num at h
  have h1 := a.at_b k
  have h2 := b.at_b k
  by_cases e : i = k
  ·subst e; omega
  ·exact num_inj k (by omega) i (by omega)

/-- Noughts behind the bytes that count. -/
def nought (v6 : Bool) (a : A16) : Bool := v6 || (List.range 16).all (fun i => decide (i < 4) || decide (a.at i = 0))
theorem nought_iff {v6 : Bool} {a : A16} : nought v6 a = true ↔ (v6 = false → ∀ i, 4 ≤ i → i < 16 → a.at i = 0) := by
 unfold nought
 cases v6
 ·simp only [Bool.false_or, List.all_eq_true, List.mem_range, Bool.or_eq_true, decide_eq_true_iff]
  exact ⟨fun h _ i h4 h16 => (h i h16).resolve_left (by omega), fun h i hi => by
   by_cases h4 : i < 4
   ·exact .inl h4
   ·exact .inr (h trivial i (by omega) hi)⟩
 ·simp
def rightS (s : Spn) : Bool := decide (lexC s.lo.l s.hi.l ≤ 0) && nought s.v6 s.lo && nought s.v6 s.hi
/-- An address's number among all of both families. -/
def key (v6 : Bool) (a : A16) : Int := if v6 then 2 ^ 40 + num 16 a else num 4 a
theorem key_lt {v6 : Bool} {a b : A16} (ha : nought v6 a = true) (hb : nought v6 b = true) : key v6 a < key v6 b ↔ lexC a.l b.l < 0 := by
 rw [← num_lex]
 unfold key
 cases v6
 ·rw [num_four a (nought_iff.1 ha rfl), num_four b (nought_iff.1 hb rfl)]
  simp only [Bool.false_eq_true, if_false]
  omega
 ·simp only [if_true]
  omega
theorem key_le {v6 : Bool} {a b : A16} (ha : nought v6 a = true) (hb : nought v6 b = true) : key v6 a ≤ key v6 b ↔ lexC a.l b.l ≤ 0 := by
 have h1 := key_lt hb ha
 have h2 := lexC_neg a.l b.l
 have h3 : lexC b.l a.l < 0 ↔ ¬ lexC a.l b.l ≤ 0 := by rw [h2]; omega
 rw [h3] at h1
 omega
theorem key_inj {v6 v6' : Bool} {a b : A16} (ha : nought v6 a = true) (hb : nought v6' b = true) (h : key v6 a = key v6' b) : v6 = v6' ∧ a = b := by
 have b1 := num_b 4 a
 have b2 := num_b 4 b
 have b3 := num_b 16 a
 have b4 := num_b 16 b
 unfold key at h
 cases v6 <;> cases v6'
 ·simp only [Bool.false_eq_true, if_false] at h
  refine ⟨rfl, A16.ext_at fun i hi => ?_⟩
  by_cases h4 : i < 4
  ·exact num_inj 4 h i h4
  ·rw [nought_iff.1 ha rfl i (by omega) hi, nought_iff.1 hb rfl i (by omega) hi]
 ·simp only [Bool.false_eq_true, if_false, if_true] at h
  omega
 ·simp only [Bool.false_eq_true, if_false, if_true] at h
  omega
 ·simp only [if_true] at h
  exact ⟨rfl, A16.ext_at fun i hi => num_inj 16 (by omega) i hi⟩
theorem next_nought {v6 : Bool} {a : A16} (h : nought v6 a = true) : nought v6 (nextP v6 a).1 = true := by
 rw [nought_iff] at h ⊢
 intro e i h4 hi
 subst e
 rw [nextP, nextF_far (wid false) a (by decide) i h4]
 exact h rfl i h4 hi
theorem next_key {v6 : Bool} {a : A16} : ((nextP v6 a).2 = true → key v6 (nextP v6 a).1 = key v6 a + 1) ∧ ((nextP v6 a).2 = false → key v6 a = (if v6 then 2 ^ 40 + 256 ^ 16 else 256 ^ 4) - 1) := by
 unfold key nextP
 cases v6
 ·have := nextF_num 4 a (by decide)
  refine ⟨fun h => ?_, fun h => ?_⟩
  ·exact this.1 h
  ·have := this.2 h
   simp only [Bool.false_eq_true, if_false]
   omega
 ·have := nextF_num 16 a (by decide)
  refine ⟨fun h => ?_, fun h => ?_⟩
  ·have := this.1 h
   simp only [if_true]
   show 2 ^ 40 + num 16 (nextF 16 a).1 = _
   omega
  ·have := this.2 h
   simp only [if_true]
   omega
end Go.Proofs.Ytdioagebkfdkhaa.Ad


section
set_option linter.unusedVariables false
set_option linter.unusedSimpArgs false
namespace Go.Proofs.Ytdioagebkfdkhaa.Ad
open Go.RowKit Go.Proofs.YtdioagebkfdkhaaW.PrintWords Go.Proofs.YtdioagebkfdkhaaW.PrintLast Go.Proofs.YtdioagebkfdkhaaW.PrintMore Go.Proofs.Ytdioagebkfdkhaa.PT

theorem valN {P : Program} {ops : Array Oper} {rest : List Oper} {o : Oper} {a : Act} {w w1 : World} {v : Value} {Q : Exit → Act → World → Prop} (hgd : o.guard = none) (hrun : (execOp a.eval o).run P w = .ok (.value v) w1)
 (h : wpList P ops Q rest (a.put o.dst v) w1) : wpList P ops Q (o :: rest) a w := wpList_plain hgd fun _ hK => by
 unfold Oper.wp
 rw [hrun]
 exact hK _ _ h
theorem width_walk (b : Bool) (w : World) : Calls Try.prog 34 #[.bool b] w fun e w' => e = .returned (.int .i64 (wid b : Nat)) ∧ w' = w := by
 cases b
 all_goals
  go_enter Try.func34, Try.ntmps34
  go_wp2
  go_ret
  exact ⟨rfl, rfl⟩
set_option maxHeartbeats 1000000 in
set_option maxRecDepth 100000 in
theorem scmp_walk (a b : A16) (w : World) :
 Calls Try.prog 30 #[.agg a.arr, .agg b.arr] w fun e w' => e = .returned (.int .i64 (lexC a.l b.l)) ∧ Gw w w' := by
 have H0 := G2.new w a.arr b.arr 28
 obtain ⟨c, hc⟩ : ∃ c, c = lexC a.l b.l := ⟨_, rfl⟩
 rw [← hc]
 have HC := Lib.hid hc
 clear hc
 go_enter Try.func30, Try.ntmps30
 go_upto_region 1 with (fail)
 generalize (w.alloc (.cells a.arr 28)).alloc (.cells b.arr 28) = W at H0 ⊢
 have H1 := H0
 clear H0
 have hcall : ∀ n, Calls Try.prog 42 #[.slice (some ⟨w.heap.size, 0, none⟩) 16 16, .slice (some ⟨w.heap.size + 1, 0, none⟩) 16 16] (W.drewN n) fun e w' => e = .returned (.int .i64 c) ∧ w' = W.drewN n := fun n => by
  have := bcmp_walk 16 16 (W.drewN n) (H1.drewN n).1.ra (H1.drewN n).2.1.ra
  rwa [← HC.out] at this
 go_quiet ((go_at_call 42; exact Calls.quiet_of_same (hcall _)))
 clear hcall
 have H2 := H1.drewN nq
 clear H1
 generalize W.drewN nq = W1 at H2 ⊢
 go_wp2
 go_ret
 exact ⟨rfl, H2.2.2⟩

/-- An address in the block made first, an empty one in the second. -/
def N2 (w : World) (a : A16) (W : World) : Prop := Has W w.heap.size a.arr 28 ∧ Has W (w.heap.size + 1) z16.arr 28 ∧ Below w.heap.size w W
theorem N2.new (w : World) (a : A16) : N2 w a ((w.alloc (.cells a.arr 28)).alloc (.cells z16.arr 28)) := ⟨heap_alloc2_old _ _ _, heap_alloc2_new _ _ _, ((Below.refl _ _).alloc (Nat.le_refl _) _).alloc (by simp) _⟩
theorem N2.set {w W : World} {a a' : A16} {j : Nat} {u : Value} (h : N2 w a W) (e : a.arr.setIfInBounds j u = a'.arr) : N2 w a' (W.setCell ⟨w.heap.size, j, none⟩ u) :=
 ⟨by show (W.setCell _ _).heap[_]? = _; rw [heap_setCell_same _ _ _ _ _ _ h.1, e], by show (W.setCell _ _).heap[_]? = _; rw [heap_setCell_other _ _ _ _ (by simp)]; exact h.2.1, Below.setCell h.2.2 (p := ⟨w.heap.size, j, none⟩) (Nat.le_refl _) _⟩
theorem nextF_succ (k : Nat) (a : A16) : nextF (k + 1) a = if (a.at k + 1) % 256 ≠ 0 then (inc a k, true) else nextF k (inc a k) := rfl
theorem A16.arr_inc (b : A16) {j : Nat} (h : j < 16) : b.arr.setIfInBounds j (.int .u8 ((b.at j + 1) % 256)) = (inc b j).arr := by
 simp only [A16.arr, A16.cells, List.setIfInBounds_toArray, inc, A16.set, List.map_set]
set_option maxHeartbeats 2000000 in
set_option maxRecDepth 100000 in
theorem next_walk (v6 : Bool) (a : A16) (w : World) :
 Calls Try.prog 41 #[.bool v6, .agg a.arr] w fun e w' => e = .returned (.tuple #[.agg (nextP v6 a).1.arr, .bool (nextP v6 a).2]) ∧ Below w.heap.size w w' := by
 have H0 := N2.new w a
 obtain ⟨R, hR⟩ : ∃ R, R = nextP v6 a := ⟨_, rfl⟩
 rw [← hR]
 have HR := Lib.hid hR
 clear hR
 go_enter Try.func41, Try.ntmps41
 go_upto_region 1 with (fail)
 change Code.wp _ _ _ _ ((w.alloc (.cells a.arr 28)).alloc (.cells z16.arr 28))
 generalize (w.alloc (.cells a.arr 28)).alloc (.cells z16.arr 28) = W at H0 ⊢
 have HH := Lib.hid H0
 clear H0
 obtain ⟨n, hn⟩ : ∃ n, n = wid v6 := ⟨_, rfl⟩
 have hn16 : 1 ≤ n ∧ n ≤ 16 := by rw [hn]; cases v6 <;> decide
 have HN := Lib.hid hn
 have hw1 : Go.RowKit.wrap64 ((n : Int) - 1) = (n : Int) - 1 := by unfold Go.RowKit.wrap64; omega
 have hwc : Calls Try.prog 34 #[.bool v6] W fun e w' => e = .returned (.int .i64 n) ∧ w' = W := by rw [hn]; exact width_walk v6 W
 clear hn
 go_wp2_with (refine hwc.mono ?_; rintro e w' ⟨rfl, rfl⟩)
 clear hwc
 go_loopw [6] (fun iv wr => ∃ (k : Nat) (i : Int) (b : A16), k ≤ 16 ∧ iv = .int .i64 i ∧ i = (k : Int) - 1 ∧ Hid (nextF k b = R ∧ N2 w b wr)) (fun iv _ => ((intOf iv) + 1).toNat)
 case atStart => exact ⟨n, _, a, by omega, rfl, rfl, Lib.hid ⟨by rw [HR.out, HN.out]; rfl, HH.out⟩⟩
 case round =>
  obtain ⟨k, i, b, hk, rfl, hi, H⟩ := hrel
  cases k with
  | zero =>
   have hd1 := eq_false (show ¬ (0 : Int) ≤ i by omega)
   have hd2 : decide ((0 : Int) ≤ i) = false := decide_eq_false (by omega)
   go_upto_region 7 with (fail)
   have e : R = (b, false) := H.out.1.symm
   subst e
   refine wp_region_lit ?_
   refine wpList_load_row rfl 28 (.tmp 3) rfl w.heap.size rfl 28 _ (0, 0) _ H.out.2.1 Try.underlying28 rfl (by rw [A16.arr_size]; exact infoA) ?_
   refine wpList_store_row rfl 28 (.tmp 4) (.tmp 24) rfl (w.heap.size + 1) b.arr rfl rfl 28 z16.arr H.out.2.2.1 (by rw [A16.arr_size]; exact infoA) (by rw [A16.arr_size, A16.arr_size]) (A16.arr_one _) ?_
   have v0 : (wr.setRow (w.heap.size + 1) b.arr).heap[w.heap.size + 1]? = some (.cells b.arr 28 (0, 0)) := setRow_heap wr _ _ _ _ _ H.out.2.2.1
   have v3 := below_setRow H.out.2.2.2 (g := w.heap.size + 1) (by omega) b.arr
   generalize wr.setRow (w.heap.size + 1) b.arr = wc at v0 v3 ⊢
   refine valN rfl (v := .bool false) (w1 := wc) (by go_simp; try rfl) ?_
   refine wpList_nil ?_
   go_wp2
   refine bodyPost_ret (v := .tuple #[.agg b.arr, .bool false]) ?_ rfl ⟨rfl, v3⟩
   exact results_ct (P := Try.prog) (p := 4) (u := 5) (ty := 28) Try.results41 _ _ (w.heap.size + 1) 28 b.arr (0, 0) _ rfl v0 Try.underlying28 rfl (by rw [A16.arr_size]; exact infoA)
  | succ j =>
   have hij : i = (j : Int) := by omega
   subst hij
   have hj16 : j < 16 := by omega
   have hd1 := eq_true (show (0 : Int) ≤ (j : Int) by omega)
   have hd2 : decide ((0 : Int) ≤ (j : Int)) = true := decide_eq_true (by omega)
   have hd3 := eq_true (show (j : Int) < 16 by omega)
   obtain ⟨x, hx⟩ : ∃ x, x = b.at j := ⟨_, rfl⟩
   have c0 : wr.cell? ⟨w.heap.size, j, none⟩ = some (.int .u8 x) := by rw [hx]; exact (H.out.2.1.c j).trans (b.arr_at hj16)
   have f0 := H.out.2.1.f j
   obtain ⟨y, hy⟩ : ∃ y, y = (x + 1) % 256 := ⟨_, rfl⟩
   have hw : IntKind.u8.wrap (x + 1) = y := by rw [hy]; simp [IntKind.wrap, IntKind.bits, IntKind.signed]
   have HY : Hid (y = (b.at j + 1) % 256) := Lib.hid (by rw [hy, hx])
   clear hx hy hi
   go_upto_region 5 with (fail)
   have H1 : Hid (N2 w (inc b j) (wr.setCell ⟨w.heap.size, j, none⟩ (.int .u8 y))) := Lib.hid (H.out.2.set (by rw [HY.out]; exact b.arr_inc hj16))
   have HE := Lib.hid H.out.1
   clear c0 f0 hw H
   generalize wr.setCell ⟨w.heap.size, j, none⟩ (.int .u8 y) = W1 at H1 ⊢
   have c1 : W1.cell? ⟨w.heap.size, j, none⟩ = some (.int .u8 y) := by
    have := (H1.out.1.c j).trans ((inc b j).arr_at hj16)
    rwa [inc_at b hj16, if_pos rfl, ← HY.out] at this
   by_cases hz : y = 0
   ·subst hz
    go_wp2
    go_roundw
    case rel => exact ⟨j, _, inc b j, by omega, rfl, (by first | rfl | (go_num) | (unfold Go.RowKit.wrap64; omega)), Lib.hid ⟨by
     rw [← HE.out]
     rw [nextF_succ, if_neg (by rw [← HY.out]; simp)], H1.out⟩⟩
    case measure => (simp [intOf]; try (first | omega | (unfold Go.RowKit.wrap64; omega)))
   ·have hz1 : (y != 0) = true := by simpa using hz
    have hz2 : (y == 0) = false := by simpa using hz
    have hz3 : decide (y = 0) = false := decide_eq_false hz
    go_upto_region 6 with (fail)
    have e : R = (inc b j, true) := by
     rw [← HE.out]
     rw [nextF_succ, if_pos (by rw [← HY.out]; exact hz)]
    subst e
    refine wp_region_lit ?_
    refine wpList_load_row rfl 28 (.tmp 3) rfl w.heap.size rfl 28 _ (0, 0) _ H1.out.1 Try.underlying28 rfl (by rw [A16.arr_size]; exact infoA) ?_
    refine wpList_store_row rfl 28 (.tmp 4) (.tmp 23) rfl (w.heap.size + 1) (inc b j).arr rfl rfl 28 z16.arr H1.out.2.1 (by rw [A16.arr_size]; exact infoA) (by rw [A16.arr_size, A16.arr_size]) (A16.arr_one _) ?_
    have v0 : (W1.setRow (w.heap.size + 1) (inc b j).arr).heap[w.heap.size + 1]? = some (.cells (inc b j).arr 28 (0, 0)) := setRow_heap W1 _ _ _ _ _ H1.out.2.1
    have v3 := below_setRow H1.out.2.2 (g := w.heap.size + 1) (by omega) (inc b j).arr
    generalize W1.setRow (w.heap.size + 1) (inc b j).arr = wc at v0 v3 ⊢
    refine valN rfl (v := .bool true) (w1 := wc) (by go_simp; try rfl) ?_
    refine wpList_nil ?_
    go_wp2
    refine bodyPost_ret (v := .tuple #[.agg (inc b j).arr, .bool true]) ?_ rfl ⟨rfl, v3⟩
    exact results_ct (P := Try.prog) (p := 4) (u := 5) (ty := 28) Try.results41 _ _ (w.heap.size + 1) 28 (inc b j).arr (0, 0) _ rfl v0 Try.underlying28 rfl (by rw [A16.arr_size]; exact infoA)
set_option maxHeartbeats 2000000 in
set_option maxRecDepth 100000 in
theorem refNext_true (a : A16) (w : World) :
 Calls Try.prog 16 #[.bool true, .agg a.arr] w fun e w' => e = .returned (.tuple #[.agg (nextP true a).1.arr, .bool (nextP true a).2]) ∧ Below w.heap.size w w' := by
 have H0 := N2.new w a
 obtain ⟨R, hR⟩ : ∃ R, R = nextP true a := ⟨_, rfl⟩
 rw [← hR]
 have HR := Lib.hid hR
 clear hR
 go_enter Try.func16, Try.ntmps16
 go_upto_region 1 with (fail)
 change Code.wp _ _ _ _ ((w.alloc (.cells a.arr 28)).alloc (.cells z16.arr 28))
 generalize (w.alloc (.cells a.arr 28)).alloc (.cells z16.arr 28) = W at H0 ⊢
 have HH := Lib.hid H0
 clear H0
 obtain ⟨n, hn⟩ : ∃ n, n = wid true := ⟨_, rfl⟩
 have hn16 : 1 ≤ n ∧ n ≤ 16 := by rw [hn]; decide
 have HN := Lib.hid hn
 have hi0 : (n : Int) - 1 = 15 := by rw [hn]; rfl
 clear hn
 go_wp2
 go_loopw [6] (fun iv wr => ∃ (k : Nat) (i : Int) (b : A16), k ≤ 16 ∧ iv = .int .i64 i ∧ i = (k : Int) - 1 ∧ Hid (nextF k b = R ∧ N2 w b wr)) (fun iv _ => ((intOf iv) + 1).toNat)
 case atStart => exact ⟨n, _, a, by omega, rfl, hi0.symm, Lib.hid ⟨by rw [HR.out, HN.out]; rfl, HH.out⟩⟩
 case round =>
  obtain ⟨k, i, b, hk, rfl, hi, H⟩ := hrel
  cases k with
  | zero =>
   have hd1 := eq_false (show ¬ (0 : Int) ≤ i by omega)
   have hd2 : decide ((0 : Int) ≤ i) = false := decide_eq_false (by omega)
   go_upto_region 9 with (fail)
   have e : R = (b, false) := H.out.1.symm
   subst e
   refine wp_region_lit ?_
   refine wpList_load_row rfl 28 (.tmp 3) rfl w.heap.size rfl 28 _ (0, 0) _ H.out.2.1 Try.underlying28 rfl (by rw [A16.arr_size]; exact infoA) ?_
   refine wpList_store_row rfl 28 (.tmp 4) (.tmp 24) rfl (w.heap.size + 1) b.arr rfl rfl 28 z16.arr H.out.2.2.1 (by rw [A16.arr_size]; exact infoA) (by rw [A16.arr_size, A16.arr_size]) (A16.arr_one _) ?_
   have v0 : (wr.setRow (w.heap.size + 1) b.arr).heap[w.heap.size + 1]? = some (.cells b.arr 28 (0, 0)) := setRow_heap wr _ _ _ _ _ H.out.2.2.1
   have v3 := below_setRow H.out.2.2.2 (g := w.heap.size + 1) (by omega) b.arr
   generalize wr.setRow (w.heap.size + 1) b.arr = wc at v0 v3 ⊢
   refine valN rfl (v := .bool false) (w1 := wc) (by go_simp; try rfl) ?_
   refine wpList_nil ?_
   go_wp2
   refine bodyPost_ret (v := .tuple #[.agg b.arr, .bool false]) ?_ rfl ⟨rfl, v3⟩
   exact results_ct (P := Try.prog) (p := 4) (u := 5) (ty := 28) Try.results16 _ _ (w.heap.size + 1) 28 b.arr (0, 0) _ rfl v0 Try.underlying28 rfl (by rw [A16.arr_size]; exact infoA)
  | succ j =>
   have hij : i = (j : Int) := by omega
   subst hij
   have hj16 : j < 16 := by omega
   have hd1 := eq_true (show (0 : Int) ≤ (j : Int) by omega)
   have hd2 : decide ((0 : Int) ≤ (j : Int)) = true := decide_eq_true (by omega)
   have hd3 := eq_true (show (j : Int) < 16 by omega)
   obtain ⟨x, hx⟩ : ∃ x, x = b.at j := ⟨_, rfl⟩
   have c0 : wr.cell? ⟨w.heap.size, j, none⟩ = some (.int .u8 x) := by rw [hx]; exact (H.out.2.1.c j).trans (b.arr_at hj16)
   have f0 := H.out.2.1.f j
   obtain ⟨y, hy⟩ : ∃ y, y = (x + 1) % 256 := ⟨_, rfl⟩
   have hw : IntKind.u8.wrap (x + 1) = y := by rw [hy]; simp [IntKind.wrap, IntKind.bits, IntKind.signed]
   have HY : Hid (y = (b.at j + 1) % 256) := Lib.hid (by rw [hy, hx])
   clear hx hy hi
   go_upto_region 7 with (fail)
   have H1 : Hid (N2 w (inc b j) (wr.setCell ⟨w.heap.size, j, none⟩ (.int .u8 y))) := Lib.hid (H.out.2.set (by rw [HY.out]; exact b.arr_inc hj16))
   have HE := Lib.hid H.out.1
   clear c0 f0 hw H
   generalize wr.setCell ⟨w.heap.size, j, none⟩ (.int .u8 y) = W1 at H1 ⊢
   have c1 : W1.cell? ⟨w.heap.size, j, none⟩ = some (.int .u8 y) := by
    have := (H1.out.1.c j).trans ((inc b j).arr_at hj16)
    rwa [inc_at b hj16, if_pos rfl, ← HY.out] at this
   by_cases hz : y = 0
   ·subst hz
    go_wp2
    go_roundw
    case rel => exact ⟨j, _, inc b j, by omega, rfl, (by first | rfl | (go_num) | (unfold Go.RowKit.wrap64; omega)), Lib.hid ⟨by
     rw [← HE.out]
     rw [nextF_succ, if_neg (by rw [← HY.out]; simp)], H1.out⟩⟩
    case measure => (simp [intOf]; try (first | omega | (unfold Go.RowKit.wrap64; omega)))
   ·have hz1 : (y != 0) = true := by simpa using hz
    have hz2 : (y == 0) = false := by simpa using hz
    have hz3 : decide (y = 0) = false := decide_eq_false hz
    go_upto_region 8 with (fail)
    have e : R = (inc b j, true) := by
     rw [← HE.out]
     rw [nextF_succ, if_pos (by rw [← HY.out]; exact hz)]
    subst e
    refine wp_region_lit ?_
    refine wpList_load_row rfl 28 (.tmp 3) rfl w.heap.size rfl 28 _ (0, 0) _ H1.out.1 Try.underlying28 rfl (by rw [A16.arr_size]; exact infoA) ?_
    refine wpList_store_row rfl 28 (.tmp 4) (.tmp 23) rfl (w.heap.size + 1) (inc b j).arr rfl rfl 28 z16.arr H1.out.2.1 (by rw [A16.arr_size]; exact infoA) (by rw [A16.arr_size, A16.arr_size]) (A16.arr_one _) ?_
    have v0 : (W1.setRow (w.heap.size + 1) (inc b j).arr).heap[w.heap.size + 1]? = some (.cells (inc b j).arr 28 (0, 0)) := setRow_heap W1 _ _ _ _ _ H1.out.2.1
    have v3 := below_setRow H1.out.2.2 (g := w.heap.size + 1) (by omega) (inc b j).arr
    generalize W1.setRow (w.heap.size + 1) (inc b j).arr = wc at v0 v3 ⊢
    refine valN rfl (v := .bool true) (w1 := wc) (by go_simp; try rfl) ?_
    refine wpList_nil ?_
    go_wp2
    refine bodyPost_ret (v := .tuple #[.agg (inc b j).arr, .bool true]) ?_ rfl ⟨rfl, v3⟩
    exact results_ct (P := Try.prog) (p := 4) (u := 5) (ty := 28) Try.results16 _ _ (w.heap.size + 1) 28 (inc b j).arr (0, 0) _ rfl v0 Try.underlying28 rfl (by rw [A16.arr_size]; exact infoA)
set_option maxHeartbeats 2000000 in
set_option maxRecDepth 100000 in
theorem refNext_false (a : A16) (w : World) :
 Calls Try.prog 16 #[.bool false, .agg a.arr] w fun e w' => e = .returned (.tuple #[.agg (nextP false a).1.arr, .bool (nextP false a).2]) ∧ Below w.heap.size w w' := by
 have H0 := N2.new w a
 obtain ⟨R, hR⟩ : ∃ R, R = nextP false a := ⟨_, rfl⟩
 rw [← hR]
 have HR := Lib.hid hR
 clear hR
 go_enter Try.func16, Try.ntmps16
 go_upto_region 1 with (fail)
 change Code.wp _ _ _ _ ((w.alloc (.cells a.arr 28)).alloc (.cells z16.arr 28))
 generalize (w.alloc (.cells a.arr 28)).alloc (.cells z16.arr 28) = W at H0 ⊢
 have HH := Lib.hid H0
 clear H0
 obtain ⟨n, hn⟩ : ∃ n, n = wid false := ⟨_, rfl⟩
 have hn16 : 1 ≤ n ∧ n ≤ 16 := by rw [hn]; decide
 have HN := Lib.hid hn
 have hi0 : (n : Int) - 1 = 3 := by rw [hn]; rfl
 clear hn
 go_wp2
 go_loopw [6] (fun iv wr => ∃ (k : Nat) (i : Int) (b : A16), k ≤ 16 ∧ iv = .int .i64 i ∧ i = (k : Int) - 1 ∧ Hid (nextF k b = R ∧ N2 w b wr)) (fun iv _ => ((intOf iv) + 1).toNat)
 case atStart => exact ⟨n, _, a, by omega, rfl, hi0.symm, Lib.hid ⟨by rw [HR.out, HN.out]; rfl, HH.out⟩⟩
 case round =>
  obtain ⟨k, i, b, hk, rfl, hi, H⟩ := hrel
  cases k with
  | zero =>
   have hd1 := eq_false (show ¬ (0 : Int) ≤ i by omega)
   have hd2 : decide ((0 : Int) ≤ i) = false := decide_eq_false (by omega)
   go_upto_region 9 with (fail)
   have e : R = (b, false) := H.out.1.symm
   subst e
   refine wp_region_lit ?_
   refine wpList_load_row rfl 28 (.tmp 3) rfl w.heap.size rfl 28 _ (0, 0) _ H.out.2.1 Try.underlying28 rfl (by rw [A16.arr_size]; exact infoA) ?_
   refine wpList_store_row rfl 28 (.tmp 4) (.tmp 24) rfl (w.heap.size + 1) b.arr rfl rfl 28 z16.arr H.out.2.2.1 (by rw [A16.arr_size]; exact infoA) (by rw [A16.arr_size, A16.arr_size]) (A16.arr_one _) ?_
   have v0 : (wr.setRow (w.heap.size + 1) b.arr).heap[w.heap.size + 1]? = some (.cells b.arr 28 (0, 0)) := setRow_heap wr _ _ _ _ _ H.out.2.2.1
   have v3 := below_setRow H.out.2.2.2 (g := w.heap.size + 1) (by omega) b.arr
   generalize wr.setRow (w.heap.size + 1) b.arr = wc at v0 v3 ⊢
   refine valN rfl (v := .bool false) (w1 := wc) (by go_simp; try rfl) ?_
   refine wpList_nil ?_
   go_wp2
   refine bodyPost_ret (v := .tuple #[.agg b.arr, .bool false]) ?_ rfl ⟨rfl, v3⟩
   exact results_ct (P := Try.prog) (p := 4) (u := 5) (ty := 28) Try.results16 _ _ (w.heap.size + 1) 28 b.arr (0, 0) _ rfl v0 Try.underlying28 rfl (by rw [A16.arr_size]; exact infoA)
  | succ j =>
   have hij : i = (j : Int) := by omega
   subst hij
   have hj16 : j < 16 := by omega
   have hd1 := eq_true (show (0 : Int) ≤ (j : Int) by omega)
   have hd2 : decide ((0 : Int) ≤ (j : Int)) = true := decide_eq_true (by omega)
   have hd3 := eq_true (show (j : Int) < 16 by omega)
   obtain ⟨x, hx⟩ : ∃ x, x = b.at j := ⟨_, rfl⟩
   have c0 : wr.cell? ⟨w.heap.size, j, none⟩ = some (.int .u8 x) := by rw [hx]; exact (H.out.2.1.c j).trans (b.arr_at hj16)
   have f0 := H.out.2.1.f j
   obtain ⟨y, hy⟩ : ∃ y, y = (x + 1) % 256 := ⟨_, rfl⟩
   have hw : IntKind.u8.wrap (x + 1) = y := by rw [hy]; simp [IntKind.wrap, IntKind.bits, IntKind.signed]
   have HY : Hid (y = (b.at j + 1) % 256) := Lib.hid (by rw [hy, hx])
   clear hx hy hi
   go_upto_region 7 with (fail)
   have H1 : Hid (N2 w (inc b j) (wr.setCell ⟨w.heap.size, j, none⟩ (.int .u8 y))) := Lib.hid (H.out.2.set (by rw [HY.out]; exact b.arr_inc hj16))
   have HE := Lib.hid H.out.1
   clear c0 f0 hw H
   generalize wr.setCell ⟨w.heap.size, j, none⟩ (.int .u8 y) = W1 at H1 ⊢
   have c1 : W1.cell? ⟨w.heap.size, j, none⟩ = some (.int .u8 y) := by
    have := (H1.out.1.c j).trans ((inc b j).arr_at hj16)
    rwa [inc_at b hj16, if_pos rfl, ← HY.out] at this
   by_cases hz : y = 0
   ·subst hz
    go_wp2
    go_roundw
    case rel => exact ⟨j, _, inc b j, by omega, rfl, (by first | rfl | (go_num) | (unfold Go.RowKit.wrap64; omega)), Lib.hid ⟨by
     rw [← HE.out]
     rw [nextF_succ, if_neg (by rw [← HY.out]; simp)], H1.out⟩⟩
    case measure => (simp [intOf]; try (first | omega | (unfold Go.RowKit.wrap64; omega)))
   ·have hz1 : (y != 0) = true := by simpa using hz
    have hz2 : (y == 0) = false := by simpa using hz
    have hz3 : decide (y = 0) = false := decide_eq_false hz
    go_upto_region 8 with (fail)
    have e : R = (inc b j, true) := by
     rw [← HE.out]
     rw [nextF_succ, if_pos (by rw [← HY.out]; exact hz)]
    subst e
    refine wp_region_lit ?_
    refine wpList_load_row rfl 28 (.tmp 3) rfl w.heap.size rfl 28 _ (0, 0) _ H1.out.1 Try.underlying28 rfl (by rw [A16.arr_size]; exact infoA) ?_
    refine wpList_store_row rfl 28 (.tmp 4) (.tmp 23) rfl (w.heap.size + 1) (inc b j).arr rfl rfl 28 z16.arr H1.out.2.1 (by rw [A16.arr_size]; exact infoA) (by rw [A16.arr_size, A16.arr_size]) (A16.arr_one _) ?_
    have v0 : (W1.setRow (w.heap.size + 1) (inc b j).arr).heap[w.heap.size + 1]? = some (.cells (inc b j).arr 28 (0, 0)) := setRow_heap W1 _ _ _ _ _ H1.out.2.1
    have v3 := below_setRow H1.out.2.2 (g := w.heap.size + 1) (by omega) (inc b j).arr
    generalize W1.setRow (w.heap.size + 1) (inc b j).arr = wc at v0 v3 ⊢
    refine valN rfl (v := .bool true) (w1 := wc) (by go_simp; try rfl) ?_
    refine wpList_nil ?_
    go_wp2
    refine bodyPost_ret (v := .tuple #[.agg (inc b j).arr, .bool true]) ?_ rfl ⟨rfl, v3⟩
    exact results_ct (P := Try.prog) (p := 4) (u := 5) (ty := 28) Try.results16 _ _ (w.heap.size + 1) 28 (inc b j).arr (0, 0) _ rfl v0 Try.underlying28 rfl (by rw [A16.arr_size]; exact infoA)
theorem refNext_walk (v6 : Bool) (a : A16) (w : World) :
 Calls Try.prog 16 #[.bool v6, .agg a.arr] w fun e w' => e = .returned (.tuple #[.agg (nextP v6 a).1.arr, .bool (nextP v6 a).2]) ∧ Below w.heap.size w w' := by
 cases v6
 ·exact refNext_false a w
 ·exact refNext_true a w

end Go.Proofs.Ytdioagebkfdkhaa.Ad
end

section
namespace Go.Proofs.Ytdioagebkfdkhaa.PT
open Go.RowKit Go.Proofs.YtdioagebkfdkhaaW.PrintWords Go.Proofs.YtdioagebkfdkhaaW.PrintLast Go.Proofs.YtdioagebkfdkhaaW.PrintMore
attribute [local go_sem] max2_int min2_int max_two min_two max_three min_three max_four min_four   -- for this text's walks alone
set_option linter.unusedVariables false
set_option linter.unusedSimpArgs false

def bytes_Equal.f (l0 : List Int) (l1 : List Int) : Option (Bool) := some ((strOfNums l0).toList == (strOfNums l1).toList)
set_option maxHeartbeats 8000000 in
set_option maxRecDepth 100000 in
theorem bytes_Equal.calls (A0 : Option Addr) (c0 : Nat) (l0 : List Int) (A1 : Option Addr) (c1 : Nat) (l1 : List Int) (r : Bool) (w : World) (hr0 : Kd.C (Kd.int .u8) w A0 l0.length l0) (hc0 : l0.length ≤ c0) (hr1 : Kd.C (Kd.int .u8) w A1 l1.length l1) (hc1 : l1.length ≤ c1) (h : bytes_Equal.f l0 l1 = some r) :
 Calls Try.prog 35 #[.slice A0 l0.length c0, .slice A1 l1.length c1] w fun e w' => e = .returned (.bool r) ∧ Drawn0 w w' := by
 have HR0 := Aside0.mk hr0
 have HC0 := Aside0.mk hc0
 clear hr0 hc0
 have HR1 := Aside0.mk hr1
 have HC1 := Aside0.mk hc1
 clear hr1 hc1
 have H : (some ((strOfNums l0).toList == (strOfNums l1).toList)) = some r := h
 clear h
 obtain rfl := Option.some.inj H
 have hcv3 := Kd.C_string (P := Try.prog) (A := A0) (c := c0) Try.underlying53 Try.underlying5 Try.underlying9 HR0.out
 have hcv4 := Kd.C_string (P := Try.prog) (A := A1) (c := c1) Try.underlying53 Try.underlying5 Try.underlying9 HR1.out
 go_enter Try.func35, Try.ntmps35
 go_wp2
 go_ret
 exact ⟨by first | rfl | (simp; done) | (simp [*]; done), by repeat (first | exact Drawn0.refl _ | apply Drawn0.step)⟩

end Go.Proofs.Ytdioagebkfdkhaa.PT
end

section
set_option linter.unusedVariables false
set_option linter.unusedSimpArgs false
namespace Go.Proofs.Ytdioagebkfdkhaa.Ad
open Go.RowKit Go.Proofs.YtdioagebkfdkhaaW.PrintWords Go.Proofs.YtdioagebkfdkhaaW.PrintLast Go.Proofs.YtdioagebkfdkhaaW.PrintMore Go.Proofs.Ytdioagebkfdkhaa.PT

theorem nums_of (x : List Int) (h : ∀ v ∈ x, 0 ≤ v ∧ v < 256) : x = (strOfNums x).data.toList.map fun b => (b.toNat : Int) := by
 rw [strOfNums_data, List.map_map]
 symm
 rw [List.map_congr_left (g := id) (fun v hv => ?_), List.map_id]
 have := h v hv
 have hk : v.toNat < 256 := by omega
 show ((UInt8.ofNat v.toNat).toNat : Int) = v
 have e : (UInt8.ofNat v.toNat).toNat = v.toNat := by simp; omega
 rw [e]
 omega
def eqB (x y : List Int) : Bool := (strOfNums x).toList == (strOfNums y).toList
theorem eqB_eq {x y : List Int} (hx : ∀ v ∈ x, 0 ≤ v ∧ v < 256) (hy : ∀ v ∈ y, 0 ≤ v ∧ v < 256) : eqB x y = decide (x = y) := by
 rw [Bool.eq_iff_iff, decide_eq_true_iff]
 constructor
 ·intro h
  unfold eqB at h
  have h := eq_of_beq h
  rw [Lib.strOfNums_toList, Lib.strOfNums_toList] at h
  rw [nums_of x hx, nums_of y hy, strOfNums_data, strOfNums_data]
  exact congrArg _ h
 ·rintro rfl
  unfold eqB
  exact beq_self_eq_true _
theorem nought_eqB (a : A16) : eqB (a.l.drop 4) (z16.l.drop 4) = nought false a := by
 rw [eqB_eq (fun v hv => a.b v (List.mem_of_mem_drop hv)) (fun v hv => z16.b v (List.mem_of_mem_drop hv)), Bool.eq_iff_iff, decide_eq_true_iff, nought_iff]
 constructor
 ·intro h _ i h4 h16
  have h1 : i < a.l.length := by rw [a.h]; exact h16
  rw [A16.at_eq h1]
  have h2 : (a.l.drop 4)[i - 4]? = (z16.l.drop 4)[i - 4]? := by rw [h]
  rw [List.getElem?_drop, show 4 + (i - 4) = i by omega, List.getElem?_eq_getElem h1, List.getElem?_drop, show 4 + (i - 4) = i by omega, show z16.l = List.replicate 16 0 from rfl, List.getElem?_replicate, if_pos h16] at h2
  exact Option.some.inj h2
 ·intro h
  apply List.ext_getElem (by rw [List.length_drop, List.length_drop, a.h, z16.h])
  intro i h1 h2
  rw [List.length_drop, a.h] at h1
  have h3 : 4 + i < a.l.length := by rw [a.h]; omega
  rw [List.getElem_drop, List.getElem_drop, ← A16.at_eq h3, h rfl (4 + i) (by omega) (by omega)]
  exact (List.getElem_replicate (n := 16) (a := (0 : Int)) _).symm
theorem gw_drawn {W w' : World} (h : Drawn0 W w') : Gw W w' := by
 first | (obtain ⟨n, rfl⟩ := h; exact (Gw.refl _).drewN n) | (subst h; exact Gw.refl _)
theorem tails {W : World} {b o : Nat} (a : A16) (h : W.rangeAt b o a.cells) : Kd.C (Kd.int .u8) W (some ⟨b, o + 4, none⟩) 12 (a.l.drop 4) :=
 ⟨by rw [List.length_drop, a.h], by decide, fun _ => ⟨_, rfl, fun j x hj => by
  rw [List.getElem?_drop] at hj
  have hb := a.b x (List.mem_of_getElem? hj)
  refine ⟨[.int .u8 x], rfl, by first | rfl | exact ⟨rfl, by simp [Lit.wf, IntKind.min, IntKind.max, IntKind.signed, IntKind.bits]; omega⟩, fun i u hu => ?_⟩
  have hi : i = 0 := by
   have := (List.getElem?_eq_some_iff.1 hu).1
   simp at this
   exact this
  subst hi
  obtain rfl : Value.int .u8 x = u := by simpa using hu
  rw [Addr.add_mid]
  have := h (4 + j) (.int .u8 x) (by rw [A16.cells, List.getElem?_map, hj]; rfl)
  rw [show o + (4 + j) = o + 4 + (j * 1 + 0) by omega] at this
  exact this⟩⟩
theorem eq4_walk (a : A16) {b o b' o' : Nat} (W : World) (ha : W.rangeAt b o a.cells) (hz : W.rangeAt b' o' z16.cells) :
 Calls Try.prog 35 #[.slice (some ⟨b, o + 4, none⟩) 12 12, .slice (some ⟨b', o' + 4, none⟩) 12 12] W fun e w' => e = .returned (.bool (nought false a)) ∧ Gw W w' := by
 have h1 : (a.l.drop 4).length = 12 := by rw [List.length_drop, a.h]
 have h2 : (z16.l.drop 4).length = 12 := by rw [List.length_drop, z16.h]
 have := bytes_Equal.calls (some ⟨b, o + 4, none⟩) 12 (a.l.drop 4) (some ⟨b', o' + 4, none⟩) 12 (z16.l.drop 4) (nought false a) W (by rw [h1]; exact tails a ha) (by omega) (by rw [h2]; exact tails z16 hz) (by omega) (by rw [← nought_eqB]; rfl)
 rw [h1, h2] at this
 exact this.mono fun e w' h => ⟨h.1, gw_drawn h.2⟩
theorem eq0_walk {b o b' o' : Nat} (W : World) :
 Calls Try.prog 35 #[.slice (some ⟨b, o, none⟩) 0 0, .slice (some ⟨b', o', none⟩) 0 0] W fun e w' => e = .returned (.bool true) ∧ Gw W w' := by
 have := bytes_Equal.calls (some ⟨b, o, none⟩) 0 [] (some ⟨b', o', none⟩) 0 [] true W ⟨rfl, by decide, fun h => by cases h⟩ (by decide) ⟨rfl, by decide, fun h => by cases h⟩ (by decide) (by show some (eqB [] []) = some true; unfold eqB; rw [beq_self_eq_true])
 exact this.mono fun e w' h => ⟨h.1, gw_drawn h.2⟩

/-- What holds in Right. -/
def RS (w : World) (s : Spn) (W : World) : Prop := Has W w.heap.size s.arr 30 ∧ Has W (w.heap.size + 1) z16.arr 28 ∧ Gw w W
theorem RS.step {w W W1 : World} {s : Spn} (h : RS w s W) (hB : Gw W W1) : RS w s W1 := ⟨h.1.below hB.below, h.2.1.below hB.below, h.2.2.trans hB⟩
theorem RS.drew {w W : World} {s : Spn} (h : RS w s W) : RS w s W.drew := ⟨h.1, h.2.1, h.2.2.drew⟩
set_option maxHeartbeats 2000000 in
set_option maxRecDepth 100000 in
theorem right_six (s : Spn) (w : World) (h6 : s.v6 = true) :
 Calls Try.prog 15 #[.agg s.arr] w fun e w' => e = .returned (.bool (rightS s)) ∧ Gw w w' := by
 have H0 : RS w s ((w.alloc (.cells s.arr 30)).alloc (.cells z16.arr 28)) := ⟨heap_alloc2_old _ _ _, heap_alloc2_new _ _ _, ((Gw.refl _).alloc _).alloc _⟩
 obtain ⟨c, hc⟩ : ∃ c, c = lexC s.lo.l s.hi.l := ⟨_, rfl⟩
 have hcmp : ∀ W, Calls Try.prog 30 #[.agg s.lo.arr, .agg s.hi.arr] W fun e w' => e = .returned (.int .i64 c) ∧ Gw W w' := fun W => by rw [hc]; exact scmp_walk _ _ W
 have hres : rightS s = (decide (c ≤ 0) && nought true s.lo && nought true s.hi) := by unfold rightS; rw [h6, hc]
 obtain ⟨r, hr⟩ : ∃ r, r = rightS s := ⟨_, rfl⟩
 rw [← hr]
 have HR := Lib.hid (hr.trans hres)
 clear hc hres hr
 go_enter Try.func15, Try.ntmps15
 go_upto_region 2 with (fail)
 change Code.wp _ _ _ _ ((w.alloc (.cells s.arr 30)).alloc (.cells z16.arr 28))
 generalize (w.alloc (.cells s.arr 30)).alloc (.cells z16.arr 28) = W at H0 ⊢
 have c0 := rs_v6 H0.1.rs
 rw [h6] at c0
 have hw := width_walk true W
 rw [show ((wid true : Nat) : Int) = 16 from rfl] at hw
 have H1 := Lib.hid H0
 clear H0
 go_wp2_with (refine hw.mono ?_; rintro e w' ⟨rfl, rfl⟩)
 clear c0 hw
 replace H1 := H1.out
 by_cases hc0 : c ≤ 0
 ·have hd1 : decide (c ≤ 0) = true := decide_eq_true hc0
  refine start_ (n := 23) (S := RS w s) (ds := []) #[false, false, false, false, false, false, false, false, false, false, false, false, false, false, false, false, false, false, false, false, false, false, false] (by kernel_rfl) rfl rfl H1.drew (fun hHeld => ?_)
  refine pure_ (i := 0) (N := some 8) (v := ?_) (a' := ?_) #[true, false, false, false, false, false, false, false, false, false, false, false, false, false, false, false, false, false, false, false, false, false, false] rfl rfl (by kernel_rfl) (fun _ _ _ h => h) (Or.inl ⟨by rfl, ?_⟩) ?_ ?_
  rotate_left
  ·intro w'
   go_simp
   with_reducible rfl
  rotate_left
  ·simp only [Act.put, List.setIfInBounds_toArray, List.set_cons_zero, List.set_cons_succ, i64_w, i32_w]
   rfl
  refine take_ (i := 1) (N := some 9) (v := .agg s.lo.arr) (a' := ?_) #[true, true, false, false, false, false, false, false, false, false, false, false, false, false, false, false, false, false, false, false, false, false, false] rfl rfl (by kernel_rfl) (fun _ _ _ h => h) ?_ hHeld ?_ ?_
  ·exact yA (by rfl) rfl s.lo w.heap.size 1 rfl (fun W h => rlo_of_s h.1.rs)
  rotate_left
  ·simp only [Act.put, List.setIfInBounds_toArray, List.set_cons_zero, List.set_cons_succ, i64_w, i32_w]
   rfl
  refine pure_ (i := 2) (N := some 10) (v := ?_) (a' := ?_) #[true, true, true, false, false, false, false, false, false, false, false, false, false, false, false, false, false, false, false, false, false, false, false] rfl rfl (by kernel_rfl) (fun _ _ _ h => h) (Or.inl ⟨by rfl, ?_⟩) ?_ ?_
  rotate_left
  ·intro w'
   go_simp
   with_reducible rfl
  rotate_left
  ·simp only [Act.put, List.setIfInBounds_toArray, List.set_cons_zero, List.set_cons_succ, i64_w, i32_w]
   rfl
  refine take_ (i := 3) (N := some 11) (v := .agg s.hi.arr) (a' := ?_) #[true, true, true, true, false, false, false, false, false, false, false, false, false, false, false, false, false, false, false, false, false, false, false] rfl rfl (by kernel_rfl) (fun _ _ _ h => h) ?_ hHeld ?_ ?_
  ·exact yA (by rfl) rfl s.hi w.heap.size 17 rfl (fun W h => rhi_of_s h.1.rs)
  rotate_left
  ·simp only [Act.put, List.setIfInBounds_toArray, List.set_cons_zero, List.set_cons_succ, i64_w, i32_w]
   rfl
  refine one_ (i := 4) (N := some 12) #[true, true, true, true, true, false, false, false, false, false, false, false, false, false, false, false, false, false, false, false, false, false, false] rfl rfl (by kernel_rfl) (by decide) (fun K hK => ?_)
  refine goes_ Try.func30 (by kernel_rfl) rfl #[.agg s.lo.arr, .agg s.hi.arr] (by rfl) rfl rfl (by (try simp only [List.map_toArray, List.map_cons, List.map_nil]); first | done | rfl) ?_
  refine (hcmp _).mono ?_
  rintro e w1 ⟨rfl, hB⟩
  refine ⟨_, rfl, ?_⟩
  refine hK.out _ _ (RS.step hHeld hB) (fun hHeld => ?_)
  clear hK K
  refine norm_ (a' := ?_) ?_ ?_
  rotate_left
  ·show Act.put _ (some 12) _ = _
   simp only [Act.put, List.setIfInBounds_toArray, List.set_cons_zero, List.set_cons_succ, i64_w, i32_w]
   rfl
  refine pure_ (i := 5) (N := some 13) (v := ?_) (a' := ?_) #[true, true, true, true, true, true, false, false, false, false, false, false, false, false, false, false, false, false, false, false, false, false, false] rfl rfl (by kernel_rfl) (fun _ _ _ h => h) (Or.inl ⟨by rfl, ?_⟩) ?_ ?_
  rotate_left
  ·intro w'
   go_simp
   with_reducible rfl
  rotate_left
  ·simp only [Act.put, List.setIfInBounds_toArray, List.set_cons_zero, List.set_cons_succ, i64_w, i32_w]
   rfl
  refine pure_ (i := 6) (N := some 14) (v := ?_) (a' := ?_) #[true, true, true, true, true, true, true, false, false, false, false, false, false, false, false, false, false, false, false, false, false, false, false] rfl rfl (by kernel_rfl) (fun _ _ _ h => h) (Or.inl ⟨by rfl, ?_⟩) ?_ ?_
  rotate_left
  ·intro w'
   go_simp
   with_reducible rfl
  rotate_left
  ·simp only [Act.put, List.setIfInBounds_toArray, List.set_cons_zero, List.set_cons_succ, i64_w, i32_w]
   rfl
  refine pure_ (i := 7) (N := some 15) (v := ?_) (a' := ?_) #[true, true, true, true, true, true, true, true, false, false, false, false, false, false, false, false, false, false, false, false, false, false, false] rfl rfl (by kernel_rfl) (fun _ _ _ h => h) (Or.inl ⟨by rfl, ?_⟩) ?_ ?_
  rotate_left
  ·intro w'
   go_simp
   with_reducible rfl
  rotate_left
  ·simp only [Act.put, List.setIfInBounds_toArray, List.set_cons_zero, List.set_cons_succ, i64_w, i32_w]
   rfl
  refine pure_ (i := 8) (N := some 16) (v := ?_) (a' := ?_) #[true, true, true, true, true, true, true, true, true, false, false, false, false, false, false, false, false, false, false, false, false, false, false] rfl rfl (by kernel_rfl) (fun _ _ _ h => h) (Or.inl ⟨by rfl, ?_⟩) ?_ ?_
  rotate_left
  ·intro w'
   go_simp
   with_reducible rfl
  rotate_left
  ·simp only [Act.put, List.setIfInBounds_toArray, List.set_cons_zero, List.set_cons_succ, i64_w, i32_w]
   rfl
  refine pure_ (i := 9) (N := some 17) (v := ?_) (a' := ?_) #[true, true, true, true, true, true, true, true, true, true, false, false, false, false, false, false, false, false, false, false, false, false, false] rfl rfl (by kernel_rfl) (fun _ _ _ h => h) (Or.inl ⟨by rfl, ?_⟩) ?_ ?_
  rotate_left
  ·intro w'
   go_simp
   with_reducible rfl
  rotate_left
  ·simp only [Act.put, List.setIfInBounds_toArray, List.set_cons_zero, List.set_cons_succ, i64_w, i32_w]
   rfl
  refine pure_ (i := 10) (N := some 18) (v := ?_) (a' := ?_) #[true, true, true, true, true, true, true, true, true, true, true, false, false, false, false, false, false, false, false, false, false, false, false] rfl rfl (by kernel_rfl) (fun _ _ _ h => h) (Or.inl ⟨by rfl, ?_⟩) ?_ ?_
  rotate_left
  ·intro w'
   go_simp
   with_reducible rfl
  rotate_left
  ·simp only [Act.put, List.setIfInBounds_toArray, List.set_cons_zero, List.set_cons_succ, i64_w, i32_w]
   rfl
  refine pure_ (i := 11) (N := some 19) (v := ?_) (a' := ?_) #[true, true, true, true, true, true, true, true, true, true, true, true, false, false, false, false, false, false, false, false, false, false, false] rfl rfl (by kernel_rfl) (fun _ _ _ h => h) (Or.inl ⟨by rfl, ?_⟩) ?_ ?_
  rotate_left
  ·intro w'
   go_simp
   with_reducible rfl
  rotate_left
  ·simp only [Act.put, List.setIfInBounds_toArray, List.set_cons_zero, List.set_cons_succ, i64_w, i32_w]
   rfl
  refine one_ (i := 12) (N := some 20) #[true, true, true, true, true, true, true, true, true, true, true, true, true, false, false, false, false, false, false, false, false, false, false] rfl rfl (by kernel_rfl) (by decide) (fun K hK => ?_)
  refine goes_ Try.func35 (by kernel_rfl) rfl #[.slice (some ⟨w.heap.size, 1, none⟩) 0 0, .slice (some ⟨w.heap.size + 1, 0, none⟩) 0 0] (by rfl) rfl rfl (by (try simp only [List.map_toArray, List.map_cons, List.map_nil]); first | done | rfl) ?_
  refine (eq0_walk _).mono ?_
  rintro e w2 ⟨rfl, hB⟩
  refine ⟨_, rfl, ?_⟩
  refine hK.out _ _ (RS.step hHeld hB) (fun hHeld => ?_)
  clear hK K
  refine norm_ (a' := ?_) ?_ ?_
  rotate_left
  ·show Act.put _ (some 20) _ = _
   simp only [Act.put, List.setIfInBounds_toArray, List.set_cons_zero, List.set_cons_succ, i64_w, i32_w]
   rfl
  refine pure_ (i := 13) (N := some 21) (v := ?_) (a' := ?_) #[true, true, true, true, true, true, true, true, true, true, true, true, true, true, false, false, false, false, false, false, false, false, false] rfl rfl (by kernel_rfl) (fun _ _ _ h => h) (Or.inl ⟨by rfl, ?_⟩) ?_ ?_
  rotate_left
  ·intro w'
   go_simp
   with_reducible rfl
  rotate_left
  ·simp only [Act.put, List.setIfInBounds_toArray, List.set_cons_zero, List.set_cons_succ, i64_w, i32_w]
   rfl
  refine pure_ (i := 14) (N := some 22) (v := ?_) (a' := ?_) #[true, true, true, true, true, true, true, true, true, true, true, true, true, true, true, false, false, false, false, false, false, false, false] rfl rfl (by kernel_rfl) (fun _ _ _ h => h) (Or.inl ⟨by rfl, ?_⟩) ?_ ?_
  rotate_left
  ·intro w'
   go_simp
   with_reducible rfl
  rotate_left
  ·simp only [Act.put, List.setIfInBounds_toArray, List.set_cons_zero, List.set_cons_succ, i64_w, i32_w]
   rfl
  refine pure_ (i := 15) (N := some 23) (v := ?_) (a' := ?_) #[true, true, true, true, true, true, true, true, true, true, true, true, true, true, true, true, false, false, false, false, false, false, false] rfl rfl (by kernel_rfl) (fun _ _ _ h => h) (Or.inl ⟨by rfl, ?_⟩) ?_ ?_
  rotate_left
  ·intro w'
   go_simp
   with_reducible rfl
  rotate_left
  ·simp only [Act.put, List.setIfInBounds_toArray, List.set_cons_zero, List.set_cons_succ, i64_w, i32_w]
   rfl
  refine pure_ (i := 16) (N := some 24) (v := ?_) (a' := ?_) #[true, true, true, true, true, true, true, true, true, true, true, true, true, true, true, true, true, false, false, false, false, false, false] rfl rfl (by kernel_rfl) (fun _ _ _ h => h) (Or.inl ⟨by rfl, ?_⟩) ?_ ?_
  rotate_left
  ·intro w'
   go_simp
   with_reducible rfl
  rotate_left
  ·simp only [Act.put, List.setIfInBounds_toArray, List.set_cons_zero, List.set_cons_succ, i64_w, i32_w]
   rfl
  refine pure_ (i := 17) (N := some 25) (v := ?_) (a' := ?_) #[true, true, true, true, true, true, true, true, true, true, true, true, true, true, true, true, true, true, false, false, false, false, false] rfl rfl (by kernel_rfl) (fun _ _ _ h => h) (Or.inl ⟨by rfl, ?_⟩) ?_ ?_
  rotate_left
  ·intro w'
   go_simp
   with_reducible rfl
  rotate_left
  ·simp only [Act.put, List.setIfInBounds_toArray, List.set_cons_zero, List.set_cons_succ, i64_w, i32_w]
   rfl
  refine pure_ (i := 18) (N := some 26) (v := ?_) (a' := ?_) #[true, true, true, true, true, true, true, true, true, true, true, true, true, true, true, true, true, true, true, false, false, false, false] rfl rfl (by kernel_rfl) (fun _ _ _ h => h) (Or.inl ⟨by rfl, ?_⟩) ?_ ?_
  rotate_left
  ·intro w'
   go_simp
   with_reducible rfl
  rotate_left
  ·simp only [Act.put, List.setIfInBounds_toArray, List.set_cons_zero, List.set_cons_succ, i64_w, i32_w]
   rfl
  refine pure_ (i := 19) (N := some 27) (v := ?_) (a' := ?_) #[true, true, true, true, true, true, true, true, true, true, true, true, true, true, true, true, true, true, true, true, false, false, false] rfl rfl (by kernel_rfl) (fun _ _ _ h => h) (Or.inl ⟨by rfl, ?_⟩) ?_ ?_
  rotate_left
  ·intro w'
   go_simp
   with_reducible rfl
  rotate_left
  ·simp only [Act.put, List.setIfInBounds_toArray, List.set_cons_zero, List.set_cons_succ, i64_w, i32_w]
   rfl
  refine one_ (i := 20) (N := some 28) #[true, true, true, true, true, true, true, true, true, true, true, true, true, true, true, true, true, true, true, true, true, false, false] rfl rfl (by kernel_rfl) (by decide) (fun K hK => ?_)
  refine goes_ Try.func35 (by kernel_rfl) rfl #[.slice (some ⟨w.heap.size, 17, none⟩) 0 0, .slice (some ⟨w.heap.size + 1, 0, none⟩) 0 0] (by rfl) rfl rfl (by (try simp only [List.map_toArray, List.map_cons, List.map_nil]); first | done | rfl) ?_
  refine (eq0_walk _).mono ?_
  rintro e w2 ⟨rfl, hB⟩
  refine ⟨_, rfl, ?_⟩
  refine hK.out _ _ (RS.step hHeld hB) (fun hHeld => ?_)
  clear hK K
  refine norm_ (a' := ?_) ?_ ?_
  rotate_left
  ·show Act.put _ (some 28) _ = _
   simp only [Act.put, List.setIfInBounds_toArray, List.set_cons_zero, List.set_cons_succ, i64_w, i32_w]
   rfl
  refine pure_ (i := 21) (N := some 29) (v := ?_) (a' := ?_) #[true, true, true, true, true, true, true, true, true, true, true, true, true, true, true, true, true, true, true, true, true, true, false] rfl rfl (by kernel_rfl) (fun _ _ _ h => h) (Or.inl ⟨by rfl, ?_⟩) ?_ ?_
  rotate_left
  ·intro w'
   go_simp
   with_reducible rfl
  rotate_left
  ·simp only [Act.put, List.setIfInBounds_toArray, List.set_cons_zero, List.set_cons_succ, i64_w, i32_w]
   rfl
  refine pure_ (i := 22) (N := some 2) (v := ?_) (a' := ?_) #[true, true, true, true, true, true, true, true, true, true, true, true, true, true, true, true, true, true, true, true, true, true, true] rfl rfl (by kernel_rfl) (fun _ _ _ h => h) (Or.inl ⟨by rfl, ?_⟩) ?_ ?_
  rotate_left
  ·intro w'
   go_simp
   with_reducible rfl
  rotate_left
  ·simp only [Act.put, List.setIfInBounds_toArray, List.set_cons_zero, List.set_cons_succ, i64_w, i32_w]
   rfl
  refine done_ (by kernel_rfl) ?_
  go_wp2
  go_ret
  refine ⟨?_, hHeld.2.2⟩
  rw [HR.out, hd1]
  rfl

 ·have hd1 : decide (c ≤ 0) = false := decide_eq_false hc0
  refine start_ (n := 23) (S := RS w s) (ds := []) #[false, false, false, false, false, false, false, false, false, false, false, false, false, false, false, false, false, false, false, false, false, false, false] (by kernel_rfl) rfl rfl H1.drew (fun hHeld => ?_)
  refine pure_ (i := 0) (N := some 8) (v := ?_) (a' := ?_) #[true, false, false, false, false, false, false, false, false, false, false, false, false, false, false, false, false, false, false, false, false, false, false] rfl rfl (by kernel_rfl) (fun _ _ _ h => h) (Or.inl ⟨by rfl, ?_⟩) ?_ ?_
  rotate_left
  ·intro w'
   go_simp
   with_reducible rfl
  rotate_left
  ·simp only [Act.put, List.setIfInBounds_toArray, List.set_cons_zero, List.set_cons_succ, i64_w, i32_w]
   rfl
  refine take_ (i := 1) (N := some 9) (v := .agg s.lo.arr) (a' := ?_) #[true, true, false, false, false, false, false, false, false, false, false, false, false, false, false, false, false, false, false, false, false, false, false] rfl rfl (by kernel_rfl) (fun _ _ _ h => h) ?_ hHeld ?_ ?_
  ·exact yA (by rfl) rfl s.lo w.heap.size 1 rfl (fun W h => rlo_of_s h.1.rs)
  rotate_left
  ·simp only [Act.put, List.setIfInBounds_toArray, List.set_cons_zero, List.set_cons_succ, i64_w, i32_w]
   rfl
  refine pure_ (i := 2) (N := some 10) (v := ?_) (a' := ?_) #[true, true, true, false, false, false, false, false, false, false, false, false, false, false, false, false, false, false, false, false, false, false, false] rfl rfl (by kernel_rfl) (fun _ _ _ h => h) (Or.inl ⟨by rfl, ?_⟩) ?_ ?_
  rotate_left
  ·intro w'
   go_simp
   with_reducible rfl
  rotate_left
  ·simp only [Act.put, List.setIfInBounds_toArray, List.set_cons_zero, List.set_cons_succ, i64_w, i32_w]
   rfl
  refine take_ (i := 3) (N := some 11) (v := .agg s.hi.arr) (a' := ?_) #[true, true, true, true, false, false, false, false, false, false, false, false, false, false, false, false, false, false, false, false, false, false, false] rfl rfl (by kernel_rfl) (fun _ _ _ h => h) ?_ hHeld ?_ ?_
  ·exact yA (by rfl) rfl s.hi w.heap.size 17 rfl (fun W h => rhi_of_s h.1.rs)
  rotate_left
  ·simp only [Act.put, List.setIfInBounds_toArray, List.set_cons_zero, List.set_cons_succ, i64_w, i32_w]
   rfl
  refine one_ (i := 4) (N := some 12) #[true, true, true, true, true, false, false, false, false, false, false, false, false, false, false, false, false, false, false, false, false, false, false] rfl rfl (by kernel_rfl) (by decide) (fun K hK => ?_)
  refine goes_ Try.func30 (by kernel_rfl) rfl #[.agg s.lo.arr, .agg s.hi.arr] (by rfl) rfl rfl (by (try simp only [List.map_toArray, List.map_cons, List.map_nil]); first | done | rfl) ?_
  refine (hcmp _).mono ?_
  rintro e w1 ⟨rfl, hB⟩
  refine ⟨_, rfl, ?_⟩
  refine hK.out _ _ (RS.step hHeld hB) (fun hHeld => ?_)
  clear hK K
  refine norm_ (a' := ?_) ?_ ?_
  rotate_left
  ·show Act.put _ (some 12) _ = _
   simp only [Act.put, List.setIfInBounds_toArray, List.set_cons_zero, List.set_cons_succ, i64_w, i32_w]
   rfl
  refine pure_ (i := 5) (N := some 13) (v := ?_) (a' := ?_) #[true, true, true, true, true, true, false, false, false, false, false, false, false, false, false, false, false, false, false, false, false, false, false] rfl rfl (by kernel_rfl) (fun _ _ _ h => h) (Or.inl ⟨by rfl, ?_⟩) ?_ ?_
  rotate_left
  ·intro w'
   go_simp
   with_reducible rfl
  rotate_left
  ·simp only [Act.put, List.setIfInBounds_toArray, List.set_cons_zero, List.set_cons_succ, i64_w, i32_w]
   rfl
  refine pure_ (i := 6) (N := some 14) (v := ?_) (a' := ?_) #[true, true, true, true, true, true, true, false, false, false, false, false, false, false, false, false, false, false, false, false, false, false, false] rfl rfl (by kernel_rfl) (fun _ _ _ h => h) (Or.inl ⟨by rfl, ?_⟩) ?_ ?_
  rotate_left
  ·intro w'
   go_simp
   with_reducible rfl
  rotate_left
  ·simp only [Act.put, List.setIfInBounds_toArray, List.set_cons_zero, List.set_cons_succ, i64_w, i32_w]
   rfl
  refine pure_ (i := 7) (N := some 15) (v := undef) (a' := ?_) #[true, true, true, true, true, true, true, true, false, false, false, false, false, false, false, false, false, false, false, false, false, false, false] rfl rfl (by kernel_rfl) (fun _ _ _ h => h) (Or.inr ⟨by rfl, rfl⟩) ?_ ?_
  rotate_left
  ·simp only [Act.put, List.setIfInBounds_toArray, List.set_cons_zero, List.set_cons_succ, i64_w, i32_w]
   rfl
  refine pure_ (i := 8) (N := some 16) (v := undef) (a' := ?_) #[true, true, true, true, true, true, true, true, true, false, false, false, false, false, false, false, false, false, false, false, false, false, false] rfl rfl (by kernel_rfl) (fun _ _ _ h => h) (Or.inr ⟨by rfl, rfl⟩) ?_ ?_
  rotate_left
  ·simp only [Act.put, List.setIfInBounds_toArray, List.set_cons_zero, List.set_cons_succ, i64_w, i32_w]
   rfl
  refine pure_ (i := 9) (N := some 17) (v := undef) (a' := ?_) #[true, true, true, true, true, true, true, true, true, true, false, false, false, false, false, false, false, false, false, false, false, false, false] rfl rfl (by kernel_rfl) (fun _ _ _ h => h) (Or.inr ⟨by rfl, rfl⟩) ?_ ?_
  rotate_left
  ·simp only [Act.put, List.setIfInBounds_toArray, List.set_cons_zero, List.set_cons_succ, i64_w, i32_w]
   rfl
  refine pure_ (i := 10) (N := some 18) (v := undef) (a' := ?_) #[true, true, true, true, true, true, true, true, true, true, true, false, false, false, false, false, false, false, false, false, false, false, false] rfl rfl (by kernel_rfl) (fun _ _ _ h => h) (Or.inr ⟨by rfl, rfl⟩) ?_ ?_
  rotate_left
  ·simp only [Act.put, List.setIfInBounds_toArray, List.set_cons_zero, List.set_cons_succ, i64_w, i32_w]
   rfl
  refine pure_ (i := 11) (N := some 19) (v := undef) (a' := ?_) #[true, true, true, true, true, true, true, true, true, true, true, true, false, false, false, false, false, false, false, false, false, false, false] rfl rfl (by kernel_rfl) (fun _ _ _ h => h) (Or.inr ⟨by rfl, rfl⟩) ?_ ?_
  rotate_left
  ·simp only [Act.put, List.setIfInBounds_toArray, List.set_cons_zero, List.set_cons_succ, i64_w, i32_w]
   rfl
  refine pure_ (i := 12) (N := some 20) (v := undef) (a' := ?_) #[true, true, true, true, true, true, true, true, true, true, true, true, true, false, false, false, false, false, false, false, false, false, false] rfl rfl (by kernel_rfl) (fun _ _ _ h => h) (Or.inr ⟨by rfl, rfl⟩) ?_ ?_
  rotate_left
  ·simp only [Act.put, List.setIfInBounds_toArray, List.set_cons_zero, List.set_cons_succ, i64_w, i32_w]
   rfl
  refine pure_ (i := 13) (N := some 21) (v := ?_) (a' := ?_) #[true, true, true, true, true, true, true, true, true, true, true, true, true, true, false, false, false, false, false, false, false, false, false] rfl rfl (by kernel_rfl) (fun _ _ _ h => h) (Or.inl ⟨by rfl, ?_⟩) ?_ ?_
  rotate_left
  ·intro w'
   go_simp
   with_reducible rfl
  rotate_left
  ·simp only [Act.put, List.setIfInBounds_toArray, List.set_cons_zero, List.set_cons_succ, i64_w, i32_w]
   rfl
  refine pure_ (i := 14) (N := some 22) (v := ?_) (a' := ?_) #[true, true, true, true, true, true, true, true, true, true, true, true, true, true, true, false, false, false, false, false, false, false, false] rfl rfl (by kernel_rfl) (fun _ _ _ h => h) (Or.inl ⟨by rfl, ?_⟩) ?_ ?_
  rotate_left
  ·intro w'
   go_simp
   with_reducible rfl
  rotate_left
  ·simp only [Act.put, List.setIfInBounds_toArray, List.set_cons_zero, List.set_cons_succ, i64_w, i32_w]
   rfl
  refine pure_ (i := 15) (N := some 23) (v := undef) (a' := ?_) #[true, true, true, true, true, true, true, true, true, true, true, true, true, true, true, true, false, false, false, false, false, false, false] rfl rfl (by kernel_rfl) (fun _ _ _ h => h) (Or.inr ⟨by rfl, rfl⟩) ?_ ?_
  rotate_left
  ·simp only [Act.put, List.setIfInBounds_toArray, List.set_cons_zero, List.set_cons_succ, i64_w, i32_w]
   rfl
  refine pure_ (i := 16) (N := some 24) (v := undef) (a' := ?_) #[true, true, true, true, true, true, true, true, true, true, true, true, true, true, true, true, true, false, false, false, false, false, false] rfl rfl (by kernel_rfl) (fun _ _ _ h => h) (Or.inr ⟨by rfl, rfl⟩) ?_ ?_
  rotate_left
  ·simp only [Act.put, List.setIfInBounds_toArray, List.set_cons_zero, List.set_cons_succ, i64_w, i32_w]
   rfl
  refine pure_ (i := 17) (N := some 25) (v := undef) (a' := ?_) #[true, true, true, true, true, true, true, true, true, true, true, true, true, true, true, true, true, true, false, false, false, false, false] rfl rfl (by kernel_rfl) (fun _ _ _ h => h) (Or.inr ⟨by rfl, rfl⟩) ?_ ?_
  rotate_left
  ·simp only [Act.put, List.setIfInBounds_toArray, List.set_cons_zero, List.set_cons_succ, i64_w, i32_w]
   rfl
  refine pure_ (i := 18) (N := some 26) (v := undef) (a' := ?_) #[true, true, true, true, true, true, true, true, true, true, true, true, true, true, true, true, true, true, true, false, false, false, false] rfl rfl (by kernel_rfl) (fun _ _ _ h => h) (Or.inr ⟨by rfl, rfl⟩) ?_ ?_
  rotate_left
  ·simp only [Act.put, List.setIfInBounds_toArray, List.set_cons_zero, List.set_cons_succ, i64_w, i32_w]
   rfl
  refine pure_ (i := 19) (N := some 27) (v := undef) (a' := ?_) #[true, true, true, true, true, true, true, true, true, true, true, true, true, true, true, true, true, true, true, true, false, false, false] rfl rfl (by kernel_rfl) (fun _ _ _ h => h) (Or.inr ⟨by rfl, rfl⟩) ?_ ?_
  rotate_left
  ·simp only [Act.put, List.setIfInBounds_toArray, List.set_cons_zero, List.set_cons_succ, i64_w, i32_w]
   rfl
  refine pure_ (i := 20) (N := some 28) (v := undef) (a' := ?_) #[true, true, true, true, true, true, true, true, true, true, true, true, true, true, true, true, true, true, true, true, true, false, false] rfl rfl (by kernel_rfl) (fun _ _ _ h => h) (Or.inr ⟨by rfl, rfl⟩) ?_ ?_
  rotate_left
  ·simp only [Act.put, List.setIfInBounds_toArray, List.set_cons_zero, List.set_cons_succ, i64_w, i32_w]
   rfl
  refine pure_ (i := 21) (N := some 29) (v := ?_) (a' := ?_) #[true, true, true, true, true, true, true, true, true, true, true, true, true, true, true, true, true, true, true, true, true, true, false] rfl rfl (by kernel_rfl) (fun _ _ _ h => h) (Or.inl ⟨by rfl, ?_⟩) ?_ ?_
  rotate_left
  ·intro w'
   go_simp
   with_reducible rfl
  rotate_left
  ·simp only [Act.put, List.setIfInBounds_toArray, List.set_cons_zero, List.set_cons_succ, i64_w, i32_w]
   rfl
  refine pure_ (i := 22) (N := some 2) (v := ?_) (a' := ?_) #[true, true, true, true, true, true, true, true, true, true, true, true, true, true, true, true, true, true, true, true, true, true, true] rfl rfl (by kernel_rfl) (fun _ _ _ h => h) (Or.inl ⟨by rfl, ?_⟩) ?_ ?_
  rotate_left
  ·intro w'
   go_simp
   with_reducible rfl
  rotate_left
  ·simp only [Act.put, List.setIfInBounds_toArray, List.set_cons_zero, List.set_cons_succ, i64_w, i32_w]
   rfl
  refine done_ (by kernel_rfl) ?_
  go_wp2
  go_ret
  refine ⟨?_, hHeld.2.2⟩
  rw [HR.out, hd1]
  rfl
set_option maxHeartbeats 2000000 in
set_option maxRecDepth 100000 in
theorem right_four (s : Spn) (w : World) (h6 : s.v6 = false) :
 Calls Try.prog 15 #[.agg s.arr] w fun e w' => e = .returned (.bool (rightS s)) ∧ Gw w w' := by
 have H0 : RS w s ((w.alloc (.cells s.arr 30)).alloc (.cells z16.arr 28)) := ⟨heap_alloc2_old _ _ _, heap_alloc2_new _ _ _, ((Gw.refl _).alloc _).alloc _⟩
 obtain ⟨c, hc⟩ : ∃ c, c = lexC s.lo.l s.hi.l := ⟨_, rfl⟩
 have hcmp : ∀ W, Calls Try.prog 30 #[.agg s.lo.arr, .agg s.hi.arr] W fun e w' => e = .returned (.int .i64 c) ∧ Gw W w' := fun W => by rw [hc]; exact scmp_walk _ _ W
 have hres : rightS s = (decide (c ≤ 0) && nought false s.lo && nought false s.hi) := by unfold rightS; rw [h6, hc]
 obtain ⟨r, hr⟩ : ∃ r, r = rightS s := ⟨_, rfl⟩
 rw [← hr]
 have HR := Lib.hid (hr.trans hres)
 clear hc hres hr
 go_enter Try.func15, Try.ntmps15
 go_upto_region 2 with (fail)
 change Code.wp _ _ _ _ ((w.alloc (.cells s.arr 30)).alloc (.cells z16.arr 28))
 generalize (w.alloc (.cells s.arr 30)).alloc (.cells z16.arr 28) = W at H0 ⊢
 have c0 := rs_v6 H0.1.rs
 rw [h6] at c0
 have hw := width_walk false W
 rw [show ((wid false : Nat) : Int) = 4 from rfl] at hw
 have H1 := Lib.hid H0
 clear H0
 go_wp2_with (refine hw.mono ?_; rintro e w' ⟨rfl, rfl⟩)
 clear c0 hw
 replace H1 := H1.out
 by_cases hc0 : c ≤ 0
 ·have hd1 : decide (c ≤ 0) = true := decide_eq_true hc0
  obtain ⟨e2, he2⟩ : ∃ e2, e2 = nought false s.hi := ⟨_, rfl⟩
  have HE2 := Lib.hid he2
  clear he2
  by_cases he1 : nought false s.lo = true
  ·have HE1 := Lib.hid he1
   clear he1
   refine start_ (n := 23) (S := RS w s) (ds := []) #[false, false, false, false, false, false, false, false, false, false, false, false, false, false, false, false, false, false, false, false, false, false, false] (by kernel_rfl) rfl rfl H1.drew (fun hHeld => ?_)
   refine pure_ (i := 0) (N := some 8) (v := ?_) (a' := ?_) #[true, false, false, false, false, false, false, false, false, false, false, false, false, false, false, false, false, false, false, false, false, false, false] rfl rfl (by kernel_rfl) (fun _ _ _ h => h) (Or.inl ⟨by rfl, ?_⟩) ?_ ?_
   rotate_left
   ·intro w'
    go_simp
    with_reducible rfl
   rotate_left
   ·simp only [Act.put, List.setIfInBounds_toArray, List.set_cons_zero, List.set_cons_succ, i64_w, i32_w]
    rfl
   refine take_ (i := 1) (N := some 9) (v := .agg s.lo.arr) (a' := ?_) #[true, true, false, false, false, false, false, false, false, false, false, false, false, false, false, false, false, false, false, false, false, false, false] rfl rfl (by kernel_rfl) (fun _ _ _ h => h) ?_ hHeld ?_ ?_
   ·exact yA (by rfl) rfl s.lo w.heap.size 1 rfl (fun W h => rlo_of_s h.1.rs)
   rotate_left
   ·simp only [Act.put, List.setIfInBounds_toArray, List.set_cons_zero, List.set_cons_succ, i64_w, i32_w]
    rfl
   refine pure_ (i := 2) (N := some 10) (v := ?_) (a' := ?_) #[true, true, true, false, false, false, false, false, false, false, false, false, false, false, false, false, false, false, false, false, false, false, false] rfl rfl (by kernel_rfl) (fun _ _ _ h => h) (Or.inl ⟨by rfl, ?_⟩) ?_ ?_
   rotate_left
   ·intro w'
    go_simp
    with_reducible rfl
   rotate_left
   ·simp only [Act.put, List.setIfInBounds_toArray, List.set_cons_zero, List.set_cons_succ, i64_w, i32_w]
    rfl
   refine take_ (i := 3) (N := some 11) (v := .agg s.hi.arr) (a' := ?_) #[true, true, true, true, false, false, false, false, false, false, false, false, false, false, false, false, false, false, false, false, false, false, false] rfl rfl (by kernel_rfl) (fun _ _ _ h => h) ?_ hHeld ?_ ?_
   ·exact yA (by rfl) rfl s.hi w.heap.size 17 rfl (fun W h => rhi_of_s h.1.rs)
   rotate_left
   ·simp only [Act.put, List.setIfInBounds_toArray, List.set_cons_zero, List.set_cons_succ, i64_w, i32_w]
    rfl
   refine one_ (i := 4) (N := some 12) #[true, true, true, true, true, false, false, false, false, false, false, false, false, false, false, false, false, false, false, false, false, false, false] rfl rfl (by kernel_rfl) (by decide) (fun K hK => ?_)
   refine goes_ Try.func30 (by kernel_rfl) rfl #[.agg s.lo.arr, .agg s.hi.arr] (by rfl) rfl rfl (by (try simp only [List.map_toArray, List.map_cons, List.map_nil]); first | done | rfl) ?_
   refine (hcmp _).mono ?_
   rintro e w1 ⟨rfl, hB⟩
   refine ⟨_, rfl, ?_⟩
   refine hK.out _ _ (RS.step hHeld hB) (fun hHeld => ?_)
   clear hK K
   refine norm_ (a' := ?_) ?_ ?_
   rotate_left
   ·show Act.put _ (some 12) _ = _
    simp only [Act.put, List.setIfInBounds_toArray, List.set_cons_zero, List.set_cons_succ, i64_w, i32_w]
    rfl
   refine pure_ (i := 5) (N := some 13) (v := ?_) (a' := ?_) #[true, true, true, true, true, true, false, false, false, false, false, false, false, false, false, false, false, false, false, false, false, false, false] rfl rfl (by kernel_rfl) (fun _ _ _ h => h) (Or.inl ⟨by rfl, ?_⟩) ?_ ?_
   rotate_left
   ·intro w'
    go_simp
    with_reducible rfl
   rotate_left
   ·simp only [Act.put, List.setIfInBounds_toArray, List.set_cons_zero, List.set_cons_succ, i64_w, i32_w]
    rfl
   refine pure_ (i := 6) (N := some 14) (v := ?_) (a' := ?_) #[true, true, true, true, true, true, true, false, false, false, false, false, false, false, false, false, false, false, false, false, false, false, false] rfl rfl (by kernel_rfl) (fun _ _ _ h => h) (Or.inl ⟨by rfl, ?_⟩) ?_ ?_
   rotate_left
   ·intro w'
    go_simp
    with_reducible rfl
   rotate_left
   ·simp only [Act.put, List.setIfInBounds_toArray, List.set_cons_zero, List.set_cons_succ, i64_w, i32_w]
    rfl
   refine pure_ (i := 7) (N := some 15) (v := ?_) (a' := ?_) #[true, true, true, true, true, true, true, true, false, false, false, false, false, false, false, false, false, false, false, false, false, false, false] rfl rfl (by kernel_rfl) (fun _ _ _ h => h) (Or.inl ⟨by rfl, ?_⟩) ?_ ?_
   rotate_left
   ·intro w'
    go_simp
    with_reducible rfl
   rotate_left
   ·simp only [Act.put, List.setIfInBounds_toArray, List.set_cons_zero, List.set_cons_succ, i64_w, i32_w]
    rfl
   refine pure_ (i := 8) (N := some 16) (v := ?_) (a' := ?_) #[true, true, true, true, true, true, true, true, true, false, false, false, false, false, false, false, false, false, false, false, false, false, false] rfl rfl (by kernel_rfl) (fun _ _ _ h => h) (Or.inl ⟨by rfl, ?_⟩) ?_ ?_
   rotate_left
   ·intro w'
    go_simp
    with_reducible rfl
   rotate_left
   ·simp only [Act.put, List.setIfInBounds_toArray, List.set_cons_zero, List.set_cons_succ, i64_w, i32_w]
    rfl
   refine pure_ (i := 9) (N := some 17) (v := ?_) (a' := ?_) #[true, true, true, true, true, true, true, true, true, true, false, false, false, false, false, false, false, false, false, false, false, false, false] rfl rfl (by kernel_rfl) (fun _ _ _ h => h) (Or.inl ⟨by rfl, ?_⟩) ?_ ?_
   rotate_left
   ·intro w'
    go_simp
    with_reducible rfl
   rotate_left
   ·simp only [Act.put, List.setIfInBounds_toArray, List.set_cons_zero, List.set_cons_succ, i64_w, i32_w]
    rfl
   refine pure_ (i := 10) (N := some 18) (v := ?_) (a' := ?_) #[true, true, true, true, true, true, true, true, true, true, true, false, false, false, false, false, false, false, false, false, false, false, false] rfl rfl (by kernel_rfl) (fun _ _ _ h => h) (Or.inl ⟨by rfl, ?_⟩) ?_ ?_
   rotate_left
   ·intro w'
    go_simp
    with_reducible rfl
   rotate_left
   ·simp only [Act.put, List.setIfInBounds_toArray, List.set_cons_zero, List.set_cons_succ, i64_w, i32_w]
    rfl
   refine pure_ (i := 11) (N := some 19) (v := ?_) (a' := ?_) #[true, true, true, true, true, true, true, true, true, true, true, true, false, false, false, false, false, false, false, false, false, false, false] rfl rfl (by kernel_rfl) (fun _ _ _ h => h) (Or.inl ⟨by rfl, ?_⟩) ?_ ?_
   rotate_left
   ·intro w'
    go_simp
    with_reducible rfl
   rotate_left
   ·simp only [Act.put, List.setIfInBounds_toArray, List.set_cons_zero, List.set_cons_succ, i64_w, i32_w]
    rfl
   refine one_ (i := 12) (N := some 20) #[true, true, true, true, true, true, true, true, true, true, true, true, true, false, false, false, false, false, false, false, false, false, false] rfl rfl (by kernel_rfl) (by decide) (fun K hK => ?_)
   refine goes_ Try.func35 (by kernel_rfl) rfl #[.slice (some ⟨w.heap.size, 5, none⟩) 12 12, .slice (some ⟨w.heap.size + 1, 4, none⟩) 12 12] (by rfl) rfl rfl (by (try simp only [List.map_toArray, List.map_cons, List.map_nil]); first | done | rfl) ?_
   refine (eq4_walk s.lo _ (rlo_of_s hHeld.1.rs) hHeld.2.1.ra).mono ?_
   rintro e w2 ⟨rfl, hB⟩
   rw [HE1.out]
   refine ⟨_, rfl, ?_⟩
   refine hK.out _ _ (RS.step hHeld hB) (fun hHeld => ?_)
   clear hK K
   refine norm_ (a' := ?_) ?_ ?_
   rotate_left
   ·show Act.put _ (some 20) _ = _
    simp only [Act.put, List.setIfInBounds_toArray, List.set_cons_zero, List.set_cons_succ, i64_w, i32_w]
    rfl
   refine pure_ (i := 13) (N := some 21) (v := ?_) (a' := ?_) #[true, true, true, true, true, true, true, true, true, true, true, true, true, true, false, false, false, false, false, false, false, false, false] rfl rfl (by kernel_rfl) (fun _ _ _ h => h) (Or.inl ⟨by rfl, ?_⟩) ?_ ?_
   rotate_left
   ·intro w'
    go_simp
    with_reducible rfl
   rotate_left
   ·simp only [Act.put, List.setIfInBounds_toArray, List.set_cons_zero, List.set_cons_succ, i64_w, i32_w]
    rfl
   refine pure_ (i := 14) (N := some 22) (v := ?_) (a' := ?_) #[true, true, true, true, true, true, true, true, true, true, true, true, true, true, true, false, false, false, false, false, false, false, false] rfl rfl (by kernel_rfl) (fun _ _ _ h => h) (Or.inl ⟨by rfl, ?_⟩) ?_ ?_
   rotate_left
   ·intro w'
    go_simp
    with_reducible rfl
   rotate_left
   ·simp only [Act.put, List.setIfInBounds_toArray, List.set_cons_zero, List.set_cons_succ, i64_w, i32_w]
    rfl
   refine pure_ (i := 15) (N := some 23) (v := ?_) (a' := ?_) #[true, true, true, true, true, true, true, true, true, true, true, true, true, true, true, true, false, false, false, false, false, false, false] rfl rfl (by kernel_rfl) (fun _ _ _ h => h) (Or.inl ⟨by rfl, ?_⟩) ?_ ?_
   rotate_left
   ·intro w'
    go_simp
    with_reducible rfl
   rotate_left
   ·simp only [Act.put, List.setIfInBounds_toArray, List.set_cons_zero, List.set_cons_succ, i64_w, i32_w]
    rfl
   refine pure_ (i := 16) (N := some 24) (v := ?_) (a' := ?_) #[true, true, true, true, true, true, true, true, true, true, true, true, true, true, true, true, true, false, false, false, false, false, false] rfl rfl (by kernel_rfl) (fun _ _ _ h => h) (Or.inl ⟨by rfl, ?_⟩) ?_ ?_
   rotate_left
   ·intro w'
    go_simp
    with_reducible rfl
   rotate_left
   ·simp only [Act.put, List.setIfInBounds_toArray, List.set_cons_zero, List.set_cons_succ, i64_w, i32_w]
    rfl
   refine pure_ (i := 17) (N := some 25) (v := ?_) (a' := ?_) #[true, true, true, true, true, true, true, true, true, true, true, true, true, true, true, true, true, true, false, false, false, false, false] rfl rfl (by kernel_rfl) (fun _ _ _ h => h) (Or.inl ⟨by rfl, ?_⟩) ?_ ?_
   rotate_left
   ·intro w'
    go_simp
    with_reducible rfl
   rotate_left
   ·simp only [Act.put, List.setIfInBounds_toArray, List.set_cons_zero, List.set_cons_succ, i64_w, i32_w]
    rfl
   refine pure_ (i := 18) (N := some 26) (v := ?_) (a' := ?_) #[true, true, true, true, true, true, true, true, true, true, true, true, true, true, true, true, true, true, true, false, false, false, false] rfl rfl (by kernel_rfl) (fun _ _ _ h => h) (Or.inl ⟨by rfl, ?_⟩) ?_ ?_
   rotate_left
   ·intro w'
    go_simp
    with_reducible rfl
   rotate_left
   ·simp only [Act.put, List.setIfInBounds_toArray, List.set_cons_zero, List.set_cons_succ, i64_w, i32_w]
    rfl
   refine pure_ (i := 19) (N := some 27) (v := ?_) (a' := ?_) #[true, true, true, true, true, true, true, true, true, true, true, true, true, true, true, true, true, true, true, true, false, false, false] rfl rfl (by kernel_rfl) (fun _ _ _ h => h) (Or.inl ⟨by rfl, ?_⟩) ?_ ?_
   rotate_left
   ·intro w'
    go_simp
    with_reducible rfl
   rotate_left
   ·simp only [Act.put, List.setIfInBounds_toArray, List.set_cons_zero, List.set_cons_succ, i64_w, i32_w]
    rfl
   refine one_ (i := 20) (N := some 28) #[true, true, true, true, true, true, true, true, true, true, true, true, true, true, true, true, true, true, true, true, true, false, false] rfl rfl (by kernel_rfl) (by decide) (fun K hK => ?_)
   refine goes_ Try.func35 (by kernel_rfl) rfl #[.slice (some ⟨w.heap.size, 21, none⟩) 12 12, .slice (some ⟨w.heap.size + 1, 4, none⟩) 12 12] (by rfl) rfl rfl (by (try simp only [List.map_toArray, List.map_cons, List.map_nil]); first | done | rfl) ?_
   refine (eq4_walk s.hi _ (rhi_of_s hHeld.1.rs) hHeld.2.1.ra).mono ?_
   rintro e w2 ⟨rfl, hB⟩
   rw [← HE2.out]
   refine ⟨_, rfl, ?_⟩
   refine hK.out _ _ (RS.step hHeld hB) (fun hHeld => ?_)
   clear hK K
   refine norm_ (a' := ?_) ?_ ?_
   rotate_left
   ·show Act.put _ (some 28) _ = _
    simp only [Act.put, List.setIfInBounds_toArray, List.set_cons_zero, List.set_cons_succ, i64_w, i32_w]
    rfl
   refine pure_ (i := 21) (N := some 29) (v := ?_) (a' := ?_) #[true, true, true, true, true, true, true, true, true, true, true, true, true, true, true, true, true, true, true, true, true, true, false] rfl rfl (by kernel_rfl) (fun _ _ _ h => h) (Or.inl ⟨by rfl, ?_⟩) ?_ ?_
   rotate_left
   ·intro w'
    go_simp
    with_reducible rfl
   rotate_left
   ·simp only [Act.put, List.setIfInBounds_toArray, List.set_cons_zero, List.set_cons_succ, i64_w, i32_w]
    rfl
   refine pure_ (i := 22) (N := some 2) (v := ?_) (a' := ?_) #[true, true, true, true, true, true, true, true, true, true, true, true, true, true, true, true, true, true, true, true, true, true, true] rfl rfl (by kernel_rfl) (fun _ _ _ h => h) (Or.inl ⟨by rfl, ?_⟩) ?_ ?_
   rotate_left
   ·intro w'
    go_simp
    with_reducible rfl
   rotate_left
   ·simp only [Act.put, List.setIfInBounds_toArray, List.set_cons_zero, List.set_cons_succ, i64_w, i32_w]
    rfl
   refine done_ (by kernel_rfl) ?_
   go_wp2
   go_ret
   refine ⟨?_, hHeld.2.2⟩
   rw [HR.out, hd1, HE1.out, ← HE2.out]
   simp
  ·have HE1 := Lib.hid (Bool.eq_false_iff.2 he1)
   clear he1
   refine start_ (n := 23) (S := RS w s) (ds := []) #[false, false, false, false, false, false, false, false, false, false, false, false, false, false, false, false, false, false, false, false, false, false, false] (by kernel_rfl) rfl rfl H1.drew (fun hHeld => ?_)
   refine pure_ (i := 0) (N := some 8) (v := ?_) (a' := ?_) #[true, false, false, false, false, false, false, false, false, false, false, false, false, false, false, false, false, false, false, false, false, false, false] rfl rfl (by kernel_rfl) (fun _ _ _ h => h) (Or.inl ⟨by rfl, ?_⟩) ?_ ?_
   rotate_left
   ·intro w'
    go_simp
    with_reducible rfl
   rotate_left
   ·simp only [Act.put, List.setIfInBounds_toArray, List.set_cons_zero, List.set_cons_succ, i64_w, i32_w]
    rfl
   refine take_ (i := 1) (N := some 9) (v := .agg s.lo.arr) (a' := ?_) #[true, true, false, false, false, false, false, false, false, false, false, false, false, false, false, false, false, false, false, false, false, false, false] rfl rfl (by kernel_rfl) (fun _ _ _ h => h) ?_ hHeld ?_ ?_
   ·exact yA (by rfl) rfl s.lo w.heap.size 1 rfl (fun W h => rlo_of_s h.1.rs)
   rotate_left
   ·simp only [Act.put, List.setIfInBounds_toArray, List.set_cons_zero, List.set_cons_succ, i64_w, i32_w]
    rfl
   refine pure_ (i := 2) (N := some 10) (v := ?_) (a' := ?_) #[true, true, true, false, false, false, false, false, false, false, false, false, false, false, false, false, false, false, false, false, false, false, false] rfl rfl (by kernel_rfl) (fun _ _ _ h => h) (Or.inl ⟨by rfl, ?_⟩) ?_ ?_
   rotate_left
   ·intro w'
    go_simp
    with_reducible rfl
   rotate_left
   ·simp only [Act.put, List.setIfInBounds_toArray, List.set_cons_zero, List.set_cons_succ, i64_w, i32_w]
    rfl
   refine take_ (i := 3) (N := some 11) (v := .agg s.hi.arr) (a' := ?_) #[true, true, true, true, false, false, false, false, false, false, false, false, false, false, false, false, false, false, false, false, false, false, false] rfl rfl (by kernel_rfl) (fun _ _ _ h => h) ?_ hHeld ?_ ?_
   ·exact yA (by rfl) rfl s.hi w.heap.size 17 rfl (fun W h => rhi_of_s h.1.rs)
   rotate_left
   ·simp only [Act.put, List.setIfInBounds_toArray, List.set_cons_zero, List.set_cons_succ, i64_w, i32_w]
    rfl
   refine one_ (i := 4) (N := some 12) #[true, true, true, true, true, false, false, false, false, false, false, false, false, false, false, false, false, false, false, false, false, false, false] rfl rfl (by kernel_rfl) (by decide) (fun K hK => ?_)
   refine goes_ Try.func30 (by kernel_rfl) rfl #[.agg s.lo.arr, .agg s.hi.arr] (by rfl) rfl rfl (by (try simp only [List.map_toArray, List.map_cons, List.map_nil]); first | done | rfl) ?_
   refine (hcmp _).mono ?_
   rintro e w1 ⟨rfl, hB⟩
   refine ⟨_, rfl, ?_⟩
   refine hK.out _ _ (RS.step hHeld hB) (fun hHeld => ?_)
   clear hK K
   refine norm_ (a' := ?_) ?_ ?_
   rotate_left
   ·show Act.put _ (some 12) _ = _
    simp only [Act.put, List.setIfInBounds_toArray, List.set_cons_zero, List.set_cons_succ, i64_w, i32_w]
    rfl
   refine pure_ (i := 5) (N := some 13) (v := ?_) (a' := ?_) #[true, true, true, true, true, true, false, false, false, false, false, false, false, false, false, false, false, false, false, false, false, false, false] rfl rfl (by kernel_rfl) (fun _ _ _ h => h) (Or.inl ⟨by rfl, ?_⟩) ?_ ?_
   rotate_left
   ·intro w'
    go_simp
    with_reducible rfl
   rotate_left
   ·simp only [Act.put, List.setIfInBounds_toArray, List.set_cons_zero, List.set_cons_succ, i64_w, i32_w]
    rfl
   refine pure_ (i := 6) (N := some 14) (v := ?_) (a' := ?_) #[true, true, true, true, true, true, true, false, false, false, false, false, false, false, false, false, false, false, false, false, false, false, false] rfl rfl (by kernel_rfl) (fun _ _ _ h => h) (Or.inl ⟨by rfl, ?_⟩) ?_ ?_
   rotate_left
   ·intro w'
    go_simp
    with_reducible rfl
   rotate_left
   ·simp only [Act.put, List.setIfInBounds_toArray, List.set_cons_zero, List.set_cons_succ, i64_w, i32_w]
    rfl
   refine pure_ (i := 7) (N := some 15) (v := ?_) (a' := ?_) #[true, true, true, true, true, true, true, true, false, false, false, false, false, false, false, false, false, false, false, false, false, false, false] rfl rfl (by kernel_rfl) (fun _ _ _ h => h) (Or.inl ⟨by rfl, ?_⟩) ?_ ?_
   rotate_left
   ·intro w'
    go_simp
    with_reducible rfl
   rotate_left
   ·simp only [Act.put, List.setIfInBounds_toArray, List.set_cons_zero, List.set_cons_succ, i64_w, i32_w]
    rfl
   refine pure_ (i := 8) (N := some 16) (v := ?_) (a' := ?_) #[true, true, true, true, true, true, true, true, true, false, false, false, false, false, false, false, false, false, false, false, false, false, false] rfl rfl (by kernel_rfl) (fun _ _ _ h => h) (Or.inl ⟨by rfl, ?_⟩) ?_ ?_
   rotate_left
   ·intro w'
    go_simp
    with_reducible rfl
   rotate_left
   ·simp only [Act.put, List.setIfInBounds_toArray, List.set_cons_zero, List.set_cons_succ, i64_w, i32_w]
    rfl
   refine pure_ (i := 9) (N := some 17) (v := ?_) (a' := ?_) #[true, true, true, true, true, true, true, true, true, true, false, false, false, false, false, false, false, false, false, false, false, false, false] rfl rfl (by kernel_rfl) (fun _ _ _ h => h) (Or.inl ⟨by rfl, ?_⟩) ?_ ?_
   rotate_left
   ·intro w'
    go_simp
    with_reducible rfl
   rotate_left
   ·simp only [Act.put, List.setIfInBounds_toArray, List.set_cons_zero, List.set_cons_succ, i64_w, i32_w]
    rfl
   refine pure_ (i := 10) (N := some 18) (v := ?_) (a' := ?_) #[true, true, true, true, true, true, true, true, true, true, true, false, false, false, false, false, false, false, false, false, false, false, false] rfl rfl (by kernel_rfl) (fun _ _ _ h => h) (Or.inl ⟨by rfl, ?_⟩) ?_ ?_
   rotate_left
   ·intro w'
    go_simp
    with_reducible rfl
   rotate_left
   ·simp only [Act.put, List.setIfInBounds_toArray, List.set_cons_zero, List.set_cons_succ, i64_w, i32_w]
    rfl
   refine pure_ (i := 11) (N := some 19) (v := ?_) (a' := ?_) #[true, true, true, true, true, true, true, true, true, true, true, true, false, false, false, false, false, false, false, false, false, false, false] rfl rfl (by kernel_rfl) (fun _ _ _ h => h) (Or.inl ⟨by rfl, ?_⟩) ?_ ?_
   rotate_left
   ·intro w'
    go_simp
    with_reducible rfl
   rotate_left
   ·simp only [Act.put, List.setIfInBounds_toArray, List.set_cons_zero, List.set_cons_succ, i64_w, i32_w]
    rfl
   refine one_ (i := 12) (N := some 20) #[true, true, true, true, true, true, true, true, true, true, true, true, true, false, false, false, false, false, false, false, false, false, false] rfl rfl (by kernel_rfl) (by decide) (fun K hK => ?_)
   refine goes_ Try.func35 (by kernel_rfl) rfl #[.slice (some ⟨w.heap.size, 5, none⟩) 12 12, .slice (some ⟨w.heap.size + 1, 4, none⟩) 12 12] (by rfl) rfl rfl (by (try simp only [List.map_toArray, List.map_cons, List.map_nil]); first | done | rfl) ?_
   refine (eq4_walk s.lo _ (rlo_of_s hHeld.1.rs) hHeld.2.1.ra).mono ?_
   rintro e w2 ⟨rfl, hB⟩
   rw [HE1.out]
   refine ⟨_, rfl, ?_⟩
   refine hK.out _ _ (RS.step hHeld hB) (fun hHeld => ?_)
   clear hK K
   refine norm_ (a' := ?_) ?_ ?_
   rotate_left
   ·show Act.put _ (some 20) _ = _
    simp only [Act.put, List.setIfInBounds_toArray, List.set_cons_zero, List.set_cons_succ, i64_w, i32_w]
    rfl
   refine pure_ (i := 13) (N := some 21) (v := ?_) (a' := ?_) #[true, true, true, true, true, true, true, true, true, true, true, true, true, true, false, false, false, false, false, false, false, false, false] rfl rfl (by kernel_rfl) (fun _ _ _ h => h) (Or.inl ⟨by rfl, ?_⟩) ?_ ?_
   rotate_left
   ·intro w'
    go_simp
    with_reducible rfl
   rotate_left
   ·simp only [Act.put, List.setIfInBounds_toArray, List.set_cons_zero, List.set_cons_succ, i64_w, i32_w]
    rfl
   refine pure_ (i := 14) (N := some 22) (v := ?_) (a' := ?_) #[true, true, true, true, true, true, true, true, true, true, true, true, true, true, true, false, false, false, false, false, false, false, false] rfl rfl (by kernel_rfl) (fun _ _ _ h => h) (Or.inl ⟨by rfl, ?_⟩) ?_ ?_
   rotate_left
   ·intro w'
    go_simp
    with_reducible rfl
   rotate_left
   ·simp only [Act.put, List.setIfInBounds_toArray, List.set_cons_zero, List.set_cons_succ, i64_w, i32_w]
    rfl
   refine pure_ (i := 15) (N := some 23) (v := undef) (a' := ?_) #[true, true, true, true, true, true, true, true, true, true, true, true, true, true, true, true, false, false, false, false, false, false, false] rfl rfl (by kernel_rfl) (fun _ _ _ h => h) (Or.inr ⟨by rfl, rfl⟩) ?_ ?_
   rotate_left
   ·simp only [Act.put, List.setIfInBounds_toArray, List.set_cons_zero, List.set_cons_succ, i64_w, i32_w]
    rfl
   refine pure_ (i := 16) (N := some 24) (v := undef) (a' := ?_) #[true, true, true, true, true, true, true, true, true, true, true, true, true, true, true, true, true, false, false, false, false, false, false] rfl rfl (by kernel_rfl) (fun _ _ _ h => h) (Or.inr ⟨by rfl, rfl⟩) ?_ ?_
   rotate_left
   ·simp only [Act.put, List.setIfInBounds_toArray, List.set_cons_zero, List.set_cons_succ, i64_w, i32_w]
    rfl
   refine pure_ (i := 17) (N := some 25) (v := undef) (a' := ?_) #[true, true, true, true, true, true, true, true, true, true, true, true, true, true, true, true, true, true, false, false, false, false, false] rfl rfl (by kernel_rfl) (fun _ _ _ h => h) (Or.inr ⟨by rfl, rfl⟩) ?_ ?_
   rotate_left
   ·simp only [Act.put, List.setIfInBounds_toArray, List.set_cons_zero, List.set_cons_succ, i64_w, i32_w]
    rfl
   refine pure_ (i := 18) (N := some 26) (v := undef) (a' := ?_) #[true, true, true, true, true, true, true, true, true, true, true, true, true, true, true, true, true, true, true, false, false, false, false] rfl rfl (by kernel_rfl) (fun _ _ _ h => h) (Or.inr ⟨by rfl, rfl⟩) ?_ ?_
   rotate_left
   ·simp only [Act.put, List.setIfInBounds_toArray, List.set_cons_zero, List.set_cons_succ, i64_w, i32_w]
    rfl
   refine pure_ (i := 19) (N := some 27) (v := undef) (a' := ?_) #[true, true, true, true, true, true, true, true, true, true, true, true, true, true, true, true, true, true, true, true, false, false, false] rfl rfl (by kernel_rfl) (fun _ _ _ h => h) (Or.inr ⟨by rfl, rfl⟩) ?_ ?_
   rotate_left
   ·simp only [Act.put, List.setIfInBounds_toArray, List.set_cons_zero, List.set_cons_succ, i64_w, i32_w]
    rfl
   refine pure_ (i := 20) (N := some 28) (v := undef) (a' := ?_) #[true, true, true, true, true, true, true, true, true, true, true, true, true, true, true, true, true, true, true, true, true, false, false] rfl rfl (by kernel_rfl) (fun _ _ _ h => h) (Or.inr ⟨by rfl, rfl⟩) ?_ ?_
   rotate_left
   ·simp only [Act.put, List.setIfInBounds_toArray, List.set_cons_zero, List.set_cons_succ, i64_w, i32_w]
    rfl
   refine pure_ (i := 21) (N := some 29) (v := ?_) (a' := ?_) #[true, true, true, true, true, true, true, true, true, true, true, true, true, true, true, true, true, true, true, true, true, true, false] rfl rfl (by kernel_rfl) (fun _ _ _ h => h) (Or.inl ⟨by rfl, ?_⟩) ?_ ?_
   rotate_left
   ·intro w'
    go_simp
    with_reducible rfl
   rotate_left
   ·simp only [Act.put, List.setIfInBounds_toArray, List.set_cons_zero, List.set_cons_succ, i64_w, i32_w]
    rfl
   refine pure_ (i := 22) (N := some 2) (v := ?_) (a' := ?_) #[true, true, true, true, true, true, true, true, true, true, true, true, true, true, true, true, true, true, true, true, true, true, true] rfl rfl (by kernel_rfl) (fun _ _ _ h => h) (Or.inl ⟨by rfl, ?_⟩) ?_ ?_
   rotate_left
   ·intro w'
    go_simp
    with_reducible rfl
   rotate_left
   ·simp only [Act.put, List.setIfInBounds_toArray, List.set_cons_zero, List.set_cons_succ, i64_w, i32_w]
    rfl
   refine done_ (by kernel_rfl) ?_
   go_wp2
   go_ret
   refine ⟨?_, hHeld.2.2⟩
   rw [HR.out, hd1, HE1.out]
   rfl

 ·have hd1 : decide (c ≤ 0) = false := decide_eq_false hc0
  refine start_ (n := 23) (S := RS w s) (ds := []) #[false, false, false, false, false, false, false, false, false, false, false, false, false, false, false, false, false, false, false, false, false, false, false] (by kernel_rfl) rfl rfl H1.drew (fun hHeld => ?_)
  refine pure_ (i := 0) (N := some 8) (v := ?_) (a' := ?_) #[true, false, false, false, false, false, false, false, false, false, false, false, false, false, false, false, false, false, false, false, false, false, false] rfl rfl (by kernel_rfl) (fun _ _ _ h => h) (Or.inl ⟨by rfl, ?_⟩) ?_ ?_
  rotate_left
  ·intro w'
   go_simp
   with_reducible rfl
  rotate_left
  ·simp only [Act.put, List.setIfInBounds_toArray, List.set_cons_zero, List.set_cons_succ, i64_w, i32_w]
   rfl
  refine take_ (i := 1) (N := some 9) (v := .agg s.lo.arr) (a' := ?_) #[true, true, false, false, false, false, false, false, false, false, false, false, false, false, false, false, false, false, false, false, false, false, false] rfl rfl (by kernel_rfl) (fun _ _ _ h => h) ?_ hHeld ?_ ?_
  ·exact yA (by rfl) rfl s.lo w.heap.size 1 rfl (fun W h => rlo_of_s h.1.rs)
  rotate_left
  ·simp only [Act.put, List.setIfInBounds_toArray, List.set_cons_zero, List.set_cons_succ, i64_w, i32_w]
   rfl
  refine pure_ (i := 2) (N := some 10) (v := ?_) (a' := ?_) #[true, true, true, false, false, false, false, false, false, false, false, false, false, false, false, false, false, false, false, false, false, false, false] rfl rfl (by kernel_rfl) (fun _ _ _ h => h) (Or.inl ⟨by rfl, ?_⟩) ?_ ?_
  rotate_left
  ·intro w'
   go_simp
   with_reducible rfl
  rotate_left
  ·simp only [Act.put, List.setIfInBounds_toArray, List.set_cons_zero, List.set_cons_succ, i64_w, i32_w]
   rfl
  refine take_ (i := 3) (N := some 11) (v := .agg s.hi.arr) (a' := ?_) #[true, true, true, true, false, false, false, false, false, false, false, false, false, false, false, false, false, false, false, false, false, false, false] rfl rfl (by kernel_rfl) (fun _ _ _ h => h) ?_ hHeld ?_ ?_
  ·exact yA (by rfl) rfl s.hi w.heap.size 17 rfl (fun W h => rhi_of_s h.1.rs)
  rotate_left
  ·simp only [Act.put, List.setIfInBounds_toArray, List.set_cons_zero, List.set_cons_succ, i64_w, i32_w]
   rfl
  refine one_ (i := 4) (N := some 12) #[true, true, true, true, true, false, false, false, false, false, false, false, false, false, false, false, false, false, false, false, false, false, false] rfl rfl (by kernel_rfl) (by decide) (fun K hK => ?_)
  refine goes_ Try.func30 (by kernel_rfl) rfl #[.agg s.lo.arr, .agg s.hi.arr] (by rfl) rfl rfl (by (try simp only [List.map_toArray, List.map_cons, List.map_nil]); first | done | rfl) ?_
  refine (hcmp _).mono ?_
  rintro e w1 ⟨rfl, hB⟩
  refine ⟨_, rfl, ?_⟩
  refine hK.out _ _ (RS.step hHeld hB) (fun hHeld => ?_)
  clear hK K
  refine norm_ (a' := ?_) ?_ ?_
  rotate_left
  ·show Act.put _ (some 12) _ = _
   simp only [Act.put, List.setIfInBounds_toArray, List.set_cons_zero, List.set_cons_succ, i64_w, i32_w]
   rfl
  refine pure_ (i := 5) (N := some 13) (v := ?_) (a' := ?_) #[true, true, true, true, true, true, false, false, false, false, false, false, false, false, false, false, false, false, false, false, false, false, false] rfl rfl (by kernel_rfl) (fun _ _ _ h => h) (Or.inl ⟨by rfl, ?_⟩) ?_ ?_
  rotate_left
  ·intro w'
   go_simp
   with_reducible rfl
  rotate_left
  ·simp only [Act.put, List.setIfInBounds_toArray, List.set_cons_zero, List.set_cons_succ, i64_w, i32_w]
   rfl
  refine pure_ (i := 6) (N := some 14) (v := ?_) (a' := ?_) #[true, true, true, true, true, true, true, false, false, false, false, false, false, false, false, false, false, false, false, false, false, false, false] rfl rfl (by kernel_rfl) (fun _ _ _ h => h) (Or.inl ⟨by rfl, ?_⟩) ?_ ?_
  rotate_left
  ·intro w'
   go_simp
   with_reducible rfl
  rotate_left
  ·simp only [Act.put, List.setIfInBounds_toArray, List.set_cons_zero, List.set_cons_succ, i64_w, i32_w]
   rfl
  refine pure_ (i := 7) (N := some 15) (v := undef) (a' := ?_) #[true, true, true, true, true, true, true, true, false, false, false, false, false, false, false, false, false, false, false, false, false, false, false] rfl rfl (by kernel_rfl) (fun _ _ _ h => h) (Or.inr ⟨by rfl, rfl⟩) ?_ ?_
  rotate_left
  ·simp only [Act.put, List.setIfInBounds_toArray, List.set_cons_zero, List.set_cons_succ, i64_w, i32_w]
   rfl
  refine pure_ (i := 8) (N := some 16) (v := undef) (a' := ?_) #[true, true, true, true, true, true, true, true, true, false, false, false, false, false, false, false, false, false, false, false, false, false, false] rfl rfl (by kernel_rfl) (fun _ _ _ h => h) (Or.inr ⟨by rfl, rfl⟩) ?_ ?_
  rotate_left
  ·simp only [Act.put, List.setIfInBounds_toArray, List.set_cons_zero, List.set_cons_succ, i64_w, i32_w]
   rfl
  refine pure_ (i := 9) (N := some 17) (v := undef) (a' := ?_) #[true, true, true, true, true, true, true, true, true, true, false, false, false, false, false, false, false, false, false, false, false, false, false] rfl rfl (by kernel_rfl) (fun _ _ _ h => h) (Or.inr ⟨by rfl, rfl⟩) ?_ ?_
  rotate_left
  ·simp only [Act.put, List.setIfInBounds_toArray, List.set_cons_zero, List.set_cons_succ, i64_w, i32_w]
   rfl
  refine pure_ (i := 10) (N := some 18) (v := undef) (a' := ?_) #[true, true, true, true, true, true, true, true, true, true, true, false, false, false, false, false, false, false, false, false, false, false, false] rfl rfl (by kernel_rfl) (fun _ _ _ h => h) (Or.inr ⟨by rfl, rfl⟩) ?_ ?_
  rotate_left
  ·simp only [Act.put, List.setIfInBounds_toArray, List.set_cons_zero, List.set_cons_succ, i64_w, i32_w]
   rfl
  refine pure_ (i := 11) (N := some 19) (v := undef) (a' := ?_) #[true, true, true, true, true, true, true, true, true, true, true, true, false, false, false, false, false, false, false, false, false, false, false] rfl rfl (by kernel_rfl) (fun _ _ _ h => h) (Or.inr ⟨by rfl, rfl⟩) ?_ ?_
  rotate_left
  ·simp only [Act.put, List.setIfInBounds_toArray, List.set_cons_zero, List.set_cons_succ, i64_w, i32_w]
   rfl
  refine pure_ (i := 12) (N := some 20) (v := undef) (a' := ?_) #[true, true, true, true, true, true, true, true, true, true, true, true, true, false, false, false, false, false, false, false, false, false, false] rfl rfl (by kernel_rfl) (fun _ _ _ h => h) (Or.inr ⟨by rfl, rfl⟩) ?_ ?_
  rotate_left
  ·simp only [Act.put, List.setIfInBounds_toArray, List.set_cons_zero, List.set_cons_succ, i64_w, i32_w]
   rfl
  refine pure_ (i := 13) (N := some 21) (v := ?_) (a' := ?_) #[true, true, true, true, true, true, true, true, true, true, true, true, true, true, false, false, false, false, false, false, false, false, false] rfl rfl (by kernel_rfl) (fun _ _ _ h => h) (Or.inl ⟨by rfl, ?_⟩) ?_ ?_
  rotate_left
  ·intro w'
   go_simp
   with_reducible rfl
  rotate_left
  ·simp only [Act.put, List.setIfInBounds_toArray, List.set_cons_zero, List.set_cons_succ, i64_w, i32_w]
   rfl
  refine pure_ (i := 14) (N := some 22) (v := ?_) (a' := ?_) #[true, true, true, true, true, true, true, true, true, true, true, true, true, true, true, false, false, false, false, false, false, false, false] rfl rfl (by kernel_rfl) (fun _ _ _ h => h) (Or.inl ⟨by rfl, ?_⟩) ?_ ?_
  rotate_left
  ·intro w'
   go_simp
   with_reducible rfl
  rotate_left
  ·simp only [Act.put, List.setIfInBounds_toArray, List.set_cons_zero, List.set_cons_succ, i64_w, i32_w]
   rfl
  refine pure_ (i := 15) (N := some 23) (v := undef) (a' := ?_) #[true, true, true, true, true, true, true, true, true, true, true, true, true, true, true, true, false, false, false, false, false, false, false] rfl rfl (by kernel_rfl) (fun _ _ _ h => h) (Or.inr ⟨by rfl, rfl⟩) ?_ ?_
  rotate_left
  ·simp only [Act.put, List.setIfInBounds_toArray, List.set_cons_zero, List.set_cons_succ, i64_w, i32_w]
   rfl
  refine pure_ (i := 16) (N := some 24) (v := undef) (a' := ?_) #[true, true, true, true, true, true, true, true, true, true, true, true, true, true, true, true, true, false, false, false, false, false, false] rfl rfl (by kernel_rfl) (fun _ _ _ h => h) (Or.inr ⟨by rfl, rfl⟩) ?_ ?_
  rotate_left
  ·simp only [Act.put, List.setIfInBounds_toArray, List.set_cons_zero, List.set_cons_succ, i64_w, i32_w]
   rfl
  refine pure_ (i := 17) (N := some 25) (v := undef) (a' := ?_) #[true, true, true, true, true, true, true, true, true, true, true, true, true, true, true, true, true, true, false, false, false, false, false] rfl rfl (by kernel_rfl) (fun _ _ _ h => h) (Or.inr ⟨by rfl, rfl⟩) ?_ ?_
  rotate_left
  ·simp only [Act.put, List.setIfInBounds_toArray, List.set_cons_zero, List.set_cons_succ, i64_w, i32_w]
   rfl
  refine pure_ (i := 18) (N := some 26) (v := undef) (a' := ?_) #[true, true, true, true, true, true, true, true, true, true, true, true, true, true, true, true, true, true, true, false, false, false, false] rfl rfl (by kernel_rfl) (fun _ _ _ h => h) (Or.inr ⟨by rfl, rfl⟩) ?_ ?_
  rotate_left
  ·simp only [Act.put, List.setIfInBounds_toArray, List.set_cons_zero, List.set_cons_succ, i64_w, i32_w]
   rfl
  refine pure_ (i := 19) (N := some 27) (v := undef) (a' := ?_) #[true, true, true, true, true, true, true, true, true, true, true, true, true, true, true, true, true, true, true, true, false, false, false] rfl rfl (by kernel_rfl) (fun _ _ _ h => h) (Or.inr ⟨by rfl, rfl⟩) ?_ ?_
  rotate_left
  ·simp only [Act.put, List.setIfInBounds_toArray, List.set_cons_zero, List.set_cons_succ, i64_w, i32_w]
   rfl
  refine pure_ (i := 20) (N := some 28) (v := undef) (a' := ?_) #[true, true, true, true, true, true, true, true, true, true, true, true, true, true, true, true, true, true, true, true, true, false, false] rfl rfl (by kernel_rfl) (fun _ _ _ h => h) (Or.inr ⟨by rfl, rfl⟩) ?_ ?_
  rotate_left
  ·simp only [Act.put, List.setIfInBounds_toArray, List.set_cons_zero, List.set_cons_succ, i64_w, i32_w]
   rfl
  refine pure_ (i := 21) (N := some 29) (v := ?_) (a' := ?_) #[true, true, true, true, true, true, true, true, true, true, true, true, true, true, true, true, true, true, true, true, true, true, false] rfl rfl (by kernel_rfl) (fun _ _ _ h => h) (Or.inl ⟨by rfl, ?_⟩) ?_ ?_
  rotate_left
  ·intro w'
   go_simp
   with_reducible rfl
  rotate_left
  ·simp only [Act.put, List.setIfInBounds_toArray, List.set_cons_zero, List.set_cons_succ, i64_w, i32_w]
   rfl
  refine pure_ (i := 22) (N := some 2) (v := ?_) (a' := ?_) #[true, true, true, true, true, true, true, true, true, true, true, true, true, true, true, true, true, true, true, true, true, true, true] rfl rfl (by kernel_rfl) (fun _ _ _ h => h) (Or.inl ⟨by rfl, ?_⟩) ?_ ?_
  rotate_left
  ·intro w'
   go_simp
   with_reducible rfl
  rotate_left
  ·simp only [Act.put, List.setIfInBounds_toArray, List.set_cons_zero, List.set_cons_succ, i64_w, i32_w]
   rfl
  refine done_ (by kernel_rfl) ?_
  go_wp2
  go_ret
  refine ⟨?_, hHeld.2.2⟩
  rw [HR.out, hd1]
  rfl
theorem rightS_walk (s : Spn) (w : World) : Calls Try.prog 15 #[.agg s.arr] w fun e w' => e = .returned (.bool (rightS s)) ∧ Gw w w' := by
 cases h : s.v6
 ·exact right_four s w h
 ·exact right_six s w h

end Go.Proofs.Ytdioagebkfdkhaa.Ad
end

section
set_option linter.unusedVariables false
set_option linter.unusedSimpArgs false
namespace Go.Proofs.Ytdioagebkfdkhaa.Ad
open Go.RowKit Go.Proofs.YtdioagebkfdkhaaW.PrintWords Go.Proofs.YtdioagebkfdkhaaW.PrintLast Go.Proofs.YtdioagebkfdkhaaW.PrintMore Go.Proofs.Ytdioagebkfdkhaa.PT

/-- A span in the block made first. -/
def S1 (w : World) (s : Spn) (W : World) : Prop := Has W w.heap.size s.arr 30 ∧ Gw w W
theorem S1.new (w : World) (s : Spn) : S1 w s (w.alloc (.cells s.arr 30)) := ⟨Has.new _ _ _, (Gw.refl _).alloc _⟩
theorem S1.step {w W W1 : World} {s : Spn} (h : S1 w s W) (hB : Gw W W1) : S1 w s W1 := ⟨h.1.below hB.below, h.2.trans hB⟩
theorem lo_at {W : World} {b o : Nat} {s : Spn} (h : W.rangeAt b o s.cells) {i : Nat} (hi : i < 16) : W.cell? ⟨b, o + (1 + i), none⟩ = some (.int .u8 (s.lo.at i)) := by
 have := ra_at (rlo_of_s h) hi
 rwa [Nat.add_assoc] at this
theorem hi_at {W : World} {b o : Nat} {s : Spn} (h : W.rangeAt b o s.cells) {i : Nat} (hi : i < 16) : W.cell? ⟨b, o + (17 + i), none⟩ = some (.int .u8 (s.hi.at i)) := by
 have := ra_at (rhi_of_s h) hi
 rwa [Nat.add_assoc] at this
theorem rightS_six {s : Spn} (h : s.v6 = true) : rightS s = decide (lexC s.lo.l s.hi.l ≤ 0) := by
 unfold rightS nought
 simp [h]
theorem rightS_no {s : Spn} (h : s.v6 = false) {i : Nat} (h4 : 4 ≤ i) (h16 : i < 16) (hne : s.lo.at i ≠ 0 ∨ s.hi.at i ≠ 0) : rightS s = false := by
 rw [Bool.eq_false_iff]
 intro hr
 unfold rightS at hr
 rw [h, Bool.and_eq_true, Bool.and_eq_true, nought_iff, nought_iff] at hr
 rcases hne with hne | hne
 ·exact hne (hr.1.2 rfl i h4 h16)
 ·exact hne (hr.2 rfl i h4 h16)
theorem rightS_all {s : Spn} (h : s.v6 = false) (ha : ∀ i, 4 ≤ i → i < 16 → s.lo.at i = 0 ∧ s.hi.at i = 0) : rightS s = decide (lexC s.lo.l s.hi.l ≤ 0) := by
 unfold rightS
 rw [h, nought_iff.2 (fun _ i h4 h16 => (ha i h4 h16).1), nought_iff.2 (fun _ i h4 h16 => (ha i h4 h16).2)]
 simp

set_option maxHeartbeats 2000000 in
set_option maxRecDepth 100000 in
theorem refRightS_walk (s : Spn) (w : World) :
 Calls Try.prog 31 #[.agg s.arr] w fun e w' => e = .returned (.bool (rightS s)) ∧ Gw w w' := by
 have H0 := Lib.hid (S1.new w s)
 obtain ⟨r, hr⟩ : ∃ r, r = rightS s := ⟨_, rfl⟩
 rw [← hr]
 have HR := Lib.hid hr
 clear hr
 obtain ⟨c, hc⟩ : ∃ c, c = lexC s.lo.l s.hi.l := ⟨_, rfl⟩
 have hcmp : ∀ W, Calls Try.prog 17 #[.agg s.lo.arr, .agg s.hi.arr] W fun e w' => e = .returned (.int .i64 c) ∧ Gw W w' := fun W => by rw [hc]; exact cmpAddr_walk _ _ W
 have HC := Lib.hid hc
 clear hc
 go_enter Try.func31, Try.ntmps31
 go_upto_region 1 with (fail)
 change Code.wp _ _ _ _ (w.alloc (.cells s.arr 30))
 generalize w.alloc (.cells s.arr 30) = W at H0 ⊢
 obtain ⟨b, hb⟩ : ∃ b, b = s.v6 := ⟨_, rfl⟩
 have HB := Lib.hid hb
 clear hb
 cases b
 ·go_wp2
  go_loopw [3] (fun iv wr => ∃ k : Nat, 4 ≤ k ∧ k ≤ 16 ∧ iv = .int .i64 k ∧ Hid ((∀ i, 4 ≤ i → i < k → s.lo.at i = 0 ∧ s.hi.at i = 0) ∧ S1 w s wr)) (fun iv _ => 16 - (intOf iv).toNat)
  case atStart => exact ⟨4, by omega, by omega, rfl, Lib.hid ⟨fun i h h2 => by omega, H0.out⟩⟩
  case round =>
   obtain ⟨k, hk4, hk, rfl, H⟩ := hrel
   have c0 := rs_v6 H.out.2.1.rs
   rw [← HB.out] at c0
   by_cases hlt : k < 16
   ·have hd1 := eq_true (show (k : Int) < 16 by omega)
    have hd2 : decide ((k : Int) < 16) = true := decide_eq_true (by omega)
    obtain ⟨x, hx⟩ : ∃ x, x = s.lo.at k := ⟨_, rfl⟩
    obtain ⟨y, hy⟩ : ∃ y, y = s.hi.at k := ⟨_, rfl⟩
    have c1 := lo_at H.out.2.1.rs hlt
    have c2 := hi_at H.out.2.1.rs hlt
    rw [Nat.zero_add, ← hx] at c1
    rw [Nat.zero_add, ← hy] at c2
    have HXY := Lib.hid (And.intro hx hy)
    clear hx hy
    by_cases h1 : x = 0
    ·subst h1
     by_cases h2 : y = 0
     ·subst h2
      go_wp2
      go_roundw
      case rel => exact ⟨k + 1, by omega, by omega, by go_num, Lib.hid ⟨fun i h4 hi => by
       by_cases e : i = k
       ·subst e; exact ⟨HXY.out.1.symm, HXY.out.2.symm⟩
       ·exact H.out.1 i h4 (by omega), H.out.2⟩⟩
      case measure => simp [intOf]; omega
     ·have e1 : (y != 0) = true := by simpa using h2
      have e2 : (y == 0) = false := by simpa using h2
      have e3 : decide (y = 0) = false := decide_eq_false h2
      have hrf : r = false := by rw [HR.out]; exact rightS_no HB.out.symm hk4 hlt (.inr (by rw [← HXY.out.2]; exact h2))
      subst hrf
      go_wp2
      try rw [Exit.noGoto_ret]
      go_ret
      exact ⟨rfl, H.out.2.2⟩
    ·have e1 : (x != 0) = true := by simpa using h1
     have e2 : (x == 0) = false := by simpa using h1
     have e3 : decide (x = 0) = false := decide_eq_false h1
     have hrf : r = false := by rw [HR.out]; exact rightS_no HB.out.symm hk4 hlt (.inl (by rw [← HXY.out.1]; exact h1))
     subst hrf
     go_wp2
     try rw [Exit.noGoto_ret]
     go_ret
     exact ⟨rfl, H.out.2.2⟩
   ·have hk16 : k = 16 := by omega
    subst hk16
    have hd2 : decide (((16 : Nat) : Int) < 16) = false := by decide
    have hd1 := eq_false (show ¬ ((16 : Nat) : Int) < 16 by decide)
    have hrc : r = decide (c ≤ 0) := by rw [HR.out, HC.out]; exact rightS_all HB.out.symm H.out.1
    subst hrc
    go_wp2_with (first
     | ((with_reducible refine at_dst 26 ?_); refine loadA s.lo w.heap.size 1 rfl (by have := rlo_of_s H.out.2.1.rs; rwa [Nat.zero_add] at this) ?_)
     | ((with_reducible refine at_dst 28 ?_); refine loadA s.hi w.heap.size 17 rfl (by have := rhi_of_s H.out.2.1.rs; rwa [Nat.zero_add] at this) ?_))
    refine (hcmp _).mono ?_
    rintro e w1 ⟨rfl, hB⟩
    go_wp2
    go_ret
    exact ⟨rfl, H.out.2.2.trans hB⟩
 ·go_wp2
  go_loopw [3] (fun iv wr => iv = .int .i64 4 ∧ Hid (S1 w s wr)) (fun iv _ => 0)
  case atStart => exact ⟨rfl, H0⟩
  case round =>
   obtain ⟨rfl, H⟩ := hrel
   have c0 := rs_v6 H.out.1.rs
   rw [← HB.out] at c0
   have hrc : r = decide (c ≤ 0) := by rw [HR.out, HC.out]; exact rightS_six HB.out.symm
   subst hrc
   go_wp2_with (first
    | ((with_reducible refine at_dst 26 ?_); refine loadA s.lo w.heap.size 1 rfl (by have := rlo_of_s H.out.1.rs; rwa [Nat.zero_add] at this) ?_)
    | ((with_reducible refine at_dst 28 ?_); refine loadA s.hi w.heap.size 17 rfl (by have := rhi_of_s H.out.1.rs; rwa [Nat.zero_add] at this) ?_))
   refine (hcmp _).mono ?_
   rintro e w1 ⟨rfl, hB⟩
   go_wp2
   go_ret
   exact ⟨rfl, H.out.2.trans hB⟩

end Go.Proofs.Ytdioagebkfdkhaa.Ad
end

section
set_option linter.unusedVariables false
set_option linter.unusedSimpArgs false
namespace Go.Proofs.Ytdioagebkfdkhaa.Ad
open Go.RowKit Go.Proofs.YtdioagebkfdkhaaW.PrintWords Go.Proofs.YtdioagebkfdkhaaW.PrintLast Go.Proofs.YtdioagebkfdkhaaW.PrintMore Go.Proofs.Ytdioagebkfdkhaa.PT

def rowS (s t : Spn) : Int := if s.v6 = t.v6 then lexC s.lo.l t.lo.l else if t.v6 then -1 else 1
set_option maxHeartbeats 2000000 in
set_option maxRecDepth 100000 in
theorem row_walkS (s t : Spn) (w : World) :
 Calls Try.prog 28 #[.agg s.arr, .agg t.arr] w fun e w' => e = .returned (.int .i64 (rowS s t)) ∧ Gw w w' := by
 have H0 := G2.new w s.arr t.arr 30
 obtain ⟨c, hc⟩ : ∃ c, c = lexC s.lo.l t.lo.l := ⟨_, rfl⟩
 have hcmp : ∀ W, Calls Try.prog 30 #[.agg s.lo.arr, .agg t.lo.arr] W fun e w' => e = .returned (.int .i64 c) ∧ Gw W w' := fun W => by rw [hc]; exact scmp_walk _ _ W
 obtain ⟨b1, hb1⟩ : ∃ b, b = s.v6 := ⟨_, rfl⟩
 obtain ⟨b2, hb2⟩ : ∃ b, b = t.v6 := ⟨_, rfl⟩
 have hr : rowS s t = if b1 = b2 then c else if b2 then -1 else 1 := by rw [hb1, hb2, hc]; rfl
 rw [hr]
 have HS := Lib.hid (And.intro hb1 hb2)
 clear hc hr hb1 hb2
 cases b1 <;> cases b2
 all_goals
  go_enter Try.func28, Try.ntmps28
  go_upto_region 1 with (fail)
  generalize (w.alloc (.cells s.arr 30)).alloc (.cells t.arr 30) = W at H0 ⊢
  have c0 := rs_v6 H0.1.rs
  have c1 := rs_v6 H0.2.1.rs
  rw [← HS.out.1] at c0
  rw [← HS.out.2] at c1
  have H1 := Lib.hid H0
  clear H0 HS
  go_wp2_with (first
   | ((with_reducible refine at_dst 12 ?_); refine loadA s.lo w.heap.size 1 rfl (by have := rlo_of_s H1.out.1.rs; rwa [Nat.zero_add] at this) ?_)
   | ((with_reducible refine at_dst 14 ?_); refine loadA t.lo (w.heap.size + 1) 1 rfl (by have := rlo_of_s H1.out.2.1.rs; rwa [Nat.zero_add] at this) ?_)
   | (refine (hcmp _).mono ?_; rintro e w1 ⟨rfl, hB⟩))
  go_ret
  first
   | exact ⟨rfl, H1.out.2.2⟩
   | exact ⟨rfl, H1.out.2.2.trans hB⟩

set_option maxHeartbeats 1000000 in
set_option maxRecDepth 100000 in
theorem join1_walk (s : Spn) (w : World) :
 Calls Try.prog 25 #[.agg s.arr] w fun e w' => e = .returned (.bool (!rightS s)) ∧ Gw w w' := by
 have H0 := Lib.hid (S1.new w s)
 obtain ⟨r, hr⟩ : ∃ r, r = rightS s := ⟨_, rfl⟩
 have hcall : ∀ W, Calls Try.prog 15 #[.agg s.arr] W fun e w' => e = .returned (.bool r) ∧ Gw W w' := fun W => by rw [hr]; exact rightS_walk s W
 rw [← hr]
 clear hr
 go_enter Try.func25, Try.ntmps25
 go_upto_region 1 with (fail)
 change Code.wp _ _ _ _ (w.alloc (.cells s.arr 30))
 generalize w.alloc (.cells s.arr 30) = W at H0 ⊢
 go_wp2_with (first
  | ((with_reducible refine at_dst 3 ?_); refine loadS s w.heap.size 0 rfl H0.out.1.rs ?_)
  | (refine (hcall _).mono ?_; rintro e w1 ⟨rfl, hB⟩))
 go_ret
 exact ⟨rfl, H0.out.2.trans hB⟩

set_option maxHeartbeats 1000000 in
set_option maxRecDepth 100000 in
theorem join2_walk (s t : Spn) (w : World) :
 Calls Try.prog 27 #[.agg s.arr, .agg t.arr] w fun e w' => e = .returned (.int .i64 (rowS s t)) ∧ Gw w w' := by
 have H0 := G2.new w s.arr t.arr 30
 obtain ⟨r, hr⟩ : ∃ r, r = rowS s t := ⟨_, rfl⟩
 have hcall : ∀ W, Calls Try.prog 28 #[.agg s.arr, .agg t.arr] W fun e w' => e = .returned (.int .i64 r) ∧ Gw W w' := fun W => by rw [hr]; exact row_walkS s t W
 rw [← hr]
 clear hr
 go_enter Try.func27, Try.ntmps27
 go_upto_region 1 with (fail)
 generalize (w.alloc (.cells s.arr 30)).alloc (.cells t.arr 30) = W at H0 ⊢
 have H1 := Lib.hid H0
 clear H0
 go_wp2_with (first
  | ((with_reducible refine at_dst 5 ?_); refine loadS s w.heap.size 0 rfl H1.out.1.rs ?_)
  | ((with_reducible refine at_dst 6 ?_); refine loadS t (w.heap.size + 1) 0 rfl H1.out.2.1.rs ?_)
  | (refine (hcall _).mono ?_; rintro e w1 ⟨rfl, hB⟩))
 go_ret
 exact ⟨rfl, H1.out.2.2.trans hB⟩

def aheadS (s t : Spn) : Bool := if s.v6 = t.v6 then decide (lexC s.lo.l t.lo.l < 0) else t.v6
set_option maxHeartbeats 2000000 in
set_option maxRecDepth 100000 in
theorem ahead_walk (s t : Spn) (w : World) :
 Calls Try.prog 32 #[.agg s.arr, .agg t.arr] w fun e w' => e = .returned (.bool (aheadS s t)) ∧ Gw w w' := by
 have H0 := G2.new w s.arr t.arr 30
 obtain ⟨c, hc⟩ : ∃ c, c = lexC s.lo.l t.lo.l := ⟨_, rfl⟩
 have hcmp : ∀ W, Calls Try.prog 17 #[.agg s.lo.arr, .agg t.lo.arr] W fun e w' => e = .returned (.int .i64 c) ∧ Gw W w' := fun W => by rw [hc]; exact cmpAddr_walk _ _ W
 obtain ⟨b1, hb1⟩ : ∃ b, b = s.v6 := ⟨_, rfl⟩
 obtain ⟨b2, hb2⟩ : ∃ b, b = t.v6 := ⟨_, rfl⟩
 have hr : aheadS s t = if b1 = b2 then decide (c < 0) else b2 := by rw [hb1, hb2, hc]; rfl
 rw [hr]
 have HS := Lib.hid (And.intro hb1 hb2)
 clear hc hr hb1 hb2
 cases b1 <;> cases b2
 all_goals
  go_enter Try.func32, Try.ntmps32
  go_upto_region 1 with (fail)
  generalize (w.alloc (.cells s.arr 30)).alloc (.cells t.arr 30) = W at H0 ⊢
  have c0 := rs_v6 H0.1.rs
  have c1 := rs_v6 H0.2.1.rs
  rw [← HS.out.1] at c0
  rw [← HS.out.2] at c1
  have H1 := Lib.hid H0
  clear H0 HS
  go_wp2_with (first
   | ((with_reducible refine at_dst 13 ?_); refine loadA s.lo w.heap.size 1 rfl (by have := rlo_of_s H1.out.1.rs; rwa [Nat.zero_add] at this) ?_)
   | ((with_reducible refine at_dst 15 ?_); refine loadA t.lo (w.heap.size + 1) 1 rfl (by have := rlo_of_s H1.out.2.1.rs; rwa [Nat.zero_add] at this) ?_)
   | (refine (hcmp _).mono ?_; rintro e w1 ⟨rfl, hB⟩))
  go_ret
  first
   | exact ⟨rfl, H1.out.2.2⟩
   | exact ⟨rfl, H1.out.2.2.trans hB⟩

end Go.Proofs.Ytdioagebkfdkhaa.Ad
end

section
set_option linter.unusedVariables false
set_option linter.unusedSimpArgs false
namespace Go.Proofs.Ytdioagebkfdkhaa.Ad
open Go.RowKit Go.Proofs.YtdioagebkfdkhaaW.PrintWords Go.Proofs.YtdioagebkfdkhaaW.PrintLast Go.Proofs.YtdioagebkfdkhaaW.PrintMore Go.Proofs.Ytdioagebkfdkhaa.PT

theorem setRow_alloc (W : World) (cs cs' : Array Value) (t : TypeId) : (W.alloc (.cells cs t)).setRow W.heap.size cs' = W.alloc (.cells cs' t) := by
 unfold World.setRow World.alloc
 congr 1
 apply Array.ext_getElem?
 intro i
 simp only [Array.getElem?_modify, Array.getElem?_push]
 by_cases h : i = W.heap.size
 ·subst h
  simp
 ·rw [if_neg (fun e => h e.symm), if_neg h, if_neg h]
/-- A variable that is an address: made, and laid. -/
theorem alloc_storeA {ops : Array Oper} {rest : List Oper} {a : Act} {W : World} {Q : Exit → Act → World → Prop} {n x : Tmp} {ty ty' : TypeId} {pos pos' : String} {af af' : Array Edge} (v : A16)
 (hx : (a.put (some n) (.pointer (some ⟨W.heap.size, 0, none⟩))).eval (.tmp x) = .agg v.arr) (hn : (a.put (some n) (.pointer (some ⟨W.heap.size, 0, none⟩))).eval (.tmp n) = .pointer (some ⟨W.heap.size, 0, none⟩))
 (h : wpList Try.prog ops Q rest (a.put (some n) (.pointer (some ⟨W.heap.size, 0, none⟩))) (W.alloc (.cells v.arr 28))) :
 wpList Try.prog ops Q (⟨some n, .alloc 28, ty, pos, af, none⟩ :: ⟨none, .store 28 (.tmp n) (.tmp x), ty', pos', af', none⟩ :: rest) a W := by
 refine valN rfl (v := .pointer (some ⟨W.heap.size, 0, none⟩)) (w1 := W.alloc (.cells z16.arr 28)) (by kernel_rfl) ?_
 refine wpList_store_row rfl 28 (.tmp n) (.tmp x) rfl W.heap.size v.arr hn hx 28 z16.arr (Has.new W z16.arr _) (by rw [v.arr_size]; exact infoA) (by rw [v.arr_size, z16.arr_size]) v.arr_one ?_
 rw [setRow_alloc]
 exact h

def touchS (s t : Spn) : Bool := decide (s.v6 = t.v6) && (!(nextP s.v6 s.hi).2 || decide (lexC t.lo.l (nextP s.v6 s.hi).1.l ≤ 0))
set_option maxHeartbeats 2000000 in
set_option maxRecDepth 100000 in
theorem touch_walk (s t : Spn) (w : World) :
 Calls Try.prog 29 #[.agg s.arr, .agg t.arr] w fun e w' => e = .returned (.bool (touchS s t)) ∧ Below w.heap.size w w' := by
 have H0 := H2.new w s.arr t.arr 30
 obtain ⟨b1, hb1⟩ : ∃ b, b = s.v6 := ⟨_, rfl⟩
 obtain ⟨b2, hb2⟩ : ∃ b, b = t.v6 := ⟨_, rfl⟩
 obtain ⟨R, hR⟩ : ∃ R, R = nextP b1 s.hi := ⟨_, rfl⟩
 have hnext : ∀ W, Calls Try.prog 41 #[.bool b1, .agg s.hi.arr] W fun e w' => e = .returned (.tuple #[.agg R.1.arr, .bool R.2]) ∧ Below W.heap.size W w' := fun W => by rw [hR]; exact next_walk b1 s.hi W
 obtain ⟨n, is⟩ := R
 obtain ⟨c, hc⟩ : ∃ c, c = lexC t.lo.l n.l := ⟨_, rfl⟩
 have hcmp : ∀ W, Calls Try.prog 30 #[.agg t.lo.arr, .agg n.arr] W fun e w' => e = .returned (.int .i64 c) ∧ Gw W w' := fun W => by rw [hc]; exact scmp_walk _ _ W
 have hr : touchS s t = (decide (b1 = b2) && (!is || decide (c ≤ 0))) := by unfold touchS; rw [← hb1, ← hb2, ← hR, hc]
 rw [hr]
 have HS := Lib.hid (And.intro hb1 hb2)
 clear hc hr hb1 hb2 hR
 dsimp only at hnext
 cases b1 <;> cases b2 <;> cases is
 all_goals
  go_enter Try.func29, Try.ntmps29
  go_upto_region 1 with (fail)
  generalize (w.alloc (.cells s.arr 30)).alloc (.cells t.arr 30) = W at H0 ⊢
  have c0 := rs_v6 H0.1.rs
  have c1 := rs_v6 H0.2.1.rs
  rw [← HS.out.1] at c0
  rw [← HS.out.2] at c1
  have H1 := Lib.hid H0
  clear H0 HS
  first
  | (go_wp2_with fail
     go_ret
     exact ⟨rfl, H1.out.2.2⟩)
  | (go_wp2_with ((with_reducible refine at_dst 16 ?_); refine loadA s.hi w.heap.size 17 rfl (by have := rhi_of_s H1.out.1.rs; rwa [Nat.zero_add] at this) ?_)
     refine (hnext _).mono ?_
     rintro e w1 ⟨rfl, hB⟩
     have H2' := Lib.hid (H1.out.step hB)
     clear H1 hB
     have HN := Lib.hid (Has.new w1 n.arr 28)
     have H3 := Lib.hid (H2'.out.step ((Below.refl _ _).alloc (Nat.le_refl _) (.cells n.arr 28)))
     go_wp2_with (first
      | ((with_reducible refine at_dst 5 ?_); refine alloc_storeA n rfl rfl ?_; generalize hg : w1.heap.size = g1 at HN ⊢; generalize hw : w1.alloc (.cells n.arr 28) = w2 at HN H3 ⊢; clear hg hw H2')
      | ((with_reducible refine at_dst 24 ?_); refine gate_guard (by rfl) ?_; refine loadA t.lo (w.heap.size + 1) 1 rfl (by have := rlo_of_s H3.out.2.1.rs; rwa [Nat.zero_add] at this) ?_)
      | ((with_reducible refine at_dst 25 ?_); refine gate_guard (by rfl) ?_; refine loadA n g1 0 rfl HN.out.ra ?_)
      | (refine (hcmp _).mono ?_; rintro e w3 ⟨rfl, hB⟩))
     go_ret
     first
     | exact ⟨rfl, H3.out.2.2⟩
     | exact ⟨rfl, H3.out.2.2.trans (hB.below.mono H3.out.2.2.size)⟩)

end Go.Proofs.Ytdioagebkfdkhaa.Ad
end

section
set_option linter.unusedVariables false
set_option linter.unusedSimpArgs false
namespace Go.Proofs.Ytdioagebkfdkhaa.Ad
open Go.RowKit Go.Proofs.YtdioagebkfdkhaaW.PrintWords Go.Proofs.YtdioagebkfdkhaaW.PrintLast Go.Proofs.YtdioagebkfdkhaaW.PrintMore Go.Proofs.Ytdioagebkfdkhaa.PT

def zS : Spn := ⟨false, z16, z16⟩
/-- The kind of a value of so many cells without slices within. -/
def kS : Kd Spn where
 sz := 33
 E := []
 K := fun _ x cs => cs = x.cells
 M := fun _ _ _ x cs => cs = x.cells
 K_len := fun h => by rw [h]; exact Spn.cells_len _
 K_one := fun h u hu => by rw [h] at hu; exact Spn.one _ u hu
 K_below := fun _ h => h
 K_of_M := fun h => h
 M_mono := fun _ h => h
 M_bound := fun h => h
 M_move := fun _ h => h
 M_lower := fun _ h => h
theorem spot_none {w : World} {a : Addr} {u : Value} (h : w.cell? a = some u) : a.spot = none := by
 unfold World.cell? at h
 cases hb : w.heap[a.block]? with
 | none => simp [hb] at h
 | some o =>
  cases o with
  | cells c t fr =>
   simp only [hb] at h
   cases hs : a.spot with
   | none => rfl
   | some s => simp [hs] at h
  | _ => simp [hb] at h
theorem C_form {w : World} {A : Option Addr} {n : Nat} {xs : List Spn} (h : kS.C w A n xs) (hn : 0 < n) : ∃ b o, A = some ⟨b, o, none⟩ ∧ ∀ i (hi : i < xs.length), w.rangeAt b (o + i * 33) xs[i].cells := by
 obtain ⟨ad, e, hc⟩ := h.2.2 hn
 have hl := h.1
 obtain ⟨c0, hcl, hK, hcell⟩ := hc 0 _ (List.getElem?_eq_getElem (show 0 < xs.length by omega))
 have hK' : c0 = xs[0].cells := hK
 have hs := spot_none (hcell 0 _ (show c0[0]? = some (.bool xs[0].v6) by rw [hK']; rfl))
 have hs' : ad.spot = none := by
  have e0 : ad.add (0 * kS.sz + 0) = ad := by unfold Addr.add; rw [if_pos (by simp)]
  rw [e0] at hs
  exact hs
 obtain ⟨b, o, sp⟩ := ad
 have : sp = none := hs'
 subst this
 refine ⟨b, o, e, fun i hi j u hu => ?_⟩
 obtain ⟨c, _, hKi, hci⟩ := hc i _ (List.getElem?_eq_getElem hi)
 have hKi' : c = xs[i].cells := hKi
 have := hci j u (by rw [hKi']; exact hu)
 rw [Addr.add_mid] at this
 rw [show o + i * 33 + j = o + (i * 33 + j) by omega]
 exact this
theorem infoSz : (Try.prog.info? 30).map (fun i => (i.zero, i.size, i.bytes)) = some (some (.agg zS.arr), 33, 33) := by kernel_rfl
theorem ra_below {W W1 : World} {b o : Nat} {cs : List Value} (h : W.rangeAt b o cs) (hB : Below W.heap.size W W1) : W1.rangeAt b o cs := fun j v hv => by
 have := h j v hv
 have hlt := World.block_lt_of_cell? W _ this
 exact (hB.cell (p := ⟨b, o + j, none⟩) hlt).trans this
theorem C_one {W : World} {g t : Nat} {v : Spn} (h : Has W g v.arr t) : kS.C W (some ⟨g, 0, none⟩) 1 [v] :=
 ⟨rfl, by decide, fun _ => ⟨_, rfl, fun j p hj => by
  have hj0 : j = 0 := by
   have := (List.getElem?_eq_some_iff.1 hj).1
   simp at this
   exact this
  subst hj0
  have hp : v = p := by simpa using hj
  subst hp
  refine ⟨v.cells, v.cells_len, rfl, fun i u hu => ?_⟩
  rw [Addr.add_mid]
  have := h.rs i u hu
  simpa using this⟩⟩
theorem R_none (W : World) (base : Nat) (hb : base ≤ W.heap.size) :
 Kd.R kS 30 (W.alloc (.cells #[] 30)) base (fun _ => True) (.slice (some ⟨W.heap.size, 0, none⟩) 0 0) [] :=
 ⟨fun _ _ => trivial, [], ⟨rfl, .inr ⟨W.heap.size, 0, _, rfl, hb, Go.heap_alloc_new W _, Nat.le_refl _, by decide, rfl, rfl⟩⟩, Reps.none _ _⟩
section
variable {ops : Array Oper} {o : Oper} {a : Act} {Q : Exit → Act → World → Prop} {Kc : Act → World → Prop} {rest : List Oper}
theorem appRows {w0 W : World} (base : Nat) (hw : Region.wanted o (yielded ops a.tmps) = true) (s x : Operand)
 (ho : o.op = .call { callee := .builtin .append, args := #[s, x], argTypes := #[22, 22] })
 (v : Value) (xs ys : List Spn) (A : Option Addr) (m c : Nat) (hs : a.eval s = v) (hx : a.eval x = .slice A m c)
 (HO : kS.R 30 W base (fun _ => True) v xs) (HR : kS.C W A m ys) (HB : Below base w0 W) (hbase : base ≤ W.heap.size) (hl : (xs.length + m) * 33 ≤ 140737488355328)
 (h : ∀ v1 w1, kS.R 30 w1 base (fun _ => True) v1 (xs ++ ys) → Below base w0 w1 → W.grownBy w1 v.ownBlock → (v1.ownBlock = v.ownBlock ∨ ∃ b, v1.ownBlock = some b ∧ W.heap.size ≤ b) → Kc (a.put o.dst v1) w1) :
 if Region.wanted o (yielded ops a.tmps) = true then Oper.wp Try.prog o a W Kc Q else Kc (a.put o.dst undef) W :=
 Kd.R_append_rows_step kS base hw s x _ _ (.agg zS.arr) 33 ho Try.underlying22 infoSz rfl (by decide) (by decide) v xs ys A m c (fun _ => True) (fun _ => False) hs hx HO HR (fun x cs h => h) (fun _ h => h.elim) (fun _ _ => trivial) HB hbase hl h
theorem appRowsL {w0 W : World} (base : Nat) (hg : o.guard = none) (s x : Operand)
 (ho : o.op = .call { callee := .builtin .append, args := #[s, x], argTypes := #[22, 22] })
 (v : Value) (xs ys : List Spn) (A : Option Addr) (m c : Nat) (hs : a.eval s = v) (hx : a.eval x = .slice A m c)
 (HO : kS.R 30 W base (fun _ => True) v xs) (HR : kS.C W A m ys) (HB : Below base w0 W) (hbase : base ≤ W.heap.size) (hl : (xs.length + m) * 33 ≤ 140737488355328)
 (h : ∀ v1 w1, kS.R 30 w1 base (fun _ => True) v1 (xs ++ ys) → Below base w0 w1 → W.grownBy w1 v.ownBlock → (v1.ownBlock = v.ownBlock ∨ ∃ b, v1.ownBlock = some b ∧ W.heap.size ≤ b) → wpList Try.prog ops Q rest (a.put o.dst v1) w1) :
 wpList Try.prog ops Q (o :: rest) a W :=
 Kd.R_append_rows kS base hg s x _ _ (.agg zS.arr) 33 ho Try.underlying22 infoSz rfl (by decide) (by decide) v xs ys A m c (fun _ => True) (fun _ => False) hs hx HO HR (fun x cs h => h) (fun _ h => h.elim) (fun _ _ => trivial) HB hbase hl h
end
theorem takeS (A : Option Addr) (c : Nat) (xs : List Spn) (j : Nat) (hj : j ≤ xs.length) (hc : xs.length ≤ c) :
 ∀ W, (Instr.slice 22 (.slice A xs.length c) none (some (.int .i64 (j : Int))) none).run Try.prog W = .ok (.slice A j c) W := by
 obtain ⟨i, hi, hz⟩ := Option.map_eq_some_iff.1 infoSz
 intro W
 have := cut_to (P := Try.prog) 22 30 .i64 Try.underlying22 hi A xs.length c (j : Int) (by omega) (by omega) hc W
 simpa using this
theorem dropS (A : Option Addr) (c : Nat) (xs : List Spn) (j : Nat) (hj : j ≤ xs.length) (hc : xs.length ≤ c) : ∃ A' c',
 (∀ W, (Instr.slice 22 (.slice A xs.length c) (some (.int .i64 (j : Int))) none none).run Try.prog W = .ok (.slice A' (xs.length - j) c') W) ∧
 (∀ W, kS.C W A xs.length xs → kS.C W A' (xs.length - j) (xs.drop j)) := by
 obtain ⟨i, hi, hz⟩ := Option.map_eq_some_iff.1 infoSz
 refine ⟨if c = j then A else A.map (·.add (j * kS.sz)), c - j, fun W => ?_, fun W h => ?_⟩
 ·have := cut_from (P := Try.prog) 22 30 .i64 Try.underlying22 hi 33 (congrArg (fun x => x.2.1) hz) A xs.length c (j : Int) (by omega) (by omega) W
  rw [Int.toNat_natCast] at this
  exact this
 ·have := Kd.C_drop h hj hc
  rw [List.length_drop] at this
  exact this


end Go.Proofs.Ytdioagebkfdkhaa.Ad
end

section
set_option linter.unusedVariables false
set_option linter.unusedSimpArgs false
namespace Go.Proofs.Ytdioagebkfdkhaa.Ad
open Go.RowKit Go.Proofs.YtdioagebkfdkhaaW.PrintWords Go.Proofs.YtdioagebkfdkhaaW.PrintLast Go.Proofs.YtdioagebkfdkhaaW.PrintMore Go.Proofs.Ytdioagebkfdkhaa.PT

theorem setCells_row (g : Nat) (t : TypeId) : ∀ (vs : List Value) (o : Nat) (W : World) (cur : Array Value), W.heap[g]? = some (.cells cur t (0, 0)) →
 ∃ cur', (W.setCells g o vs).heap[g]? = some (.cells cur' t (0, 0)) ∧ cur'.size = cur.size
 | [], _, _, cur, h => ⟨cur, h, rfl⟩
 | v :: vs, o, W, cur, h => by
  obtain ⟨c, h1, h2⟩ := setCells_row g t vs (o + 1) (W.setCell ⟨g, o, none⟩ v) _ (heap_setCell_same W g o cur t v h)
  exact ⟨c, h1, h2.trans (by simp)⟩
theorem setCells_below (base g : Nat) (w0 : World) (hg : base ≤ g) : ∀ (vs : List Value) (o : Nat) (W : World), Below base w0 W → Below base w0 (W.setCells g o vs)
 | [], _, _, h => h
 | v :: vs, o, W, h => setCells_below base g w0 hg vs (o + 1) _ (Below.setCell h (p := ⟨g, o, none⟩) hg v)
theorem setCells_other (g k : Nat) (hk : k ≠ g) : ∀ (vs : List Value) (o : Nat) (W : World), (W.setCells g o vs).heap[k]? = W.heap[k]?
 | [], _, _ => rfl
 | v :: vs, o, W => by
  show ((W.setCell ⟨g, o, none⟩ v).setCells g (o + 1) vs).heap[k]? = _
  rw [setCells_other g k hk vs]
  exact heap_setCell_other _ _ _ _ hk
/-- A row of spans from the beginning of block g on. -/
structure RowAt (W : World) (base g cap : Nat) (ys : List Spn) : Prop where
 hb : base ≤ g
 hcell : ∃ cur, W.heap[g]? = some (.cells cur 30 (0, 0)) ∧ cur.size = cap * 33
 hl : ys.length ≤ cap
 hm : cap ≤ maxLen
 hr : ∀ i (hi : i < ys.length), W.rangeAt g (i * 33) ys[i].cells
theorem RowAt.lt {W : World} {base g cap : Nat} {ys : List Spn} (h : RowAt W base g cap ys) : g < W.heap.size := by
 obtain ⟨cur, hc, _⟩ := h.hcell
 exact (Array.getElem?_eq_some_iff.1 hc).1
theorem RowAt.there {W : World} {base g cap : Nat} {ys : List Spn} (h : RowAt W base g cap ys) {o n : Nat} (ho : o + n ≤ cap * 33) : W.there g o n := fun j hj => by
 obtain ⟨cur, hc, hs⟩ := h.hcell
 refine ⟨?_, frozen_of_row _ _ _ _ _ hc⟩
 rw [cell_of_row _ _ _ _ _ _ hc]
 simp [show o + j < cur.size by omega]
theorem RowAt.below {W W1 : World} {base g cap : Nat} {ys : List Spn} (h : RowAt W base g cap ys) (hB : Below W.heap.size W W1) : RowAt W1 base g cap ys :=
 ⟨h.hb, by obtain ⟨cur, hc, hs⟩ := h.hcell; exact ⟨cur, (hB.block _ h.lt).trans hc, hs⟩, h.hl, h.hm, fun i hi => ra_below (h.hr i hi) hB⟩
theorem RowAt.set {W : World} {base g cap : Nat} {ys : List Spn} (h : RowAt W base g cap ys) {i : Nat} (hi : i < ys.length) (s : Spn) : RowAt (W.setCells g (i * 33) s.cells) base g cap (ys.set i s) := by
 have hcap : i * 33 + 33 ≤ cap * 33 := by have := h.hl; omega
 refine ⟨h.hb, ?_, by rw [List.length_set]; exact h.hl, h.hm, fun j hj => ?_⟩
 ·obtain ⟨cur, hc, hs⟩ := h.hcell
  obtain ⟨c, h1, h2⟩ := setCells_row g _ s.cells (i * 33) W cur hc
  exact ⟨c, h1, h2.trans hs⟩
 ·rw [List.length_set] at hj
  by_cases e : i = j
  ·subst e
   rw [List.getElem_set_self]
   exact World.rangeAt_setCells_same W g (i * 33) s.cells (h.there (by rw [s.cells_len]; exact hcap))
  ·rw [List.getElem_set_ne e]
   refine World.rangeAt_setCells_apart (h.hr j hj) g (i * 33) s.cells (.inr ?_)
   rw [Spn.cells_len, s.cells_len]
   omega
theorem RowAt.take {W : World} {base g cap : Nat} {ys : List Spn} (h : RowAt W base g cap ys) (m : Nat) : RowAt W base g cap (ys.take m) :=
 ⟨h.hb, h.hcell, by rw [List.length_take]; have := h.hl; omega, h.hm, fun i hi => by
  rw [List.length_take] at hi
  rw [List.getElem_take]
  exact h.hr i (by omega)⟩
/-- What lies behind the first m is written over. -/
theorem RowAt.wipe {W : World} {base g cap : Nat} {ys : List Spn} (h : RowAt W base g cap ys) {m : Nat} (hm : m ≤ ys.length) (vs : List Value) : RowAt (W.setCells g (m * 33) vs) base g cap (ys.take m) := by
 refine ⟨h.hb, ?_, by rw [List.length_take]; have := h.hl; omega, h.hm, fun j hj => ?_⟩
 ·obtain ⟨cur, hc, hs⟩ := h.hcell
  obtain ⟨c, h1, h2⟩ := setCells_row g _ vs (m * 33) W cur hc
  exact ⟨c, h1, h2.trans hs⟩
 ·rw [List.length_take] at hj
  rw [List.getElem_take]
  refine World.rangeAt_setCells_apart (h.hr j (by omega)) g (m * 33) vs (.inr (.inl ?_))
  rw [Spn.cells_len]
  omega
theorem RowAt.of_R {W : World} {base : Nat} {ok : Nat → Prop} {v : Value} {xs : List Spn} (h : kS.R 30 W base ok v xs) :
 (v = .slice none 0 0 ∧ xs = []) ∨ ∃ g cap, v = .slice (some ⟨g, 0, none⟩) xs.length cap ∧ RowAt W base g cap xs := by
 obtain ⟨_, inner, ⟨hl, ho⟩, hr⟩ := h
 rcases ho with ⟨e, hn⟩ | ⟨g, cap, cur, e, hb, hc, hlc, hm, hs, ht⟩
 ·exact .inl ⟨e, List.eq_nil_of_length_eq_zero hn⟩
 ·refine .inr ⟨g, cap, e, hb, ⟨cur, hc, hs⟩, hlc, hm, fun i hi j u hu => ?_⟩
  have hK : (inner.drop (i * 33)).take 33 = xs[i].cells := hr.2 i _ (List.getElem?_eq_getElem hi)
  have hj : j < 33 := by have := (List.getElem?_eq_some_iff.1 hu).1; rwa [Spn.cells_len] at this
  rw [← hK, List.getElem?_take, if_pos hj, List.getElem?_drop, ← ht, List.getElem?_take, if_pos (show i * 33 + j < xs.length * kS.sz by show i * 33 + j < xs.length * 33; omega)] at hu
  rw [cell_of_row _ _ _ _ _ _ hc, ← hu]
  simp
theorem RowAt.R {W : World} {base g cap : Nat} {ys : List Spn} (h : RowAt W base g cap ys) : kS.R 30 W base (fun _ => True) (.slice (some ⟨g, 0, none⟩) ys.length cap) ys := by
 obtain ⟨cur, hc, hs⟩ := h.hcell
 have hlen : (cur.toList.take (ys.length * 33)).length = ys.length * 33 := by
  have e : cur.toList.length = cap * 33 := by rw [← hs]; exact Array.length_toList
  rw [List.length_take, e]
  have := h.hl
  omega
 refine ⟨fun _ _ => trivial, cur.toList.take (ys.length * 33), ⟨hlen, .inr ⟨g, cap, cur, rfl, h.hb, hc, h.hl, h.hm, hs, rfl⟩⟩, ⟨hlen, fun j p hj => ?_⟩⟩
 obtain ⟨hj', e⟩ := List.getElem?_eq_some_iff.1 hj
 show _ = p.cells
 have hr := h.hr j hj'
 rw [e] at hr
 have hl2 : (j + 1) * 33 ≤ ys.length * 33 := Nat.mul_le_mul_right _ hj'
 apply List.ext_getElem?
 intro i
 show (((cur.toList.take (ys.length * 33)).drop (j * 33)).take 33)[i]? = _
 by_cases hi : i < 33
 ·rw [List.getElem?_take, if_pos hi, List.getElem?_drop, List.getElem?_take, if_pos (show j * 33 + i < ys.length * 33 by omega)]
  have hi' : i < p.cells.length := by rw [p.cells_len]; exact hi
  have := hr i _ (List.getElem?_eq_getElem hi')
  rw [cell_of_row _ _ _ _ _ _ hc] at this
  rw [List.getElem?_eq_getElem hi', ← this]
  simp
 ·rw [List.getElem?_eq_none (by simp; omega), List.getElem?_eq_none (by rw [p.cells_len]; omega)]

theorem A16.lit_l (a : A16) : a.l = [a.at 0, a.at 1, a.at 2, a.at 3, a.at 4, a.at 5, a.at 6, a.at 7, a.at 8, a.at 9, a.at 10, a.at 11, a.at 12, a.at 13, a.at 14, a.at 15] := by
 apply List.ext_getElem (by simp [a.h])
 intro i h1 h2
 have h : i < 16 := by rw [← a.h]; exact h1
 rw [← A16.at_eq h1]
 have : i = 0 ∨ i = 1 ∨ i = 2 ∨ i = 3 ∨ i = 4 ∨ i = 5 ∨ i = 6 ∨ i = 7 ∨ i = 8 ∨ i = 9 ∨ i = 10 ∨ i = 11 ∨ i = 12 ∨ i = 13 ∨ i = 14 ∨ i = 15 := by omega
 rcases this with rfl | rfl | rfl | rfl | rfl | rfl | rfl | rfl | rfl | rfl | rfl | rfl | rfl | rfl | rfl | rfl <;> rfl
def lit16 (a : A16) : List Value := [.int .u8 (a.at 0), .int .u8 (a.at 1), .int .u8 (a.at 2), .int .u8 (a.at 3), .int .u8 (a.at 4), .int .u8 (a.at 5), .int .u8 (a.at 6), .int .u8 (a.at 7), .int .u8 (a.at 8), .int .u8 (a.at 9), .int .u8 (a.at 10), .int .u8 (a.at 11), .int .u8 (a.at 12), .int .u8 (a.at 13), .int .u8 (a.at 14), .int .u8 (a.at 15)]
theorem A16.lit (a : A16) : a.cells = lit16 a := by rw [A16.cells, A16.lit_l a]; rfl
theorem Spn.lit (s : Spn) : s.arr = (.bool s.v6 :: (lit16 s.lo ++ lit16 s.hi)).toArray := by
 rw [Spn.arr, Spn.cells, A16.lit s.lo, A16.lit s.hi]
set_option maxRecDepth 100000 in
theorem buildS (s : Spn) (W : World) : (Instr.buildSlice 22 1 #[(0, .agg s.arr)]).run Try.prog W = .ok (.slice (some ⟨W.heap.size, 0, none⟩) 1 1) (W.alloc (.cells s.arr 30)) := by
 rw [Spn.lit]
 kernel_rfl
theorem exec_buildS {ρ : Operand → Value} {n m : Tmp} {ty : TypeId} {pos : String} {af : Array Edge} {g : Option (Nat × Bool)} (v : Spn) (h : ρ (.tmp m) = .agg v.arr) (W : World) :
 (execOp ρ ⟨some n, .buildSlice 22 1 #[(0, .tmp m)], ty, pos, af, g⟩).run Try.prog W = .ok (.value (.slice (some ⟨W.heap.size, 0, none⟩) 1 1)) (W.alloc (.cells v.arr 30)) := by
 have := buildS v W
 unfold execOp
 simp only [List.map_toArray, List.map_cons, List.map_nil, h, Sem.run_map, this]
 simp [Result.andThen, this]
/-- The built-in clear, from the i-th on. -/
theorem run_clearS {W : World} {base g cap : Nat} {ys : List Spn} (h : RowAt W base g cap ys) (i c : Nat) (hi : i < ys.length) (ty : TypeId) :
 ∃ vs, (Builtin.clear_ #[22] ty #[.slice (some ⟨g, i * 33, none⟩) (ys.length - i) c]).run Try.prog W = .ok (.tuple #[]) (W.setCells g (i * 33) vs) := by
 obtain ⟨info, hinfo, hz⟩ := Option.map_eq_some_iff.1 infoSz
 have hz0 : (zeroValue 30).run Try.prog W = .ok (.agg zS.arr) W := by kernel_rfl
 obtain ⟨vs, hvs⟩ : ∃ vs, vs = (Builtin.zeroCells zS.arr (ys.length - i)).toList := ⟨_, rfl⟩
 have hlen : vs.length = (ys.length - i) * 33 := by rw [hvs]; simp [Builtin.zeroCells, zS.arr_size]
 have hone : ∀ v ∈ vs, v.oneCell' = true := by
  intro v hv
  rw [hvs, Array.mem_toList_iff, Builtin.zeroCells, Array.mem_map] at hv
  obtain ⟨j, _, rfl⟩ := hv
  have hj : j % zS.arr.size < zS.arr.size := Nat.mod_lt _ (by rw [zS.arr_size]; decide)
  rw [getElem!_pos zS.arr (j % zS.arr.size) hj]
  exact (Array.all_eq_true_iff_forall_mem.1 zS.arr_one) _ (Array.getElem_mem hj)
 have hcap := h.hl
 have ht := h.there (o := i * 33) (n := vs.length) (by rw [hlen]; omega)
 have hst := run_storeCells_cells (P := Try.prog) g (i * 33) vs 0 W (fun j hj => (ht j hj).1) (fun j hj => (ht j hj).2) hone
 simp only [Nat.add_zero] at hst
 refine ⟨vs, ?_⟩
 obtain ⟨m, hm⟩ : ∃ m, ys.length - i = m + 1 := ⟨ys.length - i - 1, by omega⟩
 rw [hm] at hvs ⊢
 have hzc : (Value.agg zS.arr).cells = zS.arr := rfl
 simp [Builtin.clear_, run_underlying Try.underlying22, hz0, hzc, ← hvs, hst, Result.andThen]

end Go.Proofs.Ytdioagebkfdkhaa.Ad
end

section
set_option linter.unusedVariables false
namespace Go.Proofs.Ytdioagebkfdkhaa.Ad

/-- A byte, all of whose bits from the m-th on are set. -/
def orB (x m : Int) : Int := if m ≤ 0 then 255 else if 8 ≤ m then x else x - x % 2 ^ (8 - m).toNat + (2 ^ (8 - m).toNat - 1)
theorem orB_s : ∀ x : Nat, x < 256 → ∀ m : Nat, m < 9 → (0 ≤ orB (x : Int) (m : Int) ∧ orB (x : Int) (m : Int) < 256) ∧ ∀ k : Nat, k < 8 → bitB (orB (x : Int) (m : Int)) k = if k < m then bitB (x : Int) k else 1 := by decide +kernel
theorem orB_b {x : Int} (h : 0 ≤ x ∧ x < 256) (m : Int) : 0 ≤ orB x m ∧ orB x m < 256 := by
 obtain ⟨y, rfl⟩ := Int.eq_ofNat_of_zero_le h.1
 by_cases h0 : m ≤ 0
 ·unfold orB
  rw [if_pos h0]
  decide
 by_cases h8 : 8 ≤ m
 ·unfold orB
  rw [if_neg h0, if_pos h8]
  exact h
 obtain ⟨n, rfl⟩ := Int.eq_ofNat_of_zero_le (show 0 ≤ m by omega)
 exact (orB_s y (by omega) n (by omega)).1
/-- The last of a prefix's addresses. -/
def ofHi (p : Pfx) : A16 := mk16 (fun i => if i < wid p.v6 then orB (p.a.at i) (p.n - 8 * i) else p.a.at i) (fun i => by
 split
 ·exact orB_b (p.a.at_b i) _
 ·exact p.a.at_b i)
def ofP (p : Pfx) : Spn := ⟨p.v6, p.a, ofHi p⟩
def fitsP (v6 : Bool) (a hi : A16) (k : Nat) : Bool := rightB ⟨v6, a, k⟩ && decide (lexC (ofHi ⟨v6, a, k⟩).l hi.l ≤ 0)
/-- The span that comes with an answer. -/
def ofQ (p : Pfx) : Spn := if rightB p then ofP p else zS
def lowP (f : Nat → Bool) : Nat → Nat → Nat → Nat
 | 0, lo, _ => lo
 | k + 1, lo, hi => if lo < hi then (if f ((lo + hi) / 2) then lowP f k lo ((lo + hi) / 2) else lowP f k ((lo + hi) / 2 + 1) hi) else lo
def greatN (v6 : Bool) (a hi : A16) : Nat := lowP (fitsP v6 a hi) (8 * wid v6) 0 (8 * wid v6)
def greatP (v6 : Bool) (a hi : A16) : Spn := ofQ ⟨v6, a, greatN v6 a hi⟩
theorem lowP_fuel (f : Nat → Bool) : ∀ (k lo hi : Nat), hi - lo ≤ k → lowP f (k + 1) lo hi = lowP f k lo hi
 | 0, lo, hi, h => by
  show (if lo < hi then _ else lo) = lo
  rw [if_neg (by omega)]
 | k + 1, lo, hi, h => by
  show (if lo < hi then _ else lo) = (if lo < hi then _ else lo)
  by_cases hl : lo < hi
  ·rw [if_pos hl, if_pos hl, lowP_fuel f k _ _ (by omega), lowP_fuel f k _ _ (by omega)]
  ·rw [if_neg hl, if_neg hl]
theorem lowP_step (f : Nat → Bool) (k lo hi : Nat) (h : hi - lo ≤ k) : lowP f k lo hi = if lo < hi then (if f ((lo + hi) / 2) then lowP f k lo ((lo + hi) / 2) else lowP f k ((lo + hi) / 2 + 1) hi) else lo := by
 by_cases hl : lo < hi
 ·rw [← lowP_fuel f k lo hi h, ← lowP_fuel f k lo ((lo + hi) / 2) (by omega), ← lowP_fuel f k ((lo + hi) / 2 + 1) hi (by omega)]
  rw [lowP_fuel f k lo ((lo + hi) / 2) (by omega), lowP_fuel f k ((lo + hi) / 2 + 1) hi (by omega)]
  rfl
 ·rw [if_neg hl]
  cases k with
  | zero => rfl
  | succ k =>
   show (if lo < hi then _ else lo) = lo
   rw [if_neg hl]
/-- The spans of the greatest prefixes of what goes on at an address (where there is one), if there are at most so many. -/
def partsN : Nat → Bool → A16 → A16 × Bool → Option (List Spn)
 | 0, _, hi, n => if n.2 && decide (lexC n.1.l hi.l ≤ 0) then none else some []
 | k + 1, v6, hi, n => if n.2 && decide (lexC n.1.l hi.l ≤ 0) then (partsN k v6 hi (nextP v6 (greatP v6 n.1 hi).hi)).map (greatP v6 n.1 hi :: ·) else some []
/-- How many bits all addresses of a span have in common. -/
def longN (s : Spn) : Nat → Nat → Nat
 | 0, n => n
 | k + 1, n => if s.lo.bit n = s.hi.bit n then longN s k (n + 1) else n
def longP (s : Spn) : Nat := longN s (8 * wid s.v6) 0
end Go.Proofs.Ytdioagebkfdkhaa.Ad
end

section
set_option linter.unusedVariables false
set_option linter.unusedSimpArgs false
namespace Go.Proofs.Ytdioagebkfdkhaa.Ad
open Go.RowKit Go.Proofs.YtdioagebkfdkhaaW.PrintWords Go.Proofs.YtdioagebkfdkhaaW.PrintLast Go.Proofs.YtdioagebkfdkhaaW.PrintMore Go.Proofs.Ytdioagebkfdkhaa.PT

set_option maxHeartbeats 1000000 in
set_option maxRecDepth 100000 in
theorem clone_walk (A : Option Addr) (c : Nat) (l : List Spn) (w : World) (h : kS.C w A l.length l) (hl : l.length * 33 ≤ 140737488351232) :
 Calls Try.prog 24 #[.slice A l.length c] w fun e w' => ∃ v, e = .returned v ∧ kS.R 30 w' w.heap.size (fun _ => True) v l ∧ Below w.heap.size w w' := by
 cases A with
 | none =>
  have hl0 : l = [] := by
   cases l with
   | nil => rfl
   | cons x xs => obtain ⟨ad, e, _⟩ := h.2.2 (by simp); cases e
  subst hl0
  clear h
  have hq : ∀ (c : Nat) (w : World), (binOp .eql 22 (.slice none 0 c) (.slice none 0 0)).run Try.prog w = .ok (.bool true) w := fun _ _ => rfl
  go_enter Try.func24, Try.ntmps24
  go_wp2
  go_ret
  exact ⟨_, rfl, Kd.R_nil _ _ _ _ _, Below.refl _ _⟩
 | some ad =>
  have HO := R_none w w.heap.size (Nat.le_refl _)
  have HB := (show Below w.heap.size w (w.alloc (.cells #[] 30)) from (Below.refl _ _).alloc (Nat.le_refl _) _)
  have HC := Kd.C_below h HB
  have hs := HB.size
  clear h
  have hq : ∀ (n c : Nat) (w : World), (binOp .eql 22 (.slice (some ad) n c) (.slice none 0 0)).run Try.prog w = .ok (.bool false) w := fun _ _ _ => rfl
  go_enter Try.func24, Try.ntmps24
  go_wp2_with ((with_reducible refine at_dst 7 ?_); refine appRowsL (w0 := w) w.heap.size rfl (.tmp 5) (.tmp 6) rfl (.slice (some ⟨w.heap.size, 0, none⟩) 0 0) [] l (some ad) l.length c rfl rfl HO HC HB hs (by first | omega | (simp; omega)) ?_; intro v1 w1 hR hB hg hat; rw [List.nil_append] at hR; obtain ⟨A9, c9, e9⟩ := Kd.R_slice hR; subst e9)
  go_ret
  exact ⟨_, rfl, hR, hB⟩

def firstNo (xs : List Spn) : Nat := (xs.takeWhile rightS).length
theorem firstNo_le (xs : List Spn) : firstNo xs ≤ xs.length := by
 unfold firstNo
 exact (List.takeWhile_prefix _).length_le
theorem firstNo_of : ∀ (xs : List Spn) (k : Nat), k ≤ xs.length → (∀ i (h : i < xs.length), i < k → rightS xs[i] = true) → (∀ h : k < xs.length, rightS xs[k] = false) → firstNo xs = k
 | [], k, h, _, _ => by simp at h; subst h; rfl
 | x :: xs, 0, _, _, h2 => by
  have := h2 (by simp)
  simp at this
  simp [firstNo, List.takeWhile_cons, this]
 | x :: xs, k + 1, h, h1, h2 => by
  have h0 := h1 0 (by simp) (by omega)
  simp at h0
  have ih := firstNo_of xs k (by simpa using h) (fun i hi hk => h1 (i + 1) (by simp; omega) (by omega)) (fun hk => h2 (by simp; omega))
  unfold firstNo at ih ⊢
  rw [List.takeWhile_cons, if_pos h0, List.length_cons, ih]

set_option maxHeartbeats 2000000 in
set_option maxRecDepth 100000 in
theorem indexFunc_walk (base g cap : Nat) (xs : List Spn) (w : World) (h : RowAt w base g cap xs) (hl : xs.length ≤ 4000000000) :
 Calls Try.prog 38 #[.slice (some ⟨g, 0, none⟩) xs.length cap, .func (.func 25) #[] #[]] w fun e w' => e = .returned (.int .i64 (if firstNo xs = xs.length then -1 else (firstNo xs : Nat))) ∧ Gw w w' := by
 obtain ⟨r, hr⟩ : ∃ r : Int, r = if firstNo xs = xs.length then -1 else ((firstNo xs : Nat) : Int) := ⟨_, rfl⟩
 rw [← hr]
 have HR := Lib.hid hr
 have HA := Lib.hid h
 clear hr h
 go_enter Try.func38, Try.ntmps38
 go_wp2
 go_loopw [8] (fun iv wr => ∃ k : Nat, k ≤ xs.length ∧ iv = .int .i64 k ∧ Hid ((∀ i (h : i < xs.length), i < k → rightS xs[i] = true) ∧ Gw w wr)) (fun iv _ => xs.length - (intOf iv).toNat)
 case atStart => exact ⟨0, Nat.zero_le _, rfl, Lib.hid ⟨fun i _ h => by omega, Gw.refl _⟩⟩
 case round =>
  obtain ⟨k, hk, rfl, H⟩ := hrel
  by_cases hlt : k < xs.length
  ·have hd1 := eq_true (show (k : Int) < (xs.length : Int) by omega)
   have hd2 : decide ((k : Int) < (xs.length : Int)) = true := decide_eq_true (by omega)
   have hd3 : decide (k < xs.length) = true := decide_eq_true hlt
   obtain ⟨s, hs⟩ : ∃ s, s = xs[k] := ⟨_, rfl⟩
   have hq := (HA.out.below H.out.2.below).hr k hlt
   rw [← hs] at hq
   have Q := Lib.hid hq
   have HS := Lib.hid hs
   clear hq hs
   obtain ⟨b, hb⟩ : ∃ b, b = rightS s := ⟨_, rfl⟩
   have hcall : ∀ W, Calls Try.prog 25 #[.agg s.arr] W fun e w' => e = .returned (.bool (!b)) ∧ Gw W w' := fun W => by rw [hb]; exact join1_walk s W
   have HB := Lib.hid hb
   clear hb
   cases b
   ·have hres : r = (k : Int) := by
     have e := firstNo_of xs k hk H.out.1 (fun _ => by rw [← HS.out, ← HB.out])
     rw [HR.out, e, if_neg (by omega)]
    subst hres
    go_wp2_with (first
     | ((with_reducible refine at_dst 15 ?_); refine loadS s g (k * 33) rfl Q.out ?_)
     | (refine (hcall _).mono ?_; rintro e w1 ⟨rfl, hB⟩))
    try rw [Exit.noGoto_ret]
    go_ret
    exact ⟨rfl, H.out.2.trans hB⟩
   ·go_wp2_with (first
     | ((with_reducible refine at_dst 15 ?_); refine loadS s g (k * 33) rfl Q.out ?_)
     | (refine (hcall _).mono ?_; rintro e w1 ⟨rfl, hB⟩))
    go_roundw
    case rel => exact ⟨k + 1, by omega, by go_num, Lib.hid ⟨fun i h hi => by
     by_cases e : i = k
     ·subst e; rw [← HS.out, ← HB.out]
     ·exact H.out.1 i h (by omega), H.out.2.trans hB⟩⟩
    case measure => simp [intOf]; omega
  ·have hkn : k = xs.length := by omega
   subst hkn
   have hd1 := eq_false (show ¬ (xs.length : Int) < (xs.length : Int) by omega)
   have hd2 : decide ((xs.length : Int) < (xs.length : Int)) = false := decide_eq_false (by omega)
   have hd3 : decide (xs.length < xs.length) = false := decide_eq_false (by omega)
   have hres : r = -1 := by
    have e := firstNo_of xs xs.length (Nat.le_refl _) H.out.1 (fun h => absurd h (by omega))
    rw [HR.out, e, if_pos rfl]
   subst hres
   go_wp2
   try rw [Exit.noGoto_ret]
   go_ret
   exact ⟨rfl, H.out.2⟩

/-- A variable that is a span: made, and laid. -/
theorem alloc_storeS {ops : Array Oper} {rest : List Oper} {a : Act} {W : World} {Q : Exit → Act → World → Prop} {n x : Tmp} {ty ty' : TypeId} {pos pos' : String} {af af' : Array Edge} (v : Spn)
 (hx : (a.put (some n) (.pointer (some ⟨W.heap.size, 0, none⟩))).eval (.tmp x) = .agg v.arr) (hn : (a.put (some n) (.pointer (some ⟨W.heap.size, 0, none⟩))).eval (.tmp n) = .pointer (some ⟨W.heap.size, 0, none⟩))
 (h : wpList Try.prog ops Q rest (a.put (some n) (.pointer (some ⟨W.heap.size, 0, none⟩))) (W.alloc (.cells v.arr 30))) :
 wpList Try.prog ops Q (⟨some n, .alloc 30, ty, pos, af, none⟩ :: ⟨none, .store 30 (.tmp n) (.tmp x), ty', pos', af', none⟩ :: rest) a W := by
 refine valN rfl (v := .pointer (some ⟨W.heap.size, 0, none⟩)) (w1 := W.alloc (.cells zS.arr 30)) (by kernel_rfl) ?_
 refine wpList_store_row rfl 30 (.tmp n) (.tmp x) rfl W.heap.size v.arr hn hx 30 zS.arr (Has.new W zS.arr _) (by rw [v.arr_size]; exact infoS) (by rw [v.arr_size, zS.arr_size]) v.arr_one ?_
 rw [setRow_alloc]
 exact h
/-- A span stored into a row. -/
theorem storeS {ops : Array Oper} {rest : List Oper} {a : Act} {W : World} {Q : Exit → Act → World → Prop} {x y : Tmp} {ty : TypeId} {pos : String} {af : Array Edge} {base g cap : Nat} {ys : List Spn} (H : RowAt W base g cap ys) (i : Nat) (hi : i < ys.length) (v : Spn)
 (hx : a.eval (.tmp x) = .pointer (some ⟨g, i * 33, none⟩)) (hy : a.eval (.tmp y) = .agg v.arr) (h : wpList Try.prog ops Q rest (a.put none undef) (W.setCells g (i * 33) v.cells)) :
 wpList Try.prog ops Q (⟨none, .store 30 (.tmp x) (.tmp y), ty, pos, af, none⟩ :: rest) a W :=
 wpList_store_mid rfl 30 (.tmp x) (.tmp y) rfl g (i * 33) v.arr hx hy (H.there (by rw [v.arr_size]; have := H.hl; omega)) (by rw [v.arr_size]; exact infoS) v.arr_one h

/-- What holds in DeleteFunc: i have been kept of the first j. -/
def DelI (w : World) (base g cap : Nat) (xs : List Spn) (i j : Nat) (W : World) : Prop :=
 ∃ ys, ys.length = xs.length ∧ RowAt W base g cap ys ∧ ys.take i = (xs.take j).filter rightS ∧ ys.drop j = xs.drop j ∧ Below base w W
theorem tw_filter (xs : List Spn) : (xs.take (firstNo xs)).filter rightS = xs.take (firstNo xs) := by
 have e : xs.take (firstNo xs) = xs.takeWhile rightS := by
  have h := List.takeWhile_prefix (l := xs) rightS
  obtain ⟨t, ht⟩ := h
  have : xs.take (firstNo xs) = (xs.takeWhile rightS ++ t).take (firstNo xs) := by rw [ht]
  rw [this, firstNo, List.take_left']
  rfl
 rw [e, List.filter_eq_self]
 intro a ha
 exact List.all_eq_true.1 (List.all_takeWhile) a ha
theorem firstNo_at : ∀ (xs : List Spn) (h : firstNo xs < xs.length), rightS xs[firstNo xs] = false
 | [], h => by simp [firstNo] at h
 | x :: xs, h => by
  cases hx : rightS x
  ·have e : firstNo (x :: xs) = 0 := by simp [firstNo, List.takeWhile_cons, hx]
   simp only [e]
   exact hx
  ·have e : firstNo (x :: xs) = firstNo xs + 1 := by simp [firstNo, List.takeWhile_cons, hx]
   simp only [e]
   have := firstNo_at xs (by rw [e] at h; simpa using h)
   exact this
theorem filter_take_succ (xs : List Spn) (j : Nat) (h : j < xs.length) : (xs.take (j + 1)).filter rightS = (xs.take j).filter rightS ++ (if rightS xs[j] = true then [xs[j]] else []) := by
 rw [List.take_succ_eq_append_getElem h, List.filter_append]
 congr 1
 cases hx : rightS xs[j] <;> simp [hx]
set_option maxHeartbeats 4000000 in
set_option maxRecDepth 100000 in
theorem deleteFunc_walk (base g cap : Nat) (xs : List Spn) (w : World) (h : RowAt w base g cap xs) (hbase : base ≤ w.heap.size) (hl : xs.length ≤ 4000000000) :
 Calls Try.prog 23 #[.slice (some ⟨g, 0, none⟩) xs.length cap, .func (.func 25) #[] #[]] w fun e w' =>
  ∃ v, e = .returned v ∧ kS.R 30 w' base (fun _ => True) v (xs.filter rightS) ∧ Below base w w' := by
 have HA := Lib.hid h
 have hcap := h.hl
 have hif := indexFunc_walk base g cap xs w h hl
 obtain ⟨k, hk⟩ : ∃ k, k = firstNo xs := ⟨_, rfl⟩
 have hkl : k ≤ xs.length := by rw [hk]; exact firstNo_le xs
 rw [← hk] at hif
 have HK := Lib.hid hk
 clear h hk
 have hic : ∀ (m : Nat), m < xs.length → ∀ W, (Instr.slice 22 (.slice (some ⟨g, 0, none⟩) xs.length cap) (some (.int .i64 (m : Int))) none none).run Try.prog W = .ok (.slice (some ⟨g, m * 33, none⟩) (xs.length - m) (cap - m)) W := fun m hm W => by
  obtain ⟨i, hi, hz⟩ := Option.map_eq_some_iff.1 infoSz
  have := cut_from (P := Try.prog) 22 30 .i64 Try.underlying22 hi 33 (congrArg (fun x => x.2.1) hz) (some ⟨g, 0, none⟩) xs.length cap (m : Int) (by omega) (by omega) W
  rw [Int.toNat_natCast, if_neg (by omega)] at this
  have e : (⟨g, 0, none⟩ : Addr).add (m * 33) = ⟨g, m * 33, none⟩ := by rw [Addr.add_mid, Nat.zero_add]
  rw [Option.map_some, e] at this
  exact this
 by_cases hkn : k = xs.length
 ·rw [if_pos hkn] at hif
  clear hic
  go_enter Try.func23, Try.ntmps23
  go_wp2_with (refine hif.mono ?_; rintro e w1 ⟨rfl, hB⟩)
  go_ret
  have hall : xs.filter rightS = xs := by
   have := tw_filter xs
   rwa [← HK.out, hkn, List.take_length] at this
  rw [hall]
  exact ⟨_, rfl, (HA.out.below hB.below).R, hB.below.mono hbase⟩
 ·rw [if_neg hkn] at hif
  have hk1 := eq_false (show ¬ (k : Int) = -1 by omega)
  have hk2 : decide ((k : Int) = -1) = false := decide_eq_false (by omega)
  have hk3 : ((k : Int) == -1) = false := by first | (simp; done) | (simp; omega)
  have hkw : Go.RowKit.wrap64 ((k : Int) + 1) = ((k + 1 : Nat) : Int) := by unfold Go.RowKit.wrap64; omega
  have HIC := Lib.hid hic
  clear hic
  go_enter Try.func23, Try.ntmps23
  go_wp2_with (refine hif.mono ?_; rintro e w1 ⟨rfl, hB⟩)
  have HD : Hid (DelI w base g cap xs k (k + 1) w1) := Lib.hid ⟨xs, rfl, HA.out.below hB.below, by
   have hlt : k < xs.length := by omega
   have hf := firstNo_at xs (by rw [← HK.out]; exact hlt)
   have hf' : rightS xs[k] = false := by have := HK.out; subst this; exact hf
   rw [filter_take_succ xs k hlt, hf']
   have := tw_filter xs
   rw [← HK.out] at this
   rw [this]
   simp, rfl, hB.below.mono hbase⟩
  clear hB hif hk1 hk2 hk3 hkw
  go_loopw [5, 6] (fun iv jv wr => ∃ i j : Nat, i < j ∧ j ≤ xs.length ∧ iv = .int .i64 i ∧ jv = .int .i64 j ∧ Hid (DelI w base g cap xs i j wr)) (fun _ jv _ => xs.length - (intOf jv).toNat)
  case atStart => exact ⟨k, k + 1, by omega, by omega, rfl, rfl, HD⟩
  case round =>
   obtain ⟨i, j, hij, hj, rfl, rfl, H⟩ := hrel
   clear HD HA
   by_cases hlt : j < xs.length
   ·have hd1 := eq_true (show (j : Int) < (xs.length : Int) by omega)
    have hd2 : decide ((j : Int) < (xs.length : Int)) = true := decide_eq_true (by omega)
    have hd3 : decide (j < xs.length) = true := decide_eq_true hlt
    have hd4 := eq_true (show (i : Int) < (xs.length : Int) by omega)
    obtain ⟨s, hs⟩ : ∃ s, s = xs[j] := ⟨_, rfl⟩
    obtain ⟨ys, hyl, HR, htk, hdr, hBw⟩ := H.out
    have hys : ys[j]'(by omega) = s := by
     have e : (ys.drop j)[0]? = (xs.drop j)[0]? := by rw [hdr]
     rw [List.getElem?_drop, List.getElem?_drop, Nat.add_zero, List.getElem?_eq_getElem (by omega), List.getElem?_eq_getElem hlt] at e
     rw [hs]
     exact Option.some.inj e
    have hq := HR.hr j (by omega)
    rw [hys] at hq
    have Q := Lib.hid hq
    have HS := Lib.hid hs
    have hbs : base ≤ wr.heap.size := Nat.le_trans HR.hb (Nat.le_of_lt HR.lt)
    have HY := Lib.hid (And.intro hyl (And.intro HR (And.intro htk (And.intro hdr hBw))))
    have HN := Lib.hid (Has.new wr s.arr 30)
    clear hq hs hys hyl HR htk hdr hBw H
    obtain ⟨b, hb⟩ : ∃ b, b = rightS s := ⟨_, rfl⟩
    have hcall : ∀ W, Calls Try.prog 25 #[.agg s.arr] W fun e w' => e = .returned (.bool (!b)) ∧ Gw W w' := fun W => by rw [hb]; exact join1_walk s W
    have HBb := Lib.hid hb
    have HB2 := Lib.hid (show Below wr.heap.size wr (wr.alloc (.cells s.arr 30)) from (Below.refl _ _).alloc (Nat.le_refl _) _)
    clear hb
    go_wp2_with (first
     | ((with_reducible refine at_dst 25 ?_); refine loadS s g (j * 33) rfl Q.out ?_)
     | ((with_reducible refine at_dst 7 ?_); refine alloc_storeS s rfl rfl ?_; generalize hg : wr.heap.size = gv at HN ⊢; generalize hw : wr.alloc (.cells s.arr 30) = w2 at HN HB2 ⊢; clear hw)
     | ((with_reducible refine at_dst 27 ?_); refine loadS s gv 0 rfl HN.out.rs ?_))
    refine (hcall _).mono ?_
    rintro e w3 ⟨rfl, hB⟩
    have HN3 := Lib.hid (HN.out.below hB.below)
    have HB3 := Lib.hid (HB2.out.trans (hB.below.mono HB2.out.size))
    have HR3 := Lib.hid (HY.out.2.1.below HB3.out)
    have hiy : i < ys.length := by rw [HY.out.1]; omega
    clear hB HN HB2 hcall
    cases b
    ·go_wp2
     go_roundw
     case rel => exact ⟨i, j + 1, by omega, by omega, rfl, by go_num, Lib.hid ⟨ys, HY.out.1, HR3.out, by
      rw [filter_take_succ xs j hlt, ← HS.out, ← HBb.out, HY.out.2.2.1]
      simp, by
      have := congrArg (List.drop 1) HY.out.2.2.2.1
      rwa [List.drop_drop, List.drop_drop] at this, HY.out.2.2.2.2.trans (HB3.out.mono (by omega))⟩⟩
     case measure => simp [intOf]; omega
    ·go_wp2_with (first
      | ((with_reducible refine at_dst 32 ?_); refine loadS s gv 0 rfl HN3.out.rs ?_)
      | (refine storeS HR3.out i hiy s rfl rfl ?_))
     go_roundw
     case rel => exact ⟨i + 1, j + 1, by omega, by omega, by go_num, by go_num, Lib.hid ⟨ys.set i s, by rw [List.length_set]; exact HY.out.1, HR3.out.set hiy s, by
      rw [filter_take_succ xs j hlt, ← HS.out, ← HBb.out, if_pos rfl, ← HY.out.2.2.1, List.take_succ_eq_append_getElem (by rw [List.length_set]; exact hiy), List.getElem_set_self, List.take_set_of_le (Nat.le_refl _)], by
      rw [List.drop_set_of_lt (by omega)]
      have := congrArg (List.drop 1) HY.out.2.2.2.1
      rwa [List.drop_drop, List.drop_drop] at this, setCells_below base g w HR3.out.hb _ _ _ (HY.out.2.2.2.2.trans (HB3.out.mono (by omega)))⟩⟩
     case measure => simp [intOf]; omega
   ·have hjn : j = xs.length := by omega
    subst hjn
    have hd1 := eq_false (show ¬ (xs.length : Int) < (xs.length : Int) by omega)
    have hd2 : decide ((xs.length : Int) < (xs.length : Int)) = false := decide_eq_false (by omega)
    have hd3 : decide (xs.length < xs.length) = false := decide_eq_false (by omega)
    obtain ⟨ys, hyl, HR, htk, hdr, hBw⟩ := H.out
    have hcl : ∃ vs, ∀ ty, (Builtin.clear_ #[22] ty #[.slice (some ⟨g, i * 33, none⟩) (xs.length - i) (cap - i)]).run Try.prog wr = .ok (.tuple #[]) (wr.setCells g (i * 33) vs) := by
     obtain ⟨vs, hvs⟩ := run_clearS HR i (cap - i) (by omega) 0
     rw [hyl] at hvs
     exact ⟨vs, fun ty => by rw [← hvs]; rfl⟩
    obtain ⟨vs, hcl⟩ := hcl
    have hsl := HIC.out i (by omega)
    have htks := takeS (some ⟨g, 0, none⟩) cap xs i (by omega) hcap
    have HF : Hid (kS.R 30 (wr.setCells g (i * 33) vs) base (fun _ => True) (.slice (some ⟨g, 0, none⟩) i cap) (xs.filter rightS) ∧ Below base w (wr.setCells g (i * 33) vs)) := by
     refine Lib.hid ⟨?_, setCells_below base g w HR.hb _ _ _ hBw⟩
     have := (HR.wipe (m := i) (by omega) vs).R
     rw [List.length_take, Nat.min_eq_left (by omega), htk, List.take_length] at this
     exact this
    clear HR htk hdr hBw H
    go_wp2_with (simp only [hcl])
    go_ret
    exact ⟨_, rfl, HF.out.1, HF.out.2⟩

end Go.Proofs.Ytdioagebkfdkhaa.Ad
end

section
set_option linter.unusedVariables false
set_option linter.unusedSimpArgs false
namespace Go.Proofs.Ytdioagebkfdkhaa.Ad
open Go.RowKit Go.Proofs.YtdioagebkfdkhaaW.PrintWords Go.Proofs.YtdioagebkfdkhaaW.PrintLast Go.Proofs.YtdioagebkfdkhaaW.PrintMore Go.Proofs.Ytdioagebkfdkhaa.PT

/-- A span built of its parts. -/
theorem buildSpn (v6 : Bool) (a b : A16) (W : World) : (Instr.build 30 #[(0, .bool v6), (1, .agg a.arr), (2, .agg b.arr)]).run Try.prog W = .ok (.agg (⟨v6, a, b⟩ : Spn).arr) W := by
 rw [Spn.lit, A16.arr, A16.arr, A16.lit, A16.lit]
 kernel_rfl

theorem exec_buildSpn {ρ : Operand → Value} {n x y z : Tmp} {ty : TypeId} {pos : String} {af : Array Edge} {g : Option (Nat × Bool)} (v6 : Bool) (a b : A16) (h1 : ρ (.tmp x) = .bool v6) (h2 : ρ (.tmp y) = .agg a.arr) (h3 : ρ (.tmp z) = .agg b.arr) (W : World) :
 (execOp ρ ⟨some n, .build 30 #[(0, .tmp x), (1, .tmp y), (2, .tmp z)], ty, pos, af, g⟩).run Try.prog W = .ok (.value (.agg (⟨v6, a, b⟩ : Spn).arr)) W := by
 have := buildSpn v6 a b W
 unfold execOp
 simp only [List.map_toArray, List.map_cons, List.map_nil, h1, h2, h3, Sem.run_map, this]
 simp [Result.andThen, this]

theorem storeRow_step {ops : Array Oper} {o : Oper} {a : Act} {Kc : Act → World → Prop} {Q : Exit → Act → World → Prop} {W : World} (hw : Region.wanted o (yielded ops a.tmps) = true) (p x : Tmp) (ho : o.op = .store 30 (.tmp p) (.tmp x)) (g : Nat) (v : Spn)
 (hp : a.eval (.tmp p) = .pointer (some ⟨g, 0, none⟩)) (hx : a.eval (.tmp x) = .agg v.arr) (h0 : Has W g zS.arr 30) (h : Kc (a.put o.dst undef) (W.setRow g v.arr)) :
 if Region.wanted o (yielded ops a.tmps) = true then Oper.wp Try.prog o a W Kc Q else Kc (a.put o.dst undef) W := by
 rw [if_pos hw]
 exact wp_store_row 30 (.tmp p) (.tmp x) ho g v.arr hp hx 30 zS.arr h0 (by rw [v.arr_size]; exact infoS) (by rw [v.arr_size, zS.arr_size]) v.arr_one h
theorem Has.setRow_other {W : World} {g k : Nat} {cs : Array Value} {t : TypeId} (h : Has W k cs t) (hne : k ≠ g) (c : Array Value) : Has (W.setRow g c) k cs t := by
 unfold Has at *
 unfold World.setRow
 show (W.heap.modify g _)[k]? = _
 rw [Array.getElem?_modify, if_neg (fun e => hne e.symm)]
 exact h
theorem Has.setRow_same {W : World} {g : Nat} {c0 c : Array Value} {t : TypeId} (h : Has W g c0 t) : Has (W.setRow g c) g c t := setRow_heap W _ _ _ _ _ h
end Go.Proofs.Ytdioagebkfdkhaa.Ad
end

section
set_option linter.unusedVariables false
set_option linter.unusedSimpArgs false
namespace Go.Proofs.Ytdioagebkfdkhaa.Ad
open Go.RowKit Go.Proofs.YtdioagebkfdkhaaW.PrintWords Go.Proofs.YtdioagebkfdkhaaW.PrintLast Go.Proofs.YtdioagebkfdkhaaW.PrintMore Go.Proofs.Ytdioagebkfdkhaa.PT

/-- The prefix's block, the answer's block. -/
def OfS (w : World) (p : Pfx) (W : World) : Prop := Has W w.heap.size p.arr 37 ∧ Has W (w.heap.size + 1) zS.arr 30 ∧ Below w.heap.size w W
theorem OfS.new (w : World) (p : Pfx) : OfS w p ((w.alloc (.cells p.arr 37)).alloc (.cells zS.arr 30)) := ⟨heap_alloc2_old _ _ _, heap_alloc2_new _ _ _, ((Below.refl _ _).alloc (Nat.le_refl _) _).alloc (by simp) _⟩
theorem OfS.step {w W W1 : World} {p : Pfx} (h : OfS w p W) (hB : Below W.heap.size W W1) : OfS w p W1 := ⟨h.1.below hB, h.2.1.below hB, h.2.2.trans (hB.mono h.2.2.size)⟩
/-- And a span in a block of its own. -/
def OfG (w : World) (p : Pfx) (g : Nat) (s : Spn) (W : World) : Prop := OfS w p W ∧ Has W g s.arr 30 ∧ w.heap.size + 1 < g
theorem OfG.step {w W W1 : World} {p : Pfx} {g : Nat} {s : Spn} (h : OfG w p g s W) (hB : Below W.heap.size W W1) : OfG w p g s W1 := ⟨h.1.step hB, h.2.1.below hB, h.2.2⟩
theorem OfG.new {w W : World} {p : Pfx} (s : Spn) (h : OfS w p W) : OfG w p W.heap.size s (W.alloc (.cells s.arr 30)) :=
 ⟨h.step ((Below.refl _ _).alloc (Nat.le_refl _) _), Has.new W s.arr _, h.2.1.lt⟩
theorem OfG.set {w W : World} {p : Pfx} {g : Nat} {s s' : Spn} {j : Nat} {u : Value} (h : OfG w p g s W) (e : s.arr.setIfInBounds j u = s'.arr) : OfG w p g s' (W.setCell ⟨g, j, none⟩ u) :=
 ⟨⟨h.1.1.far (by have := h.2.2; show w.heap.size ≠ g; omega) _, h.1.2.1.far (by have := h.2.2; show w.heap.size + 1 ≠ g; omega) _, Below.setCell h.1.2.2 (p := ⟨g, j, none⟩) (by have := h.2.2; show w.heap.size ≤ g; omega) _⟩, by rw [← e]; exact heap_setCell_same _ _ _ _ _ _ h.2.1, h.2.2⟩
theorem Spn.set_hi (s : Spn) {i : Nat} (hi : i < 16) (x : Int) (hx : 0 ≤ x ∧ x < 256) : s.arr.setIfInBounds (17 + i) (.int .u8 x) = (⟨s.v6, s.lo, s.hi.set i x hx⟩ : Spn).arr := by
 simp only [Spn.arr, Spn.cells, List.setIfInBounds_toArray]
 congr 1
 rw [show 17 + i = (16 + i) + 1 by omega, List.set_cons_succ, List.set_append_right _ _ (by rw [A16.cells_len]; omega)]
 congr 2
 rw [A16.cells_len, show 16 + i - 16 = i by omega]
 simp only [A16.cells, A16.set, List.map_set]
theorem Spn.arr_hi (s : Spn) {i : Nat} (hi : i < 16) : s.arr[17 + i]? = some (.int .u8 (s.hi.at i)) := by
 simp only [Spn.arr, Spn.cells, List.getElem?_toArray]
 rw [show 17 + i = (16 + i) + 1 by omega, List.getElem?_cons_succ, List.getElem?_append_right (by rw [A16.cells_len]; omega), A16.cells_len, show 16 + i - 16 = i by omega]
 have := s.hi.arr_at hi
 simpa [A16.arr] using this
/-- The span of which the first k bytes of the end are done. -/
def ofTo (p : Pfx) (k : Nat) : Spn := ⟨p.v6, p.a, mk16 (fun i => if i < k then orB (p.a.at i) (p.n - 8 * i) else p.a.at i) (fun i => by
 split
 ·exact orB_b (p.a.at_b i) _
 ·exact p.a.at_b i)⟩
theorem ofTo_0 (p : Pfx) : ofTo p 0 = ⟨p.v6, p.a, p.a⟩ := by
 unfold ofTo
 congr 1
 exact A16.ext_at fun i hi => by rw [mk16_at hi, if_neg (by omega)]
theorem ofTo_at (p : Pfx) {k : Nat} (h : k < 16) : (ofTo p k).hi.at k = p.a.at k := by
 unfold ofTo
 rw [mk16_at h, if_neg (by omega)]
theorem ofTo_succ (p : Pfx) {k : Nat} (h : k < 16) (x : Int) (hx : 0 ≤ x ∧ x < 256) (e : x = orB (p.a.at k) (p.n - 8 * k)) : (⟨(ofTo p k).v6, (ofTo p k).lo, (ofTo p k).hi.set k x hx⟩ : Spn) = ofTo p (k + 1) := by
 unfold ofTo
 congr 1
 refine A16.ext_at fun i hi => ?_
 rw [A16.set_at _ _ _ h, mk16_at hi, mk16_at hi]
 by_cases hk : k = i
 ·subst hk
  rw [if_pos rfl, if_pos (by omega), e]
 ·rw [if_neg hk]
  by_cases hl : i < k
  ·rw [if_pos hl, if_pos (by omega)]
  ·rw [if_neg hl, if_neg (by omega)]
theorem ofTo_same (p : Pfx) {k : Nat} (h : k < 16) (hn : 8 ≤ p.n - 8 * k) : ofTo p k = ofTo p (k + 1) := by
 have e : orB (p.a.at k) (p.n - 8 * k) = p.a.at k := by unfold orB; rw [if_neg (by omega), if_pos hn]
 rw [← ofTo_succ p h (p.a.at k) (p.a.at_b k) e.symm]
 unfold ofTo
 congr 1
 refine A16.ext_at fun i hi => ?_
 rw [A16.set_at _ _ _ h]
 by_cases hk : k = i
 ·subst hk
  rw [if_pos rfl, mk16_at hi, if_neg (by omega)]
 ·rw [if_neg hk]
theorem or_ff : ∀ x : Nat, x < 256 → ∀ m : Nat, m < 8 → Go.bits .or .u8 (x : Int) (255 / 2 ^ ((m : Nat) : Int).toNat) = orB (x : Int) (m : Int) := by decide +kernel

theorem or_of {x m : Int} (h : 0 ≤ x ∧ x < 256) (hm : m < 8) : Go.bits .or .u8 x (255 / 2 ^ (if m < 0 then 0 else m).toNat) = orB x m := by
 obtain ⟨y, rfl⟩ := Int.eq_ofNat_of_zero_le h.1
 by_cases h0 : m < 0
 ·rw [if_pos h0]
  have := or_ff y (by omega) 0 (by decide)
  unfold orB
  rw [if_pos (by omega)]
  exact this
 ·rw [if_neg h0]
  obtain ⟨n, rfl⟩ := Int.eq_ofNat_of_zero_le (show 0 ≤ m by omega)
  exact or_ff y (by omega) n (by omega)
set_option maxHeartbeats 2000000 in
set_option maxRecDepth 100000 in
theorem of_bad (p : Pfx) (w : World) (hr : rightB p = false) :
 Calls Try.prog 18 #[.agg p.arr] w fun e w' => e = .returned (.tuple #[.agg (zS).arr, .int .i64 1]) ∧ Below w.heap.size w w' := by
 have H0 := OfS.new w p
 have hright := fun W => right_walk p _ hr W
 obtain ⟨s, hs⟩ : ∃ s, s = zS := ⟨_, rfl⟩
 rw [← hs]
 have HS := Lib.hid hs
 clear hs hr
 go_enter Try.func18, Try.ntmps18
 go_upto_region 1 with (fail)
 change Code.wp _ _ _ _ ((w.alloc (.cells p.arr 37)).alloc (.cells zS.arr 30))
 generalize (w.alloc (.cells p.arr 37)).alloc (.cells zS.arr 30) = W at H0 ⊢
 have HH := Lib.hid H0
 clear H0
 go_wp2_with (first
  | ((with_reducible refine at_dst 7 ?_); refine loadP p w.heap.size 0 rfl HH.out.1.rp ?_))
 refine (hright _).mono ?_
 rintro e W1 ⟨rfl, hB⟩
 have H1 := Lib.hid (HH.out.step hB)
 clear hB HH hright
 go_upto_region 2 with (fail)
 refine wp_region_lit ?_
 refine valN rfl (v := .agg s.arr) (w1 := W1) (by rw [HS.out]; kernel_rfl) ?_
 refine wpList_store_row rfl 30 (.tmp 2) (.tmp 10) rfl (w.heap.size + 1) s.arr rfl rfl 30 zS.arr H1.out.2.1 (by rw [Spn.arr_size]; exact infoS) (by rw [Spn.arr_size, Spn.arr_size]) (Spn.arr_one _) ?_
 have v0 : (W1.setRow (w.heap.size + 1) s.arr).heap[w.heap.size + 1]? = some (.cells s.arr 30 (0, 0)) := setRow_heap W1 _ _ _ _ _ H1.out.2.1
 have v3 := below_setRow H1.out.2.2 (g := w.heap.size + 1) (by omega) s.arr
 generalize W1.setRow (w.heap.size + 1) s.arr = wc at v0 v3 ⊢
 refine valN rfl (v := .int .i64 1) (w1 := wc) (by go_simp; try rfl) ?_
 refine wpList_nil ?_
 go_wp2
 refine bodyPost_ret (v := .tuple #[.agg s.arr, .int .i64 1]) ?_ rfl ⟨rfl, v3⟩
 exact results_ct (P := Try.prog) (p := 2) (u := 3) (ty := 30) Try.results18 _ _ (w.heap.size + 1) 30 s.arr (0, 0) _ rfl v0 Try.underlying30 rfl (by rw [Spn.arr_size]; exact infoS)
set_option maxHeartbeats 2000000 in
set_option maxRecDepth 100000 in
theorem of_good (p : Pfx) (w : World) (hr : rightB p = true) (hn : 0 ≤ p.n ∧ p.n ≤ 128) :
 Calls Try.prog 18 #[.agg p.arr] w fun e w' => e = .returned (.tuple #[.agg (ofP p).arr, .int .i64 0]) ∧ Below w.heap.size w w' := by
 have H0 := OfS.new w p
 have hright := fun W => right_walk p _ hr W
 obtain ⟨s, hs⟩ : ∃ s, s = ofP p := ⟨_, rfl⟩
 rw [← hs]
 have HS := Lib.hid hs
 clear hs hr
 go_enter Try.func18, Try.ntmps18
 go_upto_region 1 with (fail)
 change Code.wp _ _ _ _ ((w.alloc (.cells p.arr 37)).alloc (.cells zS.arr 30))
 generalize (w.alloc (.cells p.arr 37)).alloc (.cells zS.arr 30) = W at H0 ⊢
 have HH := Lib.hid H0
 clear H0
 go_wp2_with (first
  | ((with_reducible refine at_dst 7 ?_); refine loadP p w.heap.size 0 rfl HH.out.1.rp ?_))
 refine (hright _).mono ?_
 rintro e W1 ⟨rfl, hB⟩
 have H1 := Lib.hid (HH.out.step hB)
 clear hB HH hright
 obtain ⟨v6, hv⟩ : ∃ v, v = p.v6 := ⟨_, rfl⟩
 have c0 : W1.cell? ⟨w.heap.size, 0, none⟩ = some (.bool v6) := by rw [hv]; exact rp_v6 H1.out.1.rp
 have e0 : (⟨v6, p.a, p.a⟩ : Spn) = ofTo p 0 := by rw [hv]; exact (ofTo_0 p).symm
 have HX := Lib.hid (OfG.new (ofTo p 0) H1.out)
 have HV := Lib.hid hv
 have HE0 := Lib.hid e0
 clear hv e0
 go_wp2_with (first
  | ((with_reducible refine at_dst 14 ?_); refine loadA p.a w.heap.size 1 rfl (by have := ra_of_p H1.out.1.rp; rwa [Nat.zero_add] at this) ?_)
  | ((with_reducible refine at_dst 16 ?_); refine loadA p.a w.heap.size 1 rfl (by have := ra_of_p H1.out.1.rp; rwa [Nat.zero_add] at this) ?_)
  | ((with_reducible refine at_dst 17 ?_); refine valN rfl (exec_buildSpn v6 p.a p.a rfl rfl rfl _) ?_; rw [HE0.out])
  | ((with_reducible refine at_dst 4 ?_); refine alloc_storeS (ofTo p 0) rfl rfl ?_; generalize hg : W1.heap.size = g at HX ⊢; generalize hw : W1.alloc (.cells (ofTo p 0).arr 30) = W2 at HX ⊢; have c1 : W2.cell? ⟨w.heap.size, 0, none⟩ = some (.bool v6) := by rw [HV.out]; exact rp_v6 HX.out.1.1.rp))
 refine (width_walk _ _).mono ?_
 rintro e W3 ⟨rfl, rfl⟩
 clear hg hw c0 c1 H1
 obtain ⟨n, hn2⟩ : ∃ n, n = wid v6 := ⟨_, rfl⟩
 have hn16 : n ≤ 16 := by rw [hn2]; cases v6 <;> decide
 rw [← hn2]
 have HN : Hid (n = wid p.v6) := Lib.hid (by rw [hn2, HV.out])
 clear hn2
 go_wp2
 go_loopw [5, 6, 21] (fun _ _ iv wr => ∃ k : Nat, k ≤ n ∧ iv = .int .i64 k ∧ Hid (OfG w p g (ofTo p k) wr)) (fun _ _ iv _ => n - (intOf iv).toNat)
 case atStart => exact ⟨0, Nat.zero_le _, rfl, HX⟩
 case round =>
  obtain ⟨k, hk, rfl, H⟩ := hrel
  by_cases hkn : k < n
  ·have hd1 := eq_true (show (k : Int) < (n : Int) by omega)
   have hd2 : decide ((k : Int) < (n : Int)) = true := decide_eq_true (by omega)
   have hd3 := eq_true (show (k : Int) < 16 by omega)
   have cn : wr.cell? ⟨w.heap.size, 17, none⟩ = some (.int .i64 p.n) := by have := rp_n H.out.1.1.rp; rwa [Nat.zero_add] at this
   obtain ⟨m, hm⟩ : ∃ m, m = p.n - 8 * (k : Int) := ⟨_, rfl⟩
   have hw1 : IntKind.i64.wrap (8 * (k : Int)) = 8 * (k : Int) := by rw [i64_w]; unfold Go.RowKit.wrap64; omega
   have hw2 : IntKind.i64.wrap (p.n - 8 * (k : Int)) = m := by rw [hm, i64_w]; unfold Go.RowKit.wrap64; omega
   have hw3 : Go.RowKit.wrap64 (8 * (k : Int)) = 8 * (k : Int) := by unfold Go.RowKit.wrap64; omega
   have hw4 : Go.RowKit.wrap64 (p.n - 8 * (k : Int)) = m := by rw [hm]; unfold Go.RowKit.wrap64; omega
   have HM := Lib.hid hm
   clear hm
   by_cases h8 : m < 8
   ·have h8a := eq_true h8
    have h8b : decide (m < 8) = true := decide_eq_true h8
    obtain ⟨x, hx⟩ : ∃ x, x = p.a.at k := ⟨_, rfl⟩
    have ca : wr.cell? ⟨g, 17 + k, none⟩ = some (.int .u8 x) := by rw [hx, ← ofTo_at p (show k < 16 by omega)]; exact (H.out.2.1.c (17 + k)).trans ((ofTo p k).arr_hi (by omega))
    have HXX := Lib.hid hx
    clear hx
    go_wp2
    refine wp_region_still_tail 10 (by kernel_rfl) (by kernel_rfl) ?_
    simp only [List.take_succ_cons, List.take_zero, List.drop_succ_cons, List.drop_zero]
    repeat (first | still_step)
    refine wpStill_nil ?_
    change wpList _ _ _ _ _ wr.drew
    obtain ⟨y, hy⟩ : ∃ y, y = Go.bits .or .u8 x (255 / 2 ^ (if m < 0 then 0 else m).toNat) := ⟨_, rfl⟩
    rw [← hy]
    have HY : Hid (y = orB (p.a.at k) (p.n - 8 * k)) := Lib.hid (by rw [hy, HXX.out, ← HM.out]; exact or_of (p.a.at_b k) h8)
    have H' : Hid (OfG w p g (ofTo p k) wr.drew) := Lib.hid (H.out.step ((Below.refl _ _).drew))
    clear hy ca cn hw1 hw2 hw3 hw4 h8 h8a h8b H
    generalize wr.drew = W4 at H' ⊢
    have ca := (H'.out.2.1.c (17 + k)).trans ((ofTo p k).arr_hi (by omega))
    have fa := H'.out.2.1.f (17 + k)
    go_wp2
    go_roundw
    case rel => exact ⟨k + 1, by omega, by go_num, Lib.hid (H'.out.set (by rw [(ofTo p k).set_hi (by omega) _ (by rw [HY.out]; exact orB_b (p.a.at_b k) _), ofTo_succ p (by omega) _ _ HY.out]))⟩
    case measure => simp [intOf]; omega
   ·have h8a := eq_false h8
    have h8b : decide (m < 8) = false := decide_eq_false h8
    go_wp2
    go_roundw
    case rel => exact ⟨k + 1, by omega, by go_num, Lib.hid (by have := H.out; rwa [ofTo_same p (by omega) (by rw [← HM.out]; omega)] at this)⟩
    case measure => simp [intOf]; omega
  ·have hkk : k = n := by omega
   subst hkk
   have hd1 := eq_false (show ¬ (k : Int) < (k : Int) by omega)
   have hd2 : decide ((k : Int) < (k : Int)) = false := decide_eq_false (by omega)
   go_upto_region 11 with (fail)
   have e : ofTo p k = s := by rw [HS.out, HN.out]; rfl
   rw [e] at H
   refine wp_region_lit ?_
   refine wpList_load_row rfl 30 (.tmp 4) rfl g rfl 30 _ (0, 0) _ H.out.2.1 Try.underlying30 rfl (by rw [Spn.arr_size]; exact infoS) ?_
   refine wpList_store_row rfl 30 (.tmp 2) (.tmp 42) rfl (w.heap.size + 1) s.arr rfl rfl 30 zS.arr H.out.1.2.1 (by rw [Spn.arr_size]; exact infoS) (by rw [Spn.arr_size, Spn.arr_size]) (Spn.arr_one _) ?_
   have v0 : (wr.setRow (w.heap.size + 1) s.arr).heap[w.heap.size + 1]? = some (.cells s.arr 30 (0, 0)) := setRow_heap wr _ _ _ _ _ H.out.1.2.1
   have v3 := below_setRow H.out.1.2.2 (g := w.heap.size + 1) (by omega) s.arr
   generalize wr.setRow (w.heap.size + 1) s.arr = wc at v0 v3 ⊢
   refine valN rfl (v := .int .i64 0) (w1 := wc) (by go_simp; try rfl) ?_
   refine wpList_nil ?_
   go_wp2
   refine bodyPost_ret (v := .tuple #[.agg s.arr, .int .i64 0]) ?_ rfl ⟨rfl, v3⟩
   exact results_ct (P := Try.prog) (p := 2) (u := 3) (ty := 30) Try.results18 _ _ (w.heap.size + 1) 30 s.arr (0, 0) _ rfl v0 Try.underlying30 rfl (by rw [Spn.arr_size]; exact infoS)

/-- The answer for a length that may be, or not. -/
theorem of_walk (p : Pfx) (w : World) :
 Calls Try.prog 18 #[.agg p.arr] w fun e w' => e = .returned (.tuple #[.agg (ofQ p).arr, .int .i64 (if rightB p then 0 else 1)]) ∧ Below w.heap.size w w' := by
 unfold ofQ
 cases hr : rightB p
 ·exact of_bad p w hr
 ·obtain ⟨h0, h1, _⟩ := right_iff.1 hr
  have hb := mostP_b p.v6
  exact of_good p w hr ⟨h0, by omega⟩

end Go.Proofs.Ytdioagebkfdkhaa.Ad
end

section
set_option linter.unusedVariables false
set_option linter.unusedSimpArgs false
namespace Go.Proofs.Ytdioagebkfdkhaa.Ad
open Go.RowKit Go.Proofs.YtdioagebkfdkhaaW.PrintWords Go.Proofs.YtdioagebkfdkhaaW.PrintLast Go.Proofs.YtdioagebkfdkhaaW.PrintMore Go.Proofs.Ytdioagebkfdkhaa.PT

theorem xor_s {x y : Nat} (hx : x < 256) (hy : y < 256) : Go.bits .xor .u8 (x : Int) (y : Int) = ((x ^^^ y : Nat) : Int) := by
 have h : x ^^^ y < 2 ^ 8 := Nat.xor_lt_two_pow (by omega) (by omega)
 have e : (BitVec.ofInt 8 (x : Int) ^^^ BitVec.ofInt 8 (y : Int)).toNat = x ^^^ y := by
  rw [BitVec.toNat_xor, BitVec.ofInt_natCast, BitVec.ofInt_natCast, BitVec.toNat_ofNat, BitVec.toNat_ofNat, Nat.mod_eq_of_lt (by omega), Nat.mod_eq_of_lt (by omega)]
 show Go.IntKind.u8.wrap ((BitVec.ofInt 8 (x : Int) ^^^ BitVec.ofInt 8 (y : Int)).toNat : Int) = _
 rw [e]
 simp only [Go.IntKind.wrap, Go.IntKind.bits, Go.IntKind.signed]
 simp
 omega
theorem and_s : ∀ x : Nat, x < 256 → Go.bits .and .u8 (x : Int) 1 = ((x % 2 : Nat) : Int) := by decide +kernel
theorem same_bit {x y : Int} (hx : 0 ≤ x ∧ x < 256) (hy : 0 ≤ y ∧ y < 256) {r : Nat} (hr : r < 8) : (Go.bits .and .u8 (Go.bits .xor .u8 x y / 2 ^ (7 - r)) 1 == 0) = decide (bitB x r = bitB y r) := by
 obtain ⟨x, rfl⟩ := Int.eq_ofNat_of_zero_le hx.1
 obtain ⟨y, rfl⟩ := Int.eq_ofNat_of_zero_le hy.1
 have h : x ^^^ y < 2 ^ 8 := Nat.xor_lt_two_pow (by omega) (by omega)
 rw [xor_s (by omega) (by omega)]
 have e : ((x ^^^ y : Nat) : Int) / 2 ^ (7 - r) = (((x ^^^ y) / 2 ^ (7 - r) : Nat) : Int) := by simp
 rw [e, and_s _ (Nat.lt_of_le_of_lt (Nat.div_le_self _ _) h)]
 unfold bitB
 have b : ∀ z : Nat, (z : Int) / 2 ^ (7 - r) % 2 = ((z / 2 ^ (7 - r) % 2 : Nat) : Int) := fun z => by simp
 rw [b, b]
 have t : ∀ z : Nat, z / 2 ^ (7 - r) % 2 = (z.testBit (7 - r)).toNat := fun z => by rw [Nat.testBit_eq_decide_div_mod_eq]; rcases Nat.mod_two_eq_zero_or_one (z / 2 ^ (7 - r)) with h | h <;> rw [h] <;> rfl
 rw [t, t, t, Nat.testBit_xor]
 cases x.testBit (7 - r) <;> cases y.testBit (7 - r) <;> rfl

def LgS (w : World) (s : Spn) (W : World) : Prop := Has W w.heap.size s.arr 30 ∧ Below w.heap.size w W
theorem LgS.drewN {w W : World} {s : Spn} (h : LgS w s W) (n : Nat) : LgS w s (W.drewN n) :=
 have hB := ((Gw.refl W).drewN n).below
 ⟨h.1.below hB, h.2.trans (hB.mono h.2.size)⟩

set_option maxHeartbeats 2000000 in
set_option maxRecDepth 100000 in
theorem long_walk (s : Spn) (w : World) :
 Calls Try.prog 47 #[.agg s.arr] w fun e w' => e = .returned (.int .i64 (longP s)) ∧ Below w.heap.size w w' := by
 have H0 : Hid (LgS w s (w.alloc (.cells s.arr 30))) := Lib.hid ⟨Has.new _ _ _, (Below.refl _ _).alloc (Nat.le_refl _) _⟩
 obtain ⟨r, hr⟩ : ∃ r, r = longP s := ⟨_, rfl⟩
 rw [← hr]
 have HR := Lib.hid hr
 clear hr
 obtain ⟨v6, hv⟩ : ∃ v, v = s.v6 := ⟨_, rfl⟩
 have HV := Lib.hid hv
 obtain ⟨n, hn2⟩ : ∃ n, n = wid v6 := ⟨_, rfl⟩
 have hn16 : n ≤ 16 := by rw [hn2]; cases v6 <;> decide
 have hwid : ∀ W, Calls Try.prog 34 #[.bool v6] W fun e w' => e = .returned (.int .i64 (n : Nat)) ∧ w' = W := fun W => by rw [hn2]; exact width_walk v6 W
 have HN : Hid (n = wid s.v6) := Lib.hid (by rw [hn2, HV.out])
 clear hn2 hv
 go_enter Try.func47, Try.ntmps47
 go_upto_region 1 with (fail)
 generalize w.alloc (.cells s.arr 30) = W at H0 ⊢
 go_wp2
 go_loopw [3] (fun iv wr => ∃ k : Nat, k ≤ 8 * n ∧ iv = .int .i64 k ∧ Hid (LgS w s wr ∧ longN s (8 * n - k) k = r)) (fun iv _ => 8 * n - (intOf iv).toNat)
 case atStart => exact ⟨0, Nat.zero_le _, rfl, Lib.hid ⟨H0.out, by rw [HR.out, HN.out]; rfl⟩⟩
 case round =>
  obtain ⟨k, hk, rfl, H⟩ := hrel
  have c0 : wr.cell? ⟨w.heap.size, 0, none⟩ = some (.bool v6) := by rw [HV.out]; exact rs_v6 H.out.1.1.rs
  have hw1 : IntKind.i64.wrap (8 * (n : Int)) = 8 * (n : Int) := by rw [i64_w]; unfold Go.RowKit.wrap64; omega
  have hw3 : Go.RowKit.wrap64 (8 * (n : Int)) = 8 * (n : Int) := by unfold Go.RowKit.wrap64; omega
  by_cases hkn : k < 8 * n
  ·have hd1 := eq_true (show (k : Int) < 8 * (n : Int) by omega)
   have hd2 : decide ((k : Int) < 8 * (n : Int)) = true := decide_eq_true (by omega)
   obtain ⟨i, hi⟩ : ∃ i, i = k / 8 := ⟨_, rfl⟩
   obtain ⟨x, hx⟩ : ∃ x, x = s.lo.at i := ⟨_, rfl⟩
   obtain ⟨y, hy⟩ : ∃ y, y = s.hi.at i := ⟨_, rfl⟩
   have ca : wr.cell? ⟨w.heap.size, 1 + i, none⟩ = some (.int .u8 x) := by
    have := ra_at (rlo_of_s H.out.1.1.rs) (i := i) (by omega)
    rwa [Nat.zero_add, ← hx] at this
   have cb : wr.cell? ⟨w.heap.size, 17 + i, none⟩ = some (.int .u8 y) := by
    have := ra_at (rhi_of_s H.out.1.1.rs) (i := i) (by omega)
    rwa [Nat.zero_add, ← hy] at this
   have hq : (k : Int) / 8 = (i : Int) := by omega
   have hi16 := eq_true (show (i : Int) < 16 by omega)
   have HI := Lib.hid (And.intro hi (And.intro hx hy))
   clear hi hx hy
   go_wp2
   go_quiet ((go_at_call 34; exact Calls.quiet_of_same (hwid _)))
   have HB := Lib.hid (show longN s (8 * n - k) k = if s.lo.bit k = s.hi.bit k then longN s (8 * n - (k + 1)) (k + 1) else k from by
    rw [show 8 * n - k = (8 * n - (k + 1)) + 1 by omega]; rfl)
   have hsb : (Go.bits .and .u8 (Go.bits .xor .u8 x y / 2 ^ (7 - k % 8)) 1 == 0) = decide (s.lo.bit k = s.hi.bit k) := by
    rw [HI.out.2.1, HI.out.2.2, same_bit (s.lo.at_b _) (s.hi.at_b _) (by omega), HI.out.1]
    rfl
   rw [hsb]
   have H1 := Lib.hid (And.intro (H.out.1.drewN nq) H.out.2)
   clear hsb ca cb c0 H
   generalize wr.drewN nq = W1 at H1 ⊢
   by_cases hb : s.lo.bit k = s.hi.bit k
   ·rw [decide_eq_true hb]
    have HBB := Lib.hid hb
    clear hb
    go_wp2
    go_roundw
    case rel => exact ⟨k + 1, by omega, by go_num, Lib.hid ⟨H1.out.1, by rw [← H1.out.2, HB.out, if_pos HBB.out]⟩⟩
    case measure => simp [intOf]; omega
   ·rw [decide_eq_false hb]
    have HBB := Lib.hid hb
    clear hb
    have hrk : r = k := by rw [← H1.out.2, HB.out, if_neg HBB.out]
    subst hrk
    go_wp2
    go_ret
    exact ⟨rfl, H1.out.1.2⟩
  ·have hd1 := eq_false (show ¬ (k : Int) < 8 * (n : Int) by omega)
   have hd2 : decide ((k : Int) < 8 * (n : Int)) = false := decide_eq_false (by omega)
   have hrk : r = k := by rw [← H.out.2, show 8 * n - k = 0 by omega]; rfl
   subst hrk
   go_wp2
   go_quiet ((go_at_call 34; exact Calls.quiet_of_same (hwid _)))
   have H1 := Lib.hid (H.out.1.drewN nq)
   clear c0 H
   generalize wr.drewN nq = W1 at H1 ⊢
   go_wp2
   go_ret
   exact ⟨rfl, H1.out.2⟩

end Go.Proofs.Ytdioagebkfdkhaa.Ad
end

section
set_option linter.unusedVariables false
set_option linter.unusedSimpArgs false
namespace Go.Proofs.Ytdioagebkfdkhaa.Ad
open Go.RowKit Go.Proofs.YtdioagebkfdkhaaW.PrintWords Go.Proofs.YtdioagebkfdkhaaW.PrintLast Go.Proofs.YtdioagebkfdkhaaW.PrintMore Go.Proofs.Ytdioagebkfdkhaa.PT

/-- The prefix's block, the end's block, as greatest has them. -/
def GrS (w0 : World) (B gp gh : Nat) (p : Pfx) (hi : A16) (W : World) : Prop := Has W gp p.arr 37 ∧ Has W gh hi.arr 28 ∧ Below B w0 W ∧ B ≤ gp ∧ gp ≠ gh
theorem GrS.step {w0 W W1 : World} {B gp gh : Nat} {p : Pfx} {hi : A16} (h : GrS w0 B gp gh p hi W) (hb : B ≤ W.heap.size) (hB : Below W.heap.size W W1) : GrS w0 B gp gh p hi W1 :=
 ⟨h.1.below hB, h.2.1.below hB, h.2.2.1.trans (hB.mono hb), h.2.2.2⟩
theorem GrS.set {w0 W : World} {B gp gh : Nat} {p : Pfx} {hi : A16} (h : GrS w0 B gp gh p hi W) (n : Int) : GrS w0 B gp gh ⟨p.v6, p.a, n⟩ hi (W.setCell ⟨gp, 17, none⟩ (.int .i64 n)) :=
 ⟨by rw [← p.set_n]; exact heap_setCell_same _ _ _ _ _ _ h.1, h.2.1.far (fun e => h.2.2.2.2 e.symm) _, Below.setCell h.2.2.1 (p := ⟨gp, 17, none⟩) h.2.2.2.1 _, h.2.2.2⟩
def GfS (w0 : World) (B gp gh : Nat) (p : Pfx) (hi : A16) (g4 g6 : Nat) (s : Spn) (W : World) : Prop := GrS w0 B gp gh p hi W ∧ Has W g4 zS.arr 30 ∧ Has W g6 s.arr 30 ∧ B ≤ g4 ∧ gp ≠ g4 ∧ gh ≠ g4 ∧ B ≤ W.heap.size
theorem GfS.step {w0 W W1 : World} {B gp gh : Nat} {p : Pfx} {hi : A16} {g4 g6 : Nat} {s : Spn} (h : GfS w0 B gp gh p hi g4 g6 s W) (hB : Below W.heap.size W W1) : GfS w0 B gp gh p hi g4 g6 s W1 :=
 ⟨h.1.step h.2.2.2.2.2.2 hB, h.2.1.below hB, h.2.2.1.below hB, h.2.2.2.1, h.2.2.2.2.1, h.2.2.2.2.2.1, Nat.le_trans h.2.2.2.2.2.2 hB.size⟩
def GgS (w0 : World) (B gp gh : Nat) (p : Pfx) (hi : A16) (g4 : Nat) (s : Spn) (W : World) : Prop := GrS w0 B gp gh p hi W ∧ Has W g4 s.arr 30
theorem GfS.stored {w0 W : World} {B gp gh : Nat} {p : Pfx} {hi : A16} {g4 g6 : Nat} {s : Spn} (h : GfS w0 B gp gh p hi g4 g6 s W) : GgS w0 B gp gh p hi g4 s (W.setRow g4 s.arr) :=
 ⟨⟨h.1.1.setRow_other h.2.2.2.2.1 _, h.1.2.1.setRow_other h.2.2.2.2.2.1 _, below_setRow h.1.2.2.1 h.2.2.2.1 _, h.1.2.2.2⟩, h.2.1.setRow_same⟩

set_option maxHeartbeats 2000000 in
set_option maxRecDepth 100000 in
theorem fits_bad (B gp gh : Nat) (p : Pfx) (hi : A16) (k : Int) (w0 w : World) (h : GrS w0 B gp gh p hi w) (hb : B ≤ w.heap.size) (hr : rightB ⟨p.v6, p.a, k⟩ = false) :
 Calls Try.prog 66 #[.int .i64 k, .pointer (some ⟨gp, 0, none⟩), .pointer (some ⟨gh, 0, none⟩)] w fun e w' => e = .returned (.tuple #[.agg (zS).arr, .bool false]) ∧ GrS w0 B gp gh ⟨p.v6, p.a, k⟩ hi w' ∧ w.heap.size ≤ w'.heap.size := by
 have hof := of_walk ⟨p.v6, p.a, k⟩
 rw [hr] at hof
 obtain ⟨s, hs⟩ : ∃ s, s = ofQ ⟨p.v6, p.a, k⟩ := ⟨_, rfl⟩
 rw [← hs] at hof
 have e1 : zS = s := by rw [hs]; unfold ofQ; rw [hr]; rfl
 rw [e1]
 clear e1 hs hr
 have HA : Hid (GrS w0 B gp gh p hi (w.alloc (.cells zS.arr 30)) ∧ Has (w.alloc (.cells zS.arr 30)) w.heap.size zS.arr 30 ∧ gp < w.heap.size ∧ gh < w.heap.size ∧ w.heap.size ≤ (w.alloc (.cells zS.arr 30)).heap.size) :=
  Lib.hid ⟨h.step hb ((Below.refl _ _).alloc (Nat.le_refl _) _), Has.new _ _ _, h.1.lt, h.2.1.lt, ((Below.refl w.heap.size w).alloc (Nat.le_refl _) (.cells zS.arr 30)).size⟩
 clear h
 go_enter Try.func66, Try.ntmps66
 go_upto_region 1 with (fail)
 change Code.wp _ _ _ _ (w.alloc (.cells zS.arr 30))
 generalize hg4 : w.heap.size = g4 at HA hb ⊢
 generalize w.alloc (.cells zS.arr 30) = W at HA ⊢
 have c17 := (HA.out.1.1.c 17).trans p.arr_n
 have f17 := HA.out.1.1.f 17
 go_upto_region 2 with (fail)
 have HB1 : Hid (GrS w0 B gp gh ⟨p.v6, p.a, k⟩ hi (W.setCell ⟨gp, 17, none⟩ (.int .i64 k)) ∧ Has (W.setCell ⟨gp, 17, none⟩ (.int .i64 k)) g4 zS.arr 30 ∧ gp < g4 ∧ gh < g4 ∧ g4 ≤ (W.setCell ⟨gp, 17, none⟩ (.int .i64 k)).heap.size) :=
  Lib.hid ⟨HA.out.1.set k, HA.out.2.1.far (fun e => by have := HA.out.2.2.1; have e : g4 = gp := e; omega) _, HA.out.2.2.1, HA.out.2.2.2.1, Nat.le_trans HA.out.2.2.2.2 (Below.setCell (Below.refl 0 W) (p := ⟨gp, 17, none⟩) (Nat.zero_le _) _).size⟩
 clear c17 f17 HA
 generalize W.setCell ⟨gp, 17, none⟩ (.int .i64 k) = W1 at HB1 ⊢
 go_wp2_with (first
  | ((with_reducible refine at_dst 11 ?_); refine loadP ⟨p.v6, p.a, k⟩ gp 0 rfl HB1.out.1.1.rp ?_))
 refine (hof _).mono ?_
 rintro e w1 ⟨rfl, hB⟩
 have HF0 : Hid (GfS w0 B gp gh ⟨p.v6, p.a, k⟩ hi g4 w1.heap.size s (w1.alloc (.cells s.arr 30)) ∧ g4 ≤ (w1.alloc (.cells s.arr 30)).heap.size) := by
  have hsz : B ≤ W1.heap.size := Nat.le_trans hb HB1.out.2.2.2.2
  have hal := (show Below w1.heap.size w1 (w1.alloc (.cells s.arr 30)) from (Below.refl _ _).alloc (Nat.le_refl _) _)
  have hs1 : g4 ≤ w1.heap.size := Nat.le_trans HB1.out.2.2.2.2 hB.size
  exact Lib.hid ⟨⟨(HB1.out.1.step hsz hB).step (Nat.le_trans hb hs1) hal, (HB1.out.2.1.below hB).alloc _, Has.new _ _ _, hb, Nat.ne_of_lt HB1.out.2.2.1, Nat.ne_of_lt HB1.out.2.2.2.1, Nat.le_trans (Nat.le_trans hb hs1) hal.size⟩, Nat.le_trans hs1 hal.size⟩
 clear hB hof HB1
 go_wp2_with (first
  | ((with_reducible refine at_dst 6 ?_); refine alloc_storeS s rfl rfl ?_; generalize w1.heap.size = g6 at HF0 ⊢; generalize w1.alloc (.cells s.arr 30) = w2 at HF0 ⊢))
 have HF := Lib.hid HF0.out.1
 have hws0 := HF0.out.2
 have hws : w.heap.size ≤ w2.heap.size := by rw [hg4]; exact hws0
 clear HF0 hws0
 refine start_ (n := 12) (S := GfS w0 B gp gh ⟨p.v6, p.a, k⟩ hi g4 g6 s) (ds := [10]) #[false, false, false, false, false, false, false, false, false, false, false, false] (by kernel_rfl) rfl rfl (HF.out.step (Below.refl _ _).drew) (fun hHeld => ?_)
 refine pure_ (i := 1) (N := some 16) (v := ?_) (a' := ?_) #[false, true, false, false, false, false, false, false, false, false, false, false] rfl rfl (by kernel_rfl) (fun _ _ _ h => h) (Or.inl ⟨by rfl, ?_⟩) ?_ ?_
 rotate_left
 ·intro w'
  go_simp
  with_reducible rfl
 rotate_left
 ·simp only [Act.put, List.setIfInBounds_toArray, List.set_cons_zero, List.set_cons_succ, i64_w, i32_w]
  rfl
 refine pure_ (i := 2) (N := some 17) (v := ?_) (a' := ?_) #[false, true, true, false, false, false, false, false, false, false, false, false] rfl rfl (by kernel_rfl) (fun _ _ _ h => h) (Or.inl ⟨by rfl, ?_⟩) ?_ ?_
 rotate_left
 ·intro w'
  go_simp
  with_reducible rfl
 rotate_left
 ·simp only [Act.put, List.setIfInBounds_toArray, List.set_cons_zero, List.set_cons_succ, i64_w, i32_w]
  rfl
 refine pure_ (i := 3) (N := some 18) (v := ?_) (a' := ?_) #[false, true, true, true, false, false, false, false, false, false, false, false] rfl rfl (by kernel_rfl) (fun _ _ _ h => h) (Or.inl ⟨by rfl, ?_⟩) ?_ ?_
 rotate_left
 ·intro w'
  go_simp
  with_reducible rfl
 rotate_left
 ·simp only [Act.put, List.setIfInBounds_toArray, List.set_cons_zero, List.set_cons_succ, i64_w, i32_w]
  rfl
 refine take_ (i := 0) (N := some 15) (v := .agg s.arr) (a' := ?_) #[true, true, true, true, false, false, false, false, false, false, false, false] rfl rfl (by kernel_rfl) (fun _ _ _ h => h) ?_ hHeld ?_ ?_
 ·exact yS (by rfl) rfl s g6 0 rfl (fun W h => h.2.2.1.rs)
 rotate_left
 ·simp only [Act.put, List.setIfInBounds_toArray, List.set_cons_zero, List.set_cons_succ, i64_w, i32_w]
  rfl
 refine pure_ (i := 4) (N := some 19) (v := undef) (a' := ?_) #[true, true, true, true, true, false, false, false, false, false, false, false] rfl rfl (by kernel_rfl) (fun _ _ _ h => h) (Or.inr ⟨by rfl, rfl⟩) ?_ ?_
 rotate_left
 ·simp only [Act.put, List.setIfInBounds_toArray, List.set_cons_zero, List.set_cons_succ, i64_w, i32_w]
  rfl
 refine pure_ (i := 5) (N := some 20) (v := undef) (a' := ?_) #[true, true, true, true, true, true, false, false, false, false, false, false] rfl rfl (by kernel_rfl) (fun _ _ _ h => h) (Or.inr ⟨by rfl, rfl⟩) ?_ ?_
 rotate_left
 ·simp only [Act.put, List.setIfInBounds_toArray, List.set_cons_zero, List.set_cons_succ, i64_w, i32_w]
  rfl
 refine pure_ (i := 6) (N := some 21) (v := undef) (a' := ?_) #[true, true, true, true, true, true, true, false, false, false, false, false] rfl rfl (by kernel_rfl) (fun _ _ _ h => h) (Or.inr ⟨by rfl, rfl⟩) ?_ ?_
 rotate_left
 ·simp only [Act.put, List.setIfInBounds_toArray, List.set_cons_zero, List.set_cons_succ, i64_w, i32_w]
  rfl
 refine pure_ (i := 7) (N := some 22) (v := undef) (a' := ?_) #[true, true, true, true, true, true, true, true, false, false, false, false] rfl rfl (by kernel_rfl) (fun _ _ _ h => h) (Or.inr ⟨by rfl, rfl⟩) ?_ ?_
 rotate_left
 ·simp only [Act.put, List.setIfInBounds_toArray, List.set_cons_zero, List.set_cons_succ, i64_w, i32_w]
  rfl
 refine pure_ (i := 8) (N := some 23) (v := undef) (a' := ?_) #[true, true, true, true, true, true, true, true, true, false, false, false] rfl rfl (by kernel_rfl) (fun _ _ _ h => h) (Or.inr ⟨by rfl, rfl⟩) ?_ ?_
 rotate_left
 ·simp only [Act.put, List.setIfInBounds_toArray, List.set_cons_zero, List.set_cons_succ, i64_w, i32_w]
  rfl
 refine pure_ (i := 9) (N := some 24) (v := ?_) (a' := ?_) #[true, true, true, true, true, true, true, true, true, true, false, false] rfl rfl (by kernel_rfl) (fun _ _ _ h => h) (Or.inl ⟨by rfl, ?_⟩) ?_ ?_
 rotate_left
 ·intro w'
  go_simp
  with_reducible rfl
 rotate_left
 ·simp only [Act.put, List.setIfInBounds_toArray, List.set_cons_zero, List.set_cons_succ, i64_w, i32_w]
  rfl
 have hwz := (Below.refl w2.heap.size w2).drew.size
 generalize w2.drew = wz at hHeld hwz ⊢
 refine last_ (i := 10) (N := none) #[true, true, true, true, true, true, true, true, true, true, true, false] rfl rfl (by kernel_rfl) (by decide) (fun K hK => ?_)
 refine storeRow_step (by rfl) 4 15 rfl g4 s rfl rfl hHeld.2.1 ?_
 have HG := Lib.hid (GfS.stored hHeld)
 have hzs : w.heap.size ≤ (wz.setRow g4 s.arr).heap.size := Nat.le_trans hws (Nat.le_trans (show w2.heap.size ≤ wz.heap.size from hwz) (below_setRow (Below.refl 0 wz) (Nat.zero_le _) _).size)
 refine hK.out _ _ ?_
 clear hK K
 refine norm_ (a' := ?_) ?_ ?_
 rotate_left
 ·show Act.put _ none _ = _
  simp only [Act.put]
  rfl
 clear hHeld
 generalize wz.setRow g4 s.arr = w8 at HG hzs ⊢
 refine pure_ (i := 11) (N := some 5) (v := ?_) (a' := ?_) #[true, true, true, true, true, true, true, true, true, true, true, true] rfl rfl (by kernel_rfl) (fun _ _ _ h => h) (Or.inl ⟨by rfl, ?_⟩) ?_ ?_
 rotate_left
 ·intro w'
  go_simp
  with_reducible rfl
 rotate_left
 ·simp only [Act.put, List.setIfInBounds_toArray, List.set_cons_zero, List.set_cons_succ, i64_w, i32_w]
  rfl
 refine done_ (by kernel_rfl) ?_
 go_wp2
 refine bodyPost_ret (v := .tuple #[.agg s.arr, .bool false]) ?_ rfl ⟨rfl, HG.out.1, hzs⟩
 exact results_ct (P := Try.prog) (p := 4) (u := 5) (ty := 30) Try.results66 _ _ g4 30 s.arr (0, 0) _ rfl HG.out.2 Try.underlying30 rfl (by rw [Spn.arr_size]; exact infoS)
set_option maxHeartbeats 2000000 in
set_option maxRecDepth 100000 in
theorem fits_good (B gp gh : Nat) (p : Pfx) (hi : A16) (k : Int) (w0 w : World) (h : GrS w0 B gp gh p hi w) (hb : B ≤ w.heap.size) (hr : rightB ⟨p.v6, p.a, k⟩ = true) :
 Calls Try.prog 66 #[.int .i64 k, .pointer (some ⟨gp, 0, none⟩), .pointer (some ⟨gh, 0, none⟩)] w fun e w' => e = .returned (.tuple #[.agg (ofP ⟨p.v6, p.a, k⟩).arr, .bool (decide (lexC (ofHi ⟨p.v6, p.a, k⟩).l hi.l ≤ 0))]) ∧ GrS w0 B gp gh ⟨p.v6, p.a, k⟩ hi w' ∧ w.heap.size ≤ w'.heap.size := by
 have hof := of_walk ⟨p.v6, p.a, k⟩
 rw [hr] at hof
 obtain ⟨s, hs⟩ : ∃ s, s = ofQ ⟨p.v6, p.a, k⟩ := ⟨_, rfl⟩
 rw [← hs] at hof
 have e1 : ofP ⟨p.v6, p.a, k⟩ = s := by rw [hs]; unfold ofQ; rw [hr]; rfl
 rw [e1]
 obtain ⟨q, hq⟩ : ∃ q, q = lexC (ofHi ⟨p.v6, p.a, k⟩).l hi.l := ⟨_, rfl⟩
 have hcmp : ∀ W, Calls Try.prog 30 #[.agg s.hi.arr, .agg hi.arr] W fun e w' => e = .returned (.int .i64 q) ∧ Gw W w' := fun W => by rw [hq, ← e1]; exact scmp_walk _ _ W
 rw [← hq]
 clear hq
 clear e1 hs hr
 have HA : Hid (GrS w0 B gp gh p hi (w.alloc (.cells zS.arr 30)) ∧ Has (w.alloc (.cells zS.arr 30)) w.heap.size zS.arr 30 ∧ gp < w.heap.size ∧ gh < w.heap.size ∧ w.heap.size ≤ (w.alloc (.cells zS.arr 30)).heap.size) :=
  Lib.hid ⟨h.step hb ((Below.refl _ _).alloc (Nat.le_refl _) _), Has.new _ _ _, h.1.lt, h.2.1.lt, ((Below.refl w.heap.size w).alloc (Nat.le_refl _) (.cells zS.arr 30)).size⟩
 clear h
 go_enter Try.func66, Try.ntmps66
 go_upto_region 1 with (fail)
 change Code.wp _ _ _ _ (w.alloc (.cells zS.arr 30))
 generalize hg4 : w.heap.size = g4 at HA hb ⊢
 generalize w.alloc (.cells zS.arr 30) = W at HA ⊢
 have c17 := (HA.out.1.1.c 17).trans p.arr_n
 have f17 := HA.out.1.1.f 17
 go_upto_region 2 with (fail)
 have HB1 : Hid (GrS w0 B gp gh ⟨p.v6, p.a, k⟩ hi (W.setCell ⟨gp, 17, none⟩ (.int .i64 k)) ∧ Has (W.setCell ⟨gp, 17, none⟩ (.int .i64 k)) g4 zS.arr 30 ∧ gp < g4 ∧ gh < g4 ∧ g4 ≤ (W.setCell ⟨gp, 17, none⟩ (.int .i64 k)).heap.size) :=
  Lib.hid ⟨HA.out.1.set k, HA.out.2.1.far (fun e => by have := HA.out.2.2.1; have e : g4 = gp := e; omega) _, HA.out.2.2.1, HA.out.2.2.2.1, Nat.le_trans HA.out.2.2.2.2 (Below.setCell (Below.refl 0 W) (p := ⟨gp, 17, none⟩) (Nat.zero_le _) _).size⟩
 clear c17 f17 HA
 generalize W.setCell ⟨gp, 17, none⟩ (.int .i64 k) = W1 at HB1 ⊢
 go_wp2_with (first
  | ((with_reducible refine at_dst 11 ?_); refine loadP ⟨p.v6, p.a, k⟩ gp 0 rfl HB1.out.1.1.rp ?_))
 refine (hof _).mono ?_
 rintro e w1 ⟨rfl, hB⟩
 have HF0 : Hid (GfS w0 B gp gh ⟨p.v6, p.a, k⟩ hi g4 w1.heap.size s (w1.alloc (.cells s.arr 30)) ∧ g4 ≤ (w1.alloc (.cells s.arr 30)).heap.size) := by
  have hsz : B ≤ W1.heap.size := Nat.le_trans hb HB1.out.2.2.2.2
  have hal := (show Below w1.heap.size w1 (w1.alloc (.cells s.arr 30)) from (Below.refl _ _).alloc (Nat.le_refl _) _)
  have hs1 : g4 ≤ w1.heap.size := Nat.le_trans HB1.out.2.2.2.2 hB.size
  exact Lib.hid ⟨⟨(HB1.out.1.step hsz hB).step (Nat.le_trans hb hs1) hal, (HB1.out.2.1.below hB).alloc _, Has.new _ _ _, hb, Nat.ne_of_lt HB1.out.2.2.1, Nat.ne_of_lt HB1.out.2.2.2.1, Nat.le_trans (Nat.le_trans hb hs1) hal.size⟩, Nat.le_trans hs1 hal.size⟩
 clear hB hof HB1
 go_wp2_with (first
  | ((with_reducible refine at_dst 6 ?_); refine alloc_storeS s rfl rfl ?_; generalize w1.heap.size = g6 at HF0 ⊢; generalize w1.alloc (.cells s.arr 30) = w2 at HF0 ⊢))
 have HF := Lib.hid HF0.out.1
 have hws0 := HF0.out.2
 have hws : w.heap.size ≤ w2.heap.size := by rw [hg4]; exact hws0
 clear HF0 hws0
 refine start_ (n := 12) (S := GfS w0 B gp gh ⟨p.v6, p.a, k⟩ hi g4 g6 s) (ds := [10]) #[false, false, false, false, false, false, false, false, false, false, false, false] (by kernel_rfl) rfl rfl (HF.out.step (Below.refl _ _).drew) (fun hHeld => ?_)
 refine pure_ (i := 1) (N := some 16) (v := ?_) (a' := ?_) #[false, true, false, false, false, false, false, false, false, false, false, false] rfl rfl (by kernel_rfl) (fun _ _ _ h => h) (Or.inl ⟨by rfl, ?_⟩) ?_ ?_
 rotate_left
 ·intro w'
  go_simp
  with_reducible rfl
 rotate_left
 ·simp only [Act.put, List.setIfInBounds_toArray, List.set_cons_zero, List.set_cons_succ, i64_w, i32_w]
  rfl
 refine pure_ (i := 2) (N := some 17) (v := ?_) (a' := ?_) #[false, true, true, false, false, false, false, false, false, false, false, false] rfl rfl (by kernel_rfl) (fun _ _ _ h => h) (Or.inl ⟨by rfl, ?_⟩) ?_ ?_
 rotate_left
 ·intro w'
  go_simp
  with_reducible rfl
 rotate_left
 ·simp only [Act.put, List.setIfInBounds_toArray, List.set_cons_zero, List.set_cons_succ, i64_w, i32_w]
  rfl
 refine pure_ (i := 3) (N := some 18) (v := ?_) (a' := ?_) #[false, true, true, true, false, false, false, false, false, false, false, false] rfl rfl (by kernel_rfl) (fun _ _ _ h => h) (Or.inl ⟨by rfl, ?_⟩) ?_ ?_
 rotate_left
 ·intro w'
  go_simp
  with_reducible rfl
 rotate_left
 ·simp only [Act.put, List.setIfInBounds_toArray, List.set_cons_zero, List.set_cons_succ, i64_w, i32_w]
  rfl
 refine take_ (i := 0) (N := some 15) (v := .agg s.arr) (a' := ?_) #[true, true, true, true, false, false, false, false, false, false, false, false] rfl rfl (by kernel_rfl) (fun _ _ _ h => h) ?_ hHeld ?_ ?_
 ·exact yS (by rfl) rfl s g6 0 rfl (fun W h => h.2.2.1.rs)
 rotate_left
 ·simp only [Act.put, List.setIfInBounds_toArray, List.set_cons_zero, List.set_cons_succ, i64_w, i32_w]
  rfl
 refine pure_ (i := 4) (N := some 19) (v := ?_) (a' := ?_) #[true, true, true, true, true, false, false, false, false, false, false, false] rfl rfl (by kernel_rfl) (fun _ _ _ h => h) (Or.inl ⟨by rfl, ?_⟩) ?_ ?_
 rotate_left
 ·intro w'
  go_simp
  with_reducible rfl
 rotate_left
 ·simp only [Act.put, List.setIfInBounds_toArray, List.set_cons_zero, List.set_cons_succ, i64_w, i32_w]
  rfl
 refine take_ (i := 5) (N := some 20) (v := .agg s.hi.arr) (a' := ?_) #[true, true, true, true, true, true, false, false, false, false, false, false] rfl rfl (by kernel_rfl) (fun _ _ _ h => h) ?_ hHeld ?_ ?_
 ·exact yA (by rfl) rfl s.hi g6 17 rfl (fun W h => by have := rhi_of_s h.2.2.1.rs; rwa [Nat.zero_add] at this)
 rotate_left
 ·simp only [Act.put, List.setIfInBounds_toArray, List.set_cons_zero, List.set_cons_succ, i64_w, i32_w]
  rfl
 refine take_ (i := 6) (N := some 21) (v := .agg hi.arr) (a' := ?_) #[true, true, true, true, true, true, true, false, false, false, false, false] rfl rfl (by kernel_rfl) (fun _ _ _ h => h) ?_ hHeld ?_ ?_
 ·exact yA (by rfl) rfl hi gh 0 rfl (fun W h => h.1.2.1.ra)
 rotate_left
 ·simp only [Act.put, List.setIfInBounds_toArray, List.set_cons_zero, List.set_cons_succ, i64_w, i32_w]
  rfl
 refine one_ (i := 7) (N := some 22) #[true, true, true, true, true, true, true, true, false, false, false, false] rfl rfl (by kernel_rfl) (by decide) (fun K hK => ?_)
 refine goes_ Try.func30 (by kernel_rfl) rfl #[.agg s.hi.arr, .agg hi.arr] (by rfl) rfl rfl (by (try simp only [List.map_toArray, List.map_cons, List.map_nil]); first | done | rfl) ?_
 refine (hcmp _).mono ?_
 rintro e w7 ⟨rfl, hB⟩
 refine ⟨_, rfl, ?_⟩
 refine hK.out _ _ (GfS.step hHeld hB.below) (fun hHeld => ?_)
 clear hK K
 refine norm_ (a' := ?_) ?_ ?_
 rotate_left
 ·show Act.put _ (some 22) _ = _
  simp only [Act.put, List.setIfInBounds_toArray, List.set_cons_zero, List.set_cons_succ, i64_w, i32_w]
  rfl
 refine pure_ (i := 8) (N := some 23) (v := ?_) (a' := ?_) #[true, true, true, true, true, true, true, true, true, false, false, false] rfl rfl (by kernel_rfl) (fun _ _ _ h => h) (Or.inl ⟨by rfl, ?_⟩) ?_ ?_
 rotate_left
 ·intro w'
  go_simp
  with_reducible rfl
 rotate_left
 ·simp only [Act.put, List.setIfInBounds_toArray, List.set_cons_zero, List.set_cons_succ, i64_w, i32_w]
  rfl
 refine pure_ (i := 9) (N := some 24) (v := ?_) (a' := ?_) #[true, true, true, true, true, true, true, true, true, true, false, false] rfl rfl (by kernel_rfl) (fun _ _ _ h => h) (Or.inl ⟨by rfl, ?_⟩) ?_ ?_
 rotate_left
 ·intro w'
  go_simp
  with_reducible rfl
 rotate_left
 ·simp only [Act.put, List.setIfInBounds_toArray, List.set_cons_zero, List.set_cons_succ, i64_w, i32_w]
  rfl
 refine last_ (i := 10) (N := none) #[true, true, true, true, true, true, true, true, true, true, true, false] rfl rfl (by kernel_rfl) (by decide) (fun K hK => ?_)
 refine storeRow_step (by rfl) 4 15 rfl g4 s rfl rfl hHeld.2.1 ?_
 have HG := Lib.hid (GfS.stored hHeld)
 have hzs : w.heap.size ≤ (w7.setRow g4 s.arr).heap.size := Nat.le_trans hws (Nat.le_trans (Nat.le_trans (Below.refl w2.heap.size w2).drew.size hB.below.size) (below_setRow (Below.refl 0 w7) (Nat.zero_le _) _).size)
 refine hK.out _ _ ?_
 clear hK K
 refine norm_ (a' := ?_) ?_ ?_
 rotate_left
 ·show Act.put _ none _ = _
  simp only [Act.put]
  rfl
 clear hHeld
 generalize w7.setRow g4 s.arr = w8 at HG hzs ⊢
 refine pure_ (i := 11) (N := some 5) (v := ?_) (a' := ?_) #[true, true, true, true, true, true, true, true, true, true, true, true] rfl rfl (by kernel_rfl) (fun _ _ _ h => h) (Or.inl ⟨by rfl, ?_⟩) ?_ ?_
 rotate_left
 ·intro w'
  go_simp
  with_reducible rfl
 rotate_left
 ·simp only [Act.put, List.setIfInBounds_toArray, List.set_cons_zero, List.set_cons_succ, i64_w, i32_w]
  rfl
 refine done_ (by kernel_rfl) ?_
 go_wp2
 refine bodyPost_ret (v := .tuple #[.agg s.arr, .bool (decide (q ≤ 0))]) ?_ rfl ⟨rfl, HG.out.1, hzs⟩
 exact results_ct (P := Try.prog) (p := 4) (u := 5) (ty := 30) Try.results66 _ _ g4 30 s.arr (0, 0) _ rfl HG.out.2 Try.underlying30 rfl (by rw [Spn.arr_size]; exact infoS)
/-- Both. -/
theorem fits_walk (B gp gh : Nat) (v6 : Bool) (a hi : A16) (m : Int) (k : Nat) (w0 w : World) (h : GrS w0 B gp gh ⟨v6, a, m⟩ hi w) (hb : B ≤ w.heap.size) :
 Calls Try.prog 66 #[.int .i64 k, .pointer (some ⟨gp, 0, none⟩), .pointer (some ⟨gh, 0, none⟩)] w fun e w' => e = .returned (.tuple #[.agg (ofQ ⟨v6, a, k⟩).arr, .bool (fitsP v6 a hi k)]) ∧ GrS w0 B gp gh ⟨v6, a, k⟩ hi w' ∧ w.heap.size ≤ w'.heap.size := by
 cases hr : rightB ⟨v6, a, k⟩
 ·have e1 : ofQ ⟨v6, a, k⟩ = zS := by unfold ofQ; rw [hr]; rfl
  have e2 : fitsP v6 a hi k = false := by unfold fitsP; rw [hr]; rfl
  rw [e1, e2]
  exact fits_bad B gp gh ⟨v6, a, m⟩ hi k w0 w h hb hr
 ·have e1 : ofQ ⟨v6, a, k⟩ = ofP ⟨v6, a, k⟩ := by unfold ofQ; rw [hr]; rfl
  have e2 : fitsP v6 a hi k = decide (lexC (ofHi ⟨v6, a, k⟩).l hi.l ≤ 0) := by unfold fitsP; rw [hr]; rfl
  rw [e1, e2]
  exact fits_good B gp gh ⟨v6, a, m⟩ hi k w0 w h hb hr

end Go.Proofs.Ytdioagebkfdkhaa.Ad
end

section
set_option linter.unusedVariables false
set_option linter.unusedSimpArgs false
namespace Go.Proofs.Ytdioagebkfdkhaa.Ad
open Go.RowKit Go.Proofs.YtdioagebkfdkhaaW.PrintWords Go.Proofs.YtdioagebkfdkhaaW.PrintLast Go.Proofs.YtdioagebkfdkhaaW.PrintMore Go.Proofs.Ytdioagebkfdkhaa.PT

theorem Pfx.lit (p : Pfx) : p.arr = (.bool p.v6 :: (lit16 p.a ++ [.int .i64 p.n])).toArray := by
 rw [Pfx.arr, Pfx.cells, A16.lit p.a]
theorem buildP2 (v6 : Bool) (a : A16) (W : World) : (Instr.build 37 #[(0, .bool v6), (1, .agg a.arr)]).run Try.prog W = .ok (.agg (⟨v6, a, 0⟩ : Pfx).arr) W := by
 rw [Pfx.lit, A16.arr, A16.lit]
 kernel_rfl
theorem buildP3 (v6 : Bool) (a : A16) (n : Int) (W : World) : (Instr.build 37 #[(0, .bool v6), (1, .agg a.arr), (2, .int .i64 n)]).run Try.prog W = .ok (.agg (⟨v6, a, n⟩ : Pfx).arr) W := by
 rw [Pfx.lit, A16.arr, A16.lit]
 kernel_rfl
theorem exec_buildP2 {ρ : Operand → Value} {n x y : Tmp} {ty : TypeId} {pos : String} {af : Array Edge} {g : Option (Nat × Bool)} (v6 : Bool) (a : A16) (h1 : ρ (.tmp x) = .bool v6) (h2 : ρ (.tmp y) = .agg a.arr) (W : World) :
 (execOp ρ ⟨some n, .build 37 #[(0, .tmp x), (1, .tmp y)], ty, pos, af, g⟩).run Try.prog W = .ok (.value (.agg (⟨v6, a, 0⟩ : Pfx).arr)) W := by
 have := buildP2 v6 a W
 unfold execOp
 simp only [List.map_toArray, List.map_cons, List.map_nil, h1, h2, Sem.run_map, this]
 simp [Result.andThen, this]
theorem exec_buildP3 {ρ : Operand → Value} {n x y z : Tmp} {ty : TypeId} {pos : String} {af : Array Edge} {g : Option (Nat × Bool)} (v6 : Bool) (a : A16) (m : Int) (h1 : ρ (.tmp x) = .bool v6) (h2 : ρ (.tmp y) = .agg a.arr) (h3 : ρ (.tmp z) = .int .i64 m) (W : World) :
 (execOp ρ ⟨some n, .build 37 #[(0, .tmp x), (1, .tmp y), (2, .tmp z)], ty, pos, af, g⟩).run Try.prog W = .ok (.value (.agg (⟨v6, a, m⟩ : Pfx).arr)) W := by
 have := buildP3 v6 a m W
 unfold execOp
 simp only [List.map_toArray, List.map_cons, List.map_nil, h1, h2, h3, Sem.run_map, this]
 simp [Result.andThen, this]
/-- A variable that is a prefix: made, and laid. -/
theorem alloc_storeP {ops : Array Oper} {rest : List Oper} {a : Act} {W : World} {Q : Exit → Act → World → Prop} {n x : Tmp} {ty ty' : TypeId} {pos pos' : String} {af af' : Array Edge} (v : Pfx)
 (hx : (a.put (some n) (.pointer (some ⟨W.heap.size, 0, none⟩))).eval (.tmp x) = .agg v.arr) (hn : (a.put (some n) (.pointer (some ⟨W.heap.size, 0, none⟩))).eval (.tmp n) = .pointer (some ⟨W.heap.size, 0, none⟩))
 (h : wpList Try.prog ops Q rest (a.put (some n) (.pointer (some ⟨W.heap.size, 0, none⟩))) (W.alloc (.cells v.arr 37))) :
 wpList Try.prog ops Q (⟨some n, .alloc 37, ty, pos, af, none⟩ :: ⟨none, .store 37 (.tmp n) (.tmp x), ty', pos', af', none⟩ :: rest) a W := by
 refine valN rfl (v := .pointer (some ⟨W.heap.size, 0, none⟩)) (w1 := W.alloc (.cells zP.arr 37)) (by kernel_rfl) ?_
 refine wpList_store_row rfl 37 (.tmp n) (.tmp x) rfl W.heap.size v.arr hn hx 37 zP.arr (Has.new W zP.arr _) (by rw [v.arr_size]; exact infoP) (by rw [v.arr_size, zP.arr_size]) v.arr_one ?_
 rw [setRow_alloc]
 exact h

set_option maxHeartbeats 2000000 in
set_option maxRecDepth 100000 in
theorem great_walk (v6 : Bool) (a hi : A16) (w : World) :
 Calls Try.prog 60 #[.bool v6, .agg a.arr, .agg hi.arr] w fun e w' => e = .returned (.agg (greatP v6 a hi).arr) ∧ Below w.heap.size w w' := by
 obtain ⟨r, hr⟩ : ∃ r, r = greatN v6 a hi := ⟨_, rfl⟩
 have hgr : greatP v6 a hi = ofQ ⟨v6, a, r⟩ := by rw [hr]; rfl
 obtain ⟨s, hs⟩ : ∃ s, s = ofQ ⟨v6, a, r⟩ := ⟨_, rfl⟩
 rw [hgr, ← hs]
 have HS := Lib.hid (And.intro hr hs)
 clear hr hs hgr
 have H0 : Hid (Has (((w.alloc (.cells a.arr 28)).alloc (.cells hi.arr 28)).alloc (.cells zS.arr 30)) w.heap.size a.arr 28 ∧ Has (((w.alloc (.cells a.arr 28)).alloc (.cells hi.arr 28)).alloc (.cells zS.arr 30)) (w.heap.size + 1) hi.arr 28 ∧ Has (((w.alloc (.cells a.arr 28)).alloc (.cells hi.arr 28)).alloc (.cells zS.arr 30)) (w.heap.size + 2) zS.arr 30 ∧ Below w.heap.size w (((w.alloc (.cells a.arr 28)).alloc (.cells hi.arr 28)).alloc (.cells zS.arr 30)) ∧ (((w.alloc (.cells a.arr 28)).alloc (.cells hi.arr 28)).alloc (.cells zS.arr 30)).heap.size = w.heap.size + 3) := by
  refine Lib.hid ⟨((Has.new w _ _).alloc _).alloc _, ?_, ?_, (((Below.refl _ _).alloc (Nat.le_refl _) _).alloc (by simp) _).alloc (by simp; omega) _, by simp⟩
  ·have := (Has.new (w.alloc (.cells a.arr 28)) hi.arr 28).alloc (.cells zS.arr 30)
   rwa [World.size_alloc] at this
  ·have := Has.new ((w.alloc (.cells a.arr 28)).alloc (.cells hi.arr 28)) zS.arr 30
   rwa [World.size_alloc, World.size_alloc] at this
 go_enter Try.func60, Try.ntmps60
 go_upto_region 1 with (fail)
 change Code.wp _ _ _ _ (((w.alloc (.cells a.arr 28)).alloc (.cells hi.arr 28)).alloc (.cells zS.arr 30))
 generalize (((w.alloc (.cells a.arr 28)).alloc (.cells hi.arr 28)).alloc (.cells zS.arr 30)) = W at H0 ⊢
 have HP : Hid (Has (W.alloc (.cells (⟨v6, a, 0⟩ : Pfx).arr 37)) W.heap.size (⟨v6, a, 0⟩ : Pfx).arr 37) := Lib.hid (Has.new _ _ _)
 have HB := Lib.hid (show Below W.heap.size W (W.alloc (.cells (⟨v6, a, 0⟩ : Pfx).arr 37)) from (Below.refl _ _).alloc (Nat.le_refl _) _)
 have HGS := Lib.hid H0.out.2.2.2.2
 go_wp2_with (first
  | ((with_reducible refine at_dst 17 ?_); refine loadA a w.heap.size 0 rfl H0.out.1.ra ?_)
  | ((with_reducible refine at_dst 18 ?_); refine valN rfl (exec_buildP2 v6 a rfl rfl _) ?_)
  | ((with_reducible refine at_dst 7 ?_); refine alloc_storeP ⟨v6, a, 0⟩ rfl rfl ?_; generalize hgp : W.heap.size = gp at HP HB HGS ⊢; generalize hw2 : W.alloc (.cells (⟨v6, a, 0⟩ : Pfx).arr 37) = W2 at HP HB ⊢))
 refine (width_walk _ _).mono ?_
 rintro e W3 ⟨rfl, rfl⟩
 have hgs := HGS.out
 have HQ : Hid (GrS W3 gp gp (w.heap.size + 1) ⟨v6, a, 0⟩ hi W3 ∧ Has W3 (w.heap.size + 2) zS.arr 30 ∧ w.heap.size + 2 < gp ∧ gp ≤ W3.heap.size ∧ Below w.heap.size w W3) :=
  Lib.hid ⟨⟨HP.out, H0.out.2.1.below (by rw [hgp]; exact HB.out), Below.refl _ _, Nat.le_refl _, by omega⟩, H0.out.2.2.1.below (by rw [hgp]; exact HB.out), by omega, Nat.le_of_lt HP.out.lt, H0.out.2.2.2.1.trans (HB.out.mono (by omega))⟩
 clear hgs HGS hgp hw2 HP HB H0
 obtain ⟨n, hn2⟩ : ∃ n, n = wid v6 := ⟨_, rfl⟩
 have hn16 : n ≤ 16 := by rw [hn2]; cases v6 <;> decide
 have hw1 : IntKind.i64.wrap (8 * (n : Int)) = ((8 * n : Nat) : Int) := by rw [i64_w]; unfold Go.RowKit.wrap64; omega
 have hw3 : Go.RowKit.wrap64 (8 * (n : Int)) = ((8 * n : Nat) : Int) := by unfold Go.RowKit.wrap64; omega
 rw [← hn2]
 have HN := Lib.hid hn2
 clear hn2
 obtain ⟨N, hN⟩ : ∃ N, N = 8 * n := ⟨_, rfl⟩
 rw [← hN] at hw1 hw3
 have HNN := Lib.hid hN
 have hNb : N ≤ 128 := by omega
 clear hN
 go_wp2
 go_loopw [9, 10, 11, 12, 13] (fun lv hv _ _ _ wr => ∃ (lo hi' : Nat) (m : Int), lo ≤ hi' ∧ hi' ≤ N ∧ lv = .int .i64 lo ∧ hv = .int .i64 hi' ∧ Hid (GrS W3 gp gp (w.heap.size + 1) ⟨v6, a, m⟩ hi wr ∧ gp ≤ wr.heap.size ∧ lowP (fitsP v6 a hi) N lo hi' = r)) (fun lv hv _ _ _ _ => (intOf hv).toNat - (intOf lv).toNat)
 case atStart => exact ⟨0, N, 0, Nat.zero_le _, Nat.le_refl _, rfl, rfl, Lib.hid ⟨HQ.out.1, HQ.out.2.2.2.1, by rw [HS.out.1, HNN.out, HN.out]; rfl⟩⟩
 case round =>
  obtain ⟨lo, hi', m, hlh, hhN, rfl, rfl, H⟩ := hrel
  by_cases hl : lo < hi'
  ·have hd1 := eq_true (show (lo : Int) < (hi' : Int) by omega)
   have hd2 : decide ((lo : Int) < (hi' : Int)) = true := decide_eq_true (by omega)
   obtain ⟨k, hk⟩ : ∃ k, k = (lo + hi') / 2 := ⟨_, rfl⟩
   have hq1 : IntKind.i64.wrap ((lo : Int) + hi') = (lo : Int) + hi' := by rw [i64_w]; unfold Go.RowKit.wrap64; omega
   have hq3 : Go.RowKit.wrap64 ((lo : Int) + hi') = (lo : Int) + hi' := by unfold Go.RowKit.wrap64; omega
   have hq2 : ((lo : Int) + hi') / 2 = (k : Int) := by rw [hk]; omega
   obtain ⟨b, hb⟩ : ∃ b, b = fitsP v6 a hi k := ⟨_, rfl⟩
   obtain ⟨sk, hsk⟩ : ∃ sk, sk = ofQ ⟨v6, a, k⟩ := ⟨_, rfl⟩
   have hf := fits_walk gp gp (w.heap.size + 1) v6 a hi m k W3 wr H.out.1 H.out.2.1
   rw [← hb, ← hsk] at hf
   have hst := lowP_step (fitsP v6 a hi) N lo hi' (by omega)
   rw [if_pos hl, ← hk, ← hb] at hst
   have HK := Lib.hid (And.intro (And.intro hk H.out.2.2) hst)
   have hkb : lo ≤ k ∧ k < hi' := by omega
   clear hk hst hb hsk
   have hq4 : Go.RowKit.wrap64 ((k : Int) + 1) = ((k + 1 : Nat) : Int) := by unfold Go.RowKit.wrap64; omega
   have hq5 : IntKind.i64.wrap ((k : Int) + 1) = ((k + 1 : Nat) : Int) := by rw [i64_w]; exact hq4
   clear H
   go_wp2_with fail
   rw [hq2]
   refine hf.mono ?_
   rintro e w5 ⟨rfl, hG, hsz⟩
   have H5 : Hid (GrS W3 gp gp (w.heap.size + 1) ⟨v6, a, k⟩ hi (w5.alloc (.cells sk.arr 30)) ∧ gp ≤ (w5.alloc (.cells sk.arr 30)).heap.size) :=
    Lib.hid ⟨hG.step (Nat.le_of_lt hG.1.lt) ((Below.refl _ _).alloc (Nat.le_refl _) _), Nat.le_trans (Nat.le_of_lt hG.1.lt) ((Below.refl w5.heap.size w5).alloc (Nat.le_refl _) (.cells sk.arr 30)).size⟩
   clear hG hsz hf
   cases b
   ·go_wp2_with (first
     | ((with_reducible refine at_dst 12 ?_); refine alloc_storeS sk rfl rfl ?_; generalize w5.alloc (.cells sk.arr 30) = w6 at H5 ⊢))
    go_roundw
    case rel => exact ⟨k + 1, hi', k, hkb.2, hhN, by go_num, rfl, Lib.hid ⟨H5.out.1, H5.out.2, by have := HK.out.2; rw [if_neg (by simp)] at this; rw [← this]; exact HK.out.1.2⟩⟩
    case measure =>
     clear hq1 hq2 hq3 hq4 hq5 hw1 hw3 hd1 hd2
     simp only [intOf]
     omega
   ·go_wp2_with (first
     | ((with_reducible refine at_dst 12 ?_); refine alloc_storeS sk rfl rfl ?_; generalize w5.alloc (.cells sk.arr 30) = w6 at H5 ⊢))
    go_roundw
    case rel => exact ⟨lo, k, k, hkb.1, Nat.le_trans (Nat.le_of_lt hkb.2) hhN, rfl, rfl, Lib.hid ⟨H5.out.1, H5.out.2, by have := HK.out.2; rw [if_pos (by simp)] at this; rw [← this]; exact HK.out.1.2⟩⟩
    case measure =>
     clear hq1 hq2 hq3 hq4 hq5 hw1 hw3 hd1 hd2
     simp only [intOf]
     omega
  ·have hlo : hi' = lo := by omega
   subst hlo
   have hd1 := eq_false (show ¬ (hi' : Int) < (hi' : Int) by omega)
   have hd2 : decide ((hi' : Int) < (hi' : Int)) = false := decide_eq_false (by omega)
   have hst := lowP_step (fitsP v6 a hi) N hi' hi' (by omega)
   rw [if_neg hl, H.out.2.2] at hst
   subst hst
   obtain ⟨b, hb⟩ : ∃ b, b = fitsP v6 a hi r := ⟨_, rfl⟩
   have hf := fits_walk gp gp (w.heap.size + 1) v6 a hi m r W3 wr H.out.1 H.out.2.1
   rw [← hb, ← HS.out.2] at hf
   clear H hb
   go_wp2_with fail
   refine hf.mono ?_
   rintro e w5 ⟨rfl, hG, hsz⟩
   have H5 : Hid (Has (w5.alloc (.cells s.arr 30)) w5.heap.size s.arr 30 ∧ Below gp W3 (w5.alloc (.cells s.arr 30))) :=
    Lib.hid ⟨Has.new _ _ _, hG.2.2.1.alloc (Nat.le_of_lt hG.1.lt) _⟩
   clear hG hsz hf
   go_upto_region 11 with (first
    | ((with_reducible refine at_dst 14 ?_); refine alloc_storeS s rfl rfl ?_; generalize w5.heap.size = g5 at H5 ⊢; generalize w5.alloc (.cells s.arr 30) = w6 at H5 ⊢))
   have hz6 : Has w6 (w.heap.size + 2) zS.arr 30 := (H5.out.2.block _ HQ.out.2.2.1).trans HQ.out.2.1
   have hB6 : Below w.heap.size w w6 := HQ.out.2.2.2.2.trans (H5.out.2.mono (by have := HQ.out.2.2.1; omega))
   refine wp_region_lit ?_
   refine wpList_load_row rfl 30 (.tmp 14) rfl g5 rfl 30 _ (0, 0) _ H5.out.1 Try.underlying30 rfl (by rw [Spn.arr_size]; exact infoS) ?_
   refine wpList_store_row rfl 30 (.tmp 6) (.tmp 46) rfl (w.heap.size + 2) s.arr rfl rfl 30 zS.arr hz6 (by rw [Spn.arr_size]; exact infoS) (by rw [Spn.arr_size, Spn.arr_size]) (Spn.arr_one _) ?_
   have v0 : (w6.setRow (w.heap.size + 2) s.arr).heap[w.heap.size + 2]? = some (.cells s.arr 30 (0, 0)) := setRow_heap w6 _ _ _ _ _ hz6
   have v3 := below_setRow hB6 (g := w.heap.size + 2) (by omega) s.arr
   generalize w6.setRow (w.heap.size + 2) s.arr = wc at v0 v3 ⊢
   refine wpList_nil ?_
   go_wp2
   refine bodyPost_ret (v := .agg s.arr) ?_ rfl ⟨rfl, v3⟩
   exact results_cell_row (P := Try.prog) (p := 6) (ty := 30) Try.results60 _ _ (w.heap.size + 2) 30 s.arr (0, 0) _ rfl v0 Try.underlying30 rfl (by rw [Spn.arr_size]; exact infoS)

end Go.Proofs.Ytdioagebkfdkhaa.Ad
end
