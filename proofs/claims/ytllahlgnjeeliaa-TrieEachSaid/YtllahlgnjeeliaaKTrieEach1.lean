/- Merged by a program of this session (wip/tools/pack.py). -/
import Derived.Test.YtllahlgnjeeliaaProg
import Derived.Below
import Derived.Deep.Draws
import Derived.Deep.AppendLies
import Derived.Maps.AppendAt
import Derived.OwnWalk
import Derived.Laws.BytesArg
import Derived.Laws.MakeOwn
import Derived.Laws.OwnMore
import Derived.Deep.OwnRows
import Derived.Tactics
import Derived.Lib.ConvBytes
import Derived.Laws.Slices
import Derived.WalkKit
import Derived.KernelRfl
import Derived.RowKit3
import Derived.Deep.LoopGhost
import Derived.Deep.QuietTactic
import Derived.BigQuiet
import Derived.WideLaws
import Derived.Deep.DeepCutAuto
import Derived.Deep.CutBlock
import Derived.Deep.RegionHeld3
import Derived.Laws.Rows
import Derived.Lib.AppendStr
import Derived.ArgAppend
import Derived.Laws.IdiomCopy
import Derived.OrdersHeld
import Derived.Laws.BitsLemmas
import Derived.RowKit
import Derived.Test.YtllahlgnjeeliaaVTrieEach
import Derived.ChangeKeysEq
import Derived.Deep.MidRow
import Derived.Laws.Tables
import Derived.Laws.CopyRow
import Derived.Laws.CopyOwn
import Derived.Lib.Hide
import Derived.WalkSmall
import Derived.LoopTactic
import Derived.Deep.DeepMust
import Derived.Outline
import Derived.StillTailTactics
import Derived.Deep.Cut
import Derived.Lib.BytesEntry
import Derived.Laws.Externs
import Derived.Sort.Grow
import Derived.Shelf.SlSortCmp.WholeK
import Derived.Shelf.SlSortCmp.NoneTotal
namespace Go.Proofs.Ytllahlgnjeeliaa.Ad

/-- An address: 16 bytes. -/
structure A16 where
 l : List Int
 h : l.length = 16
 b : ∀ x ∈ l, 0 ≤ x ∧ x < 256
theorem A16.ext {a b : A16} (h : a.l = b.l) : a = b := by
 cases a; cases b; cases h; rfl
instance : DecidableEq A16 := fun a b => if h : a.l = b.l then isTrue (A16.ext h) else isFalse (fun e => h (e ▸ rfl))
/-- Byte i. -/
def A16.at (a : A16) (i : Nat) : Int := a.l.getD i 0
theorem A16.at_eq {a : A16} {i : Nat} (h : i < a.l.length) : a.at i = a.l[i] := by simp [A16.at, List.getD_eq_getElem?_getD, List.getElem?_eq_getElem h]
theorem A16.at_b (a : A16) (i : Nat) : 0 ≤ a.at i ∧ a.at i < 256 := by
 by_cases h : i < a.l.length
 ·rw [A16.at_eq h]; exact a.b _ (List.getElem_mem h)
 ·simp [A16.at, List.getD_eq_getElem?_getD, List.getElem?_eq_none (by omega : a.l.length ≤ i)]
theorem A16.ext_at {a b : A16} (h : ∀ i, i < 16 → a.at i = b.at i) : a = b := by
 apply A16.ext
 apply List.ext_getElem (by rw [a.h, b.h])
 intro i h1 h2
 have := h i (by rw [← a.h]; exact h1)
 rwa [A16.at_eq h1, A16.at_eq h2] at this
/-- An address out of its bytes. -/
def mk16 (f : Nat → Int) (hf : ∀ i, 0 ≤ f i ∧ f i < 256) : A16 := ⟨(List.range 16).map f, by simp, by
 intro x hx
 obtain ⟨i, _, rfl⟩ := List.mem_map.1 hx
 exact hf i⟩
theorem mk16_at {f : Nat → Int} {hf : ∀ i, 0 ≤ f i ∧ f i < 256} {i : Nat} (h : i < 16) : (mk16 f hf).at i = f i := by
 simp [A16.at, mk16, List.getD_eq_getElem?_getD, List.getElem?_range h]
def z16 : A16 := ⟨List.replicate 16 0, by simp, by simp⟩
/-- Bit i of an address. -/
def A16.bit (a : A16) (i : Nat) : Int := a.at (i / 8) / 2 ^ (7 - i % 8) % 2
theorem A16.bit_01 (a : A16) (i : Nat) : a.bit i = 0 ∨ a.bit i = 1 := by unfold A16.bit; omega

structure Pfx where
 v6 : Bool
 a : A16
 n : Int
deriving DecidableEq
structure Vrp where
 asn : Int
 p : Pfx
 max : Int
deriving DecidableEq

def mostP (v6 : Bool) : Int := if v6 then 128 else 32
/-- What an AS... a prefix must be: no longer than its family's addresses, no bits behind. -/
def rightB (p : Pfx) : Bool := decide (0 ≤ p.n) && decide (p.n ≤ mostP p.v6) && (List.range 128).all (fun i => decide ((i : Int) < p.n) || decide (p.a.bit i = 0))
theorem right_iff {p : Pfx} : rightB p = true ↔ 0 ≤ p.n ∧ p.n ≤ mostP p.v6 ∧ ∀ i : Nat, i < 128 → p.n ≤ i → p.a.bit i = 0 := by
 unfold rightB
 rw [Bool.and_eq_true, Bool.and_eq_true, decide_eq_true_iff, decide_eq_true_iff, List.all_eq_true]
 constructor
 ·rintro ⟨⟨h1, h2⟩, h3⟩
  refine ⟨h1, h2, fun i hi hn => ?_⟩
  have := h3 i (List.mem_range.2 hi)
  rw [Bool.or_eq_true, decide_eq_true_iff, decide_eq_true_iff] at this
  rcases this with h | h
  ·omega
  ·exact h
 ·rintro ⟨h1, h2, h3⟩
  refine ⟨⟨h1, h2⟩, fun i hi => ?_⟩
  rw [Bool.or_eq_true, decide_eq_true_iff, decide_eq_true_iff]
  by_cases hn : (i : Int) < p.n
  ·exact .inl hn
  ·exact .inr (h3 i (List.mem_range.1 hi) (by omega))
/-- A byte of whose bits so many count. -/
def maskP (n : Int) : Int := if n ≤ 0 then 0 else if 8 ≤ n then 255 else 256 - 2 ^ (8 - n).toNat
/-- A byte with as many of its bits. -/
def cutB (x : Int) (n : Int) : Int := if n ≤ 0 then 0 else if 8 ≤ n then x else x - x % 2 ^ (8 - n).toNat
theorem cutB_b {x n : Int} (h : 0 ≤ x ∧ x < 256) : 0 ≤ cutB x n ∧ cutB x n < 256 := by
 unfold cutB
 split
 ·omega
 split
 ·exact h
 ·have hp : (0 : Int) < 2 ^ (8 - n).toNat := Int.pow_pos (by decide)
  have h1 := Int.emod_nonneg x (Int.ne_of_gt hp)
  have h2 := Int.emod_lt_of_pos x hp
  have h3 := Int.mul_ediv_add_emod x (2 ^ (8 - n).toNat)
  have h4 : 0 ≤ (2 ^ (8 - n).toNat) * (x / 2 ^ (8 - n).toNat) := Int.mul_nonneg (Int.le_of_lt hp) (Int.ediv_nonneg h.1 (Int.le_of_lt hp))
  omega
def lenC (p : Pfx) : Int := min (max p.n 0) (mostP p.v6)
def cutP (p : Pfx) : Pfx := ⟨p.v6, mk16 (fun i => cutB (p.a.at i) (lenC p - 8 * i)) (fun i => cutB_b (p.a.at_b i)), lenC p⟩
end Go.Proofs.Ytllahlgnjeeliaa.Ad


section
namespace Go.Proofs.Ytllahlgnjeeliaa.PT
open Go.RowKit Go.Proofs.YtllahlgnjeeliaaW.PrintWords Go.Proofs.YtllahlgnjeeliaaW.PrintLast Go.Proofs.YtllahlgnjeeliaaW.PrintMore
attribute [local go_sem] max2_int min2_int max_two min_two max_three min_three max_four min_four   -- for this text's walks alone
set_option linter.unusedVariables false
set_option linter.unusedSimpArgs false



end Go.Proofs.Ytllahlgnjeeliaa.PT
end

section
set_option linter.unusedVariables false
set_option linter.unusedSimpArgs false
namespace Go.Proofs.Ytllahlgnjeeliaa.Ad
open Go.RowKit Go.Proofs.YtllahlgnjeeliaaW.PrintWords Go.Proofs.YtllahlgnjeeliaaW.PrintLast Go.Proofs.YtllahlgnjeeliaaW.PrintMore Go.Proofs.Ytllahlgnjeeliaa.PT

def A16.cells (a : A16) : List Value := a.l.map (Value.int .u8)
def Pfx.cells (p : Pfx) : List Value := .bool p.v6 :: (p.a.cells ++ [.int .i64 p.n])
def Vrp.cells (v : Vrp) : List Value := .int .u32 v.asn :: (v.p.cells ++ [.int .i64 v.max])
def A16.arr (a : A16) : Array Value := a.cells.toArray
def Pfx.arr (p : Pfx) : Array Value := p.cells.toArray
def Vrp.arr (v : Vrp) : Array Value := v.cells.toArray
theorem A16.cells_len (a : A16) : a.cells.length = 16 := by simp [A16.cells, a.h]
theorem Pfx.cells_len (p : Pfx) : p.cells.length = 18 := by simp [Pfx.cells, p.a.cells_len]
theorem Vrp.cells_len (v : Vrp) : v.cells.length = 20 := by simp [Vrp.cells, v.p.cells_len]
theorem A16.arr_size (a : A16) : a.arr.size = 16 := by simp [A16.arr, a.cells_len]
theorem Pfx.arr_size (p : Pfx) : p.arr.size = 18 := by simp [Pfx.arr, p.cells_len]
theorem Vrp.arr_size (v : Vrp) : v.arr.size = 20 := by simp [Vrp.arr, v.cells_len]
theorem A16.one (a : A16) : ∀ u ∈ a.cells, u.oneCell' = true := by
 intro u hu
 obtain ⟨x, _, rfl⟩ := List.mem_map.1 hu
 rfl
theorem Pfx.one (p : Pfx) : ∀ u ∈ p.cells, u.oneCell' = true := by
 intro u hu
 simp only [Pfx.cells, List.mem_cons, List.mem_append, List.not_mem_nil, or_false] at hu
 rcases hu with rfl | hu | rfl
 ·rfl
 ·exact p.a.one u hu
 ·rfl
theorem Vrp.one (v : Vrp) : ∀ u ∈ v.cells, u.oneCell' = true := by
 intro u hu
 simp only [Vrp.cells, List.mem_cons, List.mem_append, List.not_mem_nil, or_false] at hu
 rcases hu with rfl | hu | rfl
 ·rfl
 ·exact v.p.one u hu
 ·rfl
theorem A16.arr_one (a : A16) : a.arr.all (·.oneCell') = true := by rw [Array.all_eq_true_iff_forall_mem]; intro u hu; exact a.one u (by simpa [A16.arr] using hu)
theorem Pfx.arr_one (a : Pfx) : a.arr.all (·.oneCell') = true := by rw [Array.all_eq_true_iff_forall_mem]; intro u hu; exact a.one u (by simpa [Pfx.arr] using hu)
theorem Vrp.arr_one (a : Vrp) : a.arr.all (·.oneCell') = true := by rw [Array.all_eq_true_iff_forall_mem]; intro u hu; exact a.one u (by simpa [Vrp.arr] using hu)
theorem A16.arr_at (a : A16) {i : Nat} (h : i < 16) : a.arr[i]? = some (.int .u8 (a.at i)) := by
 have h' : i < a.l.length := by rw [a.h]; exact h
 simp [A16.arr, A16.cells, List.getElem?_map, List.getElem?_eq_getElem h', A16.at_eq h']
theorem Pfx.arr_0 (p : Pfx) : p.arr[0]? = some (.bool p.v6) := by simp [Pfx.arr, Pfx.cells]
theorem Pfx.arr_a (p : Pfx) {i : Nat} (h : i < 16) : p.arr[1 + i]? = some (.int .u8 (p.a.at i)) := by
 have h' : i < p.a.cells.length := by rw [p.a.cells_len]; exact h
 have := p.a.arr_at h
 rw [Nat.add_comm]
 simp only [A16.arr, List.getElem?_toArray] at this
 simp [Pfx.arr, Pfx.cells, List.getElem?_append_left h', this]
theorem Pfx.arr_n (p : Pfx) : p.arr[17]? = some (.int .i64 p.n) := by
 simp [Pfx.arr, Pfx.cells]
 rw [List.getElem?_append_right (by rw [p.a.cells_len]; decide), p.a.cells_len]
 rfl
theorem Vrp.arr_0 (v : Vrp) : v.arr[0]? = some (.int .u32 v.asn) := by simp [Vrp.arr, Vrp.cells]
theorem Vrp.arr_max (v : Vrp) : v.arr[19]? = some (.int .i64 v.max) := by
 simp [Vrp.arr, Vrp.cells]
 rw [List.getElem?_append_right (by rw [v.p.cells_len]; decide), v.p.cells_len]
 rfl
theorem infoA : (Try.prog.info? 23).map (·.size) = some 16 := by kernel_rfl
theorem infoP : (Try.prog.info? 25).map (·.size) = some 18 := by kernel_rfl
theorem infoV : (Try.prog.info? 39).map (·.size) = some 20 := by kernel_rfl
theorem cellsOf8 : Try.prog.cellsOf 5 = 1 := by kernel_rfl
theorem eqItems_run (d : Nat) (w : World) (a b : A16) : ∀ is : List Nat, (∀ i ∈ is, i < 16) →
 (Op.eqItems (d + 1) 5 1 a.arr b.arr is).run Try.prog w = .ok (is.all fun i => a.at i == b.at i) w
 | [], _ => by simp [Op.eqItems]
 | i :: is, h => by
  have hi := h i (by simp)
  have ha : (part 5 a.arr (i * 1)).run Try.prog w = .ok (.int .u8 (a.at i)) w := run_part_plain w (by kernel_rfl) (by rw [Nat.mul_one]; exact a.arr_at hi)
  have hb : (part 5 b.arr (i * 1)).run Try.prog w = .ok (.int .u8 (b.at i)) w := run_part_plain w (by kernel_rfl) (by rw [Nat.mul_one]; exact b.arr_at hi)
  have he := run_equalIn_int (P := Try.prog) w d 5 .u8 .u8 (a.at i) (b.at i) Try.underlying5
  simp only [Op.eqItems, Sem.run_bind, ha, hb, he, Result.andThen_ok, List.all_cons]
  cases hx : (a.at i == b.at i)
  ·simp
  ·simpa using eqItems_run d w a b is (fun j hj => h j (by simp [hj]))
theorem all_at (a b : A16) : ((List.range 16).all fun i => a.at i == b.at i) = decide (a = b) := by
 rw [Bool.eq_iff_iff, List.all_eq_true, decide_eq_true_iff]
 constructor
 ·intro h
  exact A16.ext_at fun i hi => by simpa using h i (List.mem_range.2 hi)
 ·rintro rfl i _
  simp
theorem eqA_run (d : Nat) (w : World) (a b : A16) : (Op.equalIn (d + 2) 23 (.agg a.arr) (.agg b.arr)).run Try.prog w = .ok (decide (a = b)) w := by
 obtain ⟨i, hi⟩ : ∃ i, Try.prog.info? 5 = some i := Option.isSome_iff_exists.1 (by kernel_rfl)
 rw [run_equalIn_array w (d + 1) a.arr b.arr Try.underlying23 hi, cellsOf8, eqItems_run d w a b _ (fun i h => List.mem_range.1 h), all_at]
theorem isAggA (w : World) : (isAgg 23).run Try.prog w = .ok true w := by kernel_rfl
theorem isAggP (w : World) : (isAgg 25).run Try.prog w = .ok true w := by kernel_rfl
theorem sizeA (w : World) : (sizeOf 23).run Try.prog w = .ok 16 w := by kernel_rfl
theorem sizeP (w : World) : (sizeOf 25).run Try.prog w = .ok 18 w := by kernel_rfl
theorem Pfx.cut_a (p : Pfx) : p.arr.extract 1 17 = p.a.arr := by
 apply Array.ext'
 simp [Pfx.arr, Pfx.cells, A16.arr, List.take_append, p.a.cells_len]
theorem Vrp.cut_p (v : Vrp) : v.arr.extract 1 19 = v.p.arr := by
 apply Array.ext'
 simp [Vrp.arr, Vrp.cells, Pfx.arr, List.take_append, v.p.cells_len]
theorem eqP_run (d : Nat) (w : World) (p q : Pfx) : (Op.equalIn (d + 3) 25 (.agg p.arr) (.agg q.arr)).run Try.prog w = .ok (decide (p = q)) w := by
 refine (eqA_of Try.underlying25 (by kernel_rfl) (r := (p.v6 == q.v6) && (decide (p.a = q.a) && (p.n == q.n))) ?_).trans ?_
 ·refine eqf_cons (by rfl) (a := .bool p.v6) (b := .bool q.v6) (run_part_plain w (by kernel_rfl) p.arr_0) (run_part_plain w (by kernel_rfl) q.arr_0) (run_equalIn_bool w (d + 1) _ _ _ (by kernel_rfl)) ?_
  refine eqf_cons (by rfl) (a := .agg p.a.arr) (b := .agg q.a.arr) ?_ ?_ (eqA_run d w p.a q.a) ?_
  ·show (part 23 p.arr 1).run Try.prog w = _
   simp only [part, Sem.run_bind, isAggA, Result.andThen_ok, if_true, sizeA, Sem.run_pure]
   rw [p.cut_a]
  ·show (part 23 q.arr 1).run Try.prog w = _
   simp only [part, Sem.run_bind, isAggA, Result.andThen_ok, if_true, sizeA, Sem.run_pure]
   rw [q.cut_a]
  ·exact eqf_last (by rfl) (run_part_plain w (by kernel_rfl) p.arr_n) (run_part_plain w (by kernel_rfl) q.arr_n) (run_equalIn_int (P := Try.prog) w (d + 1) _ .i64 .i64 _ _ (by kernel_rfl))
 ·congr 1
  rw [Bool.eq_iff_iff]
  simp only [Bool.and_eq_true, beq_iff_eq, decide_eq_true_iff]
  constructor
  ·rintro ⟨h1, h2, h3⟩
   cases p; cases q; simp_all
  ·rintro rfl
   simp
theorem eqV_run (d : Nat) (w : World) (p q : Vrp) : (Op.equalIn (d + 4) 39 (.agg p.arr) (.agg q.arr)).run Try.prog w = .ok (decide (p = q)) w := by
 refine (eqA_of Try.underlying39 (by kernel_rfl) (r := (p.asn == q.asn) && (decide (p.p = q.p) && (p.max == q.max))) ?_).trans ?_
 ·refine eqf_cons (by rfl) (a := .int .u32 p.asn) (b := .int .u32 q.asn) (run_part_plain w (by kernel_rfl) p.arr_0) (run_part_plain w (by kernel_rfl) q.arr_0) (run_equalIn_int (P := Try.prog) w (d + 2) _ .u32 .u32 _ _ (by kernel_rfl)) ?_
  refine eqf_cons (by rfl) (a := .agg p.p.arr) (b := .agg q.p.arr) ?_ ?_ (eqP_run d w p.p q.p) ?_
  ·show (part 25 p.arr 1).run Try.prog w = _
   simp only [part, Sem.run_bind, isAggP, Result.andThen_ok, if_true, sizeP, Sem.run_pure]
   rw [p.cut_p]
  ·show (part 25 q.arr 1).run Try.prog w = _
   simp only [part, Sem.run_bind, isAggP, Result.andThen_ok, if_true, sizeP, Sem.run_pure]
   rw [q.cut_p]
  ·exact eqf_last (by rfl) (run_part_plain w (by kernel_rfl) p.arr_max) (run_part_plain w (by kernel_rfl) q.arr_max) (run_equalIn_int (P := Try.prog) w (d + 2) _ .i64 .i64 _ _ (by kernel_rfl))
 ·congr 1
  rw [Bool.eq_iff_iff]
  simp only [Bool.and_eq_true, beq_iff_eq, decide_eq_true_iff]
  constructor
  ·rintro ⟨h1, h2, h3⟩
   cases p; cases q; simp_all
  ·rintro rfl
   simp
theorem eqlP (w : World) (p q : Pfx) : (binOp .eql 25 (.agg p.arr) (.agg q.arr)).run Try.prog w = .ok (.bool (decide (p = q))) w := by
 rw [run_eql_struct, eqP_run 9997]; rfl
theorem eqlV (w : World) (p q : Vrp) : (binOp .eql 39 (.agg p.arr) (.agg q.arr)).run Try.prog w = .ok (.bool (decide (p = q))) w := by
 rw [run_eql_struct, eqV_run 9996]; rfl
section
variable {ops : Array Oper} {rest : List Oper} {a : Act} {W : World} {Q : Exit → Act → World → Prop} {n : Tmp} {x : Operand} {ty : TypeId} {pos : String} {af : Array Edge} {b o : Nat} {S : World → Prop}
theorem loadA (v : A16) (b o : Nat) (hx : a.eval x = .pointer (some ⟨b, o, none⟩)) (hR : W.rangeAt b o v.cells) (h : wpList Try.prog ops Q rest (a.put (some n) (.agg v.arr)) W) : wpList Try.prog ops Q (⟨some n, .load 23 x, ty, pos, af, none⟩ :: rest) a W :=
 wpList_load_mid rfl _ x rfl b o hx v.cells _ hR Try.underlying23 rfl (by rw [v.cells_len]; exact infoA) h
theorem loadP (v : Pfx) (b o : Nat) (hx : a.eval x = .pointer (some ⟨b, o, none⟩)) (hR : W.rangeAt b o v.cells) (h : wpList Try.prog ops Q rest (a.put (some n) (.agg v.arr)) W) : wpList Try.prog ops Q (⟨some n, .load 25 x, ty, pos, af, none⟩ :: rest) a W :=
 wpList_load_mid rfl _ x rfl b o hx v.cells _ hR Try.underlying25 rfl (by rw [v.cells_len]; exact infoP) h
theorem loadV (v : Vrp) (b o : Nat) (hx : a.eval x = .pointer (some ⟨b, o, none⟩)) (hR : W.rangeAt b o v.cells) (h : wpList Try.prog ops Q rest (a.put (some n) (.agg v.arr)) W) : wpList Try.prog ops Q (⟨some n, .load 39 x, ty, pos, af, none⟩ :: rest) a W :=
 wpList_load_mid rfl _ x rfl b o hx v.cells _ hR Try.underlying39 rfl (by rw [v.cells_len]; exact infoV) h
theorem yP {oi : Oper} (hw : Region.wanted oi (yielded ops a.tmps) = true) (ho : oi.op = .load 25 x) (v : Pfx) (b o : Nat) (hx : a.eval x = .pointer (some ⟨b, o, none⟩)) (hS : ∀ W, S W → W.rangeAt b o v.cells) : YieldsIf Try.prog ops S oi (.agg v.arr) a :=
 yieldsIf_load_mid hw _ x ho b o hx v.cells _ hS Try.underlying25 rfl (by rw [v.cells_len]; exact infoP)
theorem yV {oi : Oper} (hw : Region.wanted oi (yielded ops a.tmps) = true) (ho : oi.op = .load 39 x) (v : Vrp) (b o : Nat) (hx : a.eval x = .pointer (some ⟨b, o, none⟩)) (hS : ∀ W, S W → W.rangeAt b o v.cells) : YieldsIf Try.prog ops S oi (.agg v.arr) a :=
 yieldsIf_load_mid hw _ x ho b o hx v.cells _ hS Try.underlying39 rfl (by rw [v.cells_len]; exact infoV)
end
/-- A whole value that lies in block g. -/
def Has (W : World) (g : Nat) (cs : Array Value) (t : TypeId) : Prop := W.heap[g]? = some (.cells cs t (0, 0))
theorem Has.lt {W : World} {g : Nat} {cs : Array Value} {t : TypeId} (h : Has W g cs t) : g < W.heap.size := (Array.getElem?_eq_some_iff.1 h).1
theorem Has.c {W : World} {g : Nat} {cs : Array Value} {t : TypeId} (h : Has W g cs t) (j : Nat) : W.cell? ⟨g, j, none⟩ = cs[j]? := cell_of_row _ _ _ _ _ _ h
theorem Has.f {W : World} {g : Nat} {cs : Array Value} {t : TypeId} (h : Has W g cs t) (j : Nat) : W.frozen? ⟨g, j, none⟩ = false := frozen_of_row _ _ _ _ _ h
theorem Has.below {W W1 : World} {g : Nat} {cs : Array Value} {t : TypeId} (h : Has W g cs t) (hB : Below W.heap.size W W1) : Has W1 g cs t := (hB.block _ h.lt).trans h
theorem Has.drew {W : World} {g : Nat} {cs : Array Value} {t : TypeId} (h : Has W g cs t) : Has W.drew g cs t := h
theorem Has.new (W : World) (cs : Array Value) (t : TypeId) : Has (W.alloc (.cells cs t)) W.heap.size cs t := heap_alloc_new W _
theorem Has.alloc {W : World} {g : Nat} {cs : Array Value} {t : TypeId} (h : Has W g cs t) (o : Obj) : Has (W.alloc o) g cs t := (heap_alloc_old W o h.lt).trans h
theorem Has.far {W : World} {g : Nat} {cs : Array Value} {t : TypeId} (h : Has W g cs t) {p : Addr} (hp : g ≠ p.block) (u : Value) : Has (W.setCell p u) g cs t := (heap_setCell_other _ _ _ _ hp).trans h
theorem Has.rp {W : World} {g t : Nat} {v : Pfx} (h : Has W g v.arr t) : W.rangeAt g 0 v.cells := fun j u hu => by rw [Nat.zero_add, h.c]; simpa [Pfx.arr] using hu
theorem Has.rv {W : World} {g t : Nat} {v : Vrp} (h : Has W g v.arr t) : W.rangeAt g 0 v.cells := fun j u hu => by rw [Nat.zero_add, h.c]; simpa [Vrp.arr] using hu
/-- The address within a prefix's cells, the prefix within those of one. -/
theorem ra_of_p {W : World} {b o : Nat} {p : Pfx} (h : W.rangeAt b o p.cells) : W.rangeAt b (o + 1) p.a.cells := fun j u hu => by
 have := h (j + 1) u (by
  have hj : j < p.a.cells.length := (List.getElem?_eq_some_iff.1 hu).1
  rw [Pfx.cells, List.getElem?_cons_succ, List.getElem?_append_left hj]; exact hu)
 rwa [show o + (j + 1) = o + 1 + j by omega] at this
theorem rp_of_v {W : World} {b o : Nat} {v : Vrp} (h : W.rangeAt b o v.cells) : W.rangeAt b (o + 1) v.p.cells := fun j u hu => by
 have := h (j + 1) u (by
  have hj : j < v.p.cells.length := (List.getElem?_eq_some_iff.1 hu).1
  rw [Vrp.cells, List.getElem?_cons_succ, List.getElem?_append_left hj]; exact hu)
 rwa [show o + (j + 1) = o + 1 + j by omega] at this
theorem rp_v6 {W : World} {b o : Nat} {p : Pfx} (h : W.rangeAt b o p.cells) : W.cell? ⟨b, o, none⟩ = some (.bool p.v6) := h 0 _ (by simp [Pfx.cells])
theorem rp_n {W : World} {b o : Nat} {p : Pfx} (h : W.rangeAt b o p.cells) : W.cell? ⟨b, o + 17, none⟩ = some (.int .i64 p.n) := h 17 _ (by have := p.arr_n; simpa [Pfx.arr] using this)
theorem rv_as {W : World} {b o : Nat} {v : Vrp} (h : W.rangeAt b o v.cells) : W.cell? ⟨b, o, none⟩ = some (.int .u32 v.asn) := h 0 _ (by simp [Vrp.cells])
theorem rv_max {W : World} {b o : Nat} {v : Vrp} (h : W.rangeAt b o v.cells) : W.cell? ⟨b, o + 19, none⟩ = some (.int .i64 v.max) := h 19 _ (by have := v.arr_max; simpa [Vrp.arr] using this)
end Go.Proofs.Ytllahlgnjeeliaa.Ad
end

section
set_option linter.unusedVariables false
set_option linter.unusedSimpArgs false
namespace Go.Proofs.Ytllahlgnjeeliaa.Ad
open Go.RowKit Go.Proofs.YtllahlgnjeeliaaW.PrintWords Go.Proofs.YtllahlgnjeeliaaW.PrintLast Go.Proofs.YtllahlgnjeeliaaW.PrintMore Go.Proofs.Ytllahlgnjeeliaa.PT

set_option maxHeartbeats 1000000 in
set_option maxRecDepth 100000 in
theorem refBit_walk (a : A16) (i : Nat) (w : World) (hi : i < 128) :
 Calls Try.prog 43 #[.agg a.arr, .int .i64 i] w fun e w' => e = .returned (.int .u8 (a.bit i)) ∧ Below w.heap.size w w' := by
 have hd : ((i : Int) / 8) < 16 := by omega
 have ht : ((i : Int) / 8).toNat = i / 8 := by omega
 have hc : (w.alloc (.cells a.arr 23)).cell? ⟨w.heap.size, i / 8, none⟩ = some (.int .u8 (a.at (i / 8))) := (cell_of_row _ _ _ _ _ _ (heap_alloc_new w _)).trans (a.arr_at (by omega))
 have hi' : (i : Int) ≤ 127 := by omega
 go_enter Try.func43, Try.ntmps43
 go_wp2
 go_ret
 refine ⟨?_, (Below.refl _ _).alloc (Nat.le_refl _) _⟩
 show Ending.returned (.int .u8 ((a.at (i / 8) / 2 ^ (7 - i % 8)).tmod 2)) = _
 rw [Int.tmod_eq_emod_of_nonneg (Int.ediv_nonneg (a.at_b _).1 (Int.le_of_lt (Int.pow_pos (by decide))))]
 rfl

/-- The block of a prefix that has been boxed. -/
theorem pcell (w : World) (p : Pfx) (t j : Nat) : (w.alloc (.cells p.arr t)).cell? ⟨w.heap.size, j, none⟩ = p.arr[j]? := cell_of_row _ _ _ _ _ _ (heap_alloc_new w _)
theorem and1 : ∀ n : Nat, n < 256 → Go.bits .and .i64 (wrap64 (n : Int)) 1 = (n : Int) % 2 := by decide +kernel
set_option maxHeartbeats 1000000 in
set_option maxRecDepth 100000 in
theorem bit_walk (p : Pfx) (i : Nat) (w : World) (hi : i < 128) :
 Calls Try.prog 35 #[.agg p.arr, .int .i64 i] w fun e w' => e = .returned (.int .i64 (p.a.bit i)) ∧ Below w.heap.size w w' := by
 have hd : ((i : Int) / 8) < 16 := by omega
 have ht : ((i : Int) / 8).toNat = i / 8 := by omega
 have hc : (w.alloc (.cells p.arr 25)).cell? ⟨w.heap.size, 1 + i / 8, none⟩ = some (.int .u8 (p.a.at (i / 8))) := (pcell _ _ _ _).trans (p.arr_a (by omega))
 have hi' : (i : Int) ≤ 127 := by omega
 go_enter Try.func35, Try.ntmps35
 go_wp2
 go_ret
 refine ⟨?_, (Below.refl _ _).alloc (Nat.le_refl _) _⟩
 show Ending.returned (.int .i64 (Go.bits .and .i64 (wrap64 (p.a.at (i / 8) / 2 ^ (7 - i % 8))) 1)) = _
 have hb := p.a.at_b (i / 8)
 have hp : (0 : Int) < 2 ^ (7 - i % 8) := Int.pow_pos (by decide)
 have h1 : 0 ≤ p.a.at (i / 8) / 2 ^ (7 - i % 8) := Int.ediv_nonneg hb.1 (Int.le_of_lt hp)
 have h2 : p.a.at (i / 8) / 2 ^ (7 - i % 8) ≤ p.a.at (i / 8) := Int.ediv_le_self _ hb.1
 obtain ⟨n, hn⟩ := Int.eq_ofNat_of_zero_le h1
 have := and1 n (by omega)
 rw [← hn] at this
 rw [this]
 rfl

set_option maxHeartbeats 1000000 in
set_option maxRecDepth 100000 in
theorem family_walk (p : Pfx) (w : World) :
 Calls Try.prog 34 #[.agg p.arr] w fun e w' => e = .returned (.int .i64 (if p.v6 then 1 else 0)) ∧ Below w.heap.size w w' := by
 have hc := (pcell w p 25 0).trans p.arr_0
 cases hv : p.v6
 all_goals
  rw [hv] at hc
  have HV := Lib.hid hv
  clear hv
  go_enter Try.func34, Try.ntmps34
  go_wp2
  go_ret
  exact ⟨rfl, (Below.refl _ _).alloc (Nat.le_refl _) _⟩

set_option maxHeartbeats 1000000 in
set_option maxRecDepth 100000 in
theorem mask_walk (n : Int) (w : World) (h0 : -1000 ≤ n) (h1 : n ≤ 1000) :
 Calls Try.prog 46 #[.int .i64 n] w fun e w' => e = .returned (.int .u8 (maskP n)) ∧ w = w' := by
 unfold maskP
 by_cases hn : n ≤ 0
 ·rw [if_pos hn]
  go_enter Try.func46, Try.ntmps46
  go_wp2
  go_ret
  exact ⟨rfl, rfl⟩
 rw [if_neg hn]
 by_cases h8 : 8 ≤ n
 ·rw [if_pos h8]
  go_enter Try.func46, Try.ntmps46
  go_wp2
  go_ret
  exact ⟨rfl, rfl⟩
 rw [if_neg h8]
 have : n = 1 ∨ n = 2 ∨ n = 3 ∨ n = 4 ∨ n = 5 ∨ n = 6 ∨ n = 7 := by omega
 rcases this with rfl | rfl | rfl | rfl | rfl | rfl | rfl
 all_goals
  go_enter Try.func46, Try.ntmps46
  go_wp2
  go_ret
  exact ⟨rfl, rfl⟩

end Go.Proofs.Ytllahlgnjeeliaa.Ad
end

section
set_option linter.unusedVariables false
set_option linter.unusedSimpArgs false
namespace Go.Proofs.Ytllahlgnjeeliaa.Ad
open Go.RowKit Go.Proofs.YtllahlgnjeeliaaW.PrintWords Go.Proofs.YtllahlgnjeeliaaW.PrintLast Go.Proofs.YtllahlgnjeeliaaW.PrintMore Go.Proofs.Ytllahlgnjeeliaa.PT
theorem max2_mx (k k' : IntKind) (x y : Int) : Builtin.max2 (.int k x) (.int k' y) = pure (.int k (mx x y)) := max2_int k k' x y
theorem min2_mn (k k' : IntKind) (x y : Int) : Builtin.min2 (.int k x) (.int k' y) = pure (.int k (mn x y)) := min2_int k k' x y
attribute [local go_sem] max2_mx min2_mn max_two min_two
theorem lenC_mx (p : Pfx) : mn (mx p.n 0) (mostP p.v6) = lenC p := by
 unfold mn mx lenC
 split <;> split <;> omega

theorem most_walk (b : Bool) (w : World) : Calls Try.prog 45 #[.bool b] w fun e w' => e = .returned (.int .i64 (mostP b)) ∧ w' = w := by
 cases b
 all_goals
  go_enter Try.func45, Try.ntmps45
  go_wp2
  go_ret
  exact ⟨rfl, rfl⟩
/-- Byte i is another one. -/
def A16.set (a : A16) (i : Nat) (x : Int) (hx : 0 ≤ x ∧ x < 256) : A16 := ⟨a.l.set i x, by simp [a.h], fun y hy => by
 rcases List.mem_or_eq_of_mem_set hy with hy | rfl
 ·exact a.b y hy
 ·exact hx⟩
theorem A16.set_at (a : A16) {i j : Nat} (x : Int) (hx : 0 ≤ x ∧ x < 256) (hi : i < 16) : (a.set i x hx).at j = if i = j then x else a.at j := by
 unfold A16.at A16.set
 dsimp only
 rw [List.getD_eq_getElem?_getD, List.getElem?_set, List.getD_eq_getElem?_getD]
 split
 ·subst i
  simp [show j < a.l.length by rw [a.h]; exact hi]
 ·rfl
theorem Pfx.set_n (p : Pfx) (m : Int) : p.arr.setIfInBounds 17 (.int .i64 m) = (⟨p.v6, p.a, m⟩ : Pfx).arr := by
 simp only [Pfx.arr, Pfx.cells, List.setIfInBounds_toArray, List.set_cons_succ]
 congr 2
 rw [List.set_append_right _ _ (by rw [p.a.cells_len]; decide), p.a.cells_len]
 rfl
theorem Pfx.set_a (p : Pfx) {i : Nat} (hi : i < 16) (x : Int) (hx : 0 ≤ x ∧ x < 256) : p.arr.setIfInBounds (1 + i) (.int .u8 x) = (⟨p.v6, p.a.set i x hx, p.n⟩ : Pfx).arr := by
 rw [Nat.add_comm]
 simp only [Pfx.arr, Pfx.cells, List.setIfInBounds_toArray, List.set_cons_succ]
 congr 2
 rw [List.set_append_left _ _ (by rw [p.a.cells_len]; exact hi)]
 simp [A16.cells, A16.set, List.map_set]
theorem and_mask_s : ∀ x : Nat, x < 256 → ∀ m : Nat, m < 9 → Go.bits .and .u8 (x : Int) (maskP (m : Int)) = cutB (x : Int) (m : Int) := by decide +kernel
theorem and_mask (x n : Int) (h : 0 ≤ x ∧ x < 256) : Go.bits .and .u8 x (maskP n) = cutB x n := by
 obtain ⟨y, rfl⟩ := Int.eq_ofNat_of_zero_le h.1
 by_cases h0 : n ≤ 0
 ·have := and_mask_s y (by omega) 0 (by omega)
  unfold maskP cutB at this ⊢
  rw [if_pos h0, if_pos h0]
  simpa using this
 by_cases h8 : 8 ≤ n
 ·have := and_mask_s y (by omega) 8 (by omega)
  unfold maskP cutB at this ⊢
  rw [if_neg h0, if_pos h8, if_neg h0, if_pos h8]
  simpa using this
 obtain ⟨m, rfl⟩ := Int.eq_ofNat_of_zero_le (show 0 ≤ n by omega)
 exact and_mask_s y (by omega) m (by omega)
def zP : Pfx := ⟨false, z16, 0⟩
theorem zP_arr : zP.arr = #[.bool false, .int .u8 0, .int .u8 0, .int .u8 0, .int .u8 0, .int .u8 0, .int .u8 0, .int .u8 0, .int .u8 0, .int .u8 0, .int .u8 0, .int .u8 0, .int .u8 0, .int .u8 0, .int .u8 0, .int .u8 0, .int .u8 0, .int .i64 0] := rfl
/-- What holds in Cut: the two blocks. -/
structure CutS (w W : World) (q : Pfx) : Prop where
 hq : W.heap[w.heap.size]? = some (.cells q.arr 25 (0, 0))
 hz : W.heap[w.heap.size + 1]? = some (.cells zP.arr 25 (0, 0))
 b : Below w.heap.size w W
theorem CutS.drew {w W : World} {q : Pfx} (h : CutS w W q) : CutS w W.drew q := ⟨h.hq, h.hz, h.b.drew⟩
theorem CutS.c {w W : World} {q : Pfx} (h : CutS w W q) (j : Nat) : W.cell? ⟨w.heap.size, j, none⟩ = q.arr[j]? := cell_of_row _ _ _ _ _ _ h.hq
theorem CutS.f {w W : World} {q : Pfx} (h : CutS w W q) (j : Nat) : W.frozen? ⟨w.heap.size, j, none⟩ = false := frozen_of_row _ _ _ _ _ h.hq
theorem CutS.set {w W : World} {q q' : Pfx} {j : Nat} {u : Value} (h : CutS w W q) (e : q.arr.setIfInBounds j u = q'.arr) : CutS w (W.setCell ⟨w.heap.size, j, none⟩ u) q' :=
 ⟨by rw [heap_setCell_same _ _ _ _ _ _ h.hq, e], by rw [heap_setCell_other _ _ _ _ (by simp)]; exact h.hz, Below.setCell h.b (p := ⟨w.heap.size, j, none⟩) (Nat.le_refl _) _⟩
/-- A prefix of which i bytes have been cut. -/
def cutTo (p : Pfx) (i : Nat) : Pfx := ⟨p.v6, mk16 (fun j => if j < i then cutB (p.a.at j) (lenC p - 8 * j) else p.a.at j) (fun j => by split; exact cutB_b (p.a.at_b j); exact p.a.at_b j), lenC p⟩
theorem cutTo_0 (p : Pfx) : cutTo p 0 = ⟨p.v6, p.a, lenC p⟩ := by
 unfold cutTo
 congr 1
 exact A16.ext_at fun i hi => by rw [mk16_at hi]; simp
theorem cutTo_16 (p : Pfx) : cutTo p 16 = cutP p := by
 unfold cutTo cutP
 congr 1
theorem cutTo_at (p : Pfx) {i : Nat} (h : i < 16) : (cutTo p i).a.at i = p.a.at i := by
 unfold cutTo
 dsimp only
 rw [mk16_at h, if_neg (Nat.lt_irrefl i)]
theorem cutTo_succ (p : Pfx) {i : Nat} (h : i < 16) (x : Int) (hx : 0 ≤ x ∧ x < 256) (e : x = cutB (p.a.at i) (lenC p - 8 * i)) : (⟨(cutTo p i).v6, (cutTo p i).a.set i x hx, (cutTo p i).n⟩ : Pfx) = cutTo p (i + 1) := by
 subst e
 unfold cutTo
 dsimp only
 congr 1
 refine A16.ext_at fun j hj => ?_
 rw [A16.set_at _ _ _ h, mk16_at hj, mk16_at hj]
 by_cases hji : i = j
 ·subst hji; simp
 ·rw [if_neg hji]
  have e : (j < i + 1) = (j < i) := by simp; omega
  simp only [e]

theorem mask_walk' (n : Int) (w : World) (h0 : -1000 ≤ n) (h1 : n ≤ 1000) :
 Calls Try.prog 46 #[.int .i64 n] w fun e w' => e = .returned (.int .u8 (maskP n)) ∧ w' = w := (mask_walk n w h0 h1).mono fun _ _ h => ⟨h.1, h.2.symm⟩
theorem lenC_b (p : Pfx) : 0 ≤ lenC p ∧ lenC p ≤ 128 := by
 unfold lenC mostP
 split <;> omega

set_option maxHeartbeats 1000000 in
set_option maxRecDepth 100000 in
theorem cut_walk (p : Pfx) (w : World) :
 Calls Try.prog 30 #[.agg p.arr] w fun e w' => e = .returned (.agg (cutP p).arr) ∧ Below w.heap.size w w' := by
 have H0 : CutS w ((w.alloc (.cells p.arr 25)).alloc (.cells zP.arr 25)) p := ⟨heap_alloc2_old _ _ _, heap_alloc2_new _ _ _, ((Below.refl _ _).alloc (Nat.le_refl _) _).alloc (by simp) _⟩
 go_enter Try.func30, Try.ntmps30
 go_wp2
 rw [← zP_arr]
 generalize (w.alloc (.cells p.arr 25)).alloc (.cells zP.arr 25) = W at H0 ⊢
 have c0 := (H0.c 0).trans p.arr_0
 have c17 := (H0.c 17).trans p.arr_n
 refine wp_region_still_tail 8 (by kernel_rfl) (by kernel_rfl) ?_
 simp only [List.take_succ_cons, List.take_zero, List.drop_succ_cons, List.drop_zero]
 repeat (first | still_step | still_call (most_walk _ _))
 refine wpStill_nil ?_
 change wpList _ _ _ _ _ W.drew
 have H1 := H0.drew
 clear c0 c17 H0
 generalize W.drew = W1 at H1 ⊢
 have f17 := H1.f 17
 have c17 := (H1.c 17).trans p.arr_n
 rw [lenC_mx]
 go_wp2
 have H2 : Hid (CutS w (W1.setCell ⟨w.heap.size, 17, none⟩ (.int .i64 (lenC p))) (cutTo p 0)) := Lib.hid (H1.set (by rw [p.set_n, cutTo_0]))
 clear H1 f17 c17
 generalize W1.setCell ⟨w.heap.size, 17, none⟩ (.int .i64 (lenC p)) = W2 at H2 ⊢
 have hlb := lenC_b p
 go_loopw [12] (fun iv wr => ∃ k : Nat, k ≤ 16 ∧ iv = .int .i64 k ∧ Hid (CutS w wr (cutTo p k))) (fun iv _ => 16 - (intOf iv).toNat)
 case atStart => exact ⟨0, Nat.zero_le _, rfl, H2⟩
 case round =>
  obtain ⟨k, hk, rfl, H⟩ := hrel
  by_cases h16 : k < 16
  ·have hd1 := eq_true (show (k : Int) < 16 by omega)
   have hd2 : decide ((k : Int) < 16) = true := decide_eq_true (by omega)
   go_wp2
   have ca := ((H.out.c (1 + k)).trans ((cutTo p k).arr_a h16)).trans (by rw [cutTo_at p h16])
   have cn : wr.cell? ⟨w.heap.size, 17, none⟩ = some (.int .i64 (lenC p)) := (H.out.c 17).trans (cutTo p k).arr_n
   have hw1 : IntKind.i64.wrap (8 * (k : Int)) = 8 * (k : Int) := by simp [IntKind.wrap, IntKind.bits, IntKind.signed]; omega
   obtain ⟨m, hm⟩ : ∃ m, m = lenC p - 8 * (k : Int) := ⟨_, rfl⟩
   have hw2 : IntKind.i64.wrap (lenC p - 8 * (k : Int)) = m := by rw [hm]; simp [IntKind.wrap, IntKind.bits, IntKind.signed]; omega
   have hmb : -1000 ≤ m ∧ m ≤ 1000 := by omega
   obtain ⟨hm1, hm2⟩ := hmb
   have HM := Lib.hid hm
   clear hm
   refine wp_region_still_tail 13 (by kernel_rfl) (by kernel_rfl) ?_
   simp only [List.take_succ_cons, List.take_zero, List.drop_succ_cons, List.drop_zero]
   repeat (first | still_step | still_call (mask_walk' _ _ (by assumption) (by assumption)))
   refine wpStill_nil ?_
   change wpList _ _ _ _ _ wr.drew
   rw [and_mask _ _ (p.a.at_b k)]
   have H' := Lib.hid H.out.drew
   clear ca cn hw1 hw2 H
   generalize wr.drew = W3 at H' ⊢
   have ca := (H'.out.c (1 + k)).trans ((cutTo p k).arr_a h16)
   have fa := H'.out.f (1 + k)
   go_wp2
   go_roundw
   case rel => exact ⟨k + 1, by omega, by go_num, Lib.hid (H'.out.set (by rw [(cutTo p k).set_a h16 _ (cutB_b (p.a.at_b k)), cutTo_succ p h16 _ _ (by rw [HM.out])]))⟩
   case measure => simp [intOf]; omega
  ·have hk16 : k = 16 := by omega
   subst hk16
   have hd2 : decide (((16 : Nat) : Int) < 16) = false := by decide
   have hd1 := eq_false (show ¬ ((16 : Nat) : Int) < 16 by decide)
   go_upto_region 7 with (fail)
   rw [cutTo_16] at H
   refine wp_region_lit ?_
   refine wpList_load_row rfl 25 (.tmp 1) rfl w.heap.size rfl 25 _ (0, 0) _ H.out.hq Try.underlying25 rfl (by rw [Pfx.arr_size]; exact infoP) ?_
   refine wpList_store_row rfl 25 (.tmp 2) (.tmp 29) rfl (w.heap.size + 1) (cutP p).arr rfl rfl 25 zP.arr H.out.hz (by rw [Pfx.arr_size]; exact infoP) (by rw [Pfx.arr_size, Pfx.arr_size]) (Pfx.arr_one _) ?_
   have v0 : (wr.setRow (w.heap.size + 1) (cutP p).arr).heap[w.heap.size + 1]? = some (.cells (cutP p).arr 25 (0, 0)) := setRow_heap wr _ _ _ _ _ H.out.hz
   have v3 := below_setRow H.out.b (g := w.heap.size + 1) (by omega) (cutP p).arr
   generalize wr.setRow (w.heap.size + 1) (cutP p).arr = wc at v0 v3 ⊢
   refine wpList_nil ?_
   go_wp2
   refine bodyPost_ret (v := .agg (cutP p).arr) ?_ rfl ⟨rfl, v3⟩
   exact results_cell_row (P := Try.prog) (p := 2) (ty := 25) Try.results30 _ _ (w.heap.size + 1) 25 (cutP p).arr (0, 0) _ rfl v0 Try.underlying25 rfl (by rw [Pfx.arr_size]; exact infoP)

end Go.Proofs.Ytllahlgnjeeliaa.Ad
end

section
set_option linter.unusedVariables false
set_option linter.unusedSimpArgs false
namespace Go.Proofs.Ytllahlgnjeeliaa.Ad
open Go.RowKit Go.Proofs.YtllahlgnjeeliaaW.PrintWords Go.Proofs.YtllahlgnjeeliaaW.PrintLast Go.Proofs.YtllahlgnjeeliaaW.PrintMore Go.Proofs.Ytllahlgnjeeliaa.PT

/-- A value lies in block g; nothing below b has changed. -/
def HB (w : World) (b g : Nat) (cs : Array Value) (t : TypeId) (W : World) : Prop := Has W g cs t ∧ Below b w W
theorem HB.step {w W W1 : World} {b g : Nat} {cs : Array Value} {t : TypeId} (h : HB w b g cs t W) (hB : Below W.heap.size W W1) (hbs : b ≤ w.heap.size) : HB w b g cs t W1 :=
 ⟨h.1.below hB, h.2.trans (hB.mono (Nat.le_trans hbs h.2.size))⟩
theorem HB.box (w : World) (cs : Array Value) (t : TypeId) : HB w w.heap.size w.heap.size cs t (w.alloc (.cells cs t)).drew := ⟨Has.new w cs t, ((Below.refl _ _).alloc (Nat.le_refl _) _).drew⟩

set_option maxHeartbeats 1000000 in
set_option maxRecDepth 100000 in
theorem right_walk0 (p : Pfx) (w : World) :
 Calls Try.prog 16 #[.agg p.arr] w fun e w' => e = .returned (.bool (decide (cutP p = p))) ∧ Below w.heap.size w w' := by
 have H0 := HB.box w p.arr 25
 have hq : ∀ W, (binOp .eql 25 (.agg (cutP p).arr) (.agg p.arr)).run Try.prog W = .ok (.bool (decide (cutP p = p))) W := fun W => eqlP W _ _
 go_enter Try.func16, Try.ntmps16
 go_wp2
 refine start_ (n := 5) (S := HB w w.heap.size w.heap.size p.arr 25) (ds := []) #[false, false, false, false, false] (by kernel_rfl) rfl rfl H0 (fun hHeld => ?_)
 refine take_ (i := 0) (N := some 3) (v := .agg p.arr) (a' := ?_) #[true, false, false, false, false] rfl rfl (by kernel_rfl) (fun _ _ _ h => h) ?_ hHeld ?_ ?_
 ·exact yP (by rfl) rfl p w.heap.size 0 rfl (fun W h => h.1.rp)
 rotate_left
 ·simp only [Act.put, List.setIfInBounds_toArray, List.set_cons_zero, List.set_cons_succ, i64_w, i32_w]
  rfl
 refine take_ (i := 2) (N := some 5) (v := .agg p.arr) (a' := ?_) #[true, false, true, false, false] rfl rfl (by kernel_rfl) (fun _ _ _ h => h) ?_ hHeld ?_ ?_
 ·exact yP (by rfl) rfl p w.heap.size 0 rfl (fun W h => h.1.rp)
 rotate_left
 ·simp only [Act.put, List.setIfInBounds_toArray, List.set_cons_zero, List.set_cons_succ, i64_w, i32_w]
  rfl
 refine one_ (i := 1) (N := some 4) #[true, true, true, false, false] rfl rfl (by kernel_rfl) (by decide) (fun K hK => ?_)
 refine goes_ Try.func30 (by kernel_rfl) rfl #[.agg p.arr] (by rfl) rfl rfl (by (try simp only [List.map_toArray, List.map_cons, List.map_nil]); first | done | rfl) ?_
 refine (cut_walk p _).mono ?_
 rintro e w1 ⟨rfl, hB⟩
 refine ⟨_, rfl, ?_⟩
 refine hK.out _ _ (HB.step hHeld hB (Nat.le_refl _)) (fun hHeld => ?_)
 clear hK K
 refine norm_ (a' := ?_) ?_ ?_
 rotate_left
 ·show Act.put _ (some 4) _ = _
  simp only [Act.put, List.setIfInBounds_toArray, List.set_cons_zero, List.set_cons_succ, i64_w, i32_w]
  rfl
 refine pure_ (i := 3) (N := some 6) (v := ?_) (a' := ?_) #[true, true, true, true, false] rfl rfl (by kernel_rfl) (fun _ _ _ h => h) (Or.inl ⟨by rfl, ?_⟩) ?_ ?_
 rotate_left
 ·intro w'
  go_simp
  with_reducible rfl
 rotate_left
 ·simp only [Act.put, List.setIfInBounds_toArray, List.set_cons_zero, List.set_cons_succ, i64_w, i32_w]
  rfl
 refine pure_ (i := 4) (N := some 2) (v := ?_) (a' := ?_) #[true, true, true, true, true] rfl rfl (by kernel_rfl) (fun _ _ _ h => h) (Or.inl ⟨by rfl, ?_⟩) ?_ ?_
 rotate_left
 ·intro w'
  go_simp
  with_reducible rfl
 rotate_left
 ·simp only [Act.put, List.setIfInBounds_toArray, List.set_cons_zero, List.set_cons_succ, i64_w, i32_w]
  rfl
 refine done_ (by kernel_rfl) ?_
 go_wp2
 go_ret
 exact ⟨rfl, hHeld.2⟩

end Go.Proofs.Ytllahlgnjeeliaa.Ad
end

namespace Go.Proofs.Ytllahlgnjeeliaa.Ad

def bitB (x : Int) (k : Nat) : Int := x / 2 ^ (7 - k) % 2
theorem cutB_bit_s : ∀ x : Nat, x < 256 → ∀ m : Nat, m < 9 → ∀ k : Nat, k < 8 → bitB (cutB (x : Int) (m : Int)) k = if k < m then bitB (x : Int) k else 0 := by decide +kernel
theorem cutB_bit {x : Int} (h : 0 ≤ x ∧ x < 256) (m : Int) {k : Nat} (hk : k < 8) : bitB (cutB x m) k = if (k : Int) < m then bitB x k else 0 := by
 obtain ⟨y, rfl⟩ := Int.eq_ofNat_of_zero_le h.1
 by_cases h0 : m ≤ 0
 ·unfold cutB
  rw [if_pos h0, if_neg (by omega)]
  simp [bitB]
 by_cases h8 : 8 ≤ m
 ·unfold cutB
  rw [if_neg h0, if_pos h8, if_pos (by omega)]
 obtain ⟨n, rfl⟩ := Int.eq_ofNat_of_zero_le (show 0 ≤ m by omega)
 rw [cutB_bit_s y (by omega) n (by omega) k hk]
 by_cases hkn : k < n
 ·rw [if_pos hkn, if_pos (by omega)]
 ·rw [if_neg hkn, if_neg (by omega)]
theorem byte_ext {x y : Int} (hx : 0 ≤ x ∧ x < 256) (hy : 0 ≤ y ∧ y < 256) (h : ∀ k : Nat, k < 8 → bitB x k = bitB y k) : x = y := by
 have h0 : x / 128 % 2 = y / 128 % 2 := h 0 (by decide)
 have h1 : x / 64 % 2 = y / 64 % 2 := h 1 (by decide)
 have h2 : x / 32 % 2 = y / 32 % 2 := h 2 (by decide)
 have h3 : x / 16 % 2 = y / 16 % 2 := h 3 (by decide)
 have h4 : x / 8 % 2 = y / 8 % 2 := h 4 (by decide)
 have h5 : x / 4 % 2 = y / 4 % 2 := h 5 (by decide)
 have h6 : x / 2 % 2 = y / 2 % 2 := h 6 (by decide)
 have h7 : x / 1 % 2 = y / 1 % 2 := h 7 (by decide)
 omega
theorem bit_eq (a : A16) (i : Nat) : a.bit i = bitB (a.at (i / 8)) (i % 8) := rfl
theorem A16.ext_bit {a b : A16} (h : ∀ i, i < 128 → a.bit i = b.bit i) : a = b :=
 A16.ext_at fun j hj => byte_ext (a.at_b j) (b.at_b j) fun k hk => by
  have := h (8 * j + k) (by omega)
  rw [bit_eq, bit_eq, show (8 * j + k) / 8 = j by omega, show (8 * j + k) % 8 = k by omega] at this
  exact this
theorem lenC_b' (p : Pfx) : 0 ≤ lenC p ∧ lenC p ≤ mostP p.v6 := by
 unfold lenC mostP
 split <;> omega
theorem mostP_b (b : Bool) : 32 ≤ mostP b ∧ mostP b ≤ 128 := by unfold mostP; split <;> omega
theorem cutP_bit (p : Pfx) {i : Nat} (h : i < 128) : (cutP p).a.bit i = if (i : Int) < lenC p then p.a.bit i else 0 := by
 rw [bit_eq, bit_eq]
 unfold cutP
 dsimp only
 rw [mk16_at (by omega), cutB_bit (p.a.at_b _) _ (by omega)]
 by_cases hl : (i : Int) < lenC p
 ·rw [if_pos hl, if_pos (by omega)]
 ·rw [if_neg hl, if_neg (by omega)]
theorem cut_right (p : Pfx) : decide (cutP p = p) = rightB p := by
 rw [Bool.eq_iff_iff, decide_eq_true_iff, right_iff]
 constructor
 ·intro h
  have hn : lenC p = p.n := congrArg Pfx.n h
  have hb := lenC_b' p
  refine ⟨by omega, by omega, fun i hi hp => ?_⟩
  have := cutP_bit p hi
  rw [h, if_neg (by omega)] at this
  exact this
 ·rintro ⟨h1, h2, h3⟩
  have hn : lenC p = p.n := by unfold lenC; omega
  have ha : (cutP p).a = p.a := A16.ext_bit fun i hi => by
   rw [cutP_bit p hi]
   split
   ·rfl
   ·exact (h3 i hi (by omega)).symm
  have e : cutP p = ⟨(cutP p).v6, (cutP p).a, (cutP p).n⟩ := rfl
  rw [e, ha, show (cutP p).n = p.n from hn, show (cutP p).v6 = p.v6 from rfl]
/-- Which prefix covers which. -/
def coversB (p q : Pfx) : Bool := rightB p && rightB q && decide (p.v6 = q.v6) && decide (p.n ≤ q.n) && (List.range 128).all (fun i => !decide ((i : Int) < p.n) || decide (p.a.bit i = q.a.bit i))
theorem covers_iff {p q : Pfx} : coversB p q = true ↔ rightB p = true ∧ rightB q = true ∧ p.v6 = q.v6 ∧ p.n ≤ q.n ∧ ∀ i : Nat, (i : Int) < p.n → p.a.bit i = q.a.bit i := by
 unfold coversB
 simp only [Bool.and_eq_true, decide_eq_true_iff, List.all_eq_true, List.mem_range, Bool.or_eq_true, Bool.not_eq_true', decide_eq_false_iff_not]
 constructor
 ·rintro ⟨⟨⟨⟨h1, h2⟩, h3⟩, h4⟩, h5⟩
  refine ⟨h1, h2, h3, h4, fun i hi => ?_⟩
  have hr := right_iff.1 h1
  have := mostP_b p.v6
  rcases h5 i (by omega) with h | h
  ·exact absurd hi h
  ·exact h
 ·rintro ⟨h1, h2, h3, h4, h5⟩
  refine ⟨⟨⟨⟨h1, h2⟩, h3⟩, h4⟩, fun i hi => ?_⟩
  by_cases hn : (i : Int) < p.n
  ·exact .inr (h5 i hn)
  ·exact .inl hn
theorem cut_covers {p q : Pfx} (hp : rightB p = true) (hq : rightB q = true) (h6 : p.v6 = q.v6) (hn : p.n ≤ q.n) : decide (cutP ⟨q.v6, q.a, p.n⟩ = p) = coversB p q := by
 have hr := right_iff.1 hp
 have hl : lenC ⟨q.v6, q.a, p.n⟩ = p.n := by unfold lenC; dsimp only; rw [← h6]; omega
 rw [Bool.eq_iff_iff, decide_eq_true_iff, covers_iff]
 constructor
 ·intro h
  refine ⟨hp, hq, h6, hn, fun i hi => ?_⟩
  have hm := mostP_b p.v6
  have := cutP_bit ⟨q.v6, q.a, p.n⟩ (i := i) (by omega)
  rw [h, hl, if_pos hi] at this
  exact this
 ·rintro ⟨_, _, _, _, h5⟩
  have ha : (cutP ⟨q.v6, q.a, p.n⟩).a = p.a := A16.ext_bit fun i hi => by
   rw [cutP_bit _ hi, hl]
   split
   ·rename_i h; exact (h5 i h).symm
   ·exact (hr.2.2 i hi (by omega)).symm
  have e : cutP ⟨q.v6, q.a, p.n⟩ = ⟨(cutP ⟨q.v6, q.a, p.n⟩).v6, (cutP ⟨q.v6, q.a, p.n⟩).a, (cutP ⟨q.v6, q.a, p.n⟩).n⟩ := rfl
  rw [e, ha, show (cutP ⟨q.v6, q.a, p.n⟩).n = p.n from hl, show (cutP ⟨q.v6, q.a, p.n⟩).v6 = p.v6 from h6.symm]
end Go.Proofs.Ytllahlgnjeeliaa.Ad


section
set_option linter.unusedVariables false
set_option linter.unusedSimpArgs false
namespace Go.Proofs.Ytllahlgnjeeliaa.Ad
open Go.RowKit Go.Proofs.YtllahlgnjeeliaaW.PrintWords Go.Proofs.YtllahlgnjeeliaaW.PrintLast Go.Proofs.YtllahlgnjeeliaaW.PrintMore Go.Proofs.Ytllahlgnjeeliaa.PT

theorem at_dst (n : Tmp) {P : Program} {ops : Array Oper} {Q : Exit → Act → World → Prop} {rest : List Oper} {a : Act} {w : World} {op : Op} {ty : TypeId} {pos : String} {af : Array Edge} {g : Option (Nat × Bool)}
 (h : wpList P ops Q (⟨some n, op, ty, pos, af, g⟩ :: rest) a w) : wpList P ops Q (⟨some n, op, ty, pos, af, g⟩ :: rest) a w := h
theorem right_walk (p : Pfx) (b : Bool) (hb : rightB p = b) (w : World) :
 Calls Try.prog 16 #[.agg p.arr] w fun e w' => e = .returned (.bool b) ∧ Below w.heap.size w w' := by
 have := right_walk0 p w
 rwa [cut_right, hb] at this

/-- Two values in the blocks made first. -/
def H2 (w : World) (c d : Array Value) (t : TypeId) (W : World) : Prop := Has W w.heap.size c t ∧ Has W (w.heap.size + 1) d t ∧ Below w.heap.size w W
theorem H2.new (w : World) (c d : Array Value) (t : TypeId) : H2 w c d t ((w.alloc (.cells c t)).alloc (.cells d t)) := ⟨heap_alloc2_old _ _ _, heap_alloc2_new _ _ _, ((Below.refl _ _).alloc (Nat.le_refl _) _).alloc (by simp) _⟩
theorem H2.drew {w W : World} {c d : Array Value} {t : TypeId} (h : H2 w c d t W) : H2 w c d t W.drew := ⟨h.1, h.2.1, h.2.2.drew⟩
theorem H2.step {w W W1 : World} {c d : Array Value} {t : TypeId} (h : H2 w c d t W) (hB : Below W.heap.size W W1) : H2 w c d t W1 :=
 ⟨h.1.below hB, h.2.1.below hB, h.2.2.trans (hB.mono h.2.2.size)⟩
theorem H2.setB {w W : World} {c d d' : Array Value} {t : TypeId} (h : H2 w c d t W) {j : Nat} {u : Value} (e : d.setIfInBounds j u = d') : H2 w c d' t (W.setCell ⟨w.heap.size + 1, j, none⟩ u) :=
 ⟨h.1.far (by simp) _, by subst e; exact heap_setCell_same _ _ _ _ _ _ h.2.1, Below.setCell h.2.2 (p := ⟨w.heap.size + 1, j, none⟩) (Nat.le_succ _) _⟩

set_option maxHeartbeats 2000000 in
set_option maxRecDepth 100000 in
theorem covers_walk0 (p q : Pfx) (w : World) :
 Calls Try.prog 17 #[.agg p.arr, .agg q.arr] w fun e w' => e = .returned (.bool (coversB p q)) ∧ Below w.heap.size w w' := by
 have H0 := H2.new w p.arr q.arr 25
 by_cases hp : rightB p = true
 ·by_cases hq : rightB q = true
  ·by_cases h6 : p.v6 = q.v6
   ·by_cases hn : p.n ≤ q.n
    ·have HC := Lib.hid (cut_covers hp hq h6 hn)
     have hqe : ∀ W, (binOp .eql 25 (.agg (cutP ⟨q.v6, q.a, p.n⟩).arr) (.agg p.arr)).run Try.prog W = .ok (.bool (coversB p q)) W := fun W => by rw [eqlP, HC.out]
     have hd2 : decide (q.n < p.n) = false := decide_eq_false (by omega)
     have hd3 : decide (p.n ≤ q.n) = true := decide_eq_true hn
     have HX := Lib.hid (And.intro hp (And.intro hq (And.intro h6 hn)))
     clear hp hq h6 hn
     go_enter Try.func17, Try.ntmps17
     go_upto_region 1 with (fail)
     generalize (w.alloc (.cells p.arr 25)).alloc (.cells q.arr 25) = W at H0 ⊢
     go_wp2_with ((with_reducible refine at_dst 5 ?_); refine loadP p w.heap.size 0 rfl H0.1.rp ?_)
     refine (right_walk p true HX.out.1 W).mono ?_
     rintro e w1 ⟨rfl, hB1⟩
     have H1 := H0.step hB1
     clear H0
     go_wp2_with ((with_reducible refine at_dst 9 ?_); refine gate_guard (by rfl) ?_; refine loadP q (w.heap.size + 1) 0 rfl H1.2.1.rp ?_)
     refine (right_walk q true HX.out.2.1 w1).mono ?_
     rintro e w2 ⟨rfl, hB2⟩
     have H2' := H1.step hB2
     clear H1 hB1 hB2
     have c0 := rp_v6 H2'.1.rp
     have c1 := rp_v6 H2'.2.1.rp
     rw [← HX.out.2.2.1] at c1
     have c2 := rp_n H2'.1.rp
     have c3 := rp_n H2'.2.1.rp
     have c4 := H2'.2.1.f 17
     rw [Nat.zero_add] at c2 c3
     go_wp2
     have H3 := H2'.setB (q.set_n p.n)
     clear c0 c1 c2 c3 c4 H2'
     generalize w2.setCell ⟨w.heap.size + 1, 17, none⟩ (.int .i64 p.n) = w3 at H3 ⊢
     have H3' := H3.drew
     refine start_ (n := 5) (S := H2 w p.arr (⟨q.v6, q.a, p.n⟩ : Pfx).arr 25) (ds := []) #[false, false, false, false, false] (by kernel_rfl) rfl rfl H3' (fun hHeld => ?_)
     refine take_ (i := 0) (N := some 30) (v := .agg (⟨q.v6, q.a, p.n⟩ : Pfx).arr) (a' := ?_) #[true, false, false, false, false] rfl rfl (by kernel_rfl) (fun _ _ _ h => h) ?_ hHeld ?_ ?_
     ·exact yP (by rfl) rfl (⟨q.v6, q.a, p.n⟩ : Pfx) (w.heap.size + 1) 0 rfl (fun W h => h.2.1.rp)
     rotate_left
     ·simp only [Act.put, List.setIfInBounds_toArray, List.set_cons_zero, List.set_cons_succ, i64_w, i32_w]
      rfl
     refine take_ (i := 2) (N := some 32) (v := .agg p.arr) (a' := ?_) #[true, false, true, false, false] rfl rfl (by kernel_rfl) (fun _ _ _ h => h) ?_ hHeld ?_ ?_
     ·exact yP (by rfl) rfl p w.heap.size 0 rfl (fun W h => h.1.rp)
     rotate_left
     ·simp only [Act.put, List.setIfInBounds_toArray, List.set_cons_zero, List.set_cons_succ, i64_w, i32_w]
      rfl
     refine one_ (i := 1) (N := some 31) #[true, true, true, false, false] rfl rfl (by kernel_rfl) (by decide) (fun K hK => ?_)
     refine goes_ Try.func30 (by kernel_rfl) rfl #[.agg (⟨q.v6, q.a, p.n⟩ : Pfx).arr] (by rfl) rfl rfl (by (try simp only [List.map_toArray, List.map_cons, List.map_nil]); first | done | rfl) ?_
     refine (cut_walk ⟨q.v6, q.a, p.n⟩ _).mono ?_
     rintro e w1 ⟨rfl, hB⟩
     refine ⟨_, rfl, ?_⟩
     refine hK.out _ _ (H2.step hHeld hB) (fun hHeld => ?_)
     clear hK K
     refine norm_ (a' := ?_) ?_ ?_
     rotate_left
     ·show Act.put _ (some 31) _ = _
      simp only [Act.put, List.setIfInBounds_toArray, List.set_cons_zero, List.set_cons_succ, i64_w, i32_w]
      rfl
     refine pure_ (i := 3) (N := some 33) (v := ?_) (a' := ?_) #[true, true, true, true, false] rfl rfl (by kernel_rfl) (fun _ _ _ h => h) (Or.inl ⟨by rfl, ?_⟩) ?_ ?_
     rotate_left
     ·intro w'
      go_simp
      with_reducible rfl
     rotate_left
     ·simp only [Act.put, List.setIfInBounds_toArray, List.set_cons_zero, List.set_cons_succ, i64_w, i32_w]
      rfl
     refine pure_ (i := 4) (N := some 4) (v := ?_) (a' := ?_) #[true, true, true, true, true] rfl rfl (by kernel_rfl) (fun _ _ _ h => h) (Or.inl ⟨by rfl, ?_⟩) ?_ ?_
     rotate_left
     ·intro w'
      go_simp
      with_reducible rfl
     rotate_left
     ·simp only [Act.put, List.setIfInBounds_toArray, List.set_cons_zero, List.set_cons_succ, i64_w, i32_w]
      rfl
     refine done_ (by kernel_rfl) ?_
     go_wp2
     go_ret
     exact ⟨rfl, hHeld.2.2⟩
    ·have hr : coversB p q = false := by rw [Bool.eq_false_iff]; intro h; exact hn (covers_iff.1 h).2.2.2.1
     rw [hr]
     have hd2 : decide (q.n < p.n) = true := decide_eq_true (by omega)
     have hd3 : decide (p.n ≤ q.n) = false := decide_eq_false hn
     have HX := Lib.hid (And.intro hp (And.intro hq (And.intro h6 hn)))
     clear hp hq h6 hn hr
     go_enter Try.func17, Try.ntmps17
     go_upto_region 1 with (fail)
     generalize (w.alloc (.cells p.arr 25)).alloc (.cells q.arr 25) = W at H0 ⊢
     go_wp2_with ((with_reducible refine at_dst 5 ?_); refine loadP p w.heap.size 0 rfl H0.1.rp ?_)
     refine (right_walk p true HX.out.1 W).mono ?_
     rintro e w1 ⟨rfl, hB1⟩
     have H1 := H0.step hB1
     clear H0
     go_wp2_with ((with_reducible refine at_dst 9 ?_); refine gate_guard (by rfl) ?_; refine loadP q (w.heap.size + 1) 0 rfl H1.2.1.rp ?_)
     refine (right_walk q true HX.out.2.1 w1).mono ?_
     rintro e w2 ⟨rfl, hB2⟩
     have H2' := H1.step hB2
     clear H1 hB1 hB2
     have c0 := rp_v6 H2'.1.rp
     have c1 := rp_v6 H2'.2.1.rp
     rw [← HX.out.2.2.1] at c1
     have c2 := rp_n H2'.1.rp
     have c3 := rp_n H2'.2.1.rp
     rw [Nat.zero_add] at c2 c3
     go_wp2
     go_ret
     exact ⟨rfl, H2'.2.2⟩
   ·have hr : coversB p q = false := by rw [Bool.eq_false_iff]; intro h; exact h6 (covers_iff.1 h).2.2.1
    rw [hr]
    have h7 : q.v6 = !p.v6 := by cases hx : p.v6 <;> cases hy : q.v6 <;> simp_all
    have HX := Lib.hid (And.intro hp (And.intro hq h7))
    clear hp hq h6 h7 hr
    go_enter Try.func17, Try.ntmps17
    go_upto_region 1 with (fail)
    generalize (w.alloc (.cells p.arr 25)).alloc (.cells q.arr 25) = W at H0 ⊢
    go_wp2_with ((with_reducible refine at_dst 5 ?_); refine loadP p w.heap.size 0 rfl H0.1.rp ?_)
    refine (right_walk p true HX.out.1 W).mono ?_
    rintro e w1 ⟨rfl, hB1⟩
    have H1 := H0.step hB1
    clear H0
    go_wp2_with ((with_reducible refine at_dst 9 ?_); refine gate_guard (by rfl) ?_; refine loadP q (w.heap.size + 1) 0 rfl H1.2.1.rp ?_)
    refine (right_walk q true HX.out.2.1 w1).mono ?_
    rintro e w2 ⟨rfl, hB2⟩
    have H2' := H1.step hB2
    clear H1 hB1 hB2
    have c0 := rp_v6 H2'.1.rp
    have c1 := rp_v6 H2'.2.1.rp
    rw [HX.out.2.2] at c1
    generalize p.v6 = b at c0 c1
    cases b
    all_goals
     go_wp2
     go_ret
     exact ⟨rfl, H2'.2.2⟩
  ·have hr : coversB p q = false := by rw [Bool.eq_false_iff]; intro h; exact hq (covers_iff.1 h).2.1
   rw [hr]
   have hqf : rightB q = false := by simpa using hq
   have HX := Lib.hid (And.intro hp hqf)
   clear hp hq hqf hr
   go_enter Try.func17, Try.ntmps17
   go_upto_region 1 with (fail)
   generalize (w.alloc (.cells p.arr 25)).alloc (.cells q.arr 25) = W at H0 ⊢
   go_wp2_with ((with_reducible refine at_dst 5 ?_); refine loadP p w.heap.size 0 rfl H0.1.rp ?_)
   refine (right_walk p true HX.out.1 W).mono ?_
   rintro e w1 ⟨rfl, hB1⟩
   have H1 := H0.step hB1
   clear H0
   go_wp2_with ((with_reducible refine at_dst 9 ?_); refine gate_guard (by rfl) ?_; refine loadP q (w.heap.size + 1) 0 rfl H1.2.1.rp ?_)
   refine (right_walk q false HX.out.2 w1).mono ?_
   rintro e w2 ⟨rfl, hB2⟩
   have H2' := H1.step hB2
   clear H1 hB1 hB2
   go_wp2
   go_ret
   exact ⟨rfl, H2'.2.2⟩
 ·have hr : coversB p q = false := by rw [Bool.eq_false_iff]; intro h; exact hp (covers_iff.1 h).1
  rw [hr]
  have hpf : rightB p = false := by simpa using hp
  have HX := Lib.hid hpf
  clear hp hpf hr
  go_enter Try.func17, Try.ntmps17
  go_upto_region 1 with (fail)
  generalize (w.alloc (.cells p.arr 25)).alloc (.cells q.arr 25) = W at H0 ⊢
  go_wp2_with ((with_reducible refine at_dst 5 ?_); refine loadP p w.heap.size 0 rfl H0.1.rp ?_)
  refine (right_walk p false HX.out W).mono ?_
  rintro e w1 ⟨rfl, hB1⟩
  have H1 := H0.step hB1
  clear H0
  go_wp2
  go_ret
  exact ⟨rfl, H1.2.2⟩

end Go.Proofs.Ytllahlgnjeeliaa.Ad
end

section
set_option linter.unusedVariables false
set_option linter.unusedSimpArgs false
namespace Go.Proofs.Ytllahlgnjeeliaa.Ad
open Go.RowKit Go.Proofs.YtllahlgnjeeliaaW.PrintWords Go.Proofs.YtllahlgnjeeliaaW.PrintLast Go.Proofs.YtllahlgnjeeliaaW.PrintMore Go.Proofs.Ytllahlgnjeeliaa.PT

theorem refMost_walk (b : Bool) (w : World) : Calls Try.prog 32 #[.bool b] w fun e w' => e = .returned (.int .i64 (mostP b)) ∧ w' = w := by
 cases b
 all_goals
  go_enter Try.func32, Try.ntmps32
  go_wp2
  go_ret
  exact ⟨rfl, rfl⟩

theorem HB.new (w : World) (cs : Array Value) (t : TypeId) : HB w w.heap.size w.heap.size cs t (w.alloc (.cells cs t)) := ⟨Has.new w cs t, (Below.refl _ _).alloc (Nat.le_refl _) _⟩
theorem HB.drew {w W : World} {b g : Nat} {cs : Array Value} {t : TypeId} (h : HB w b g cs t W) : HB w b g cs t W.drew := ⟨h.1, h.2.drew⟩
theorem HB.drewN {w W : World} {b g : Nat} {cs : Array Value} {t : TypeId} (h : HB w b g cs t W) (n : Nat) : HB w b g cs t (W.drewN n) := ⟨h.1, Go.below_drewN h.2 n⟩

set_option maxHeartbeats 2000000 in
set_option maxRecDepth 100000 in
theorem refRight_walk (p : Pfx) (b : Bool) (hb : rightB p = b) (w : World) :
 Calls Try.prog 31 #[.agg p.arr] w fun e w' => e = .returned (.bool b) ∧ Below w.heap.size w w' := by
 have H0 := HB.new w p.arr 25
 have hm := mostP_b p.v6
 by_cases h0 : p.n < 0
 ·have hr : rightB p = false := by rw [Bool.eq_false_iff]; intro h; have := (right_iff.1 h).1; omega
  rw [← hb, hr]
  clear hb hr
  have hd : decide (p.n < 0) = true := decide_eq_true h0
  go_enter Try.func31, Try.ntmps31
  go_upto_region 1 with (fail)
  generalize w.alloc (.cells p.arr 25) = W at H0 ⊢
  have c0 := rp_v6 H0.1.rp
  have c2 := rp_n H0.1.rp
  rw [Nat.zero_add] at c2
  go_quiet (fail)
  have H1 := H0.drewN nq
  clear c0 c2
  generalize W.drewN nq = W1 at H1 ⊢
  go_wp2
  go_ret
  exact ⟨rfl, H1.2⟩
 have hd : decide (p.n < 0) = false := decide_eq_false h0
 by_cases h1 : p.n ≤ mostP p.v6
 ·have hd1 : decide (mostP p.v6 < p.n) = false := decide_eq_false (by omega)
  have hd4 : decide (p.n ≤ mostP p.v6) = true := decide_eq_true h1
  obtain ⟨n, hn⟩ := Int.eq_ofNat_of_zero_le (show 0 ≤ p.n by omega)
  have HN := Lib.hid (And.intro hn (And.intro hb h1))
  clear hn hb
  go_enter Try.func31, Try.ntmps31
  go_upto_region 1 with (fail)
  generalize w.alloc (.cells p.arr 25) = W at H0 ⊢
  have c0 := rp_v6 H0.1.rp
  have c2 := rp_n H0.1.rp
  rw [Nat.zero_add] at c2
  go_quiet ((go_at_call 32; exact Calls.quiet_of_same (refMost_walk _ _)))
  have H1 := H0.drewN nq
  clear c0 c2
  generalize W.drewN nq = W1 at H1 ⊢
  have c2 := rp_n H1.1.rp
  rw [Nat.zero_add, HN.out.1] at c2
  go_wp2
  have hn128 : n ≤ 128 := by have := HN.out.1; have := HN.out.2.2; omega
  have HW1 := Lib.hid H1
  clear c2 H1 H0 hd hd1 hd4 h0 h1
  go_loopw [3] (fun iv wr => ∃ k : Nat, k ≤ 128 ∧ n ≤ k ∧ iv = .int .i64 k ∧ Hid ((∀ j : Nat, n ≤ j → j < k → p.a.bit j = 0) ∧ HB w w.heap.size w.heap.size p.arr 25 wr)) (fun iv _ => 128 - (intOf iv).toNat)
  case atStart => exact ⟨n, hn128, Nat.le_refl _, rfl, Lib.hid ⟨fun j h1 h2 => by omega, HW1.out⟩⟩
  case round =>
   obtain ⟨k, hk, hnk, rfl, H⟩ := hrel
   by_cases hlt : k < 128
   ·have hd1 := eq_true (show (k : Int) < 128 by omega)
    have hd2 : decide ((k : Int) < 128) = true := decide_eq_true (by omega)
    go_wp2_with ((with_reducible refine at_dst 22 ?_); refine loadA p.a w.heap.size 1 rfl (ra_of_p H.out.2.1.rp) ?_)
    refine (refBit_walk p.a k wr hlt).mono ?_
    rintro e w2 ⟨rfl, hB⟩
    have H2 := Lib.hid (H.out.2.step hB (Nat.le_refl _))
    rcases p.a.bit_01 k with hbit | hbit
    ·rw [hbit]
     go_wp2
     go_roundw
     case rel => exact ⟨k + 1, by omega, by omega, by go_num, Lib.hid ⟨fun j h1 h2 => by
      by_cases hjk : j = k
      ·subst hjk; exact hbit
      ·exact H.out.1 j h1 (by omega), H2.out⟩⟩
     case measure => simp [intOf]; omega
    ·rw [hbit]
     go_wp2
     go_ret
     refine ⟨?_, H2.out.2⟩
     have hr : rightB p = false := by
      rw [Bool.eq_false_iff]
      intro h
      have := (right_iff.1 h).2.2 k hlt (by rw [HN.out.1]; omega)
      omega
     rw [← HN.out.2.1, hr]
     rfl
   ·have hd2 : decide ((k : Int) < 128) = false := decide_eq_false (by omega)
    have hd1 := eq_false (show ¬ (k : Int) < 128 by omega)
    go_wp2
    go_ret
    refine ⟨?_, H.out.2.2⟩
    have hr : rightB p = true := right_iff.2 ⟨by rw [HN.out.1]; omega, HN.out.2.2, fun j hj h => H.out.1 j (by have := HN.out.1; omega) (by omega)⟩
    rw [← HN.out.2.1, hr]
    rfl
 ·have hr : rightB p = false := by rw [Bool.eq_false_iff]; intro h; have := (right_iff.1 h).2.1; omega
  rw [← hb, hr]
  clear hb hr
  have hd1 : decide (mostP p.v6 < p.n) = true := decide_eq_true (by omega)
  have hd4 : decide (p.n ≤ mostP p.v6) = false := decide_eq_false h1
  go_enter Try.func31, Try.ntmps31
  go_upto_region 1 with (fail)
  generalize w.alloc (.cells p.arr 25) = W at H0 ⊢
  have c0 := rp_v6 H0.1.rp
  have c2 := rp_n H0.1.rp
  rw [Nat.zero_add] at c2
  go_quiet ((go_at_call 32; exact Calls.quiet_of_same (refMost_walk _ _)))
  have H1 := H0.drewN nq
  clear c0 c2
  generalize W.drewN nq = W1 at H1 ⊢
  go_wp2
  go_ret
  exact ⟨rfl, H1.2⟩

end Go.Proofs.Ytllahlgnjeeliaa.Ad
end

namespace Go.Proofs.Ytllahlgnjeeliaa.Ad

/-- Lists of whole numbers, as words stand in a dictionary. -/
def lexC : List Int → List Int → Int
 | x :: xs, y :: ys => if x < y then -1 else if y < x then 1 else lexC xs ys
 | _, _ => 0
theorem lexC_range : ∀ a b : List Int, lexC a b = -1 ∨ lexC a b = 0 ∨ lexC a b = 1
 | [], b => by simp [lexC]
 | x :: xs, [] => by simp [lexC]
 | x :: xs, y :: ys => by
  have := lexC_range xs ys
  unfold lexC
  split
  ·exact .inl rfl
  split
  ·exact .inr (.inr rfl)
  ·exact this
theorem lexC_self : ∀ a : List Int, lexC a a = 0
 | [] => rfl
 | x :: xs => by unfold lexC; rw [if_neg (by omega), if_neg (by omega)]; exact lexC_self xs
theorem lexC_eq : ∀ {a b : List Int}, a.length = b.length → lexC a b = 0 → a = b
 | [], [], _, _ => rfl
 | x :: xs, y :: ys, hl, h => by
  unfold lexC at h
  split at h
  ·omega
  split at h
  ·omega
  ·rw [show x = y by omega, lexC_eq (by simpa using hl) h]
theorem lexC_neg : ∀ a b : List Int, lexC b a = -lexC a b
 | [], b => by cases b <;> rfl
 | x :: xs, [] => rfl
 | x :: xs, y :: ys => by
  unfold lexC
  have := lexC_neg xs ys
  by_cases h1 : x < y
  ·rw [if_neg (by omega), if_pos h1, if_pos h1]; rfl
  by_cases h2 : y < x
  ·rw [if_pos h2, if_neg h1, if_pos h2]
  ·rw [if_neg h2, if_neg h1, if_neg h1, if_neg h2]; exact this
theorem lexC_trans : ∀ {a b c : List Int}, a.length = b.length → b.length = c.length → lexC a b = -1 → lexC b c = -1 → lexC a c = -1
 | [], [], _, _, _, h, _ => by simp [lexC] at h
 | x :: xs, y :: ys, z :: zs, h1, h2, h3, h4 => by
  unfold lexC at h3 h4 ⊢
  by_cases hxy : x < y
  ·by_cases hyz : y < z
   ·rw [if_pos (by omega)]
   ·rw [if_neg hyz] at h4
    by_cases hzy : z < y
    ·rw [if_pos hzy] at h4; omega
    ·rw [if_pos (by omega)]
  ·rw [if_neg hxy] at h3
   by_cases hyx : y < x
   ·rw [if_pos hyx] at h3; omega
   ·rw [if_neg hyx] at h3
    by_cases hyz : y < z
    ·rw [if_pos (by omega)]
    ·rw [if_neg hyz] at h4
     by_cases hzy : z < y
     ·rw [if_pos hzy] at h4; omega
     ·rw [if_neg hzy] at h4
      rw [if_neg (by omega), if_neg (by omega)]
      exact lexC_trans (by simpa using h1) (by simpa using h2) h3 h4
theorem lexC_cons (x y : Int) (xs ys : List Int) : lexC (x :: xs) (y :: ys) = if x < y then -1 else if y < x then 1 else lexC xs ys := rfl
theorem lexC_app : ∀ {a b c d : List Int}, a.length = b.length → lexC (a ++ c) (b ++ d) = if lexC a b = 0 then lexC c d else lexC a b
 | [], [], c, d, _ => by simp [lexC]
 | x :: xs, y :: ys, c, d, h => by
  show lexC (x :: (xs ++ c)) (y :: (ys ++ d)) = _
  have ih := lexC_app (c := c) (d := d) (show xs.length = ys.length by simpa using h)
  rw [lexC_cons, lexC_cons]
  by_cases h1 : x < y
  ·rw [if_pos h1, if_pos h1, if_neg (by decide)]
  by_cases h2 : y < x
  ·rw [if_neg h1, if_pos h2, if_neg h1, if_pos h2, if_neg (by decide)]
  ·rw [if_neg h1, if_neg h2, if_neg h1, if_neg h2]; exact ih
def cmpI (x y : Int) : Int := if x < y then -1 else if y < x then 1 else 0
theorem lexC_one (x y : Int) : lexC [x] [y] = cmpI x y := by simp [lexC, cmpI]
def keyP (p : Pfx) : List Int := (if p.v6 then 1 else 0) :: (p.a.l ++ [p.n])
def keyV (v : Vrp) : List Int := keyP v.p ++ [v.max, v.asn]
theorem keyP_len (p : Pfx) : (keyP p).length = 18 := by simp [keyP, p.a.h]
theorem keyV_len (v : Vrp) : (keyV v).length = 20 := by simp [keyV, keyP_len]
theorem keyP_inj {p q : Pfx} (h : keyP p = keyP q) : p = q := by
 unfold keyP at h
 injection h with h1 h2
 have h3 := List.append_inj h2 (by rw [p.a.h, q.a.h])
 have ha := A16.ext h3.1
 have hn : p.n = q.n := by simpa using h3.2
 have hv : p.v6 = q.v6 := by cases hp : p.v6 <;> cases hq : q.v6 <;> simp_all
 cases p; cases q; simp_all
theorem keyV_inj {p q : Vrp} (h : keyV p = keyV q) : p = q := by
 unfold keyV at h
 have h3 := List.append_inj h (by rw [keyP_len, keyP_len])
 have hp := keyP_inj h3.1
 have h4 := h3.2
 cases p; cases q; simp_all
def cmpP (p q : Pfx) : Int := lexC (keyP p) (keyP q)
def cmpV (v u : Vrp) : Int := lexC (keyV v) (keyV u)
theorem cmpV_range (v u : Vrp) : cmpV v u = -1 ∨ cmpV v u = 0 ∨ cmpV v u = 1 := lexC_range _ _
theorem cmpV_eq {v u : Vrp} : cmpV v u = 0 ↔ v = u := ⟨fun h => keyV_inj (lexC_eq (by rw [keyV_len, keyV_len]) h), fun h => by subst h; exact lexC_self _⟩
theorem cmpV_neg (v u : Vrp) : cmpV u v = -cmpV v u := lexC_neg _ _
theorem cmpV_trans {a b c : Vrp} (h1 : cmpV a b < 0) (h2 : cmpV b c < 0) : cmpV a c < 0 := by
 have e1 : lexC (keyV a) (keyV b) = -1 := by rcases cmpV_range a b with h | h | h <;> unfold cmpV at h1 h <;> omega
 have e2 : lexC (keyV b) (keyV c) = -1 := by rcases cmpV_range b c with h | h | h <;> unfold cmpV at h2 h <;> omega
 have := lexC_trans (by rw [keyV_len, keyV_len]) (by rw [keyV_len, keyV_len]) e1 e2
 unfold cmpV
 omega
/-- As the code tells it: families, addresses, lengths. -/
theorem cmpP_of (p q : Pfx) : cmpP p q = if p.v6 ≠ q.v6 then (if q.v6 then -1 else 1) else if lexC p.a.l q.a.l ≠ 0 then lexC p.a.l q.a.l else cmpI p.n q.n := by
 unfold cmpP keyP
 have h := lexC_app (c := [p.n]) (d := [q.n]) (show p.a.l.length = q.a.l.length by rw [p.a.h, q.a.h])
 rw [lexC_one] at h
 cases hp : p.v6 <;> cases hq : q.v6
 all_goals
  simp [lexC, h]
  try (split <;> simp_all)
theorem cmpV_of (v u : Vrp) : cmpV v u = if cmpP v.p u.p ≠ 0 then cmpP v.p u.p else if cmpI v.max u.max ≠ 0 then cmpI v.max u.max else cmpI v.asn u.asn := by
 unfold cmpV keyV
 have h := lexC_app (c := [v.max, v.asn]) (d := [u.max, u.asn]) (show (keyP v.p).length = (keyP u.p).length by rw [keyP_len, keyP_len])
 have h2 := lexC_app (a := [v.max]) (b := [u.max]) (c := [v.asn]) (d := [u.asn]) rfl
 rw [lexC_one, lexC_one] at h2
 rw [h]
 have e : lexC [v.max, v.asn] [u.max, u.asn] = lexC ([v.max] ++ [v.asn]) ([u.max] ++ [u.asn]) := rfl
 rw [e, h2]
 unfold cmpP
 by_cases h3 : lexC (keyP v.p) (keyP u.p) = 0 <;> by_cases h4 : cmpI v.max u.max = 0 <;> simp [h3, h4]
end Go.Proofs.Ytllahlgnjeeliaa.Ad


section
set_option linter.unusedVariables false
set_option linter.unusedSimpArgs false
namespace Go.Proofs.Ytllahlgnjeeliaa.Ad
open Go.RowKit Go.Proofs.YtllahlgnjeeliaaW.PrintWords Go.Proofs.YtllahlgnjeeliaaW.PrintLast Go.Proofs.YtllahlgnjeeliaaW.PrintMore Go.Proofs.Ytllahlgnjeeliaa.PT

/-- New blocks and draws, nothing else. -/
def Gw (W W1 : World) : Prop := ∃ q os, W1 = Go.Sort.grow (W.drewN q) os
theorem Gw.refl (W : World) : Gw W W := ⟨0, #[], by simp [World.drewN]⟩
theorem Gw.trans {a b c : World} (h : Gw a b) (k : Gw b c) : Gw a c := by
 obtain ⟨q, os, rfl⟩ := h
 obtain ⟨q', os', rfl⟩ := k
 refine ⟨q + q', os ++ os', ?_⟩
 show Go.Sort.grow (Go.Sort.grow ((a.drewN q).drewN q') os) os' = _
 rw [Go.Sort.grow_grow]
 simp [World.drewN, Nat.add_assoc]
theorem Gw.alloc {a b : World} (h : Gw a b) (o : Obj) : Gw a (b.alloc o) := h.trans ⟨0, #[o], by rw [Go.Sort.alloc_eq_grow]; rfl⟩
theorem Gw.drew {a b : World} (h : Gw a b) : Gw a b.drew := h.trans ⟨1, #[], by rw [Go.Sort.grow_empty]; rfl⟩
theorem Gw.drewN {a b : World} (h : Gw a b) (n : Nat) : Gw a (b.drewN n) := h.trans ⟨n, #[], by rw [Go.Sort.grow_empty]⟩
theorem Gw.below {a b : World} (h : Gw a b) : Below a.heap.size a b := by
 obtain ⟨q, os, rfl⟩ := h
 refine ⟨rfl, rfl, rfl, ?_, fun k hk => ?_⟩
 ·show a.heap.size ≤ (a.heap ++ os).size
  simp
 ·show (a.heap ++ os)[k]? = a.heap[k]?
  rw [Array.getElem?_append_left hk]

theorem lex_bytes : ∀ {a b : List Int}, a.length = b.length → (∀ x ∈ a, 0 ≤ x ∧ x < 256) → (∀ x ∈ b, 0 ≤ x ∧ x < 256) → Lib.compareBytes (Lib.bytesOf a) (Lib.bytesOf b) = lexC a b
 | [], [], _, _, _ => rfl
 | x :: xs, y :: ys, hl, ha, hb => by
  have hx := ha x (by simp)
  have hy := hb y (by simp)
  have ih := lex_bytes (by simpa using hl) (fun z hz => ha z (by simp [hz])) (fun z hz => hb z (by simp [hz]))
  have e1 : x.toNat.toUInt8 < y.toNat.toUInt8 ↔ x < y := by
   rw [UInt8.lt_iff_toNat_lt]
   simp
   omega
  have e2 : y.toNat.toUInt8 < x.toNat.toUInt8 ↔ y < x := by
   rw [UInt8.lt_iff_toNat_lt]
   simp
   omega
  show (if x.toNat.toUInt8 < y.toNat.toUInt8 then (-1 : Int) else if y.toNat.toUInt8 < x.toNat.toUInt8 then 1 else Lib.compareBytes (Lib.bytesOf xs) (Lib.bytesOf ys)) = _
  rw [lexC_cons, ih]
  simp only [e1, e2]

theorem bytes16 {W : World} {b o : Nat} {a : A16} (h : W.rangeAt b o a.cells) (c : Nat) : (Extern.Bytes.bytesOf (.slice (some ⟨b, o, none⟩) 16 c)).run Try.prog W = .ok ⟨(Lib.bytesOf a.l).toArray⟩ W := by
 have hl := Lib.run_loadBytesX (P := Try.prog) W a.l ⟨b, o, none⟩ .empty (fun j x hj => by
  rw [Addr.add_mid]
  exact h j _ (by rw [A16.cells, List.getElem?_map, hj]; rfl))
 rw [a.h] at hl
 have he : (⟨ByteArray.empty.data ++ (Lib.bytesOf a.l).toArray⟩ : ByteArray) = ⟨(Lib.bytesOf a.l).toArray⟩ := by
  apply ByteArray.ext
  show (#[] : Array UInt8) ++ (Lib.bytesOf a.l).toArray = _
  simp
 rw [he] at hl
 exact hl
theorem run_cmp16 {W : World} {b o b' o' : Nat} {p q : A16} (hp : W.rangeAt b o p.cells) (hq : W.rangeAt b' o' q.cells) (c c' : Nat) :
 (Extern.BytealgCompare.compare #[.slice (some ⟨b, o, none⟩) 16 c, .slice (some ⟨b', o', none⟩) 16 c']).run Try.prog W = .ok (.int .i64 (lexC p.l q.l)) W := by
 change Sem.run Try.prog (do pure (goInt (Extern.BytealgCompare.cmp (← Extern.Bytes.bytesOf (.slice (some ⟨b, o, none⟩) 16 c)) (← Extern.Bytes.bytesOf (.slice (some ⟨b', o', none⟩) 16 c'))))) W = _
 simp only [Sem.run_bind, bytes16 hp, bytes16 hq, Result.andThen, Sem.run_pure]
 rw [Lib.cmp_eq, ← lex_bytes (by rw [p.h, q.h]) p.b q.b]
 rfl

set_option maxHeartbeats 1000000 in
set_option maxRecDepth 100000 in
theorem bcmp_walk {b o b' o' : Nat} {p q : A16} (c c' : Nat) (W : World) (hp : W.rangeAt b o p.cells) (hq : W.rangeAt b' o' q.cells) :
 Calls Try.prog 58 #[.slice (some ⟨b, o, none⟩) 16 c, .slice (some ⟨b', o', none⟩) 16 c'] W fun e w' => e = .returned (.int .i64 (lexC p.l q.l)) ∧ w' = W := by
 have hr := run_cmp16 hp hq c c'
 clear hp hq
 go_enter Try.func58, Try.ntmps58
 go_wp2
 rw [run_callFunc_extern Try.func67 (by kernel_rfl) (by kernel_rfl) (by kernel_rfl) (e := Extern.BytealgCompare.compare) (by kernel_rfl), hr]
 simp only [Result.andThen]
 rw [Oper.upon_value]
 go_wp2
 go_ret
 exact ⟨rfl, rfl⟩

theorem nanI (x : Int) (w : World) : Calls Try.prog 59 #[.int .i64 x] w fun e w' => e = .returned (.bool false) ∧ w' = w := by
 go_enter Try.func59, Try.ntmps59
 go_wp2
 go_ret
 exact ⟨by simp, rfl⟩
theorem nanU (x : Int) (w : World) : Calls Try.prog 60 #[.int .u32 x] w fun e w' => e = .returned (.bool false) ∧ w' = w := by
 go_enter Try.func60, Try.ntmps60
 go_wp2
 go_ret
 exact ⟨by simp, rfl⟩
set_option maxHeartbeats 1000000 in
theorem ccmpI (x y : Int) (w : World) : Calls Try.prog 41 #[.int .i64 x, .int .i64 y] w fun e w' => e = .returned (.int .i64 (cmpI x y)) ∧ w' = w := by
 go_enter Try.func41, Try.ntmps41
 go_wp2_with (refine (nanI _ _).mono ?_; rintro e w' ⟨rfl, hw⟩; rw [hw])
 all_goals (go_ret; refine ⟨?_, rfl⟩; unfold cmpI; (repeat' split) <;> first | rfl | (exfalso; omega))
set_option maxHeartbeats 1000000 in
theorem ccmpU (x y : Int) (w : World) : Calls Try.prog 42 #[.int .u32 x, .int .u32 y] w fun e w' => e = .returned (.int .i64 (cmpI x y)) ∧ w' = w := by
 go_enter Try.func42, Try.ntmps42
 go_wp2_with (refine (nanU _ _).mono ?_; rintro e w' ⟨rfl, hw⟩; rw [hw])
 all_goals (go_ret; refine ⟨?_, rfl⟩; unfold cmpI; (repeat' split) <;> first | rfl | (exfalso; omega))

def orP (x y z : Int) : Int := if x ≠ 0 then x else if y ≠ 0 then y else z
set_option maxHeartbeats 1000000 in
set_option maxRecDepth 100000 in
theorem or_walk (x y z : Int) (g : Nat) (w : World) (h0 : w.cell? ⟨g, 0, none⟩ = some (.int .i64 x)) (h1 : w.cell? ⟨g, 1, none⟩ = some (.int .i64 y)) (h2 : w.cell? ⟨g, 2, none⟩ = some (.int .i64 z)) :
 Calls Try.prog 39 #[.slice (some ⟨g, 0, none⟩) 3 3] w fun e w' => e = .returned (.int .i64 (orP x y z)) ∧ w' = w := by
 obtain ⟨l, hl⟩ : ∃ l, l = [x, y, z] := ⟨_, rfl⟩
 have hc : ∀ k : Nat, k < 3 → w.cell? ⟨g, k, none⟩ = some (.int .i64 (l.getD k 0)) := by
  intro k hk
  have : k = 0 ∨ k = 1 ∨ k = 2 := by omega
  rcases this with rfl | rfl | rfl
  ·rw [h0, hl]; rfl
  ·rw [h1, hl]; rfl
  ·rw [h2, hl]; rfl
 have HC := Lib.hid hc
 have HL := Lib.hid hl
 clear h0 h1 h2 hc hl
 go_enter Try.func39, Try.ntmps39
 go_wp2
 go_loop [8] (fun i => ∃ k : Nat, k ≤ 3 ∧ i = .int .i64 k ∧ Hid (∀ j, j < k → l.getD j 0 = 0)) (fun i => 3 - (intOf i).toNat)
 case atStart => exact ⟨0, by omega, rfl, fun j h => by omega⟩
 case round =>
  obtain ⟨k, hk, rfl, H⟩ := hrel
  by_cases hlt : k < 3
  ·have hd1 := eq_true (show (k : Int) < 3 by omega)
   have hd2 : decide ((k : Int) < 3) = true := decide_eq_true (by omega)
   have hcell := HC.out k hlt
   obtain ⟨u, hu⟩ : ∃ u, u = l.getD k 0 := ⟨_, rfl⟩
   rw [← hu] at hcell
   have HU := Lib.hid hu
   clear hu
   by_cases hz : u = 0
   ·subst hz
    go_wp2
    go_round
    case rel => exact ⟨k + 1, by omega, by go_num, Lib.hid (fun j hj => by
     by_cases hjk : j = k
     ·subst hjk; exact HU.out.symm
     ·exact H.out j (by omega))⟩
    case measure => simp [intOf]; omega
   ·have hz1 : (u == 0) = false := by simpa using hz
    have hz2 : (u != 0) = true := by simpa using hz
    go_wp2
    try rw [Exit.noGoto_ret]
    go_ret
    refine ⟨?_, rfl⟩
    have e := HU.out
    rw [HL.out] at e
    have hj := H.out
    rw [HL.out] at hj
    have : k = 0 ∨ k = 1 ∨ k = 2 := by omega
    rcases this with rfl | rfl | rfl
    ·simp at e; subst e; unfold orP; rw [if_pos hz]; rfl
    ·have := hj 0 (by omega)
     simp at e this; subst e; unfold orP; rw [if_neg (by omega), if_pos hz]; rfl
    ·have := hj 0 (by omega)
     have h1 := hj 1 (by omega)
     simp at e this h1; subst e; unfold orP; rw [if_neg (by omega), if_neg (by omega)]; rfl
  ·have hk3 : k = 3 := by omega
   subst hk3
   have hd2 : decide (((3 : Nat) : Int) < 3) = false := by decide
   have hd1 := eq_false (show ¬ ((3 : Nat) : Int) < 3 by decide)
   go_wp2
   try rw [Exit.noGoto_ret]
   go_ret
   refine ⟨?_, rfl⟩
   have hj := H.out
   rw [HL.out] at hj
   have e0 := hj 0 (by omega)
   have e1 := hj 1 (by omega)
   have e2 := hj 2 (by omega)
   simp at e0 e1 e2
   subst e0 e1 e2
   rfl

end Go.Proofs.Ytllahlgnjeeliaa.Ad
end

section
set_option linter.unusedVariables false
set_option linter.unusedSimpArgs false
namespace Go.Proofs.Ytllahlgnjeeliaa.Ad
open Go.RowKit Go.Proofs.YtllahlgnjeeliaaW.PrintWords Go.Proofs.YtllahlgnjeeliaaW.PrintLast Go.Proofs.YtllahlgnjeeliaaW.PrintMore Go.Proofs.Ytllahlgnjeeliaa.PT

/-- Two values in the blocks made first; nothing but new blocks and draws. -/
def G2 (w : World) (c d : Array Value) (t : TypeId) (W : World) : Prop := Has W w.heap.size c t ∧ Has W (w.heap.size + 1) d t ∧ Gw w W
theorem G2.new (w : World) (c d : Array Value) (t : TypeId) : G2 w c d t ((w.alloc (.cells c t)).alloc (.cells d t)) := ⟨heap_alloc2_old _ _ _, heap_alloc2_new _ _ _, ((Gw.refl _).alloc _).alloc _⟩
theorem G2.drew {w W : World} {c d : Array Value} {t : TypeId} (h : G2 w c d t W) : G2 w c d t W.drew := ⟨h.1, h.2.1, h.2.2.drew⟩
theorem G2.drewN {w W : World} {c d : Array Value} {t : TypeId} (h : G2 w c d t W) (n : Nat) : G2 w c d t (W.drewN n) := ⟨h.1, h.2.1, h.2.2.drewN n⟩
theorem G2.step {w W W1 : World} {c d : Array Value} {t : TypeId} (h : G2 w c d t W) (hB : Gw W W1) : G2 w c d t W1 :=
 ⟨h.1.below hB.below, h.2.1.below hB.below, h.2.2.trans hB⟩

set_option maxHeartbeats 2000000 in
set_option maxRecDepth 100000 in
theorem acmp_walk (p q : Pfx) (w : World) :
 Calls Try.prog 40 #[.agg p.arr, .agg q.arr] w fun e w' => e = .returned (.int .i64 (cmpP p q)) ∧ Gw w w' := by
 have H0 := G2.new w p.arr q.arr 25
 obtain ⟨r, hr0⟩ : ∃ r, r = cmpP p q := ⟨_, rfl⟩
 rw [← hr0]
 rw [cmpP_of] at hr0
 by_cases h6 : p.v6 = q.v6
 ·rw [if_neg (by simpa using h6)] at hr0
  have HX := Lib.hid h6
  clear h6
  obtain ⟨c, hc⟩ : ∃ c, c = lexC p.a.l q.a.l := ⟨_, rfl⟩
  rw [← hc] at hr0
  have HR := Lib.hid hr0
  clear hr0
  have HC := Lib.hid hc
  have hr := lexC_range p.a.l q.a.l
  rw [← hc] at hr
  clear hc
  go_enter Try.func40, Try.ntmps40
  go_upto_region 1 with (fail)
  generalize (w.alloc (.cells p.arr 25)).alloc (.cells q.arr 25) = W at H0 ⊢
  have c0 := rp_v6 H0.1.rp
  have c1 := rp_v6 H0.2.1.rp
  rw [← HX.out] at c1
  go_wp2
  have H1 := H0
  clear H0 c0 c1
  have hcall : ∀ n, Calls Try.prog 58 #[.slice (some ⟨w.heap.size, 1, none⟩) 16 16, .slice (some ⟨w.heap.size + 1, 1, none⟩) 16 16] (W.drewN n) fun e w' => e = .returned (.int .i64 c) ∧ w' = W.drewN n := fun n => by
   have := bcmp_walk 16 16 (W.drewN n) (ra_of_p (H1.drewN n).1.rp) (ra_of_p (H1.drewN n).2.1.rp)
   rwa [← HC.out] at this
  go_quiet ((go_at_call 58; exact Calls.quiet_of_same (hcall _)))
  clear hcall
  have H2 := H1.drewN nq
  clear H1
  generalize W.drewN nq = W1 at H2 ⊢
  have c2 := rp_n H2.1.rp
  have c3 := rp_n H2.2.1.rp
  rw [Nat.zero_add] at c2 c3
  by_cases hz : c = 0
  ·subst hz
   have hres : r = cmpI p.n q.n := by rw [HR.out, if_neg (by simp)]
   unfold cmpI at hres
   have HR2 := Lib.hid hres
   clear hres
   by_cases h1 : p.n < q.n
   ·have hx := HR2.out
    rw [if_pos h1] at hx
    subst hx
    have hd1 : decide (p.n < q.n) = true := decide_eq_true h1
    go_wp2
    go_ret
    exact ⟨rfl, H2.2.2⟩
   ·have hx := HR2.out
    rw [if_neg h1] at hx
    have hd1 : decide (p.n < q.n) = false := decide_eq_false h1
    by_cases h2 : q.n < p.n
    ·rw [if_pos h2] at hx
     subst hx
     have hd2 : decide (q.n < p.n) = true := decide_eq_true h2
     go_wp2
     go_ret
     exact ⟨rfl, H2.2.2⟩
    ·rw [if_neg h2] at hx
     subst hx
     have hd2 : decide (q.n < p.n) = false := decide_eq_false h2
     go_wp2
     go_ret
     exact ⟨rfl, H2.2.2⟩
  ·have hx := HR.out
   rw [if_pos hz] at hx
   have hz1 : (c == 0) = false := by simpa using hz
   have hz2 : (c != 0) = true := by simpa using hz
   subst hx
   go_wp2
   go_ret
   exact ⟨rfl, H2.2.2⟩
 ·rw [if_pos (by simpa using h6)] at hr0
  have h7 : p.v6 = !q.v6 := by cases hx : p.v6 <;> cases hy : q.v6 <;> simp_all
  have HX := Lib.hid h7
  clear h7 h6
  obtain ⟨b, hb⟩ : ∃ b, b = q.v6 := ⟨_, rfl⟩
  rw [← hb] at hr0
  have HB_ := Lib.hid hb
  clear hb
  cases b
  all_goals
   simp only [Bool.false_eq_true, if_false, if_true] at hr0
   subst hr0
   go_enter Try.func40, Try.ntmps40
   go_upto_region 1 with (fail)
   generalize (w.alloc (.cells p.arr 25)).alloc (.cells q.arr 25) = W at H0 ⊢
   have c0 := rp_v6 H0.1.rp
   have c1 := rp_v6 H0.2.1.rp
   rw [HX.out, ← HB_.out] at c0
   rw [← HB_.out] at c1
   go_wp2
   go_ret
   exact ⟨rfl, H0.2.2⟩

theorem cs {w W : World} {v u : Vrp} (h : G2 w v.arr u.arr 39 W) : W.cell? ⟨w.heap.size, 19, none⟩ = some (.int .i64 v.max) ∧ W.cell? ⟨w.heap.size, 0, none⟩ = some (.int .u32 v.asn) ∧ W.cell? ⟨w.heap.size + 1, 19, none⟩ = some (.int .i64 u.max) ∧ W.cell? ⟨w.heap.size + 1, 0, none⟩ = some (.int .u32 u.asn) ∧ G2 w v.arr u.arr 39 W :=
 ⟨by have := rv_max h.1.rv; rwa [Nat.zero_add] at this, rv_as h.1.rv, by have := rv_max h.2.1.rv; rwa [Nat.zero_add] at this, rv_as h.2.1.rv, h⟩

set_option maxHeartbeats 2000000 in
set_option maxRecDepth 100000 in
theorem rcmp_walk (v u : Vrp) (w : World) :
 Calls Try.prog 26 #[.agg v.arr, .agg u.arr] w fun e w' => e = .returned (.int .i64 (cmpV v u)) ∧ Gw w w' := by
 have H0 := (G2.new w v.arr u.arr 39)
 rw [show cmpV v u = orP (cmpP v.p u.p) (cmpI v.max u.max) (cmpI v.asn u.asn) from cmpV_of v u]
 go_enter Try.func26, Try.ntmps26
 go_upto_region 1 with (fail)
 generalize (w.alloc (.cells v.arr 39)).alloc (.cells u.arr 39) = W at H0 ⊢
 have H1 := H0.drew
 clear H0
 refine start_ (n := 18) (S := fun W => W.cell? ⟨w.heap.size, 19, none⟩ = some (.int .i64 v.max) ∧ W.cell? ⟨w.heap.size, 0, none⟩ = some (.int .u32 v.asn) ∧ W.cell? ⟨w.heap.size + 1, 19, none⟩ = some (.int .i64 u.max) ∧ W.cell? ⟨w.heap.size + 1, 0, none⟩ = some (.int .u32 u.asn) ∧ G2 w v.arr u.arr 39 W) (ds := []) #[false, false, false, false, false, false, false, false, false, false, false, false, false, false, false, false, false, false] (by kernel_rfl) rfl rfl (cs H1) (fun hHeld => ?_)
 refine pure_ (i := 0) (N := some 5) (v := ?_) (a' := ?_) #[true, false, false, false, false, false, false, false, false, false, false, false, false, false, false, false, false, false] rfl rfl (by kernel_rfl) (fun _ _ _ h => h) (Or.inl ⟨by rfl, ?_⟩) ?_ ?_
 rotate_left
 ·intro w'
  go_simp
  with_reducible rfl
 rotate_left
 ·simp only [Act.put, List.setIfInBounds_toArray, List.set_cons_zero, List.set_cons_succ, i64_w, i32_w]
  rfl
 refine pure_ (i := 2) (N := some 7) (v := ?_) (a' := ?_) #[true, false, true, false, false, false, false, false, false, false, false, false, false, false, false, false, false, false] rfl rfl (by kernel_rfl) (fun _ _ _ h => h) (Or.inl ⟨by rfl, ?_⟩) ?_ ?_
 rotate_left
 ·intro w'
  go_simp
  with_reducible rfl
 rotate_left
 ·simp only [Act.put, List.setIfInBounds_toArray, List.set_cons_zero, List.set_cons_succ, i64_w, i32_w]
  rfl
 refine pure_ (i := 5) (N := some 10) (v := ?_) (a' := ?_) #[true, false, true, false, false, true, false, false, false, false, false, false, false, false, false, false, false, false] rfl rfl (by kernel_rfl) (fun _ _ _ h => h) (Or.inl ⟨by rfl, ?_⟩) ?_ ?_
 rotate_left
 ·intro w'
  go_simp
  with_reducible rfl
 rotate_left
 ·simp only [Act.put, List.setIfInBounds_toArray, List.set_cons_zero, List.set_cons_succ, i64_w, i32_w]
  rfl
 refine pure_ (i := 7) (N := some 12) (v := ?_) (a' := ?_) #[true, false, true, false, false, true, false, true, false, false, false, false, false, false, false, false, false, false] rfl rfl (by kernel_rfl) (fun _ _ _ h => h) (Or.inl ⟨by rfl, ?_⟩) ?_ ?_
 rotate_left
 ·intro w'
  go_simp
  with_reducible rfl
 rotate_left
 ·simp only [Act.put, List.setIfInBounds_toArray, List.set_cons_zero, List.set_cons_succ, i64_w, i32_w]
  rfl
 refine pure_ (i := 10) (N := some 15) (v := ?_) (a' := ?_) #[true, false, true, false, false, true, false, true, false, false, true, false, false, false, false, false, false, false] rfl rfl (by kernel_rfl) (fun _ _ _ h => h) (Or.inl ⟨by rfl, ?_⟩) ?_ ?_
 rotate_left
 ·intro w'
  go_simp
  with_reducible rfl
 rotate_left
 ·simp only [Act.put, List.setIfInBounds_toArray, List.set_cons_zero, List.set_cons_succ, i64_w, i32_w]
  rfl
 refine pure_ (i := 12) (N := some 17) (v := ?_) (a' := ?_) #[true, false, true, false, false, true, false, true, false, false, true, false, true, false, false, false, false, false] rfl rfl (by kernel_rfl) (fun _ _ _ h => h) (Or.inl ⟨by rfl, ?_⟩) ?_ ?_
 rotate_left
 ·intro w'
  go_simp
  with_reducible rfl
 rotate_left
 ·simp only [Act.put, List.setIfInBounds_toArray, List.set_cons_zero, List.set_cons_succ, i64_w, i32_w]
  rfl
 refine take_ (i := 1) (N := some 6) (v := .agg v.p.arr) (a' := ?_) #[true, true, true, false, false, true, false, true, false, false, true, false, true, false, false, false, false, false] rfl rfl (by kernel_rfl) (fun _ _ _ h => h) ?_ hHeld ?_ ?_
 ·exact yP (by rfl) rfl v.p w.heap.size 1 rfl (fun W h => rp_of_v h.2.2.2.2.1.rv)
 rotate_left
 ·simp only [Act.put, List.setIfInBounds_toArray, List.set_cons_zero, List.set_cons_succ, i64_w, i32_w]
  rfl
 refine take_ (i := 3) (N := some 8) (v := .agg u.p.arr) (a' := ?_) #[true, true, true, true, false, true, false, true, false, false, true, false, true, false, false, false, false, false] rfl rfl (by kernel_rfl) (fun _ _ _ h => h) ?_ hHeld ?_ ?_
 ·exact yP (by rfl) rfl u.p (w.heap.size + 1) 1 rfl (fun W h => rp_of_v h.2.2.2.2.2.1.rv)
 rotate_left
 ·simp only [Act.put, List.setIfInBounds_toArray, List.set_cons_zero, List.set_cons_succ, i64_w, i32_w]
  rfl
 refine take_ (i := 6) (N := some 11) (v := ?_) (a' := ?_) #[true, true, true, true, false, true, true, true, false, false, true, false, true, false, false, false, false, false] rfl rfl (by kernel_rfl) (fun _ _ _ h => h) (Or.inl ⟨by rfl, ?_⟩) hHeld ?_ ?_
 rotate_left
 ·rintro w' ⟨s0, s1, s2, s3, s4⟩
  go_simp
  with_reducible rfl
 rotate_left
 ·simp only [Act.put, List.setIfInBounds_toArray, List.set_cons_zero, List.set_cons_succ, i64_w, i32_w]
  rfl
 refine take_ (i := 8) (N := some 13) (v := ?_) (a' := ?_) #[true, true, true, true, false, true, true, true, true, false, true, false, true, false, false, false, false, false] rfl rfl (by kernel_rfl) (fun _ _ _ h => h) (Or.inl ⟨by rfl, ?_⟩) hHeld ?_ ?_
 rotate_left
 ·rintro w' ⟨s0, s1, s2, s3, s4⟩
  go_simp
  with_reducible rfl
 rotate_left
 ·simp only [Act.put, List.setIfInBounds_toArray, List.set_cons_zero, List.set_cons_succ, i64_w, i32_w]
  rfl
 refine take_ (i := 11) (N := some 16) (v := ?_) (a' := ?_) #[true, true, true, true, false, true, true, true, true, false, true, true, true, false, false, false, false, false] rfl rfl (by kernel_rfl) (fun _ _ _ h => h) (Or.inl ⟨by rfl, ?_⟩) hHeld ?_ ?_
 rotate_left
 ·rintro w' ⟨s0, s1, s2, s3, s4⟩
  go_simp
  with_reducible rfl
 rotate_left
 ·simp only [Act.put, List.setIfInBounds_toArray, List.set_cons_zero, List.set_cons_succ, i64_w, i32_w]
  rfl
 refine take_ (i := 13) (N := some 18) (v := ?_) (a' := ?_) #[true, true, true, true, false, true, true, true, true, false, true, true, true, true, false, false, false, false] rfl rfl (by kernel_rfl) (fun _ _ _ h => h) (Or.inl ⟨by rfl, ?_⟩) hHeld ?_ ?_
 rotate_left
 ·rintro w' ⟨s0, s1, s2, s3, s4⟩
  go_simp
  with_reducible rfl
 rotate_left
 ·simp only [Act.put, List.setIfInBounds_toArray, List.set_cons_zero, List.set_cons_succ, i64_w, i32_w]
  rfl
 refine one_ (i := 4) (N := some 9) #[true, true, true, true, true, true, true, true, true, false, true, true, true, true, false, false, false, false] rfl rfl (by kernel_rfl) (by decide) (fun K hK => ?_)
 refine goes_ Try.func40 (by kernel_rfl) rfl #[.agg v.p.arr, .agg u.p.arr] (by rfl) rfl rfl (by (try simp only [List.map_toArray, List.map_cons, List.map_nil]); first | done | rfl) ?_
 refine (acmp_walk v.p u.p _).mono ?_
 rintro e w1 ⟨rfl, hB⟩
 refine ⟨_, rfl, ?_⟩
 refine hK.out _ _ (cs (G2.step hHeld.2.2.2.2 hB)) (fun hHeld => ?_)
 clear hK K
 refine norm_ (a' := ?_) ?_ ?_
 rotate_left
 ·show Act.put _ (some 9) _ = _
  simp only [Act.put, List.setIfInBounds_toArray, List.set_cons_zero, List.set_cons_succ, i64_w, i32_w]
  rfl
 refine one_ (i := 9) (N := some 14) #[true, true, true, true, true, true, true, true, true, true, true, true, true, true, false, false, false, false] rfl rfl (by kernel_rfl) (by decide) (fun K hK => ?_)
 refine goes_ Try.func41 (by kernel_rfl) rfl #[.int .i64 v.max, .int .i64 u.max] (by rfl) rfl rfl (by (try simp only [List.map_toArray, List.map_cons, List.map_nil]); first | done | rfl) ?_
 refine (ccmpI v.max u.max _).mono ?_
 rintro e w2 ⟨rfl, hw2⟩
 rw [hw2]
 refine ⟨_, rfl, ?_⟩
 refine hK.out _ _ hHeld (fun hHeld => ?_)
 clear hK K
 refine norm_ (a' := ?_) ?_ ?_
 rotate_left
 ·show Act.put _ (some 14) _ = _
  simp only [Act.put, List.setIfInBounds_toArray, List.set_cons_zero, List.set_cons_succ, i64_w, i32_w]
  rfl
 refine one_ (i := 14) (N := some 19) #[true, true, true, true, true, true, true, true, true, true, true, true, true, true, true, false, false, false] rfl rfl (by kernel_rfl) (by decide) (fun K hK => ?_)
 refine goes_ Try.func42 (by kernel_rfl) rfl #[.int .u32 v.asn, .int .u32 u.asn] (by rfl) rfl rfl (by (try simp only [List.map_toArray, List.map_cons, List.map_nil]); first | done | rfl) ?_
 refine (ccmpU v.asn u.asn _).mono ?_
 rintro e w2 ⟨rfl, hw2⟩
 rw [hw2]
 refine ⟨_, rfl, ?_⟩
 refine hK.out _ _ hHeld (fun hHeld => ?_)
 clear hK K
 refine norm_ (a' := ?_) ?_ ?_
 rotate_left
 ·show Act.put _ (some 19) _ = _
  simp only [Act.put, List.setIfInBounds_toArray, List.set_cons_zero, List.set_cons_succ, i64_w, i32_w]
  rfl
 refine one_ (i := 15) (N := some 20) #[true, true, true, true, true, true, true, true, true, true, true, true, true, true, true, true, false, false] rfl rfl (by kernel_rfl) (by decide) (fun K hK => ?_)
 refine event_step (by rfl) (v := .slice (some ⟨w1.heap.size, 0, none⟩) 3 3) (w1 := w1.alloc (.cells #[.int .i64 (cmpP v.p u.p), .int .i64 (cmpI v.max u.max), .int .i64 (cmpI v.asn u.asn)] 3)) (by go_simp; try rfl) ?_
 refine hK.out _ _ (cs (G2.step hHeld.2.2.2.2 ((Gw.refl _).alloc _))) (fun hHeld => ?_)
 clear hK K
 refine norm_ (a' := ?_) ?_ ?_
 rotate_left
 ·show Act.put _ (some 20) _ = _
  simp only [Act.put, List.setIfInBounds_toArray, List.set_cons_zero, List.set_cons_succ, i64_w, i32_w]
  rfl
 refine one_ (i := 16) (N := some 21) #[true, true, true, true, true, true, true, true, true, true, true, true, true, true, true, true, true, false] rfl rfl (by kernel_rfl) (by decide) (fun K hK => ?_)
 refine goes_ Try.func39 (by kernel_rfl) rfl #[.slice (some ⟨w1.heap.size, 0, none⟩) 3 3] (by rfl) rfl rfl (by (try simp only [List.map_toArray, List.map_cons, List.map_nil]); first | done | rfl) ?_
 refine (or_walk (cmpP v.p u.p) (cmpI v.max u.max) (cmpI v.asn u.asn) w1.heap.size _ (Has.c (Has.new w1 _ _) 0) (Has.c (Has.new w1 _ _) 1) (Has.c (Has.new w1 _ _) 2)).mono ?_
 rintro e w2 ⟨rfl, hw2⟩
 rw [hw2]
 refine ⟨_, rfl, ?_⟩
 refine hK.out _ _ hHeld (fun hHeld => ?_)
 clear hK K
 refine norm_ (a' := ?_) ?_ ?_
 rotate_left
 ·show Act.put _ (some 21) _ = _
  simp only [Act.put, List.setIfInBounds_toArray, List.set_cons_zero, List.set_cons_succ, i64_w, i32_w]
  rfl
 refine pure_ (i := 17) (N := some 4) (v := ?_) (a' := ?_) #[true, true, true, true, true, true, true, true, true, true, true, true, true, true, true, true, true, true] rfl rfl (by kernel_rfl) (fun _ _ _ h => h) (Or.inl ⟨by rfl, ?_⟩) ?_ ?_
 rotate_left
 ·intro w'
  go_simp
  with_reducible rfl
 rotate_left
 ·simp only [Act.put, List.setIfInBounds_toArray, List.set_cons_zero, List.set_cons_succ, i64_w, i32_w]
  rfl
 refine done_ (by kernel_rfl) ?_
 go_wp2
 go_ret
 exact ⟨rfl, hHeld.2.2.2.2.2.2⟩

end Go.Proofs.Ytllahlgnjeeliaa.Ad
end

section
set_option linter.unusedVariables false
set_option linter.unusedSimpArgs false
namespace Go.Proofs.Ytllahlgnjeeliaa.Ad
open Go.RowKit Go.Proofs.YtllahlgnjeeliaaW.PrintWords Go.Proofs.YtllahlgnjeeliaaW.PrintLast Go.Proofs.YtllahlgnjeeliaaW.PrintMore Go.Proofs.Ytllahlgnjeeliaa.PT

/-- The kind of a value of so many cells without slices within. -/
def kV : Kd Vrp where
 sz := 20
 E := []
 K := fun _ x cs => cs = x.cells
 M := fun _ _ _ x cs => cs = x.cells
 K_len := fun h => by rw [h]; exact Vrp.cells_len _
 K_one := fun h u hu => by rw [h] at hu; exact Vrp.one _ u hu
 K_below := fun _ h => h
 K_of_M := fun h => h
 M_mono := fun _ h => h
 M_bound := fun h => h
 M_move := fun _ h => h
 M_lower := fun _ h => h
theorem spot_none {w : World} {a : Addr} {u : Value} (h : w.cell? a = some u) : a.spot = none := by
 unfold World.cell? at h
 cases hb : w.heap[a.block]? with
 | none => simp [hb] at h
 | some o =>
  cases o with
  | cells c t fr =>
   simp only [hb] at h
   cases hs : a.spot with
   | none => rfl
   | some s => simp [hs] at h
  | _ => simp [hb] at h
theorem C_form {w : World} {A : Option Addr} {n : Nat} {xs : List Vrp} (h : kV.C w A n xs) (hn : 0 < n) : ∃ b o, A = some ⟨b, o, none⟩ ∧ ∀ i (hi : i < xs.length), w.rangeAt b (o + i * 20) xs[i].cells := by
 obtain ⟨ad, e, hc⟩ := h.2.2 hn
 have hl := h.1
 obtain ⟨c0, hcl, hK, hcell⟩ := hc 0 _ (List.getElem?_eq_getElem (show 0 < xs.length by omega))
 have hK' : c0 = xs[0].cells := hK
 have hs := spot_none (hcell 0 _ (show c0[0]? = some (.int .u32 xs[0].asn) by rw [hK']; rfl))
 have hs' : ad.spot = none := by
  have e0 : ad.add (0 * kV.sz + 0) = ad := by unfold Addr.add; rw [if_pos (by simp)]
  rw [e0] at hs
  exact hs
 obtain ⟨b, o, sp⟩ := ad
 have : sp = none := hs'
 subst this
 refine ⟨b, o, e, fun i hi j u hu => ?_⟩
 obtain ⟨c, _, hKi, hci⟩ := hc i _ (List.getElem?_eq_getElem hi)
 have hKi' : c = xs[i].cells := hKi
 have := hci j u (by rw [hKi']; exact hu)
 rw [Addr.add_mid] at this
 rw [show o + i * 20 + j = o + (i * 20 + j) by omega]
 exact this
end Go.Proofs.Ytllahlgnjeeliaa.Ad
end

section
set_option linter.unusedVariables false
set_option linter.unusedSimpArgs false
namespace Go.Proofs.Ytllahlgnjeeliaa.Ad
open Go.RowKit Go.Proofs.YtllahlgnjeeliaaW.PrintWords Go.Proofs.YtllahlgnjeeliaaW.PrintLast Go.Proofs.YtllahlgnjeeliaaW.PrintMore Go.Proofs.Ytllahlgnjeeliaa.PT

end Go.Proofs.Ytllahlgnjeeliaa.Ad
end

section
set_option linter.unusedVariables false
set_option linter.unusedSimpArgs false
namespace Go.Proofs.Ytllahlgnjeeliaa.Ad
open Go.RowKit Go.Proofs.YtllahlgnjeeliaaW.PrintWords Go.Proofs.YtllahlgnjeeliaaW.PrintLast Go.Proofs.YtllahlgnjeeliaaW.PrintMore Go.Proofs.Ytllahlgnjeeliaa.PT

def oneB (v : Vrp) : Bool := rightB v.p && decide (v.p.n ≤ v.max) && decide (v.max ≤ mostP v.p.v6)
theorem rmost_walk (b : Bool) (w : World) : Calls Try.prog 33 #[.bool b] w fun e w' => e = .returned (.int .i64 (mostP b)) ∧ w' = w := by
 cases b
 all_goals
  go_enter Try.func33, Try.ntmps33
  go_wp2
  go_ret
  exact ⟨rfl, rfl⟩
/-- The cells that are asked for. -/
def OS (w : World) (v : Vrp) (W : World) : Prop := W.cell? ⟨w.heap.size, 19, none⟩ = some (.int .i64 v.max) ∧ W.cell? ⟨w.heap.size, 18, none⟩ = some (.int .i64 v.p.n) ∧ W.cell? ⟨w.heap.size, 1, none⟩ = some (.bool v.p.v6) ∧ HB w w.heap.size w.heap.size v.arr 39 W
theorem OS.mk {w W : World} {v : Vrp} (h : HB w w.heap.size w.heap.size v.arr 39 W) : OS w v W :=
 ⟨by have := rv_max h.1.rv; rwa [Nat.zero_add] at this, by have := rp_n (rp_of_v h.1.rv); rwa [show 0 + 1 + 17 = 18 from rfl] at this, by have := rp_v6 (rp_of_v h.1.rv); rwa [Nat.zero_add] at this, h⟩

set_option maxHeartbeats 2000000 in
set_option maxRecDepth 100000 in
theorem one_walk (v : Vrp) (w : World) :
 Calls Try.prog 20 #[.agg v.arr] w fun e w' => e = .returned (.bool (oneB v)) ∧ Below w.heap.size w w' := by
 have H0 := HB.new w v.arr 39
 by_cases hp : rightB v.p = true
 ·by_cases hn : v.p.n ≤ v.max
  ·have hr : oneB v = decide (v.max ≤ mostP v.p.v6) := by unfold oneB; rw [hp, decide_eq_true hn]; rfl
   rw [hr]
   have hd1 : decide (v.p.n ≤ v.max) = true := decide_eq_true hn
   have hd2 : decide (v.max < v.p.n) = false := decide_eq_false (by omega)
   have HX := Lib.hid (And.intro hp hn)
   clear hp hn hr
   go_enter Try.func20, Try.ntmps20
   go_upto_region 1 with (fail)
   generalize w.alloc (.cells v.arr 39) = W at H0 ⊢
   have H1 := H0.drew
   clear H0
   refine start_ (n := 21) (S := fun W => W.cell? ⟨w.heap.size, 19, none⟩ = some (.int .i64 v.max) ∧ W.cell? ⟨w.heap.size, 18, none⟩ = some (.int .i64 v.p.n) ∧ W.cell? ⟨w.heap.size, 1, none⟩ = some (.bool v.p.v6) ∧ HB w w.heap.size w.heap.size v.arr 39 W) (ds := []) #[false, false, false, false, false, false, false, false, false, false, false, false, false, false, false, false, false, false, false, false, false] (by kernel_rfl) rfl rfl (OS.mk H1) (fun hHeld => ?_)
   refine pure_ (i := 0) (N := some 3) (v := ?_) (a' := ?_) #[true, false, false, false, false, false, false, false, false, false, false, false, false, false, false, false, false, false, false, false, false] rfl rfl (by kernel_rfl) (fun _ _ _ h => h) (Or.inl ⟨by rfl, ?_⟩) ?_ ?_
   rotate_left
   ·intro w'
    go_simp
    with_reducible rfl
   rotate_left
   ·simp only [Act.put, List.setIfInBounds_toArray, List.set_cons_zero, List.set_cons_succ, i64_w, i32_w]
    rfl
   refine take_ (i := 1) (N := some 4) (v := .agg v.p.arr) (a' := ?_) #[true, true, false, false, false, false, false, false, false, false, false, false, false, false, false, false, false, false, false, false, false] rfl rfl (by kernel_rfl) (fun _ _ _ h => h) ?_ hHeld ?_ ?_
   ·exact yP (by rfl) rfl v.p w.heap.size 1 rfl (fun W h => rp_of_v h.2.2.2.1.rv)
   rotate_left
   ·simp only [Act.put, List.setIfInBounds_toArray, List.set_cons_zero, List.set_cons_succ, i64_w, i32_w]
    rfl
   refine one_ (i := 2) (N := some 5) #[true, true, true, false, false, false, false, false, false, false, false, false, false, false, false, false, false, false, false, false, false] rfl rfl (by kernel_rfl) (by decide) (fun K hK => ?_)
   refine goes_ Try.func16 (by kernel_rfl) rfl #[.agg v.p.arr] (by rfl) rfl rfl (by (try simp only [List.map_toArray, List.map_cons, List.map_nil]); first | done | rfl) ?_
   refine (right_walk v.p true HX.out.1 _).mono ?_
   rintro e w1 ⟨rfl, hB⟩
   refine ⟨_, rfl, ?_⟩
   refine hK.out _ _ (OS.mk (HB.step hHeld.2.2.2 hB (Nat.le_refl _))) (fun hHeld => ?_)
   clear hK K
   refine norm_ (a' := ?_) ?_ ?_
   rotate_left
   ·show Act.put _ (some 5) _ = _
    simp only [Act.put, List.setIfInBounds_toArray, List.set_cons_zero, List.set_cons_succ, i64_w, i32_w]
    rfl
   refine pure_ (i := 3) (N := some 6) (v := ?_) (a' := ?_) #[true, true, true, true, false, false, false, false, false, false, false, false, false, false, false, false, false, false, false, false, false] rfl rfl (by kernel_rfl) (fun _ _ _ h => h) (Or.inl ⟨by rfl, ?_⟩) ?_ ?_
   rotate_left
   ·intro w'
    go_simp
    with_reducible rfl
   rotate_left
   ·simp only [Act.put, List.setIfInBounds_toArray, List.set_cons_zero, List.set_cons_succ, i64_w, i32_w]
    rfl
   refine pure_ (i := 4) (N := some 7) (v := ?_) (a' := ?_) #[true, true, true, true, true, false, false, false, false, false, false, false, false, false, false, false, false, false, false, false, false] rfl rfl (by kernel_rfl) (fun _ _ _ h => h) (Or.inl ⟨by rfl, ?_⟩) ?_ ?_
   rotate_left
   ·intro w'
    go_simp
    with_reducible rfl
   rotate_left
   ·simp only [Act.put, List.setIfInBounds_toArray, List.set_cons_zero, List.set_cons_succ, i64_w, i32_w]
    rfl
   refine take_ (i := 5) (N := some 8) (v := ?_) (a' := ?_) #[true, true, true, true, true, true, false, false, false, false, false, false, false, false, false, false, false, false, false, false, false] rfl rfl (by kernel_rfl) (fun _ _ _ h => h) (Or.inl ⟨by rfl, ?_⟩) hHeld ?_ ?_
   rotate_left
   ·rintro w' ⟨s0, s1, s2, s3⟩
    go_simp
    with_reducible rfl
   rotate_left
   ·simp only [Act.put, List.setIfInBounds_toArray, List.set_cons_zero, List.set_cons_succ, i64_w, i32_w]
    rfl
   refine pure_ (i := 6) (N := some 9) (v := ?_) (a' := ?_) #[true, true, true, true, true, true, true, false, false, false, false, false, false, false, false, false, false, false, false, false, false] rfl rfl (by kernel_rfl) (fun _ _ _ h => h) (Or.inl ⟨by rfl, ?_⟩) ?_ ?_
   rotate_left
   ·intro w'
    go_simp
    with_reducible rfl
   rotate_left
   ·simp only [Act.put, List.setIfInBounds_toArray, List.set_cons_zero, List.set_cons_succ, i64_w, i32_w]
    rfl
   refine pure_ (i := 7) (N := some 10) (v := ?_) (a' := ?_) #[true, true, true, true, true, true, true, true, false, false, false, false, false, false, false, false, false, false, false, false, false] rfl rfl (by kernel_rfl) (fun _ _ _ h => h) (Or.inl ⟨by rfl, ?_⟩) ?_ ?_
   rotate_left
   ·intro w'
    go_simp
    with_reducible rfl
   rotate_left
   ·simp only [Act.put, List.setIfInBounds_toArray, List.set_cons_zero, List.set_cons_succ, i64_w, i32_w]
    rfl
   refine take_ (i := 8) (N := some 11) (v := ?_) (a' := ?_) #[true, true, true, true, true, true, true, true, true, false, false, false, false, false, false, false, false, false, false, false, false] rfl rfl (by kernel_rfl) (fun _ _ _ h => h) (Or.inl ⟨by rfl, ?_⟩) hHeld ?_ ?_
   rotate_left
   ·rintro w' ⟨s0, s1, s2, s3⟩
    go_simp
    with_reducible rfl
   rotate_left
   ·simp only [Act.put, List.setIfInBounds_toArray, List.set_cons_zero, List.set_cons_succ, i64_w, i32_w]
    rfl
   refine pure_ (i := 9) (N := some 12) (v := ?_) (a' := ?_) #[true, true, true, true, true, true, true, true, true, true, false, false, false, false, false, false, false, false, false, false, false] rfl rfl (by kernel_rfl) (fun _ _ _ h => h) (Or.inl ⟨by rfl, ?_⟩) ?_ ?_
   rotate_left
   ·intro w'
    go_simp
    with_reducible rfl
   rotate_left
   ·simp only [Act.put, List.setIfInBounds_toArray, List.set_cons_zero, List.set_cons_succ, i64_w, i32_w]
    rfl
   refine pure_ (i := 10) (N := some 13) (v := ?_) (a' := ?_) #[true, true, true, true, true, true, true, true, true, true, true, false, false, false, false, false, false, false, false, false, false] rfl rfl (by kernel_rfl) (fun _ _ _ h => h) (Or.inl ⟨by rfl, ?_⟩) ?_ ?_
   rotate_left
   ·intro w'
    go_simp
    with_reducible rfl
   rotate_left
   ·simp only [Act.put, List.setIfInBounds_toArray, List.set_cons_zero, List.set_cons_succ, i64_w, i32_w]
    rfl
   refine pure_ (i := 11) (N := some 14) (v := ?_) (a' := ?_) #[true, true, true, true, true, true, true, true, true, true, true, true, false, false, false, false, false, false, false, false, false] rfl rfl (by kernel_rfl) (fun _ _ _ h => h) (Or.inl ⟨by rfl, ?_⟩) ?_ ?_
   rotate_left
   ·intro w'
    go_simp
    with_reducible rfl
   rotate_left
   ·simp only [Act.put, List.setIfInBounds_toArray, List.set_cons_zero, List.set_cons_succ, i64_w, i32_w]
    rfl
   refine pure_ (i := 12) (N := some 15) (v := ?_) (a' := ?_) #[true, true, true, true, true, true, true, true, true, true, true, true, true, false, false, false, false, false, false, false, false] rfl rfl (by kernel_rfl) (fun _ _ _ h => h) (Or.inl ⟨by rfl, ?_⟩) ?_ ?_
   rotate_left
   ·intro w'
    go_simp
    with_reducible rfl
   rotate_left
   ·simp only [Act.put, List.setIfInBounds_toArray, List.set_cons_zero, List.set_cons_succ, i64_w, i32_w]
    rfl
   refine take_ (i := 13) (N := some 16) (v := ?_) (a' := ?_) #[true, true, true, true, true, true, true, true, true, true, true, true, true, true, false, false, false, false, false, false, false] rfl rfl (by kernel_rfl) (fun _ _ _ h => h) (Or.inl ⟨by rfl, ?_⟩) hHeld ?_ ?_
   rotate_left
   ·rintro w' ⟨s0, s1, s2, s3⟩
    go_simp
    with_reducible rfl
   rotate_left
   ·simp only [Act.put, List.setIfInBounds_toArray, List.set_cons_zero, List.set_cons_succ, i64_w, i32_w]
    rfl
   refine pure_ (i := 14) (N := some 17) (v := ?_) (a' := ?_) #[true, true, true, true, true, true, true, true, true, true, true, true, true, true, true, false, false, false, false, false, false] rfl rfl (by kernel_rfl) (fun _ _ _ h => h) (Or.inl ⟨by rfl, ?_⟩) ?_ ?_
   rotate_left
   ·intro w'
    go_simp
    with_reducible rfl
   rotate_left
   ·simp only [Act.put, List.setIfInBounds_toArray, List.set_cons_zero, List.set_cons_succ, i64_w, i32_w]
    rfl
   refine pure_ (i := 15) (N := some 18) (v := ?_) (a' := ?_) #[true, true, true, true, true, true, true, true, true, true, true, true, true, true, true, true, false, false, false, false, false] rfl rfl (by kernel_rfl) (fun _ _ _ h => h) (Or.inl ⟨by rfl, ?_⟩) ?_ ?_
   rotate_left
   ·intro w'
    go_simp
    with_reducible rfl
   rotate_left
   ·simp only [Act.put, List.setIfInBounds_toArray, List.set_cons_zero, List.set_cons_succ, i64_w, i32_w]
    rfl
   refine take_ (i := 16) (N := some 19) (v := ?_) (a' := ?_) #[true, true, true, true, true, true, true, true, true, true, true, true, true, true, true, true, true, false, false, false, false] rfl rfl (by kernel_rfl) (fun _ _ _ h => h) (Or.inl ⟨by rfl, ?_⟩) hHeld ?_ ?_
   rotate_left
   ·rintro w' ⟨s0, s1, s2, s3⟩
    go_simp
    with_reducible rfl
   rotate_left
   ·simp only [Act.put, List.setIfInBounds_toArray, List.set_cons_zero, List.set_cons_succ, i64_w, i32_w]
    rfl
   refine one_ (i := 17) (N := some 20) #[true, true, true, true, true, true, true, true, true, true, true, true, true, true, true, true, true, true, false, false, false] rfl rfl (by kernel_rfl) (by decide) (fun K hK => ?_)
   refine goes_ Try.func33 (by kernel_rfl) rfl #[.bool v.p.v6] (by rfl) rfl rfl (by (try simp only [List.map_toArray, List.map_cons, List.map_nil]); first | done | rfl) ?_
   refine (rmost_walk v.p.v6 _).mono ?_
   rintro e w2 ⟨rfl, hw2⟩
   rw [hw2]
   refine ⟨_, rfl, ?_⟩
   refine hK.out _ _ hHeld (fun hHeld => ?_)
   clear hK K
   refine norm_ (a' := ?_) ?_ ?_
   rotate_left
   ·show Act.put _ (some 20) _ = _
    simp only [Act.put, List.setIfInBounds_toArray, List.set_cons_zero, List.set_cons_succ, i64_w, i32_w]
    rfl
   refine pure_ (i := 18) (N := some 21) (v := ?_) (a' := ?_) #[true, true, true, true, true, true, true, true, true, true, true, true, true, true, true, true, true, true, true, false, false] rfl rfl (by kernel_rfl) (fun _ _ _ h => h) (Or.inl ⟨by rfl, ?_⟩) ?_ ?_
   rotate_left
   ·intro w'
    go_simp
    with_reducible rfl
   rotate_left
   ·simp only [Act.put, List.setIfInBounds_toArray, List.set_cons_zero, List.set_cons_succ, i64_w, i32_w]
    rfl
   refine pure_ (i := 19) (N := some 22) (v := ?_) (a' := ?_) #[true, true, true, true, true, true, true, true, true, true, true, true, true, true, true, true, true, true, true, true, false] rfl rfl (by kernel_rfl) (fun _ _ _ h => h) (Or.inl ⟨by rfl, ?_⟩) ?_ ?_
   rotate_left
   ·intro w'
    go_simp
    with_reducible rfl
   rotate_left
   ·simp only [Act.put, List.setIfInBounds_toArray, List.set_cons_zero, List.set_cons_succ, i64_w, i32_w]
    rfl
   refine pure_ (i := 20) (N := some 2) (v := ?_) (a' := ?_) #[true, true, true, true, true, true, true, true, true, true, true, true, true, true, true, true, true, true, true, true, true] rfl rfl (by kernel_rfl) (fun _ _ _ h => h) (Or.inl ⟨by rfl, ?_⟩) ?_ ?_
   rotate_left
   ·intro w'
    go_simp
    with_reducible rfl
   rotate_left
   ·simp only [Act.put, List.setIfInBounds_toArray, List.set_cons_zero, List.set_cons_succ, i64_w, i32_w]
    rfl
   refine done_ (by kernel_rfl) ?_
   go_wp2
   go_ret
   exact ⟨rfl, hHeld.2.2.2.2⟩
  ·have hr : oneB v = false := by unfold oneB; rw [decide_eq_false hn]; simp
   rw [hr]
   have hd1 : decide (v.p.n ≤ v.max) = false := decide_eq_false hn
   have hd2 : decide (v.max < v.p.n) = true := decide_eq_true (by omega)
   have HX := Lib.hid (And.intro hp hn)
   clear hp hn hr
   go_enter Try.func20, Try.ntmps20
   go_upto_region 1 with (fail)
   generalize w.alloc (.cells v.arr 39) = W at H0 ⊢
   have H1 := H0.drew
   clear H0
   refine start_ (n := 21) (S := fun W => W.cell? ⟨w.heap.size, 19, none⟩ = some (.int .i64 v.max) ∧ W.cell? ⟨w.heap.size, 18, none⟩ = some (.int .i64 v.p.n) ∧ W.cell? ⟨w.heap.size, 1, none⟩ = some (.bool v.p.v6) ∧ HB w w.heap.size w.heap.size v.arr 39 W) (ds := []) #[false, false, false, false, false, false, false, false, false, false, false, false, false, false, false, false, false, false, false, false, false] (by kernel_rfl) rfl rfl (OS.mk H1) (fun hHeld => ?_)
   refine pure_ (i := 0) (N := some 3) (v := ?_) (a' := ?_) #[true, false, false, false, false, false, false, false, false, false, false, false, false, false, false, false, false, false, false, false, false] rfl rfl (by kernel_rfl) (fun _ _ _ h => h) (Or.inl ⟨by rfl, ?_⟩) ?_ ?_
   rotate_left
   ·intro w'
    go_simp
    with_reducible rfl
   rotate_left
   ·simp only [Act.put, List.setIfInBounds_toArray, List.set_cons_zero, List.set_cons_succ, i64_w, i32_w]
    rfl
   refine take_ (i := 1) (N := some 4) (v := .agg v.p.arr) (a' := ?_) #[true, true, false, false, false, false, false, false, false, false, false, false, false, false, false, false, false, false, false, false, false] rfl rfl (by kernel_rfl) (fun _ _ _ h => h) ?_ hHeld ?_ ?_
   ·exact yP (by rfl) rfl v.p w.heap.size 1 rfl (fun W h => rp_of_v h.2.2.2.1.rv)
   rotate_left
   ·simp only [Act.put, List.setIfInBounds_toArray, List.set_cons_zero, List.set_cons_succ, i64_w, i32_w]
    rfl
   refine one_ (i := 2) (N := some 5) #[true, true, true, false, false, false, false, false, false, false, false, false, false, false, false, false, false, false, false, false, false] rfl rfl (by kernel_rfl) (by decide) (fun K hK => ?_)
   refine goes_ Try.func16 (by kernel_rfl) rfl #[.agg v.p.arr] (by rfl) rfl rfl (by (try simp only [List.map_toArray, List.map_cons, List.map_nil]); first | done | rfl) ?_
   refine (right_walk v.p true HX.out.1 _).mono ?_
   rintro e w1 ⟨rfl, hB⟩
   refine ⟨_, rfl, ?_⟩
   refine hK.out _ _ (OS.mk (HB.step hHeld.2.2.2 hB (Nat.le_refl _))) (fun hHeld => ?_)
   clear hK K
   refine norm_ (a' := ?_) ?_ ?_
   rotate_left
   ·show Act.put _ (some 5) _ = _
    simp only [Act.put, List.setIfInBounds_toArray, List.set_cons_zero, List.set_cons_succ, i64_w, i32_w]
    rfl
   refine pure_ (i := 3) (N := some 6) (v := ?_) (a' := ?_) #[true, true, true, true, false, false, false, false, false, false, false, false, false, false, false, false, false, false, false, false, false] rfl rfl (by kernel_rfl) (fun _ _ _ h => h) (Or.inl ⟨by rfl, ?_⟩) ?_ ?_
   rotate_left
   ·intro w'
    go_simp
    with_reducible rfl
   rotate_left
   ·simp only [Act.put, List.setIfInBounds_toArray, List.set_cons_zero, List.set_cons_succ, i64_w, i32_w]
    rfl
   refine pure_ (i := 4) (N := some 7) (v := ?_) (a' := ?_) #[true, true, true, true, true, false, false, false, false, false, false, false, false, false, false, false, false, false, false, false, false] rfl rfl (by kernel_rfl) (fun _ _ _ h => h) (Or.inl ⟨by rfl, ?_⟩) ?_ ?_
   rotate_left
   ·intro w'
    go_simp
    with_reducible rfl
   rotate_left
   ·simp only [Act.put, List.setIfInBounds_toArray, List.set_cons_zero, List.set_cons_succ, i64_w, i32_w]
    rfl
   refine take_ (i := 5) (N := some 8) (v := ?_) (a' := ?_) #[true, true, true, true, true, true, false, false, false, false, false, false, false, false, false, false, false, false, false, false, false] rfl rfl (by kernel_rfl) (fun _ _ _ h => h) (Or.inl ⟨by rfl, ?_⟩) hHeld ?_ ?_
   rotate_left
   ·rintro w' ⟨s0, s1, s2, s3⟩
    go_simp
    with_reducible rfl
   rotate_left
   ·simp only [Act.put, List.setIfInBounds_toArray, List.set_cons_zero, List.set_cons_succ, i64_w, i32_w]
    rfl
   refine pure_ (i := 6) (N := some 9) (v := ?_) (a' := ?_) #[true, true, true, true, true, true, true, false, false, false, false, false, false, false, false, false, false, false, false, false, false] rfl rfl (by kernel_rfl) (fun _ _ _ h => h) (Or.inl ⟨by rfl, ?_⟩) ?_ ?_
   rotate_left
   ·intro w'
    go_simp
    with_reducible rfl
   rotate_left
   ·simp only [Act.put, List.setIfInBounds_toArray, List.set_cons_zero, List.set_cons_succ, i64_w, i32_w]
    rfl
   refine pure_ (i := 7) (N := some 10) (v := ?_) (a' := ?_) #[true, true, true, true, true, true, true, true, false, false, false, false, false, false, false, false, false, false, false, false, false] rfl rfl (by kernel_rfl) (fun _ _ _ h => h) (Or.inl ⟨by rfl, ?_⟩) ?_ ?_
   rotate_left
   ·intro w'
    go_simp
    with_reducible rfl
   rotate_left
   ·simp only [Act.put, List.setIfInBounds_toArray, List.set_cons_zero, List.set_cons_succ, i64_w, i32_w]
    rfl
   refine take_ (i := 8) (N := some 11) (v := ?_) (a' := ?_) #[true, true, true, true, true, true, true, true, true, false, false, false, false, false, false, false, false, false, false, false, false] rfl rfl (by kernel_rfl) (fun _ _ _ h => h) (Or.inl ⟨by rfl, ?_⟩) hHeld ?_ ?_
   rotate_left
   ·rintro w' ⟨s0, s1, s2, s3⟩
    go_simp
    with_reducible rfl
   rotate_left
   ·simp only [Act.put, List.setIfInBounds_toArray, List.set_cons_zero, List.set_cons_succ, i64_w, i32_w]
    rfl
   refine pure_ (i := 9) (N := some 12) (v := ?_) (a' := ?_) #[true, true, true, true, true, true, true, true, true, true, false, false, false, false, false, false, false, false, false, false, false] rfl rfl (by kernel_rfl) (fun _ _ _ h => h) (Or.inl ⟨by rfl, ?_⟩) ?_ ?_
   rotate_left
   ·intro w'
    go_simp
    with_reducible rfl
   rotate_left
   ·simp only [Act.put, List.setIfInBounds_toArray, List.set_cons_zero, List.set_cons_succ, i64_w, i32_w]
    rfl
   refine pure_ (i := 10) (N := some 13) (v := ?_) (a' := ?_) #[true, true, true, true, true, true, true, true, true, true, true, false, false, false, false, false, false, false, false, false, false] rfl rfl (by kernel_rfl) (fun _ _ _ h => h) (Or.inl ⟨by rfl, ?_⟩) ?_ ?_
   rotate_left
   ·intro w'
    go_simp
    with_reducible rfl
   rotate_left
   ·simp only [Act.put, List.setIfInBounds_toArray, List.set_cons_zero, List.set_cons_succ, i64_w, i32_w]
    rfl
   refine pure_ (i := 11) (N := some 14) (v := ?_) (a' := ?_) #[true, true, true, true, true, true, true, true, true, true, true, true, false, false, false, false, false, false, false, false, false] rfl rfl (by kernel_rfl) (fun _ _ _ h => h) (Or.inl ⟨by rfl, ?_⟩) ?_ ?_
   rotate_left
   ·intro w'
    go_simp
    with_reducible rfl
   rotate_left
   ·simp only [Act.put, List.setIfInBounds_toArray, List.set_cons_zero, List.set_cons_succ, i64_w, i32_w]
    rfl
   refine pure_ (i := 12) (N := some 15) (v := undef) (a' := ?_) #[true, true, true, true, true, true, true, true, true, true, true, true, true, false, false, false, false, false, false, false, false] rfl rfl (by kernel_rfl) (fun _ _ _ h => h) (Or.inr ⟨by rfl, rfl⟩) ?_ ?_
   rotate_left
   ·simp only [Act.put, List.setIfInBounds_toArray, List.set_cons_zero, List.set_cons_succ, i64_w, i32_w]
    rfl
   refine pure_ (i := 13) (N := some 16) (v := undef) (a' := ?_) #[true, true, true, true, true, true, true, true, true, true, true, true, true, true, false, false, false, false, false, false, false] rfl rfl (by kernel_rfl) (fun _ _ _ h => h) (Or.inr ⟨by rfl, rfl⟩) ?_ ?_
   rotate_left
   ·simp only [Act.put, List.setIfInBounds_toArray, List.set_cons_zero, List.set_cons_succ, i64_w, i32_w]
    rfl
   refine pure_ (i := 14) (N := some 17) (v := undef) (a' := ?_) #[true, true, true, true, true, true, true, true, true, true, true, true, true, true, true, false, false, false, false, false, false] rfl rfl (by kernel_rfl) (fun _ _ _ h => h) (Or.inr ⟨by rfl, rfl⟩) ?_ ?_
   rotate_left
   ·simp only [Act.put, List.setIfInBounds_toArray, List.set_cons_zero, List.set_cons_succ, i64_w, i32_w]
    rfl
   refine pure_ (i := 15) (N := some 18) (v := undef) (a' := ?_) #[true, true, true, true, true, true, true, true, true, true, true, true, true, true, true, true, false, false, false, false, false] rfl rfl (by kernel_rfl) (fun _ _ _ h => h) (Or.inr ⟨by rfl, rfl⟩) ?_ ?_
   rotate_left
   ·simp only [Act.put, List.setIfInBounds_toArray, List.set_cons_zero, List.set_cons_succ, i64_w, i32_w]
    rfl
   refine pure_ (i := 16) (N := some 19) (v := undef) (a' := ?_) #[true, true, true, true, true, true, true, true, true, true, true, true, true, true, true, true, true, false, false, false, false] rfl rfl (by kernel_rfl) (fun _ _ _ h => h) (Or.inr ⟨by rfl, rfl⟩) ?_ ?_
   rotate_left
   ·simp only [Act.put, List.setIfInBounds_toArray, List.set_cons_zero, List.set_cons_succ, i64_w, i32_w]
    rfl
   refine pure_ (i := 17) (N := some 20) (v := undef) (a' := ?_) #[true, true, true, true, true, true, true, true, true, true, true, true, true, true, true, true, true, true, false, false, false] rfl rfl (by kernel_rfl) (fun _ _ _ h => h) (Or.inr ⟨by rfl, rfl⟩) ?_ ?_
   rotate_left
   ·simp only [Act.put, List.setIfInBounds_toArray, List.set_cons_zero, List.set_cons_succ, i64_w, i32_w]
    rfl
   refine pure_ (i := 18) (N := some 21) (v := undef) (a' := ?_) #[true, true, true, true, true, true, true, true, true, true, true, true, true, true, true, true, true, true, true, false, false] rfl rfl (by kernel_rfl) (fun _ _ _ h => h) (Or.inr ⟨by rfl, rfl⟩) ?_ ?_
   rotate_left
   ·simp only [Act.put, List.setIfInBounds_toArray, List.set_cons_zero, List.set_cons_succ, i64_w, i32_w]
    rfl
   refine pure_ (i := 19) (N := some 22) (v := ?_) (a' := ?_) #[true, true, true, true, true, true, true, true, true, true, true, true, true, true, true, true, true, true, true, true, false] rfl rfl (by kernel_rfl) (fun _ _ _ h => h) (Or.inl ⟨by rfl, ?_⟩) ?_ ?_
   rotate_left
   ·intro w'
    go_simp
    with_reducible rfl
   rotate_left
   ·simp only [Act.put, List.setIfInBounds_toArray, List.set_cons_zero, List.set_cons_succ, i64_w, i32_w]
    rfl
   refine pure_ (i := 20) (N := some 2) (v := ?_) (a' := ?_) #[true, true, true, true, true, true, true, true, true, true, true, true, true, true, true, true, true, true, true, true, true] rfl rfl (by kernel_rfl) (fun _ _ _ h => h) (Or.inl ⟨by rfl, ?_⟩) ?_ ?_
   rotate_left
   ·intro w'
    go_simp
    with_reducible rfl
   rotate_left
   ·simp only [Act.put, List.setIfInBounds_toArray, List.set_cons_zero, List.set_cons_succ, i64_w, i32_w]
    rfl
   refine done_ (by kernel_rfl) ?_
   go_wp2
   go_ret
   exact ⟨rfl, hHeld.2.2.2.2⟩
 ·have hr : oneB v = false := by unfold oneB; rw [Bool.eq_false_iff.2 hp]; rfl
  rw [hr]
  have hpf := Bool.eq_false_iff.2 hp
  have HX := Lib.hid hpf
  clear hp hpf hr
  go_enter Try.func20, Try.ntmps20
  go_upto_region 1 with (fail)
  generalize w.alloc (.cells v.arr 39) = W at H0 ⊢
  have H1 := H0.drew
  clear H0
  refine start_ (n := 21) (S := fun W => W.cell? ⟨w.heap.size, 19, none⟩ = some (.int .i64 v.max) ∧ W.cell? ⟨w.heap.size, 18, none⟩ = some (.int .i64 v.p.n) ∧ W.cell? ⟨w.heap.size, 1, none⟩ = some (.bool v.p.v6) ∧ HB w w.heap.size w.heap.size v.arr 39 W) (ds := []) #[false, false, false, false, false, false, false, false, false, false, false, false, false, false, false, false, false, false, false, false, false] (by kernel_rfl) rfl rfl (OS.mk H1) (fun hHeld => ?_)
  refine pure_ (i := 0) (N := some 3) (v := ?_) (a' := ?_) #[true, false, false, false, false, false, false, false, false, false, false, false, false, false, false, false, false, false, false, false, false] rfl rfl (by kernel_rfl) (fun _ _ _ h => h) (Or.inl ⟨by rfl, ?_⟩) ?_ ?_
  rotate_left
  ·intro w'
   go_simp
   with_reducible rfl
  rotate_left
  ·simp only [Act.put, List.setIfInBounds_toArray, List.set_cons_zero, List.set_cons_succ, i64_w, i32_w]
   rfl
  refine take_ (i := 1) (N := some 4) (v := .agg v.p.arr) (a' := ?_) #[true, true, false, false, false, false, false, false, false, false, false, false, false, false, false, false, false, false, false, false, false] rfl rfl (by kernel_rfl) (fun _ _ _ h => h) ?_ hHeld ?_ ?_
  ·exact yP (by rfl) rfl v.p w.heap.size 1 rfl (fun W h => rp_of_v h.2.2.2.1.rv)
  rotate_left
  ·simp only [Act.put, List.setIfInBounds_toArray, List.set_cons_zero, List.set_cons_succ, i64_w, i32_w]
   rfl
  refine one_ (i := 2) (N := some 5) #[true, true, true, false, false, false, false, false, false, false, false, false, false, false, false, false, false, false, false, false, false] rfl rfl (by kernel_rfl) (by decide) (fun K hK => ?_)
  refine goes_ Try.func16 (by kernel_rfl) rfl #[.agg v.p.arr] (by rfl) rfl rfl (by (try simp only [List.map_toArray, List.map_cons, List.map_nil]); first | done | rfl) ?_
  refine (right_walk v.p false HX.out _).mono ?_
  rintro e w1 ⟨rfl, hB⟩
  refine ⟨_, rfl, ?_⟩
  refine hK.out _ _ (OS.mk (HB.step hHeld.2.2.2 hB (Nat.le_refl _))) (fun hHeld => ?_)
  clear hK K
  refine norm_ (a' := ?_) ?_ ?_
  rotate_left
  ·show Act.put _ (some 5) _ = _
   simp only [Act.put, List.setIfInBounds_toArray, List.set_cons_zero, List.set_cons_succ, i64_w, i32_w]
   rfl
  refine pure_ (i := 3) (N := some 6) (v := ?_) (a' := ?_) #[true, true, true, true, false, false, false, false, false, false, false, false, false, false, false, false, false, false, false, false, false] rfl rfl (by kernel_rfl) (fun _ _ _ h => h) (Or.inl ⟨by rfl, ?_⟩) ?_ ?_
  rotate_left
  ·intro w'
   go_simp
   with_reducible rfl
  rotate_left
  ·simp only [Act.put, List.setIfInBounds_toArray, List.set_cons_zero, List.set_cons_succ, i64_w, i32_w]
   rfl
  refine pure_ (i := 4) (N := some 7) (v := undef) (a' := ?_) #[true, true, true, true, true, false, false, false, false, false, false, false, false, false, false, false, false, false, false, false, false] rfl rfl (by kernel_rfl) (fun _ _ _ h => h) (Or.inr ⟨by rfl, rfl⟩) ?_ ?_
  rotate_left
  ·simp only [Act.put, List.setIfInBounds_toArray, List.set_cons_zero, List.set_cons_succ, i64_w, i32_w]
   rfl
  refine pure_ (i := 5) (N := some 8) (v := undef) (a' := ?_) #[true, true, true, true, true, true, false, false, false, false, false, false, false, false, false, false, false, false, false, false, false] rfl rfl (by kernel_rfl) (fun _ _ _ h => h) (Or.inr ⟨by rfl, rfl⟩) ?_ ?_
  rotate_left
  ·simp only [Act.put, List.setIfInBounds_toArray, List.set_cons_zero, List.set_cons_succ, i64_w, i32_w]
   rfl
  refine pure_ (i := 6) (N := some 9) (v := undef) (a' := ?_) #[true, true, true, true, true, true, true, false, false, false, false, false, false, false, false, false, false, false, false, false, false] rfl rfl (by kernel_rfl) (fun _ _ _ h => h) (Or.inr ⟨by rfl, rfl⟩) ?_ ?_
  rotate_left
  ·simp only [Act.put, List.setIfInBounds_toArray, List.set_cons_zero, List.set_cons_succ, i64_w, i32_w]
   rfl
  refine pure_ (i := 7) (N := some 10) (v := undef) (a' := ?_) #[true, true, true, true, true, true, true, true, false, false, false, false, false, false, false, false, false, false, false, false, false] rfl rfl (by kernel_rfl) (fun _ _ _ h => h) (Or.inr ⟨by rfl, rfl⟩) ?_ ?_
  rotate_left
  ·simp only [Act.put, List.setIfInBounds_toArray, List.set_cons_zero, List.set_cons_succ, i64_w, i32_w]
   rfl
  refine pure_ (i := 8) (N := some 11) (v := undef) (a' := ?_) #[true, true, true, true, true, true, true, true, true, false, false, false, false, false, false, false, false, false, false, false, false] rfl rfl (by kernel_rfl) (fun _ _ _ h => h) (Or.inr ⟨by rfl, rfl⟩) ?_ ?_
  rotate_left
  ·simp only [Act.put, List.setIfInBounds_toArray, List.set_cons_zero, List.set_cons_succ, i64_w, i32_w]
   rfl
  refine pure_ (i := 9) (N := some 12) (v := undef) (a' := ?_) #[true, true, true, true, true, true, true, true, true, true, false, false, false, false, false, false, false, false, false, false, false] rfl rfl (by kernel_rfl) (fun _ _ _ h => h) (Or.inr ⟨by rfl, rfl⟩) ?_ ?_
  rotate_left
  ·simp only [Act.put, List.setIfInBounds_toArray, List.set_cons_zero, List.set_cons_succ, i64_w, i32_w]
   rfl
  refine pure_ (i := 10) (N := some 13) (v := ?_) (a' := ?_) #[true, true, true, true, true, true, true, true, true, true, true, false, false, false, false, false, false, false, false, false, false] rfl rfl (by kernel_rfl) (fun _ _ _ h => h) (Or.inl ⟨by rfl, ?_⟩) ?_ ?_
  rotate_left
  ·intro w'
   go_simp
   with_reducible rfl
  rotate_left
  ·simp only [Act.put, List.setIfInBounds_toArray, List.set_cons_zero, List.set_cons_succ, i64_w, i32_w]
   rfl
  refine pure_ (i := 11) (N := some 14) (v := ?_) (a' := ?_) #[true, true, true, true, true, true, true, true, true, true, true, true, false, false, false, false, false, false, false, false, false] rfl rfl (by kernel_rfl) (fun _ _ _ h => h) (Or.inl ⟨by rfl, ?_⟩) ?_ ?_
  rotate_left
  ·intro w'
   go_simp
   with_reducible rfl
  rotate_left
  ·simp only [Act.put, List.setIfInBounds_toArray, List.set_cons_zero, List.set_cons_succ, i64_w, i32_w]
   rfl
  refine pure_ (i := 12) (N := some 15) (v := undef) (a' := ?_) #[true, true, true, true, true, true, true, true, true, true, true, true, true, false, false, false, false, false, false, false, false] rfl rfl (by kernel_rfl) (fun _ _ _ h => h) (Or.inr ⟨by rfl, rfl⟩) ?_ ?_
  rotate_left
  ·simp only [Act.put, List.setIfInBounds_toArray, List.set_cons_zero, List.set_cons_succ, i64_w, i32_w]
   rfl
  refine pure_ (i := 13) (N := some 16) (v := undef) (a' := ?_) #[true, true, true, true, true, true, true, true, true, true, true, true, true, true, false, false, false, false, false, false, false] rfl rfl (by kernel_rfl) (fun _ _ _ h => h) (Or.inr ⟨by rfl, rfl⟩) ?_ ?_
  rotate_left
  ·simp only [Act.put, List.setIfInBounds_toArray, List.set_cons_zero, List.set_cons_succ, i64_w, i32_w]
   rfl
  refine pure_ (i := 14) (N := some 17) (v := undef) (a' := ?_) #[true, true, true, true, true, true, true, true, true, true, true, true, true, true, true, false, false, false, false, false, false] rfl rfl (by kernel_rfl) (fun _ _ _ h => h) (Or.inr ⟨by rfl, rfl⟩) ?_ ?_
  rotate_left
  ·simp only [Act.put, List.setIfInBounds_toArray, List.set_cons_zero, List.set_cons_succ, i64_w, i32_w]
   rfl
  refine pure_ (i := 15) (N := some 18) (v := undef) (a' := ?_) #[true, true, true, true, true, true, true, true, true, true, true, true, true, true, true, true, false, false, false, false, false] rfl rfl (by kernel_rfl) (fun _ _ _ h => h) (Or.inr ⟨by rfl, rfl⟩) ?_ ?_
  rotate_left
  ·simp only [Act.put, List.setIfInBounds_toArray, List.set_cons_zero, List.set_cons_succ, i64_w, i32_w]
   rfl
  refine pure_ (i := 16) (N := some 19) (v := undef) (a' := ?_) #[true, true, true, true, true, true, true, true, true, true, true, true, true, true, true, true, true, false, false, false, false] rfl rfl (by kernel_rfl) (fun _ _ _ h => h) (Or.inr ⟨by rfl, rfl⟩) ?_ ?_
  rotate_left
  ·simp only [Act.put, List.setIfInBounds_toArray, List.set_cons_zero, List.set_cons_succ, i64_w, i32_w]
   rfl
  refine pure_ (i := 17) (N := some 20) (v := undef) (a' := ?_) #[true, true, true, true, true, true, true, true, true, true, true, true, true, true, true, true, true, true, false, false, false] rfl rfl (by kernel_rfl) (fun _ _ _ h => h) (Or.inr ⟨by rfl, rfl⟩) ?_ ?_
  rotate_left
  ·simp only [Act.put, List.setIfInBounds_toArray, List.set_cons_zero, List.set_cons_succ, i64_w, i32_w]
   rfl
  refine pure_ (i := 18) (N := some 21) (v := undef) (a' := ?_) #[true, true, true, true, true, true, true, true, true, true, true, true, true, true, true, true, true, true, true, false, false] rfl rfl (by kernel_rfl) (fun _ _ _ h => h) (Or.inr ⟨by rfl, rfl⟩) ?_ ?_
  rotate_left
  ·simp only [Act.put, List.setIfInBounds_toArray, List.set_cons_zero, List.set_cons_succ, i64_w, i32_w]
   rfl
  refine pure_ (i := 19) (N := some 22) (v := ?_) (a' := ?_) #[true, true, true, true, true, true, true, true, true, true, true, true, true, true, true, true, true, true, true, true, false] rfl rfl (by kernel_rfl) (fun _ _ _ h => h) (Or.inl ⟨by rfl, ?_⟩) ?_ ?_
  rotate_left
  ·intro w'
   go_simp
   with_reducible rfl
  rotate_left
  ·simp only [Act.put, List.setIfInBounds_toArray, List.set_cons_zero, List.set_cons_succ, i64_w, i32_w]
   rfl
  refine pure_ (i := 20) (N := some 2) (v := ?_) (a' := ?_) #[true, true, true, true, true, true, true, true, true, true, true, true, true, true, true, true, true, true, true, true, true] rfl rfl (by kernel_rfl) (fun _ _ _ h => h) (Or.inl ⟨by rfl, ?_⟩) ?_ ?_
  rotate_left
  ·intro w'
   go_simp
   with_reducible rfl
  rotate_left
  ·simp only [Act.put, List.setIfInBounds_toArray, List.set_cons_zero, List.set_cons_succ, i64_w, i32_w]
   rfl
  refine done_ (by kernel_rfl) ?_
  go_wp2
  go_ret
  exact ⟨rfl, hHeld.2.2.2.2⟩

set_option maxHeartbeats 2000000 in
set_option maxRecDepth 100000 in
theorem refOne_walk (v : Vrp) (w : World) :
 Calls Try.prog 18 #[.agg v.arr] w fun e w' => e = .returned (.bool (oneB v)) ∧ Below w.heap.size w w' := by
 have H0 := HB.new w v.arr 39
 by_cases hp : rightB v.p = true
 ·by_cases hn : v.p.n ≤ v.max
  ·have hr : oneB v = decide (v.max ≤ mostP v.p.v6) := by unfold oneB; rw [hp, decide_eq_true hn]; rfl
   rw [hr]
   have hd1 : decide (v.p.n ≤ v.max) = true := decide_eq_true hn
   have hd2 : decide (v.max < v.p.n) = false := decide_eq_false (by omega)
   have HX := Lib.hid (And.intro hp hn)
   clear hp hn hr
   go_enter Try.func18, Try.ntmps18
   go_upto_region 1 with (fail)
   generalize w.alloc (.cells v.arr 39) = W at H0 ⊢
   have H1 := H0.drew
   clear H0
   refine start_ (n := 21) (S := fun W => W.cell? ⟨w.heap.size, 19, none⟩ = some (.int .i64 v.max) ∧ W.cell? ⟨w.heap.size, 18, none⟩ = some (.int .i64 v.p.n) ∧ W.cell? ⟨w.heap.size, 1, none⟩ = some (.bool v.p.v6) ∧ HB w w.heap.size w.heap.size v.arr 39 W) (ds := []) #[false, false, false, false, false, false, false, false, false, false, false, false, false, false, false, false, false, false, false, false, false] (by kernel_rfl) rfl rfl (OS.mk H1) (fun hHeld => ?_)
   refine pure_ (i := 0) (N := some 3) (v := ?_) (a' := ?_) #[true, false, false, false, false, false, false, false, false, false, false, false, false, false, false, false, false, false, false, false, false] rfl rfl (by kernel_rfl) (fun _ _ _ h => h) (Or.inl ⟨by rfl, ?_⟩) ?_ ?_
   rotate_left
   ·intro w'
    go_simp
    with_reducible rfl
   rotate_left
   ·simp only [Act.put, List.setIfInBounds_toArray, List.set_cons_zero, List.set_cons_succ, i64_w, i32_w]
    rfl
   refine take_ (i := 1) (N := some 4) (v := .agg v.p.arr) (a' := ?_) #[true, true, false, false, false, false, false, false, false, false, false, false, false, false, false, false, false, false, false, false, false] rfl rfl (by kernel_rfl) (fun _ _ _ h => h) ?_ hHeld ?_ ?_
   ·exact yP (by rfl) rfl v.p w.heap.size 1 rfl (fun W h => rp_of_v h.2.2.2.1.rv)
   rotate_left
   ·simp only [Act.put, List.setIfInBounds_toArray, List.set_cons_zero, List.set_cons_succ, i64_w, i32_w]
    rfl
   refine one_ (i := 2) (N := some 5) #[true, true, true, false, false, false, false, false, false, false, false, false, false, false, false, false, false, false, false, false, false] rfl rfl (by kernel_rfl) (by decide) (fun K hK => ?_)
   refine goes_ Try.func31 (by kernel_rfl) rfl #[.agg v.p.arr] (by rfl) rfl rfl (by (try simp only [List.map_toArray, List.map_cons, List.map_nil]); first | done | rfl) ?_
   refine (refRight_walk v.p true HX.out.1 _).mono ?_
   rintro e w1 ⟨rfl, hB⟩
   refine ⟨_, rfl, ?_⟩
   refine hK.out _ _ (OS.mk (HB.step hHeld.2.2.2 hB (Nat.le_refl _))) (fun hHeld => ?_)
   clear hK K
   refine norm_ (a' := ?_) ?_ ?_
   rotate_left
   ·show Act.put _ (some 5) _ = _
    simp only [Act.put, List.setIfInBounds_toArray, List.set_cons_zero, List.set_cons_succ, i64_w, i32_w]
    rfl
   refine pure_ (i := 3) (N := some 6) (v := ?_) (a' := ?_) #[true, true, true, true, false, false, false, false, false, false, false, false, false, false, false, false, false, false, false, false, false] rfl rfl (by kernel_rfl) (fun _ _ _ h => h) (Or.inl ⟨by rfl, ?_⟩) ?_ ?_
   rotate_left
   ·intro w'
    go_simp
    with_reducible rfl
   rotate_left
   ·simp only [Act.put, List.setIfInBounds_toArray, List.set_cons_zero, List.set_cons_succ, i64_w, i32_w]
    rfl
   refine pure_ (i := 4) (N := some 7) (v := ?_) (a' := ?_) #[true, true, true, true, true, false, false, false, false, false, false, false, false, false, false, false, false, false, false, false, false] rfl rfl (by kernel_rfl) (fun _ _ _ h => h) (Or.inl ⟨by rfl, ?_⟩) ?_ ?_
   rotate_left
   ·intro w'
    go_simp
    with_reducible rfl
   rotate_left
   ·simp only [Act.put, List.setIfInBounds_toArray, List.set_cons_zero, List.set_cons_succ, i64_w, i32_w]
    rfl
   refine take_ (i := 5) (N := some 8) (v := ?_) (a' := ?_) #[true, true, true, true, true, true, false, false, false, false, false, false, false, false, false, false, false, false, false, false, false] rfl rfl (by kernel_rfl) (fun _ _ _ h => h) (Or.inl ⟨by rfl, ?_⟩) hHeld ?_ ?_
   rotate_left
   ·rintro w' ⟨s0, s1, s2, s3⟩
    go_simp
    with_reducible rfl
   rotate_left
   ·simp only [Act.put, List.setIfInBounds_toArray, List.set_cons_zero, List.set_cons_succ, i64_w, i32_w]
    rfl
   refine pure_ (i := 6) (N := some 9) (v := ?_) (a' := ?_) #[true, true, true, true, true, true, true, false, false, false, false, false, false, false, false, false, false, false, false, false, false] rfl rfl (by kernel_rfl) (fun _ _ _ h => h) (Or.inl ⟨by rfl, ?_⟩) ?_ ?_
   rotate_left
   ·intro w'
    go_simp
    with_reducible rfl
   rotate_left
   ·simp only [Act.put, List.setIfInBounds_toArray, List.set_cons_zero, List.set_cons_succ, i64_w, i32_w]
    rfl
   refine pure_ (i := 7) (N := some 10) (v := ?_) (a' := ?_) #[true, true, true, true, true, true, true, true, false, false, false, false, false, false, false, false, false, false, false, false, false] rfl rfl (by kernel_rfl) (fun _ _ _ h => h) (Or.inl ⟨by rfl, ?_⟩) ?_ ?_
   rotate_left
   ·intro w'
    go_simp
    with_reducible rfl
   rotate_left
   ·simp only [Act.put, List.setIfInBounds_toArray, List.set_cons_zero, List.set_cons_succ, i64_w, i32_w]
    rfl
   refine take_ (i := 8) (N := some 11) (v := ?_) (a' := ?_) #[true, true, true, true, true, true, true, true, true, false, false, false, false, false, false, false, false, false, false, false, false] rfl rfl (by kernel_rfl) (fun _ _ _ h => h) (Or.inl ⟨by rfl, ?_⟩) hHeld ?_ ?_
   rotate_left
   ·rintro w' ⟨s0, s1, s2, s3⟩
    go_simp
    with_reducible rfl
   rotate_left
   ·simp only [Act.put, List.setIfInBounds_toArray, List.set_cons_zero, List.set_cons_succ, i64_w, i32_w]
    rfl
   refine pure_ (i := 9) (N := some 12) (v := ?_) (a' := ?_) #[true, true, true, true, true, true, true, true, true, true, false, false, false, false, false, false, false, false, false, false, false] rfl rfl (by kernel_rfl) (fun _ _ _ h => h) (Or.inl ⟨by rfl, ?_⟩) ?_ ?_
   rotate_left
   ·intro w'
    go_simp
    with_reducible rfl
   rotate_left
   ·simp only [Act.put, List.setIfInBounds_toArray, List.set_cons_zero, List.set_cons_succ, i64_w, i32_w]
    rfl
   refine pure_ (i := 10) (N := some 13) (v := ?_) (a' := ?_) #[true, true, true, true, true, true, true, true, true, true, true, false, false, false, false, false, false, false, false, false, false] rfl rfl (by kernel_rfl) (fun _ _ _ h => h) (Or.inl ⟨by rfl, ?_⟩) ?_ ?_
   rotate_left
   ·intro w'
    go_simp
    with_reducible rfl
   rotate_left
   ·simp only [Act.put, List.setIfInBounds_toArray, List.set_cons_zero, List.set_cons_succ, i64_w, i32_w]
    rfl
   refine pure_ (i := 11) (N := some 14) (v := ?_) (a' := ?_) #[true, true, true, true, true, true, true, true, true, true, true, true, false, false, false, false, false, false, false, false, false] rfl rfl (by kernel_rfl) (fun _ _ _ h => h) (Or.inl ⟨by rfl, ?_⟩) ?_ ?_
   rotate_left
   ·intro w'
    go_simp
    with_reducible rfl
   rotate_left
   ·simp only [Act.put, List.setIfInBounds_toArray, List.set_cons_zero, List.set_cons_succ, i64_w, i32_w]
    rfl
   refine pure_ (i := 12) (N := some 15) (v := ?_) (a' := ?_) #[true, true, true, true, true, true, true, true, true, true, true, true, true, false, false, false, false, false, false, false, false] rfl rfl (by kernel_rfl) (fun _ _ _ h => h) (Or.inl ⟨by rfl, ?_⟩) ?_ ?_
   rotate_left
   ·intro w'
    go_simp
    with_reducible rfl
   rotate_left
   ·simp only [Act.put, List.setIfInBounds_toArray, List.set_cons_zero, List.set_cons_succ, i64_w, i32_w]
    rfl
   refine take_ (i := 13) (N := some 16) (v := ?_) (a' := ?_) #[true, true, true, true, true, true, true, true, true, true, true, true, true, true, false, false, false, false, false, false, false] rfl rfl (by kernel_rfl) (fun _ _ _ h => h) (Or.inl ⟨by rfl, ?_⟩) hHeld ?_ ?_
   rotate_left
   ·rintro w' ⟨s0, s1, s2, s3⟩
    go_simp
    with_reducible rfl
   rotate_left
   ·simp only [Act.put, List.setIfInBounds_toArray, List.set_cons_zero, List.set_cons_succ, i64_w, i32_w]
    rfl
   refine pure_ (i := 14) (N := some 17) (v := ?_) (a' := ?_) #[true, true, true, true, true, true, true, true, true, true, true, true, true, true, true, false, false, false, false, false, false] rfl rfl (by kernel_rfl) (fun _ _ _ h => h) (Or.inl ⟨by rfl, ?_⟩) ?_ ?_
   rotate_left
   ·intro w'
    go_simp
    with_reducible rfl
   rotate_left
   ·simp only [Act.put, List.setIfInBounds_toArray, List.set_cons_zero, List.set_cons_succ, i64_w, i32_w]
    rfl
   refine pure_ (i := 15) (N := some 18) (v := ?_) (a' := ?_) #[true, true, true, true, true, true, true, true, true, true, true, true, true, true, true, true, false, false, false, false, false] rfl rfl (by kernel_rfl) (fun _ _ _ h => h) (Or.inl ⟨by rfl, ?_⟩) ?_ ?_
   rotate_left
   ·intro w'
    go_simp
    with_reducible rfl
   rotate_left
   ·simp only [Act.put, List.setIfInBounds_toArray, List.set_cons_zero, List.set_cons_succ, i64_w, i32_w]
    rfl
   refine take_ (i := 16) (N := some 19) (v := ?_) (a' := ?_) #[true, true, true, true, true, true, true, true, true, true, true, true, true, true, true, true, true, false, false, false, false] rfl rfl (by kernel_rfl) (fun _ _ _ h => h) (Or.inl ⟨by rfl, ?_⟩) hHeld ?_ ?_
   rotate_left
   ·rintro w' ⟨s0, s1, s2, s3⟩
    go_simp
    with_reducible rfl
   rotate_left
   ·simp only [Act.put, List.setIfInBounds_toArray, List.set_cons_zero, List.set_cons_succ, i64_w, i32_w]
    rfl
   refine one_ (i := 17) (N := some 20) #[true, true, true, true, true, true, true, true, true, true, true, true, true, true, true, true, true, true, false, false, false] rfl rfl (by kernel_rfl) (by decide) (fun K hK => ?_)
   refine goes_ Try.func32 (by kernel_rfl) rfl #[.bool v.p.v6] (by rfl) rfl rfl (by (try simp only [List.map_toArray, List.map_cons, List.map_nil]); first | done | rfl) ?_
   refine (refMost_walk v.p.v6 _).mono ?_
   rintro e w2 ⟨rfl, hw2⟩
   rw [hw2]
   refine ⟨_, rfl, ?_⟩
   refine hK.out _ _ hHeld (fun hHeld => ?_)
   clear hK K
   refine norm_ (a' := ?_) ?_ ?_
   rotate_left
   ·show Act.put _ (some 20) _ = _
    simp only [Act.put, List.setIfInBounds_toArray, List.set_cons_zero, List.set_cons_succ, i64_w, i32_w]
    rfl
   refine pure_ (i := 18) (N := some 21) (v := ?_) (a' := ?_) #[true, true, true, true, true, true, true, true, true, true, true, true, true, true, true, true, true, true, true, false, false] rfl rfl (by kernel_rfl) (fun _ _ _ h => h) (Or.inl ⟨by rfl, ?_⟩) ?_ ?_
   rotate_left
   ·intro w'
    go_simp
    with_reducible rfl
   rotate_left
   ·simp only [Act.put, List.setIfInBounds_toArray, List.set_cons_zero, List.set_cons_succ, i64_w, i32_w]
    rfl
   refine pure_ (i := 19) (N := some 22) (v := ?_) (a' := ?_) #[true, true, true, true, true, true, true, true, true, true, true, true, true, true, true, true, true, true, true, true, false] rfl rfl (by kernel_rfl) (fun _ _ _ h => h) (Or.inl ⟨by rfl, ?_⟩) ?_ ?_
   rotate_left
   ·intro w'
    go_simp
    with_reducible rfl
   rotate_left
   ·simp only [Act.put, List.setIfInBounds_toArray, List.set_cons_zero, List.set_cons_succ, i64_w, i32_w]
    rfl
   refine pure_ (i := 20) (N := some 2) (v := ?_) (a' := ?_) #[true, true, true, true, true, true, true, true, true, true, true, true, true, true, true, true, true, true, true, true, true] rfl rfl (by kernel_rfl) (fun _ _ _ h => h) (Or.inl ⟨by rfl, ?_⟩) ?_ ?_
   rotate_left
   ·intro w'
    go_simp
    with_reducible rfl
   rotate_left
   ·simp only [Act.put, List.setIfInBounds_toArray, List.set_cons_zero, List.set_cons_succ, i64_w, i32_w]
    rfl
   refine done_ (by kernel_rfl) ?_
   go_wp2
   go_ret
   exact ⟨rfl, hHeld.2.2.2.2⟩
  ·have hr : oneB v = false := by unfold oneB; rw [decide_eq_false hn]; simp
   rw [hr]
   have hd1 : decide (v.p.n ≤ v.max) = false := decide_eq_false hn
   have hd2 : decide (v.max < v.p.n) = true := decide_eq_true (by omega)
   have HX := Lib.hid (And.intro hp hn)
   clear hp hn hr
   go_enter Try.func18, Try.ntmps18
   go_upto_region 1 with (fail)
   generalize w.alloc (.cells v.arr 39) = W at H0 ⊢
   have H1 := H0.drew
   clear H0
   refine start_ (n := 21) (S := fun W => W.cell? ⟨w.heap.size, 19, none⟩ = some (.int .i64 v.max) ∧ W.cell? ⟨w.heap.size, 18, none⟩ = some (.int .i64 v.p.n) ∧ W.cell? ⟨w.heap.size, 1, none⟩ = some (.bool v.p.v6) ∧ HB w w.heap.size w.heap.size v.arr 39 W) (ds := []) #[false, false, false, false, false, false, false, false, false, false, false, false, false, false, false, false, false, false, false, false, false] (by kernel_rfl) rfl rfl (OS.mk H1) (fun hHeld => ?_)
   refine pure_ (i := 0) (N := some 3) (v := ?_) (a' := ?_) #[true, false, false, false, false, false, false, false, false, false, false, false, false, false, false, false, false, false, false, false, false] rfl rfl (by kernel_rfl) (fun _ _ _ h => h) (Or.inl ⟨by rfl, ?_⟩) ?_ ?_
   rotate_left
   ·intro w'
    go_simp
    with_reducible rfl
   rotate_left
   ·simp only [Act.put, List.setIfInBounds_toArray, List.set_cons_zero, List.set_cons_succ, i64_w, i32_w]
    rfl
   refine take_ (i := 1) (N := some 4) (v := .agg v.p.arr) (a' := ?_) #[true, true, false, false, false, false, false, false, false, false, false, false, false, false, false, false, false, false, false, false, false] rfl rfl (by kernel_rfl) (fun _ _ _ h => h) ?_ hHeld ?_ ?_
   ·exact yP (by rfl) rfl v.p w.heap.size 1 rfl (fun W h => rp_of_v h.2.2.2.1.rv)
   rotate_left
   ·simp only [Act.put, List.setIfInBounds_toArray, List.set_cons_zero, List.set_cons_succ, i64_w, i32_w]
    rfl
   refine one_ (i := 2) (N := some 5) #[true, true, true, false, false, false, false, false, false, false, false, false, false, false, false, false, false, false, false, false, false] rfl rfl (by kernel_rfl) (by decide) (fun K hK => ?_)
   refine goes_ Try.func31 (by kernel_rfl) rfl #[.agg v.p.arr] (by rfl) rfl rfl (by (try simp only [List.map_toArray, List.map_cons, List.map_nil]); first | done | rfl) ?_
   refine (refRight_walk v.p true HX.out.1 _).mono ?_
   rintro e w1 ⟨rfl, hB⟩
   refine ⟨_, rfl, ?_⟩
   refine hK.out _ _ (OS.mk (HB.step hHeld.2.2.2 hB (Nat.le_refl _))) (fun hHeld => ?_)
   clear hK K
   refine norm_ (a' := ?_) ?_ ?_
   rotate_left
   ·show Act.put _ (some 5) _ = _
    simp only [Act.put, List.setIfInBounds_toArray, List.set_cons_zero, List.set_cons_succ, i64_w, i32_w]
    rfl
   refine pure_ (i := 3) (N := some 6) (v := ?_) (a' := ?_) #[true, true, true, true, false, false, false, false, false, false, false, false, false, false, false, false, false, false, false, false, false] rfl rfl (by kernel_rfl) (fun _ _ _ h => h) (Or.inl ⟨by rfl, ?_⟩) ?_ ?_
   rotate_left
   ·intro w'
    go_simp
    with_reducible rfl
   rotate_left
   ·simp only [Act.put, List.setIfInBounds_toArray, List.set_cons_zero, List.set_cons_succ, i64_w, i32_w]
    rfl
   refine pure_ (i := 4) (N := some 7) (v := ?_) (a' := ?_) #[true, true, true, true, true, false, false, false, false, false, false, false, false, false, false, false, false, false, false, false, false] rfl rfl (by kernel_rfl) (fun _ _ _ h => h) (Or.inl ⟨by rfl, ?_⟩) ?_ ?_
   rotate_left
   ·intro w'
    go_simp
    with_reducible rfl
   rotate_left
   ·simp only [Act.put, List.setIfInBounds_toArray, List.set_cons_zero, List.set_cons_succ, i64_w, i32_w]
    rfl
   refine take_ (i := 5) (N := some 8) (v := ?_) (a' := ?_) #[true, true, true, true, true, true, false, false, false, false, false, false, false, false, false, false, false, false, false, false, false] rfl rfl (by kernel_rfl) (fun _ _ _ h => h) (Or.inl ⟨by rfl, ?_⟩) hHeld ?_ ?_
   rotate_left
   ·rintro w' ⟨s0, s1, s2, s3⟩
    go_simp
    with_reducible rfl
   rotate_left
   ·simp only [Act.put, List.setIfInBounds_toArray, List.set_cons_zero, List.set_cons_succ, i64_w, i32_w]
    rfl
   refine pure_ (i := 6) (N := some 9) (v := ?_) (a' := ?_) #[true, true, true, true, true, true, true, false, false, false, false, false, false, false, false, false, false, false, false, false, false] rfl rfl (by kernel_rfl) (fun _ _ _ h => h) (Or.inl ⟨by rfl, ?_⟩) ?_ ?_
   rotate_left
   ·intro w'
    go_simp
    with_reducible rfl
   rotate_left
   ·simp only [Act.put, List.setIfInBounds_toArray, List.set_cons_zero, List.set_cons_succ, i64_w, i32_w]
    rfl
   refine pure_ (i := 7) (N := some 10) (v := ?_) (a' := ?_) #[true, true, true, true, true, true, true, true, false, false, false, false, false, false, false, false, false, false, false, false, false] rfl rfl (by kernel_rfl) (fun _ _ _ h => h) (Or.inl ⟨by rfl, ?_⟩) ?_ ?_
   rotate_left
   ·intro w'
    go_simp
    with_reducible rfl
   rotate_left
   ·simp only [Act.put, List.setIfInBounds_toArray, List.set_cons_zero, List.set_cons_succ, i64_w, i32_w]
    rfl
   refine take_ (i := 8) (N := some 11) (v := ?_) (a' := ?_) #[true, true, true, true, true, true, true, true, true, false, false, false, false, false, false, false, false, false, false, false, false] rfl rfl (by kernel_rfl) (fun _ _ _ h => h) (Or.inl ⟨by rfl, ?_⟩) hHeld ?_ ?_
   rotate_left
   ·rintro w' ⟨s0, s1, s2, s3⟩
    go_simp
    with_reducible rfl
   rotate_left
   ·simp only [Act.put, List.setIfInBounds_toArray, List.set_cons_zero, List.set_cons_succ, i64_w, i32_w]
    rfl
   refine pure_ (i := 9) (N := some 12) (v := ?_) (a' := ?_) #[true, true, true, true, true, true, true, true, true, true, false, false, false, false, false, false, false, false, false, false, false] rfl rfl (by kernel_rfl) (fun _ _ _ h => h) (Or.inl ⟨by rfl, ?_⟩) ?_ ?_
   rotate_left
   ·intro w'
    go_simp
    with_reducible rfl
   rotate_left
   ·simp only [Act.put, List.setIfInBounds_toArray, List.set_cons_zero, List.set_cons_succ, i64_w, i32_w]
    rfl
   refine pure_ (i := 10) (N := some 13) (v := ?_) (a' := ?_) #[true, true, true, true, true, true, true, true, true, true, true, false, false, false, false, false, false, false, false, false, false] rfl rfl (by kernel_rfl) (fun _ _ _ h => h) (Or.inl ⟨by rfl, ?_⟩) ?_ ?_
   rotate_left
   ·intro w'
    go_simp
    with_reducible rfl
   rotate_left
   ·simp only [Act.put, List.setIfInBounds_toArray, List.set_cons_zero, List.set_cons_succ, i64_w, i32_w]
    rfl
   refine pure_ (i := 11) (N := some 14) (v := ?_) (a' := ?_) #[true, true, true, true, true, true, true, true, true, true, true, true, false, false, false, false, false, false, false, false, false] rfl rfl (by kernel_rfl) (fun _ _ _ h => h) (Or.inl ⟨by rfl, ?_⟩) ?_ ?_
   rotate_left
   ·intro w'
    go_simp
    with_reducible rfl
   rotate_left
   ·simp only [Act.put, List.setIfInBounds_toArray, List.set_cons_zero, List.set_cons_succ, i64_w, i32_w]
    rfl
   refine pure_ (i := 12) (N := some 15) (v := undef) (a' := ?_) #[true, true, true, true, true, true, true, true, true, true, true, true, true, false, false, false, false, false, false, false, false] rfl rfl (by kernel_rfl) (fun _ _ _ h => h) (Or.inr ⟨by rfl, rfl⟩) ?_ ?_
   rotate_left
   ·simp only [Act.put, List.setIfInBounds_toArray, List.set_cons_zero, List.set_cons_succ, i64_w, i32_w]
    rfl
   refine pure_ (i := 13) (N := some 16) (v := undef) (a' := ?_) #[true, true, true, true, true, true, true, true, true, true, true, true, true, true, false, false, false, false, false, false, false] rfl rfl (by kernel_rfl) (fun _ _ _ h => h) (Or.inr ⟨by rfl, rfl⟩) ?_ ?_
   rotate_left
   ·simp only [Act.put, List.setIfInBounds_toArray, List.set_cons_zero, List.set_cons_succ, i64_w, i32_w]
    rfl
   refine pure_ (i := 14) (N := some 17) (v := undef) (a' := ?_) #[true, true, true, true, true, true, true, true, true, true, true, true, true, true, true, false, false, false, false, false, false] rfl rfl (by kernel_rfl) (fun _ _ _ h => h) (Or.inr ⟨by rfl, rfl⟩) ?_ ?_
   rotate_left
   ·simp only [Act.put, List.setIfInBounds_toArray, List.set_cons_zero, List.set_cons_succ, i64_w, i32_w]
    rfl
   refine pure_ (i := 15) (N := some 18) (v := undef) (a' := ?_) #[true, true, true, true, true, true, true, true, true, true, true, true, true, true, true, true, false, false, false, false, false] rfl rfl (by kernel_rfl) (fun _ _ _ h => h) (Or.inr ⟨by rfl, rfl⟩) ?_ ?_
   rotate_left
   ·simp only [Act.put, List.setIfInBounds_toArray, List.set_cons_zero, List.set_cons_succ, i64_w, i32_w]
    rfl
   refine pure_ (i := 16) (N := some 19) (v := undef) (a' := ?_) #[true, true, true, true, true, true, true, true, true, true, true, true, true, true, true, true, true, false, false, false, false] rfl rfl (by kernel_rfl) (fun _ _ _ h => h) (Or.inr ⟨by rfl, rfl⟩) ?_ ?_
   rotate_left
   ·simp only [Act.put, List.setIfInBounds_toArray, List.set_cons_zero, List.set_cons_succ, i64_w, i32_w]
    rfl
   refine pure_ (i := 17) (N := some 20) (v := undef) (a' := ?_) #[true, true, true, true, true, true, true, true, true, true, true, true, true, true, true, true, true, true, false, false, false] rfl rfl (by kernel_rfl) (fun _ _ _ h => h) (Or.inr ⟨by rfl, rfl⟩) ?_ ?_
   rotate_left
   ·simp only [Act.put, List.setIfInBounds_toArray, List.set_cons_zero, List.set_cons_succ, i64_w, i32_w]
    rfl
   refine pure_ (i := 18) (N := some 21) (v := undef) (a' := ?_) #[true, true, true, true, true, true, true, true, true, true, true, true, true, true, true, true, true, true, true, false, false] rfl rfl (by kernel_rfl) (fun _ _ _ h => h) (Or.inr ⟨by rfl, rfl⟩) ?_ ?_
   rotate_left
   ·simp only [Act.put, List.setIfInBounds_toArray, List.set_cons_zero, List.set_cons_succ, i64_w, i32_w]
    rfl
   refine pure_ (i := 19) (N := some 22) (v := ?_) (a' := ?_) #[true, true, true, true, true, true, true, true, true, true, true, true, true, true, true, true, true, true, true, true, false] rfl rfl (by kernel_rfl) (fun _ _ _ h => h) (Or.inl ⟨by rfl, ?_⟩) ?_ ?_
   rotate_left
   ·intro w'
    go_simp
    with_reducible rfl
   rotate_left
   ·simp only [Act.put, List.setIfInBounds_toArray, List.set_cons_zero, List.set_cons_succ, i64_w, i32_w]
    rfl
   refine pure_ (i := 20) (N := some 2) (v := ?_) (a' := ?_) #[true, true, true, true, true, true, true, true, true, true, true, true, true, true, true, true, true, true, true, true, true] rfl rfl (by kernel_rfl) (fun _ _ _ h => h) (Or.inl ⟨by rfl, ?_⟩) ?_ ?_
   rotate_left
   ·intro w'
    go_simp
    with_reducible rfl
   rotate_left
   ·simp only [Act.put, List.setIfInBounds_toArray, List.set_cons_zero, List.set_cons_succ, i64_w, i32_w]
    rfl
   refine done_ (by kernel_rfl) ?_
   go_wp2
   go_ret
   exact ⟨rfl, hHeld.2.2.2.2⟩
 ·have hr : oneB v = false := by unfold oneB; rw [Bool.eq_false_iff.2 hp]; rfl
  rw [hr]
  have hpf := Bool.eq_false_iff.2 hp
  have HX := Lib.hid hpf
  clear hp hpf hr
  go_enter Try.func18, Try.ntmps18
  go_upto_region 1 with (fail)
  generalize w.alloc (.cells v.arr 39) = W at H0 ⊢
  have H1 := H0.drew
  clear H0
  refine start_ (n := 21) (S := fun W => W.cell? ⟨w.heap.size, 19, none⟩ = some (.int .i64 v.max) ∧ W.cell? ⟨w.heap.size, 18, none⟩ = some (.int .i64 v.p.n) ∧ W.cell? ⟨w.heap.size, 1, none⟩ = some (.bool v.p.v6) ∧ HB w w.heap.size w.heap.size v.arr 39 W) (ds := []) #[false, false, false, false, false, false, false, false, false, false, false, false, false, false, false, false, false, false, false, false, false] (by kernel_rfl) rfl rfl (OS.mk H1) (fun hHeld => ?_)
  refine pure_ (i := 0) (N := some 3) (v := ?_) (a' := ?_) #[true, false, false, false, false, false, false, false, false, false, false, false, false, false, false, false, false, false, false, false, false] rfl rfl (by kernel_rfl) (fun _ _ _ h => h) (Or.inl ⟨by rfl, ?_⟩) ?_ ?_
  rotate_left
  ·intro w'
   go_simp
   with_reducible rfl
  rotate_left
  ·simp only [Act.put, List.setIfInBounds_toArray, List.set_cons_zero, List.set_cons_succ, i64_w, i32_w]
   rfl
  refine take_ (i := 1) (N := some 4) (v := .agg v.p.arr) (a' := ?_) #[true, true, false, false, false, false, false, false, false, false, false, false, false, false, false, false, false, false, false, false, false] rfl rfl (by kernel_rfl) (fun _ _ _ h => h) ?_ hHeld ?_ ?_
  ·exact yP (by rfl) rfl v.p w.heap.size 1 rfl (fun W h => rp_of_v h.2.2.2.1.rv)
  rotate_left
  ·simp only [Act.put, List.setIfInBounds_toArray, List.set_cons_zero, List.set_cons_succ, i64_w, i32_w]
   rfl
  refine one_ (i := 2) (N := some 5) #[true, true, true, false, false, false, false, false, false, false, false, false, false, false, false, false, false, false, false, false, false] rfl rfl (by kernel_rfl) (by decide) (fun K hK => ?_)
  refine goes_ Try.func31 (by kernel_rfl) rfl #[.agg v.p.arr] (by rfl) rfl rfl (by (try simp only [List.map_toArray, List.map_cons, List.map_nil]); first | done | rfl) ?_
  refine (refRight_walk v.p false HX.out _).mono ?_
  rintro e w1 ⟨rfl, hB⟩
  refine ⟨_, rfl, ?_⟩
  refine hK.out _ _ (OS.mk (HB.step hHeld.2.2.2 hB (Nat.le_refl _))) (fun hHeld => ?_)
  clear hK K
  refine norm_ (a' := ?_) ?_ ?_
  rotate_left
  ·show Act.put _ (some 5) _ = _
   simp only [Act.put, List.setIfInBounds_toArray, List.set_cons_zero, List.set_cons_succ, i64_w, i32_w]
   rfl
  refine pure_ (i := 3) (N := some 6) (v := ?_) (a' := ?_) #[true, true, true, true, false, false, false, false, false, false, false, false, false, false, false, false, false, false, false, false, false] rfl rfl (by kernel_rfl) (fun _ _ _ h => h) (Or.inl ⟨by rfl, ?_⟩) ?_ ?_
  rotate_left
  ·intro w'
   go_simp
   with_reducible rfl
  rotate_left
  ·simp only [Act.put, List.setIfInBounds_toArray, List.set_cons_zero, List.set_cons_succ, i64_w, i32_w]
   rfl
  refine pure_ (i := 4) (N := some 7) (v := undef) (a' := ?_) #[true, true, true, true, true, false, false, false, false, false, false, false, false, false, false, false, false, false, false, false, false] rfl rfl (by kernel_rfl) (fun _ _ _ h => h) (Or.inr ⟨by rfl, rfl⟩) ?_ ?_
  rotate_left
  ·simp only [Act.put, List.setIfInBounds_toArray, List.set_cons_zero, List.set_cons_succ, i64_w, i32_w]
   rfl
  refine pure_ (i := 5) (N := some 8) (v := undef) (a' := ?_) #[true, true, true, true, true, true, false, false, false, false, false, false, false, false, false, false, false, false, false, false, false] rfl rfl (by kernel_rfl) (fun _ _ _ h => h) (Or.inr ⟨by rfl, rfl⟩) ?_ ?_
  rotate_left
  ·simp only [Act.put, List.setIfInBounds_toArray, List.set_cons_zero, List.set_cons_succ, i64_w, i32_w]
   rfl
  refine pure_ (i := 6) (N := some 9) (v := undef) (a' := ?_) #[true, true, true, true, true, true, true, false, false, false, false, false, false, false, false, false, false, false, false, false, false] rfl rfl (by kernel_rfl) (fun _ _ _ h => h) (Or.inr ⟨by rfl, rfl⟩) ?_ ?_
  rotate_left
  ·simp only [Act.put, List.setIfInBounds_toArray, List.set_cons_zero, List.set_cons_succ, i64_w, i32_w]
   rfl
  refine pure_ (i := 7) (N := some 10) (v := undef) (a' := ?_) #[true, true, true, true, true, true, true, true, false, false, false, false, false, false, false, false, false, false, false, false, false] rfl rfl (by kernel_rfl) (fun _ _ _ h => h) (Or.inr ⟨by rfl, rfl⟩) ?_ ?_
  rotate_left
  ·simp only [Act.put, List.setIfInBounds_toArray, List.set_cons_zero, List.set_cons_succ, i64_w, i32_w]
   rfl
  refine pure_ (i := 8) (N := some 11) (v := undef) (a' := ?_) #[true, true, true, true, true, true, true, true, true, false, false, false, false, false, false, false, false, false, false, false, false] rfl rfl (by kernel_rfl) (fun _ _ _ h => h) (Or.inr ⟨by rfl, rfl⟩) ?_ ?_
  rotate_left
  ·simp only [Act.put, List.setIfInBounds_toArray, List.set_cons_zero, List.set_cons_succ, i64_w, i32_w]
   rfl
  refine pure_ (i := 9) (N := some 12) (v := undef) (a' := ?_) #[true, true, true, true, true, true, true, true, true, true, false, false, false, false, false, false, false, false, false, false, false] rfl rfl (by kernel_rfl) (fun _ _ _ h => h) (Or.inr ⟨by rfl, rfl⟩) ?_ ?_
  rotate_left
  ·simp only [Act.put, List.setIfInBounds_toArray, List.set_cons_zero, List.set_cons_succ, i64_w, i32_w]
   rfl
  refine pure_ (i := 10) (N := some 13) (v := ?_) (a' := ?_) #[true, true, true, true, true, true, true, true, true, true, true, false, false, false, false, false, false, false, false, false, false] rfl rfl (by kernel_rfl) (fun _ _ _ h => h) (Or.inl ⟨by rfl, ?_⟩) ?_ ?_
  rotate_left
  ·intro w'
   go_simp
   with_reducible rfl
  rotate_left
  ·simp only [Act.put, List.setIfInBounds_toArray, List.set_cons_zero, List.set_cons_succ, i64_w, i32_w]
   rfl
  refine pure_ (i := 11) (N := some 14) (v := ?_) (a' := ?_) #[true, true, true, true, true, true, true, true, true, true, true, true, false, false, false, false, false, false, false, false, false] rfl rfl (by kernel_rfl) (fun _ _ _ h => h) (Or.inl ⟨by rfl, ?_⟩) ?_ ?_
  rotate_left
  ·intro w'
   go_simp
   with_reducible rfl
  rotate_left
  ·simp only [Act.put, List.setIfInBounds_toArray, List.set_cons_zero, List.set_cons_succ, i64_w, i32_w]
   rfl
  refine pure_ (i := 12) (N := some 15) (v := undef) (a' := ?_) #[true, true, true, true, true, true, true, true, true, true, true, true, true, false, false, false, false, false, false, false, false] rfl rfl (by kernel_rfl) (fun _ _ _ h => h) (Or.inr ⟨by rfl, rfl⟩) ?_ ?_
  rotate_left
  ·simp only [Act.put, List.setIfInBounds_toArray, List.set_cons_zero, List.set_cons_succ, i64_w, i32_w]
   rfl
  refine pure_ (i := 13) (N := some 16) (v := undef) (a' := ?_) #[true, true, true, true, true, true, true, true, true, true, true, true, true, true, false, false, false, false, false, false, false] rfl rfl (by kernel_rfl) (fun _ _ _ h => h) (Or.inr ⟨by rfl, rfl⟩) ?_ ?_
  rotate_left
  ·simp only [Act.put, List.setIfInBounds_toArray, List.set_cons_zero, List.set_cons_succ, i64_w, i32_w]
   rfl
  refine pure_ (i := 14) (N := some 17) (v := undef) (a' := ?_) #[true, true, true, true, true, true, true, true, true, true, true, true, true, true, true, false, false, false, false, false, false] rfl rfl (by kernel_rfl) (fun _ _ _ h => h) (Or.inr ⟨by rfl, rfl⟩) ?_ ?_
  rotate_left
  ·simp only [Act.put, List.setIfInBounds_toArray, List.set_cons_zero, List.set_cons_succ, i64_w, i32_w]
   rfl
  refine pure_ (i := 15) (N := some 18) (v := undef) (a' := ?_) #[true, true, true, true, true, true, true, true, true, true, true, true, true, true, true, true, false, false, false, false, false] rfl rfl (by kernel_rfl) (fun _ _ _ h => h) (Or.inr ⟨by rfl, rfl⟩) ?_ ?_
  rotate_left
  ·simp only [Act.put, List.setIfInBounds_toArray, List.set_cons_zero, List.set_cons_succ, i64_w, i32_w]
   rfl
  refine pure_ (i := 16) (N := some 19) (v := undef) (a' := ?_) #[true, true, true, true, true, true, true, true, true, true, true, true, true, true, true, true, true, false, false, false, false] rfl rfl (by kernel_rfl) (fun _ _ _ h => h) (Or.inr ⟨by rfl, rfl⟩) ?_ ?_
  rotate_left
  ·simp only [Act.put, List.setIfInBounds_toArray, List.set_cons_zero, List.set_cons_succ, i64_w, i32_w]
   rfl
  refine pure_ (i := 17) (N := some 20) (v := undef) (a' := ?_) #[true, true, true, true, true, true, true, true, true, true, true, true, true, true, true, true, true, true, false, false, false] rfl rfl (by kernel_rfl) (fun _ _ _ h => h) (Or.inr ⟨by rfl, rfl⟩) ?_ ?_
  rotate_left
  ·simp only [Act.put, List.setIfInBounds_toArray, List.set_cons_zero, List.set_cons_succ, i64_w, i32_w]
   rfl
  refine pure_ (i := 18) (N := some 21) (v := undef) (a' := ?_) #[true, true, true, true, true, true, true, true, true, true, true, true, true, true, true, true, true, true, true, false, false] rfl rfl (by kernel_rfl) (fun _ _ _ h => h) (Or.inr ⟨by rfl, rfl⟩) ?_ ?_
  rotate_left
  ·simp only [Act.put, List.setIfInBounds_toArray, List.set_cons_zero, List.set_cons_succ, i64_w, i32_w]
   rfl
  refine pure_ (i := 19) (N := some 22) (v := ?_) (a' := ?_) #[true, true, true, true, true, true, true, true, true, true, true, true, true, true, true, true, true, true, true, true, false] rfl rfl (by kernel_rfl) (fun _ _ _ h => h) (Or.inl ⟨by rfl, ?_⟩) ?_ ?_
  rotate_left
  ·intro w'
   go_simp
   with_reducible rfl
  rotate_left
  ·simp only [Act.put, List.setIfInBounds_toArray, List.set_cons_zero, List.set_cons_succ, i64_w, i32_w]
   rfl
  refine pure_ (i := 20) (N := some 2) (v := ?_) (a' := ?_) #[true, true, true, true, true, true, true, true, true, true, true, true, true, true, true, true, true, true, true, true, true] rfl rfl (by kernel_rfl) (fun _ _ _ h => h) (Or.inl ⟨by rfl, ?_⟩) ?_ ?_
  rotate_left
  ·intro w'
   go_simp
   with_reducible rfl
  rotate_left
  ·simp only [Act.put, List.setIfInBounds_toArray, List.set_cons_zero, List.set_cons_succ, i64_w, i32_w]
   rfl
  refine done_ (by kernel_rfl) ?_
  go_wp2
  go_ret
  exact ⟨rfl, hHeld.2.2.2.2⟩

end Go.Proofs.Ytllahlgnjeeliaa.Ad
end

section
set_option linter.unusedVariables false
set_option linter.unusedSimpArgs false
namespace Go.Proofs.Ytllahlgnjeeliaa.Ad
open Go.RowKit Go.Proofs.YtllahlgnjeeliaaW.PrintWords Go.Proofs.YtllahlgnjeeliaaW.PrintLast Go.Proofs.YtllahlgnjeeliaaW.PrintMore Go.Proofs.Ytllahlgnjeeliaa.PT

def zV : Vrp := ⟨0, ⟨false, z16, 0⟩, 0⟩
theorem infoVz : (Try.prog.info? 39).map (fun i => (i.zero, i.size, i.bytes)) = some (some (.agg zV.arr), 20, 48) := by kernel_rfl
theorem ra_below {W W1 : World} {b o : Nat} {cs : List Value} (h : W.rangeAt b o cs) (hB : Below W.heap.size W W1) : W1.rangeAt b o cs := fun j v hv => by
 have := h j v hv
 have hlt := World.block_lt_of_cell? W _ this
 exact (hB.cell (p := ⟨b, o + j, none⟩) hlt).trans this
theorem C_one {W : World} {g t : Nat} {v : Vrp} (h : Has W g v.arr t) : kV.C W (some ⟨g, 0, none⟩) 1 [v] :=
 ⟨rfl, by decide, fun _ => ⟨_, rfl, fun j p hj => by
  have hj0 : j = 0 := by
   have := (List.getElem?_eq_some_iff.1 hj).1
   simp at this
   exact this
  subst hj0
  have hp : v = p := by simpa using hj
  subst hp
  refine ⟨v.cells, v.cells_len, rfl, fun i u hu => ?_⟩
  rw [Addr.add_mid]
  have := h.rv i u hu
  simpa using this⟩⟩
theorem skip_step {P : Program} {ops : Array Oper} {Q : Exit → Act → World → Prop} {o : Oper} {a : Act} {Kc : Act → World → Prop} {W w1 : World} (hw : Region.wanted o (yielded ops a.tmps) = true) (hrun : (execOp a.eval o).run P W = .ok .skip w1) (h : Kc (a.put o.dst undef) w1) : if Region.wanted o (yielded ops a.tmps) = true then Oper.wp P o a W Kc Q else Kc (a.put o.dst undef) W := by
 rw [if_pos hw]
 unfold Oper.wp
 rw [hrun]
 exact h
section
variable {ops : Array Oper} {o : Oper} {a : Act} {Q : Exit → Act → World → Prop} {Kc : Act → World → Prop} {rest : List Oper}
theorem appRows {w0 W : World} (base : Nat) (hw : Region.wanted o (yielded ops a.tmps) = true) (s x : Operand)
 (ho : o.op = .call { callee := .builtin .append, args := #[s, x], argTypes := #[22, 22] })
 (v : Value) (xs ys : List Vrp) (A : Option Addr) (m c : Nat) (hs : a.eval s = v) (hx : a.eval x = .slice A m c)
 (HO : kV.R 39 W base (fun _ => True) v xs) (HR : kV.C W A m ys) (HB : Below base w0 W) (hbase : base ≤ W.heap.size) (hl : (xs.length + m) * 48 ≤ 140737488355328)
 (h : ∀ v1 w1, kV.R 39 w1 base (fun _ => True) v1 (xs ++ ys) → Below base w0 w1 → W.grownBy w1 v.ownBlock → (v1.ownBlock = v.ownBlock ∨ ∃ b, v1.ownBlock = some b ∧ W.heap.size ≤ b) → Kc (a.put o.dst v1) w1) :
 if Region.wanted o (yielded ops a.tmps) = true then Oper.wp Try.prog o a W Kc Q else Kc (a.put o.dst undef) W :=
 Kd.R_append_rows_step kV base hw s x _ _ (.agg zV.arr) 48 ho Try.underlying22 infoVz rfl (by decide) (by decide) v xs ys A m c (fun _ => True) (fun _ => False) hs hx HO HR (fun x cs h => h) (fun _ h => h.elim) (fun _ _ => trivial) HB hbase hl h
theorem appRowsL {w0 W : World} (base : Nat) (hg : o.guard = none) (s x : Operand)
 (ho : o.op = .call { callee := .builtin .append, args := #[s, x], argTypes := #[22, 22] })
 (v : Value) (xs ys : List Vrp) (A : Option Addr) (m c : Nat) (hs : a.eval s = v) (hx : a.eval x = .slice A m c)
 (HO : kV.R 39 W base (fun _ => True) v xs) (HR : kV.C W A m ys) (HB : Below base w0 W) (hbase : base ≤ W.heap.size) (hl : (xs.length + m) * 48 ≤ 140737488355328)
 (h : ∀ v1 w1, kV.R 39 w1 base (fun _ => True) v1 (xs ++ ys) → Below base w0 w1 → W.grownBy w1 v.ownBlock → (v1.ownBlock = v.ownBlock ∨ ∃ b, v1.ownBlock = some b ∧ W.heap.size ≤ b) → wpList Try.prog ops Q rest (a.put o.dst v1) w1) :
 wpList Try.prog ops Q (o :: rest) a W :=
 Kd.R_append_rows kV base hg s x _ _ (.agg zV.arr) 48 ho Try.underlying22 infoVz rfl (by decide) (by decide) v xs ys A m c (fun _ => True) (fun _ => False) hs hx HO HR (fun x cs h => h) (fun _ h => h.elim) (fun _ _ => trivial) HB hbase hl h
end
theorem A16.lit_l (a : A16) : a.l = [a.at 0, a.at 1, a.at 2, a.at 3, a.at 4, a.at 5, a.at 6, a.at 7, a.at 8, a.at 9, a.at 10, a.at 11, a.at 12, a.at 13, a.at 14, a.at 15] := by
 apply List.ext_getElem (by simp [a.h])
 intro i h1 h2
 have h : i < 16 := by rw [← a.h]; exact h1
 rw [← A16.at_eq h1]
 have : i = 0 ∨ i = 1 ∨ i = 2 ∨ i = 3 ∨ i = 4 ∨ i = 5 ∨ i = 6 ∨ i = 7 ∨ i = 8 ∨ i = 9 ∨ i = 10 ∨ i = 11 ∨ i = 12 ∨ i = 13 ∨ i = 14 ∨ i = 15 := by omega
 rcases this with rfl | rfl | rfl | rfl | rfl | rfl | rfl | rfl | rfl | rfl | rfl | rfl | rfl | rfl | rfl | rfl <;> rfl
theorem Vrp.lit (v : Vrp) : v.arr = #[.int .u32 v.asn, .bool v.p.v6, .int .u8 (v.p.a.at 0), .int .u8 (v.p.a.at 1), .int .u8 (v.p.a.at 2), .int .u8 (v.p.a.at 3), .int .u8 (v.p.a.at 4), .int .u8 (v.p.a.at 5), .int .u8 (v.p.a.at 6), .int .u8 (v.p.a.at 7), .int .u8 (v.p.a.at 8), .int .u8 (v.p.a.at 9), .int .u8 (v.p.a.at 10), .int .u8 (v.p.a.at 11), .int .u8 (v.p.a.at 12), .int .u8 (v.p.a.at 13), .int .u8 (v.p.a.at 14), .int .u8 (v.p.a.at 15), .int .i64 v.p.n, .int .i64 v.max] := by
 rw [Vrp.arr, Vrp.cells, Pfx.cells, A16.cells, A16.lit_l v.p.a]
 rfl
set_option maxRecDepth 100000 in
theorem buildV (v : Vrp) (W : World) : (Instr.buildSlice 22 1 #[(0, .agg v.arr)]).run Try.prog W = .ok (.slice (some ⟨W.heap.size, 0, none⟩) 1 1) (W.alloc (.cells v.arr 39)) := by
 rw [Vrp.lit]
 kernel_rfl
theorem exec_buildV {ρ : Operand → Value} {n m : Tmp} {ty : TypeId} {pos : String} {af : Array Edge} {g : Option (Nat × Bool)} (v : Vrp) (h : ρ (.tmp m) = .agg v.arr) (W : World) :
 (execOp ρ ⟨some n, .buildSlice 22 1 #[(0, .tmp m)], ty, pos, af, g⟩).run Try.prog W = .ok (.value (.slice (some ⟨W.heap.size, 0, none⟩) 1 1)) (W.alloc (.cells v.arr 39)) := by
 have := buildV v W
 unfold execOp
 simp only [List.map_toArray, List.map_cons, List.map_nil, h, Sem.run_map, this]
 simp [Result.andThen, this]
theorem valL {P : Program} {ops : Array Oper} {rest : List Oper} {o : Oper} {a : Act} {w w1 : World} {v : Value} {Q : Exit → Act → World → Prop} (hgd : o.guard = none) (hrun : (execOp a.eval o).run P w = .ok (.value v) w1)
 (h : wpList P ops Q rest (a.put o.dst v) w1) : wpList P ops Q (o :: rest) a w := wpList_plain hgd fun _ hK => by
 unfold Oper.wp
 rw [hrun]
 exact hK _ _ h
def posR (out : List Vrp) (v : Vrp) : Nat := (out.takeWhile fun u => decide (cmpV u v < 0)).length
def insR (out : List Vrp) (v : Vrp) : List Vrp := if oneB v = false ∨ out[posR out v]? = some v then out else out.take (posR out v) ++ [v] ++ out.drop (posR out v)
def rowP (l : List Vrp) : List Vrp := l.foldl insR []
end Go.Proofs.Ytllahlgnjeeliaa.Ad
end

section
set_option linter.unusedVariables false
set_option linter.unusedSimpArgs false
namespace Go.Proofs.Ytllahlgnjeeliaa.Ad
open Go.RowKit Go.Proofs.YtllahlgnjeeliaaW.PrintWords Go.Proofs.YtllahlgnjeeliaaW.PrintLast Go.Proofs.YtllahlgnjeeliaaW.PrintMore Go.Proofs.Ytllahlgnjeeliaa.PT

def IdxOf (v : Vrp) (l : List Vrp) (e : Ending) : Prop := ∃ i : Int, e = .returned (.int .i64 i) ∧ (0 ≤ i ↔ v ∈ l)

set_option maxHeartbeats 2000000 in
set_option maxRecDepth 100000 in
theorem index_walk (A : Option Addr) (c : Nat) (l : List Vrp) (v : Vrp) (w : World) (h : kV.C w A l.length l) (hl : l.length ≤ 140737488355328) :
 Calls Try.prog 47 #[.slice A l.length c, .agg v.arr] w fun e w' => IdxOf v l e ∧ Below w.heap.size w w' := by
 have H0 := HB.new w v.arr 39
 have HC := Lib.hid h
 clear h
 go_enter Try.func47, Try.ntmps47
 go_upto_region 1 with (fail)
 generalize w.alloc (.cells v.arr 39) = W at H0 ⊢
 have HH := Lib.hid H0
 clear H0
 go_wp2
 go_loopw [8] (fun iv wr => ∃ k : Nat, k ≤ l.length ∧ iv = .int .i64 k ∧ Hid ((∀ j (h1 : j < l.length), j < k → v ≠ l[j]) ∧ HB w w.heap.size w.heap.size v.arr 39 wr)) (fun iv _ => l.length - (intOf iv).toNat)
 case atStart => exact ⟨0, Nat.zero_le _, rfl, Lib.hid ⟨fun j _ h => by omega, HH.out⟩⟩
 case round =>
  obtain ⟨k, hk, rfl, H⟩ := hrel
  by_cases hlt : k < l.length
  ·obtain ⟨b, o, hA, hR⟩ := C_form (Kd.C_below HC.out H.out.2.2) (by omega)
   subst hA
   have q0 := Lib.hid (hR k hlt)
   clear hR
   have hd1 := eq_true (show (k : Int) < (l.length : Int) by omega)
   have hd2 : decide ((k : Int) < (l.length : Int)) = true := decide_eq_true (by omega)
   have hd3 : decide (k < l.length) = true := decide_eq_true hlt
   go_wp2
   have HD := H.out.2.drew
   have q0' : wr.drew.rangeAt b (o + k * 20) l[k].cells := q0.out
   obtain ⟨x, hx⟩ : ∃ x, x = l[k] := ⟨_, rfl⟩
   rw [← hx] at q0'
   have HXY := Lib.hid hx
   clear hx
   obtain ⟨z, hz⟩ : ∃ z, z = decide (v = x) := ⟨_, rfl⟩
   have hnq : ∀ W, (binOp .eql 39 (.agg v.arr) (.agg x.arr)).run Try.prog W = .ok (.bool z) W := fun W => by rw [hz]; exact eqlV W _ _
   have HZ := Lib.hid hz
   clear hz
   refine start_ (n := 6) (S := fun W => W.rangeAt b (o + k * 20) x.cells ∧ HB w w.heap.size w.heap.size v.arr 39 W) (ds := []) #[false, false, false, false, false, false] (by kernel_rfl) rfl rfl ⟨q0', HD⟩ (fun hHeld => ?_)
   refine pure_ (i := 1) (N := some 12) (v := ?_) (a' := ?_) #[false, true, false, false, false, false] rfl rfl (by kernel_rfl) (fun _ _ _ h => h) (Or.inl ⟨by rfl, ?_⟩) ?_ ?_
   rotate_left
   ·intro w'
    go_simp
    with_reducible rfl
   rotate_left
   ·simp only [Act.put, List.setIfInBounds_toArray, List.set_cons_zero, List.set_cons_succ, i64_w, i32_w]
    rfl
   refine pure_ (i := 2) (N := some 13) (v := ?_) (a' := ?_) #[false, true, true, false, false, false] rfl rfl (by kernel_rfl) (fun _ _ _ h => h) (Or.inl ⟨by rfl, ?_⟩) ?_ ?_
   rotate_left
   ·intro w'
    go_simp
    with_reducible rfl
   rotate_left
   ·simp only [Act.put, List.setIfInBounds_toArray, List.set_cons_zero, List.set_cons_succ, i64_w, i32_w]
    rfl
   refine pure_ (i := 3) (N := some 14) (v := ?_) (a' := ?_) #[false, true, true, true, false, false] rfl rfl (by kernel_rfl) (fun _ _ _ h => h) (Or.inl ⟨by rfl, ?_⟩) ?_ ?_
   rotate_left
   ·intro w'
    go_simp
    with_reducible rfl
   rotate_left
   ·simp only [Act.put, List.setIfInBounds_toArray, List.set_cons_zero, List.set_cons_succ, i64_w, i32_w]
    rfl
   refine take_ (i := 0) (N := some 11) (v := .agg v.arr) (a' := ?_) #[true, true, true, true, false, false] rfl rfl (by kernel_rfl) (fun _ _ _ h => h) ?_ hHeld ?_ ?_
   ·exact yV (by rfl) rfl v w.heap.size 0 rfl (fun W h => h.2.1.rv)
   rotate_left
   ·simp only [Act.put, List.setIfInBounds_toArray, List.set_cons_zero, List.set_cons_succ, i64_w, i32_w]
    rfl
   refine take_ (i := 4) (N := some 15) (v := .agg x.arr) (a' := ?_) #[true, true, true, true, true, false] rfl rfl (by kernel_rfl) (fun _ _ _ h => h) ?_ hHeld ?_ ?_
   ·exact yV (by rfl) rfl x b (o + k * 20) rfl (fun W h => h.1)
   rotate_left
   ·simp only [Act.put, List.setIfInBounds_toArray, List.set_cons_zero, List.set_cons_succ, i64_w, i32_w]
    rfl
   refine pure_ (i := 5) (N := some 16) (v := ?_) (a' := ?_) #[true, true, true, true, true, true] rfl rfl (by kernel_rfl) (fun _ _ _ h => h) (Or.inl ⟨by rfl, ?_⟩) ?_ ?_
   rotate_left
   ·intro w'
    go_simp
    with_reducible rfl
   rotate_left
   ·simp only [Act.put, List.setIfInBounds_toArray, List.set_cons_zero, List.set_cons_succ, i64_w, i32_w]
    rfl
   refine done_ (by kernel_rfl) ?_
   have HN := Lib.hid (And.intro H.out.1 hHeld.2)
   clear H HD hHeld q0' q0 hnq
   cases z
   ·have HE : Hid (¬ v = x) := Lib.hid (by have := HZ.out; simpa using this)
    go_wp2
    go_roundw
    case rel => exact ⟨k + 1, by omega, by go_num, Lib.hid ⟨fun j h1 hj => by
     by_cases hjk : j = k
     ·subst hjk; rw [← HXY.out]; exact HE.out
     ·exact HN.out.1 j h1 (by omega), HN.out.2⟩⟩
    case measure => simp [intOf]; omega
   ·have HE : Hid (v = x) := Lib.hid (by have := HZ.out; simpa using this)
    go_wp2
    try rw [Exit.noGoto_ret]
    go_ret
    exact ⟨⟨(k : Int), rfl, fun _ => by rw [HE.out, HXY.out]; exact List.getElem_mem hlt, fun _ => by omega⟩, HN.out.2.2⟩
  ·have hkn : k = l.length := by omega
   have hd2 : decide ((k : Int) < (l.length : Int)) = false := decide_eq_false (by omega)
   have hd3 : decide (k < l.length) = false := decide_eq_false hlt
   have hd1 := eq_false (show ¬ (k : Int) < (l.length : Int) by omega)
   go_wp2
   try rw [Exit.noGoto_ret]
   go_ret
   refine ⟨⟨-1, rfl, fun h => by omega, fun h => ?_⟩, H.out.2.2⟩
   obtain ⟨j, hj, e⟩ := List.mem_iff_getElem.1 h
   exact absurd e.symm (H.out.1 j hj (by omega))

set_option maxHeartbeats 2000000 in
set_option maxRecDepth 100000 in
theorem contains_walk (A : Option Addr) (c : Nat) (l : List Vrp) (v : Vrp) (w : World) (h : kV.C w A l.length l) (hl : l.length ≤ 140737488355328) :
 Calls Try.prog 36 #[.slice A l.length c, .agg v.arr] w fun e w' => e = .returned (.bool (decide (v ∈ l))) ∧ Below w.heap.size w w' := by
 have H0 := HB.new w v.arr 39
 have HC := Lib.hid h
 clear h
 obtain ⟨r, hr⟩ : ∃ r, r = decide (v ∈ l) := ⟨_, rfl⟩
 rw [← hr]
 have HR := Lib.hid hr
 clear hr
 go_enter Try.func36, Try.ntmps36
 go_upto_region 1 with (fail)
 generalize w.alloc (.cells v.arr 39) = W at H0 ⊢
 go_wp2_with ((with_reducible refine at_dst 6 ?_); refine loadV v w.heap.size 0 rfl H0.1.rv ?_)
 refine (index_walk A c l v W (Kd.C_below HC.out H0.2) hl).mono ?_
 rintro e w1 ⟨⟨i, rfl, hi⟩, hB⟩
 have HN := Lib.hid (H0.step hB (Nat.le_refl _))
 clear H0 hB
 by_cases h0 : 0 ≤ i
 ·have hres : r = true := by rw [HR.out]; exact decide_eq_true (hi.1 h0)
  subst hres
  have hd : decide (0 ≤ i) = true := decide_eq_true h0
  have hd2 : decide (i < 0) = false := decide_eq_false (by omega)
  clear hi
  go_wp2
  go_ret
  exact ⟨by simp [h0], HN.out.2⟩
 ·have hres : r = false := by rw [HR.out]; exact decide_eq_false (fun h => h0 (hi.2 h))
  subst hres
  have hd : decide (0 ≤ i) = false := decide_eq_false h0
  have hd2 : decide (i < 0) = true := decide_eq_true (by omega)
  clear hi
  go_wp2
  go_ret
  exact ⟨by simp [h0], HN.out.2⟩

end Go.Proofs.Ytllahlgnjeeliaa.Ad
end

section
set_option linter.unusedVariables false
set_option linter.unusedSimpArgs false
namespace Go.Proofs.Ytllahlgnjeeliaa.Ad
open Go.RowKit Go.Proofs.YtllahlgnjeeliaaW.PrintWords Go.Proofs.YtllahlgnjeeliaaW.PrintLast Go.Proofs.YtllahlgnjeeliaaW.PrintMore Go.Proofs.Ytllahlgnjeeliaa.PT

abbrev Path := List Bool
/-- The way to the first i bits of a prefix. -/
def pathOf (p : Pfx) (i : Nat) : Path := p.v6 :: (List.range i).map (fun j => decide (p.a.bit j = 1))
def pathV (v : Vrp) : Path := pathOf v.p v.p.n.toNat
theorem pathOf_succ (p : Pfx) (i : Nat) : pathOf p (i + 1) = pathOf p i ++ [decide (p.a.bit i = 1)] := by
 simp [pathOf, List.range_succ]
theorem pathOf_len (p : Pfx) (i : Nat) : (pathOf p i).length = i + 1 := by simp [pathOf]
def hereP (acc : List Vrp) (q : Path) : List Vrp := acc.filter (fun v => decide (pathV v = q))
def pt (x : Option Nat) : Value := .pointer (x.map fun b => ⟨b, 0, none⟩)
def upd {β : Type} (f : Path → β) (q : Path) (x : β) : Path → β := fun q' => if q' = q then x else f q'
theorem upd_self {β : Type} (f : Path → β) (q : Path) (x : β) : upd f q x q = x := if_pos rfl
theorem upd_ne {β : Type} (f : Path → β) {q q' : Path} (x : β) (h : q' ≠ q) : upd f q x q' = f q' := if_neg h

/-- A row of these depends on its own block alone. -/
theorem R_own_only {e : Nat} {w w1 : World} {base : Nat} {v : Value} {xs : List Vrp} (h : kV.R e w base (fun _ => True) v xs) (hm : ∀ k, v.ownBlock = some k → w1.heap[k]? = w.heap[k]?) : kV.R e w1 base (fun _ => True) v xs := by
 have h1 : kV.R e w base (fun k => v.ownBlock = some k) v xs := by
  obtain ⟨_, inner, ho, hr⟩ := h
  exact ⟨fun k hk => hk, inner, ho, hr⟩
 exact Kd.R_mono (Kd.R_move h1 hm) (fun _ _ => trivial)
theorem R_typed {e : Nat} {w : World} {base : Nat} {v : Value} {xs : List Vrp} (h : kV.R e w base (fun _ => True) v xs) {k : Nat} (hk : v.ownBlock = some k) : ∃ cells, w.heap[k]? = some (.cells cells e (0, 0)) := by
 obtain ⟨_, inner, ho, hr⟩ := h
 exact own_typed ho k hk
theorem R_base {e : Nat} {w : World} {base : Nat} {v : Value} {xs : List Vrp} (h : kV.R e w base (fun _ => True) v xs) {k : Nat} (hk : v.ownBlock = some k) : base ≤ k ∧ k < w.heap.size := by
 obtain ⟨_, inner, ho, hr⟩ := h
 exact ⟨own_base ho k hk, own_lt ho k hk⟩
theorem Has.ne {w : World} {g k t t' : Nat} {cs cs' : Array Value} (h : Has w g cs t) (h' : w.heap[k]? = some (.cells cs' t' (0, 0))) (ht : t ≠ t') : g ≠ k := by
 rintro rfl
 unfold Has at h
 rw [h] at h'
 injection h' with h'
 injection h' with _ h'
 exact ht h'

structure TN (w : World) (base t : Nat) (N : Path → Option Nat) (H : Path → Value) (m : Nat) (acc : List Vrp) : Prop where
 root : Has w t #[pt (N [false]), pt (N [true]), .int .i64 m] 52
 lo : base ≤ t
 r0 : ∃ b, N [false] = some b
 r1 : ∃ b, N [true] = some b
 node : ∀ q b, N q = some b → base ≤ b ∧ Has w b #[H q, pt (N (q ++ [false])), pt (N (q ++ [true]))] 50
 row : ∀ q b, N q = some b → kV.R 39 w base (fun _ => True) (H q) (hereP acc q)
 inj : ∀ q q' b, N q = some b → N q' = some b → q = q'
 sep : ∀ q q' b b' k, N q = some b → N q' = some b' → (H q).ownBlock = some k → (H q').ownBlock = some k → q = q'
 mem : ∀ v ∈ acc, ∀ i, i ≤ v.p.n.toNat → ∃ b, N (pathOf v.p i) = some b
 pre : ∀ q x b, N (q ++ [x]) = some b → q = [] ∨ ∃ b', N q = some b'

theorem TN.below {w w' : World} {base t m : Nat} {N : Path → Option Nat} {H : Path → Value} {acc : List Vrp} (h : TN w base t N H m acc) (hB : Below w.heap.size w w') : TN w' base t N H m acc :=
 ⟨h.root.below hB, h.lo, h.r0, h.r1, fun q b hq => ⟨(h.node q b hq).1, (h.node q b hq).2.below hB⟩, fun q b hq => Kd.R_below (h.row q b hq) hB, h.inj, h.sep, h.mem, h.pre⟩
/-- What begins a trie. -/
theorem TN.new {w : World} {base t b0 b1 : Nat} (ht : Has w t #[.pointer (some ⟨b0, 0, none⟩), .pointer (some ⟨b1, 0, none⟩), .int .i64 0] 52) (h0 : Has w b0 #[.slice none 0 0, .pointer none, .pointer none] 50) (h1 : Has w b1 #[.slice none 0 0, .pointer none, .pointer none] 50)
 (hb : base ≤ t ∧ base ≤ b0 ∧ base ≤ b1) (hne : b0 ≠ b1) : TN w base t (fun q => if q = [false] then some b0 else if q = [true] then some b1 else none) (fun _ => .slice none 0 0) 0 [] := by
 have key : ∀ (q : Path) (x : Bool), q ≠ [] → (if q ++ [x] = [false] then some b0 else if q ++ [x] = [true] then some b1 else none) = none := by
  intro q x hq
  have hl : (q ++ [x]).length ≠ 1 := by
   cases q with
   | nil => exact absurd rfl hq
   | cons a q => simp
  rw [if_neg (fun e => hl (by rw [e]; rfl)), if_neg (fun e => hl (by rw [e]; rfl))]
 refine ⟨by simpa [pt] using ht, hb.1, ⟨b0, rfl⟩, ⟨b1, rfl⟩, fun q b hq => ?_, fun q b hq => Kd.R_nil _ _ _ _ _, fun q q' b hq hq' => ?_, fun q q' b b' k _ _ hk _ => ?_, (fun v hv => by cases hv), fun q x b hq => ?_⟩
 ·by_cases e0 : q = [false]
  ·subst e0
   rw [if_pos rfl] at hq
   injection hq with hq
   subst hq
   rw [key _ _ (by simp), key _ _ (by simp)]
   exact ⟨hb.2.1, by simpa [pt] using h0⟩
  ·rw [if_neg e0] at hq
   by_cases e1 : q = [true]
   ·subst e1
    rw [if_pos rfl] at hq
    injection hq with hq
    subst hq
    rw [key _ _ (by simp), key _ _ (by simp)]
    exact ⟨hb.2.2, by simpa [pt] using h1⟩
   ·rw [if_neg e1] at hq; cases hq
 ·split at hq
  ·rename_i e
   injection hq with hq
   subst hq e
   split at hq'
   ·rename_i e; exact e.symm
   split at hq'
   ·injection hq' with hq'; exact absurd hq'.symm hne
   ·cases hq'
  split at hq
  ·rename_i e
   injection hq with hq
   subst hq e
   split at hq'
   ·injection hq' with hq'; exact absurd hq' hne
   split at hq'
   ·rename_i e; exact e.symm
   ·cases hq'
  ·cases hq
 ·simp [Value.ownBlock] at hk
 ·by_cases e : q = []
  ·exact .inl e
  ·rw [key q x e] at hq
   cases hq

/-- A branch more, by one bit. -/
theorem TN.add {w : World} {base t m : Nat} {N : Path → Option Nat} {H : Path → Value} {acc : List Vrp} (h : TN w base t N H m acc) {q : Path} {b : Nat} (hq : N q = some b) (hne : q ≠ []) (x : Bool) (hx : N (q ++ [x]) = none) (hb : base ≤ w.heap.size) :
 TN ((w.alloc (.cells #[.slice none 0 0, .pointer none, .pointer none] 50)).setCell ⟨b, 1 + (if x then 1 else 0), none⟩ (.pointer (some ⟨w.heap.size, 0, none⟩))) base t (upd N (q ++ [x]) (some w.heap.size)) (upd H (q ++ [x]) (.slice none 0 0)) m acc := by
 have hbl := (h.node q b hq).2.lt
 have hB : Below w.heap.size w (w.alloc (.cells #[.slice none 0 0, .pointer none, .pointer none] 50)) := (Below.refl _ _).alloc (Nat.le_refl _) _
 have h1 := h.below hB
 have hnew := Has.new w #[.slice none 0 0, .pointer none, .pointer none] 50
 generalize w.alloc (.cells #[.slice none 0 0, .pointer none, .pointer none] 50) = W at h1 hnew ⊢
 have hqx : q ≠ q ++ [x] := by simp
 have hlen : 2 ≤ (q ++ [x]).length := by
  cases q with
  | nil => exact absurd rfl hne
  | cons a q => simp
 have n0 : upd N (q ++ [x]) (some w.heap.size) [false] = N [false] := upd_ne _ _ (fun e => by rw [← e] at hlen; simp at hlen)
 have n1 : upd N (q ++ [x]) (some w.heap.size) [true] = N [true] := upd_ne _ _ (fun e => by rw [← e] at hlen; simp at hlen)
 have hold : ∀ q' b', N q' = some b' → q' ≠ q ++ [x] := fun q' b' h' e => by rw [e, hx] at h'; cases h'
 have hlt : ∀ q' b', N q' = some b' → b' < w.heap.size := fun q' b' h' => (h.node q' b' h').2.lt
 have hchild : ∀ y, N (q ++ [x] ++ [y]) = none := by
  intro y
  cases e : N (q ++ [x] ++ [y]) with
  | none => rfl
  | some b' =>
   rcases h.pre _ _ _ e with e' | ⟨b'', e'⟩
   ·simp at e'
   ·rw [hx] at e'; cases e'
 refine ⟨?_, h.lo, by rw [n0]; exact h.r0, by rw [n1]; exact h.r1, fun q' b' h' => ?_, fun q' b' h' => ?_, fun q1 q2 b' e1 e2 => ?_, fun q1 q2 b1 b2 k e1 e2 k1 k2 => ?_, fun v hv i hi => ?_, fun q' y b' h' => ?_⟩
 ·rw [n0, n1]
  exact h1.root.far (fun e => absurd (h.node q b hq).2 (by
   intro hh
   have := h.root
   have e' : t = b := e
   subst e'
   exact Has.ne this hh (by decide) rfl)) _
 ·by_cases e : q' = q ++ [x]
  ·subst e
   rw [upd_self] at h'
   injection h' with h'
   subst h'
   refine ⟨hb, ?_⟩
   rw [upd_self, upd_ne _ _ (by simp), upd_ne _ _ (by simp), hchild, hchild]
   exact hnew.far (by show w.heap.size ≠ b; omega) _
  ·rw [upd_ne _ _ e] at h'
   refine ⟨(h1.node q' b' h').1, ?_⟩
   rw [upd_ne _ _ e]
   by_cases eq : q' = q
   ·subst eq
    rw [hq] at h'
    injection h' with h'
    subst h'
    have hN := (h1.node q' b hq).2
    unfold Has at hN ⊢
    rw [heap_setCell_same _ _ _ _ _ _ hN]
    congr 2
    cases x
    ·rw [upd_self, upd_ne _ _ (by simp)]
     rfl
    ·rw [upd_self, upd_ne _ _ (by simp)]
     rfl
   ·have hc : ∀ y, q' ++ [y] ≠ q ++ [x] := by
     intro y e'
     have := List.append_inj_left' e' rfl
     exact eq this
    rw [upd_ne _ _ (hc false), upd_ne _ _ (hc true)]
    exact (h1.node q' b' h').2.far (fun e' => eq (h.inj q' q b' h' (by rw [hq]; exact congrArg some (show b = b' from e'.symm)))) _
 ·by_cases e : q' = q ++ [x]
  ·subst e
   rw [upd_self]
   have : hereP acc (q ++ [x]) = [] := by
    unfold hereP
    rw [List.filter_eq_nil_iff]
    intro v hv hd
    have hd' := of_decide_eq_true hd
    obtain ⟨b', hb'⟩ := h.mem v hv v.p.n.toNat (Nat.le_refl _)
    rw [show pathOf v.p v.p.n.toNat = q ++ [x] from hd', hx] at hb'
    cases hb'
   rw [this]
   exact Kd.R_nil _ _ _ _ _
  ·rw [upd_ne _ _ e] at h' ⊢
   refine R_own_only (h1.row q' b' h') (fun k hk => ?_)
   obtain ⟨cells, hcells⟩ := R_typed (h1.row q' b' h') hk
   exact heap_setCell_other _ _ _ _ (fun e' => by
    have := Has.ne ((h1.node q b hq).2) hcells (by decide)
    exact this e'.symm)
 ·by_cases a1 : q1 = q ++ [x]
  ·by_cases a2 : q2 = q ++ [x]
   ·rw [a1, a2]
   ·subst a1
    rw [upd_self] at e1
    rw [upd_ne _ _ a2] at e2
    injection e1 with e1
    have := hlt _ _ e2
    omega
  ·rw [upd_ne _ _ a1] at e1
   by_cases a2 : q2 = q ++ [x]
   ·subst a2
    rw [upd_self] at e2
    injection e2 with e2
    have := hlt _ _ e1
    omega
   ·rw [upd_ne _ _ a2] at e2
    exact h.inj q1 q2 b' e1 e2
 ·by_cases a1 : q1 = q ++ [x]
  ·subst a1
   rw [upd_self] at k1
   simp [Value.ownBlock] at k1
  ·by_cases a2 : q2 = q ++ [x]
   ·subst a2
    rw [upd_self] at k2
    simp [Value.ownBlock] at k2
   ·rw [upd_ne _ _ a1] at e1 k1
    rw [upd_ne _ _ a2] at e2 k2
    exact h.sep q1 q2 b1 b2 k e1 e2 k1 k2
 ·obtain ⟨b', hb'⟩ := h.mem v hv i hi
  exact ⟨b', by rw [upd_ne _ _ (hold _ _ hb')]; exact hb'⟩
 ·by_cases e : q' ++ [y] = q ++ [x]
  ·have := List.append_inj_left' e rfl
   subst this
   exact .inr ⟨b, by rw [upd_ne _ _ hqx]; exact hq⟩
  ·rw [upd_ne _ _ e] at h'
   rcases h.pre _ _ _ h' with e' | ⟨b'', e'⟩
   ·exact .inl e'
   ·exact .inr ⟨b'', by rw [upd_ne _ _ (hold _ _ e')]; exact e'⟩

/-- One more in a branch's row. -/
theorem TN.app {w w' : World} {base t m : Nat} {N : Path → Option Nat} {H : Path → Value} {acc : List Vrp} (h : TN w base t N H m acc) {v : Vrp} {b : Nat} (hq : N (pathV v) = some b) (hall : ∀ i, i ≤ v.p.n.toNat → ∃ b, N (pathOf v.p i) = some b) {v3 : Value}
 (hkeep : ∀ k, k < w.heap.size → k ≠ b → some k ≠ (H (pathV v)).ownBlock → w'.heap[k]? = w.heap[k]?)
 (hnode : Has w' b #[v3, pt (N (pathV v ++ [false])), pt (N (pathV v ++ [true]))] 50)
 (hR : kV.R 39 w' base (fun _ => True) v3 (hereP acc (pathV v) ++ [v])) (hat : v3.ownBlock = (H (pathV v)).ownBlock ∨ ∃ k, v3.ownBlock = some k ∧ w.heap.size ≤ k) :
 TN w' base t N (upd H (pathV v) v3) m (acc ++ [v]) := by
 have hnb : ∀ k, (∃ cs, w.heap[k]? = some (.cells cs 39 (0, 0))) → k ≠ b := fun k ⟨cs, hk⟩ e => by
  subst e
  exact Has.ne (h.node _ _ hq).2 hk (by decide) rfl
 have hno : ∀ k cs t', w.heap[k]? = some (.cells cs t' (0, 0)) → t' ≠ 39 → some k ≠ (H (pathV v)).ownBlock := fun k cs t' hk ht e => by
  obtain ⟨cells, hc⟩ := R_typed (h.row _ _ hq) e.symm
  rw [hc] at hk
  injection hk with hk
  injection hk with _ hk
  exact ht hk.symm
 have hlt : ∀ {k : Nat} {o : Obj}, w.heap[k]? = some o → k < w.heap.size := fun hk => (Array.getElem?_eq_some_iff.1 hk).1
 refine ⟨?_, h.lo, h.r0, h.r1, fun q' b' h' => ?_, fun q' b' h' => ?_, h.inj, fun q1 q2 b1 b2 k e1 e2 k1 k2 => ?_, fun u hu i hi => ?_, h.pre⟩
 ·exact (hkeep t h.root.lt (Has.ne h.root (h.node _ _ hq).2 (by decide)) (hno t _ _ h.root (by decide))).trans h.root
 ·refine ⟨(h.node q' b' h').1, ?_⟩
  by_cases e : q' = pathV v
  ·subst e
   rw [hq] at h'
   injection h' with h'
   subst h'
   rw [upd_self]
   exact hnode
  ·rw [upd_ne _ _ e]
   have hn := (h.node q' b' h').2
   exact (hkeep b' hn.lt (fun e' => e (h.inj q' (pathV v) b' h' (by rw [hq, e']))) (hno b' _ _ hn (by decide))).trans hn
 ·by_cases e : q' = pathV v
  ·subst e
   rw [upd_self]
   unfold hereP at hR ⊢
   rw [List.filter_append, List.filter_cons, if_pos (by simp)]
   exact hR
  ·rw [upd_ne _ _ e]
   have he : hereP (acc ++ [v]) q' = hereP acc q' := by
    unfold hereP
    rw [List.filter_append, List.filter_cons, if_neg (by simpa using fun e' => e e'.symm)]
    simp
   rw [he]
   refine R_own_only (h.row q' b' h') (fun k hk => ?_)
   obtain ⟨cells, hc⟩ := R_typed (h.row q' b' h') hk
   exact hkeep k (hlt hc) (hnb k ⟨cells, hc⟩) (fun e' => e (h.sep q' (pathV v) b' b k h' hq hk e'.symm))
 ·have key : ∀ q' b' k, N q' = some b' → q' ≠ pathV v → (H q').ownBlock = some k → v3.ownBlock = some k → False := by
   intro q' b' k h' e k1 k2
   rcases hat with hat | ⟨k', hk', hle⟩
   ·exact e (h.sep q' (pathV v) b' b k h' hq k1 (hat ▸ k2))
   ·rw [k2] at hk'
    injection hk' with hk'
    have := (R_base (h.row q' b' h') k1).2
    omega
  by_cases a1 : q1 = pathV v
  ·by_cases a2 : q2 = pathV v
   ·rw [a1, a2]
   ·subst a1
    rw [upd_self] at k1
    rw [upd_ne _ _ a2] at k2
    exact (key q2 b2 k e2 a2 k2 k1).elim
  ·by_cases a2 : q2 = pathV v
   ·subst a2
    rw [upd_self] at k2
    rw [upd_ne _ _ a1] at k1
    exact (key q1 b1 k e1 a1 k1 k2).elim
   ·rw [upd_ne _ _ a1] at k1
    rw [upd_ne _ _ a2] at k2
    exact h.sep q1 q2 b1 b2 k e1 e2 k1 k2
 ·rcases List.mem_append.1 hu with hu | hu
  ·exact h.mem u hu i hi
  ·rw [List.mem_singleton.1 hu] at hi ⊢
   exact hall i hi
/-- Another number at the root. -/
theorem TN.many {w : World} {base t m m' : Nat} {N : Path → Option Nat} {H : Path → Value} {acc : List Vrp} (h : TN w base t N H m acc) : TN (w.setCell ⟨t, 2, none⟩ (.int .i64 m')) base t N H m' acc :=
 ⟨by unfold Has; rw [heap_setCell_same _ _ _ _ _ _ h.root]; rfl, h.lo, h.r0, h.r1,
  fun q b hq => ⟨(h.node q b hq).1, (h.node q b hq).2.far (p := ⟨t, 2, none⟩) (Has.ne (h.node q b hq).2 (k := t) h.root (by decide)) _⟩,
  fun q b hq => R_own_only (h.row q b hq) (fun k hk => by
   obtain ⟨cells, hc⟩ := R_typed (h.row q b hq) hk
   exact heap_setCell_other _ _ _ _ (fun e => by
    have := Has.ne h.root hc (by decide)
    exact this e.symm)),
  h.inj, h.sep, h.mem, h.pre⟩
end Go.Proofs.Ytllahlgnjeeliaa.Ad
end

section
set_option linter.unusedVariables false
set_option linter.unusedSimpArgs false
namespace Go.Proofs.Ytllahlgnjeeliaa.Ad
open Go.RowKit Go.Proofs.YtllahlgnjeeliaaW.PrintWords Go.Proofs.YtllahlgnjeeliaaW.PrintLast Go.Proofs.YtllahlgnjeeliaaW.PrintMore Go.Proofs.Ytllahlgnjeeliaa.PT

def putP (acc : List Vrp) (v : Vrp) : List Vrp := if v ∈ acc then acc else acc ++ [v]
def bN (x : Bool) : Nat := if x then 1 else 0
theorem bN_lt (x : Bool) : bN x < 2 := by cases x <;> decide
theorem familyN_walk (p : Pfx) (w : World) : Calls Try.prog 34 #[.agg p.arr] w fun e w' => e = .returned (.int .i64 (bN p.v6 : Int)) ∧ Below w.heap.size w w' := by
 have := family_walk p w
 cases h : p.v6 <;> rw [h] at this <;> exact this
theorem bitN (p : Pfx) (i : Nat) : p.a.bit i = (bN (decide (p.a.bit i = 1)) : Int) := by
 rcases p.a.bit_01 i with h | h <;> rw [h] <;> rfl
theorem bitN_walk (p : Pfx) (i : Nat) (w : World) (hi : i < 128) : Calls Try.prog 35 #[.agg p.arr, .int .i64 i] w fun e w' => e = .returned (.int .i64 (bN (decide (p.a.bit i = 1)) : Int)) ∧ Below w.heap.size w w' := by
 have := bit_walk p i w hi
 rwa [bitN] at this
section
variable {w : World} {base t m : Nat} {N : Path → Option Nat} {H : Path → Value} {acc : List Vrp}
theorem TN.cellRoot (h : TN w base t N H m acc) (x : Bool) : w.cell? ⟨t, bN x, none⟩ = some (pt (N [x])) := by
 rw [h.root.c]
 cases x <;> rfl
theorem TN.cellNode (h : TN w base t N H m acc) {q : Path} {b : Nat} (hq : N q = some b) (x : Bool) : w.cell? ⟨b, 1 + bN x, none⟩ = some (pt (N (q ++ [x]))) := by
 rw [(h.node q b hq).2.c]
 cases x <;> rfl
theorem TN.cellHere (h : TN w base t N H m acc) {q : Path} {b : Nat} (hq : N q = some b) : w.cell? ⟨b, 0, none⟩ = some (H q) := by
 rw [(h.node q b hq).2.c]
 rfl
theorem TN.cellMany (h : TN w base t N H m acc) : w.cell? ⟨t, 2, none⟩ = some (.int .i64 m) := by
 rw [h.root.c]
 rfl
theorem TN.add' (h : TN w base t N H m acc) {q : Path} {b : Nat} (hq : N q = some b) (hne : q ≠ []) (x : Bool) (hx : N (q ++ [x]) = none) (hb : base ≤ w.heap.size) :
 TN ((w.alloc (.cells #[.slice none 0 0, .pointer none, .pointer none] 50)).setCell ⟨b, 1 + bN x, none⟩ (.pointer (some ⟨w.heap.size, 0, none⟩))) base t (upd N (q ++ [x]) (some w.heap.size)) (upd H (q ++ [x]) (.slice none 0 0)) m acc := h.add hq hne x hx hb
end
theorem root_any {w : World} {base t m : Nat} {N : Path → Option Nat} {H : Path → Value} {acc : List Vrp} (h : TN w base t N H m acc) (x : Bool) : ∃ b, N [x] = some b := by
 cases x
 ·exact h.r0
 ·exact h.r1
/-- What holds at the head of a round of put. -/
def PutI (w : World) (base t m : Nat) (acc : List Vrp) (v : Vrp) (g k b : Nat) (W : World) : Prop :=
 ∃ N H, TN W base t N H m acc ∧ N (pathOf v.p k) = some b ∧ (∀ i, i ≤ k → ∃ b', N (pathOf v.p i) = some b') ∧ Has W g v.arr 39 ∧ Below base w W
def PutR (w : World) (base t : Nat) (acc : List Vrp) (w' : World) : Prop := (∃ N H, TN w' base t N H acc.length acc) ∧ Below base w w'

set_option maxHeartbeats 4000000 in
set_option maxRecDepth 100000 in
theorem put_walk (base t : Nat) (N0 : Path → Option Nat) (H0 : Path → Value) (acc : List Vrp) (v : Vrp) (w : World) (hT : TN w base t N0 H0 acc.length acc) (h1 : oneB v = true) (hb : base ≤ w.heap.size) (hl : (acc.length + 1) * 48 ≤ 140737488355328) :
 Calls Try.prog 21 #[.pointer (some ⟨t, 0, none⟩), .agg v.arr] w fun e w' => e = .returned (.tuple #[]) ∧ PutR w base t (putP acc v) w' := by
 have hr : rightB v.p = true := by unfold oneB at h1; simp only [Bool.and_eq_true] at h1; exact h1.1.1
 obtain ⟨n, hn⟩ := Int.eq_ofNat_of_zero_le (right_iff.1 hr).1
 have hn128 : n ≤ 128 := by have := (right_iff.1 hr).2.1; have := mostP_b v.p.v6; omega
 obtain ⟨b0, hb0⟩ := root_any hT v.p.v6
 have hV0 := HB.new w v.arr 39
 have hT0 := hT.below ((Below.refl w.heap.size w).alloc (Nat.le_refl _) (.cells v.arr 39))
 have HN := Lib.hid (And.intro hn (And.intro hb0 (And.intro hb hT)))
 clear hr hn hb0 hT
 go_enter Try.func21, Try.ntmps21
 go_upto_region 1 with (fail)
 generalize w.alloc (.cells v.arr 39) = W at hV0 hT0 ⊢
 obtain ⟨f, hf⟩ : ∃ f, f = bN v.p.v6 := ⟨_, rfl⟩
 have hcr := hT0.cellRoot v.p.v6
 rw [HN.out.2.1, ← hf] at hcr
 have hcr' : W.drew.cell? ⟨t, f, none⟩ = some (.pointer (some ⟨b0, 0, none⟩)) := hcr
 have hfam : ∀ W, Calls Try.prog 34 #[.agg v.p.arr] W fun e w' => e = .returned (.int .i64 (f : Int)) ∧ Below W.heap.size W w' := fun W => by rw [hf]; exact familyN_walk v.p W
 have hf2 := eq_true (show (f : Int) < 2 by have := bN_lt v.p.v6; omega)
 have HF := Lib.hid hf
 have hV1 := hV0.drew
 have htl : t < W.heap.size := hT0.root.lt
 have HT := Lib.hid hT0
 clear hf hcr hV0 hT0
 have hB1 : Below W.heap.size W W.drew := (Below.refl _ _).drew
 refine start_ (n := 9) (S := fun W' => W'.cell? ⟨t, f, none⟩ = some (.pointer (some ⟨b0, 0, none⟩)) ∧ HB w w.heap.size w.heap.size v.arr 39 W' ∧ Below W.heap.size W W') (ds := []) #[false, false, false, false, false, false, false, false, false] (by kernel_rfl) rfl rfl ⟨hcr', hV1, hB1⟩ (fun hHeld => ?_)
 refine pure_ (i := 0) (N := some 7) (v := ?_) (a' := ?_) #[true, false, false, false, false, false, false, false, false] rfl rfl (by kernel_rfl) (fun _ _ _ h => h) (Or.inl ⟨by rfl, ?_⟩) ?_ ?_
 rotate_left
 ·intro w'
  go_simp
  with_reducible rfl
 rotate_left
 ·simp only [Act.put, List.setIfInBounds_toArray, List.set_cons_zero, List.set_cons_succ, i64_w, i32_w]
  rfl
 refine pure_ (i := 1) (N := some 8) (v := ?_) (a' := ?_) #[true, true, false, false, false, false, false, false, false] rfl rfl (by kernel_rfl) (fun _ _ _ h => h) (Or.inl ⟨by rfl, ?_⟩) ?_ ?_
 rotate_left
 ·intro w'
  go_simp
  with_reducible rfl
 rotate_left
 ·simp only [Act.put, List.setIfInBounds_toArray, List.set_cons_zero, List.set_cons_succ, i64_w, i32_w]
  rfl
 refine take_ (i := 2) (N := some 9) (v := .agg v.p.arr) (a' := ?_) #[true, true, true, false, false, false, false, false, false] rfl rfl (by kernel_rfl) (fun _ _ _ h => h) ?_ hHeld ?_ ?_
 ·exact yP (by rfl) rfl v.p w.heap.size 1 rfl (fun W h => rp_of_v h.2.1.1.rv)
 rotate_left
 ·simp only [Act.put, List.setIfInBounds_toArray, List.set_cons_zero, List.set_cons_succ, i64_w, i32_w]
  rfl
 refine pure_ (i := 4) (N := some 11) (v := ?_) (a' := ?_) #[true, true, true, false, true, false, false, false, false] rfl rfl (by kernel_rfl) (fun _ _ _ h => h) (Or.inl ⟨by rfl, ?_⟩) ?_ ?_
 rotate_left
 ·intro w'
  go_simp
  with_reducible rfl
 rotate_left
 ·simp only [Act.put, List.setIfInBounds_toArray, List.set_cons_zero, List.set_cons_succ, i64_w, i32_w]
  rfl
 refine pure_ (i := 5) (N := some 12) (v := ?_) (a' := ?_) #[true, true, true, false, true, true, false, false, false] rfl rfl (by kernel_rfl) (fun _ _ _ h => h) (Or.inl ⟨by rfl, ?_⟩) ?_ ?_
 rotate_left
 ·intro w'
  go_simp
  with_reducible rfl
 rotate_left
 ·simp only [Act.put, List.setIfInBounds_toArray, List.set_cons_zero, List.set_cons_succ, i64_w, i32_w]
  rfl
 refine one_ (i := 3) (N := some 10) #[true, true, true, true, true, true, false, false, false] rfl rfl (by kernel_rfl) (by decide) (fun K hK => ?_)
 refine goes_ Try.func34 (by kernel_rfl) rfl #[.agg v.p.arr] (by rfl) rfl rfl (by (try simp only [List.map_toArray, List.map_cons, List.map_nil]); first | done | rfl) ?_
 refine (hfam _).mono ?_
 rintro e w1 ⟨rfl, hB⟩
 refine ⟨_, rfl, ?_⟩
 refine hK.out _ _ ⟨(hB.cell (p := ⟨t, f, none⟩) (Nat.lt_of_lt_of_le htl hHeld.2.2.size)).trans hHeld.1, hHeld.2.1.step hB (Nat.le_refl _), hHeld.2.2.trans (hB.mono hHeld.2.2.size)⟩ (fun hHeld => ?_)
 clear hK K
 refine norm_ (a' := ?_) ?_ ?_
 rotate_left
 ·show Act.put _ (some 10) _ = _
  simp only [Act.put, List.setIfInBounds_toArray, List.set_cons_zero, List.set_cons_succ, i64_w, i32_w]
  rfl
 refine pure_ (i := 6) (N := some 13) (v := ?_) (a' := ?_) #[true, true, true, true, true, true, true, false, false] rfl rfl (by kernel_rfl) (fun _ _ _ h => h) (Or.inl ⟨by rfl, ?_⟩) ?_ ?_
 rotate_left
 ·intro w'
  go_simp
  with_reducible rfl
 rotate_left
 ·simp only [Act.put, List.setIfInBounds_toArray, List.set_cons_zero, List.set_cons_succ, i64_w, i32_w]
  rfl
 refine take_ (i := 7) (N := some 14) (v := ?_) (a' := ?_) #[true, true, true, true, true, true, true, true, false] rfl rfl (by kernel_rfl) (fun _ _ _ h => h) (Or.inl ⟨by rfl, ?_⟩) hHeld ?_ ?_
 rotate_left
 ·rintro w' ⟨s0, s1⟩
  go_simp
  with_reducible rfl
 rotate_left
 ·simp only [Act.put, List.setIfInBounds_toArray, List.set_cons_zero, List.set_cons_succ, i64_w, i32_w]
  rfl
 refine pure_ (i := 8) (N := some 4) (v := ?_) (a' := ?_) #[true, true, true, true, true, true, true, true, true] rfl rfl (by kernel_rfl) (fun _ _ _ h => h) (Or.inl ⟨by rfl, ?_⟩) ?_ ?_
 rotate_left
 ·intro w'
  go_simp
  with_reducible rfl
 rotate_left
 ·simp only [Act.put, List.setIfInBounds_toArray, List.set_cons_zero, List.set_cons_succ, i64_w, i32_w]
  rfl
 refine done_ (by kernel_rfl) ?_
 have HT1 := Lib.hid (HT.out.below hHeld.2.2)
 have HV := Lib.hid hHeld.2.1
 clear hHeld hcr' hV1 hB1 hfam hf2 htl HT
 have cn := rp_n (rp_of_v HV.out.1.rv)
 rw [show 0 + 1 + 17 = 18 from rfl, HN.out.1] at cn
 go_wp2
 clear cn
 go_loopw [4, 18] (fun bv iv wr => ∃ k b : Nat, k ≤ n ∧ iv = .int .i64 k ∧ bv = .pointer (some ⟨b, 0, none⟩) ∧ Hid (PutI w base t acc.length acc v w.heap.size k b wr)) (fun _ iv _ => n - (intOf iv).toNat)
 case atStart => exact ⟨0, b0, Nat.zero_le _, rfl, rfl, Lib.hid ⟨N0, H0, HT1.out, by simpa [pathOf] using HN.out.2.1, fun i hi => ⟨b0, by rw [show i = 0 by omega]; simpa [pathOf] using HN.out.2.1⟩, HV.out.1, HV.out.2.mono HN.out.2.2.1⟩⟩
 case round =>
  obtain ⟨k, b, hk, rfl, rfl, HI⟩ := hrel
  by_cases hlt : k < n
  ·have hd1 := eq_true (show (k : Int) < (n : Int) by omega)
   have hd2 : decide ((k : Int) < (n : Int)) = true := decide_eq_true (by omega)
   have hd3 : decide (k < n) = true := decide_eq_true hlt
   go_wp2
   obtain ⟨N, H, hT, hq, hpre, hV, hBw⟩ := HI.out
   obtain ⟨x, hx⟩ : ∃ x, x = decide (v.p.a.bit k = 1) := ⟨_, rfl⟩
   obtain ⟨f2, hf⟩ : ∃ f2, f2 = bN x := ⟨_, rfl⟩
   have hbit : ∀ W, Calls Try.prog 35 #[.agg v.p.arr, .int .i64 k] W fun e w' => e = .returned (.int .i64 (f2 : Int)) ∧ Below W.heap.size W w' := fun W => by rw [hf, hx]; exact bitN_walk v.p k W (by omega)
   have hf2 := eq_true (show (f2 : Int) < 2 by rw [hf]; have := bN_lt x; omega)
   have hV1 : Has wr.drew w.heap.size v.arr 39 := hV
   have hB1 : Below wr.heap.size wr wr.drew := (Below.refl _ _).drew
   have HX := Lib.hid (And.intro hx hf)
   clear hx hf
   refine start_ (n := 9) (S := fun W' => Has W' w.heap.size v.arr 39 ∧ Below wr.heap.size wr W') (ds := []) #[false, false, false, false, false, false, false, false, false] (by kernel_rfl) rfl rfl ⟨hV1, hB1⟩ (fun hHeld => ?_)
   refine pure_ (i := 0) (N := some 21) (v := ?_) (a' := ?_) #[true, false, false, false, false, false, false, false, false] rfl rfl (by kernel_rfl) (fun _ _ _ h => h) (Or.inl ⟨by rfl, ?_⟩) ?_ ?_
   rotate_left
   ·intro w'
    go_simp
    with_reducible rfl
   rotate_left
   ·simp only [Act.put, List.setIfInBounds_toArray, List.set_cons_zero, List.set_cons_succ, i64_w, i32_w]
    rfl
   refine pure_ (i := 1) (N := some 22) (v := ?_) (a' := ?_) #[true, true, false, false, false, false, false, false, false] rfl rfl (by kernel_rfl) (fun _ _ _ h => h) (Or.inl ⟨by rfl, ?_⟩) ?_ ?_
   rotate_left
   ·intro w'
    go_simp
    with_reducible rfl
   rotate_left
   ·simp only [Act.put, List.setIfInBounds_toArray, List.set_cons_zero, List.set_cons_succ, i64_w, i32_w]
    rfl
   refine pure_ (i := 3) (N := some 24) (v := ?_) (a' := ?_) #[true, true, false, true, false, false, false, false, false] rfl rfl (by kernel_rfl) (fun _ _ _ h => h) (Or.inl ⟨by rfl, ?_⟩) ?_ ?_
   rotate_left
   ·intro w'
    go_simp
    with_reducible rfl
   rotate_left
   ·simp only [Act.put, List.setIfInBounds_toArray, List.set_cons_zero, List.set_cons_succ, i64_w, i32_w]
    rfl
   refine take_ (i := 2) (N := some 23) (v := .agg v.p.arr) (a' := ?_) #[true, true, true, true, false, false, false, false, false] rfl rfl (by kernel_rfl) (fun _ _ _ h => h) ?_ hHeld ?_ ?_
   ·exact yP (by rfl) rfl v.p w.heap.size 1 rfl (fun W h => rp_of_v h.1.rv)
   rotate_left
   ·simp only [Act.put, List.setIfInBounds_toArray, List.set_cons_zero, List.set_cons_succ, i64_w, i32_w]
    rfl
   refine pure_ (i := 5) (N := some 26) (v := ?_) (a' := ?_) #[true, true, true, true, false, true, false, false, false] rfl rfl (by kernel_rfl) (fun _ _ _ h => h) (Or.inl ⟨by rfl, ?_⟩) ?_ ?_
   rotate_left
   ·intro w'
    go_simp
    with_reducible rfl
   rotate_left
   ·simp only [Act.put, List.setIfInBounds_toArray, List.set_cons_zero, List.set_cons_succ, i64_w, i32_w]
    rfl
   refine pure_ (i := 6) (N := some 27) (v := ?_) (a' := ?_) #[true, true, true, true, false, true, true, false, false] rfl rfl (by kernel_rfl) (fun _ _ _ h => h) (Or.inl ⟨by rfl, ?_⟩) ?_ ?_
   rotate_left
   ·intro w'
    go_simp
    with_reducible rfl
   rotate_left
   ·simp only [Act.put, List.setIfInBounds_toArray, List.set_cons_zero, List.set_cons_succ, i64_w, i32_w]
    rfl
   refine one_ (i := 4) (N := some 25) #[true, true, true, true, true, true, true, false, false] rfl rfl (by kernel_rfl) (by decide) (fun K hK => ?_)
   refine goes_ Try.func35 (by kernel_rfl) rfl #[.agg v.p.arr, .int .i64 k] (by rfl) rfl rfl (by (try simp only [List.map_toArray, List.map_cons, List.map_nil]); first | done | rfl) ?_
   refine (hbit _).mono ?_
   rintro e w1 ⟨rfl, hB⟩
   refine ⟨_, rfl, ?_⟩
   refine hK.out _ _ ⟨hHeld.1.below hB, hHeld.2.trans (hB.mono hHeld.2.size)⟩ (fun hHeld => ?_)
   clear hK K
   refine norm_ (a' := ?_) ?_ ?_
   rotate_left
   ·show Act.put _ (some 25) _ = _
    simp only [Act.put, List.setIfInBounds_toArray, List.set_cons_zero, List.set_cons_succ, i64_w, i32_w]
    rfl
   refine pure_ (i := 7) (N := some 28) (v := ?_) (a' := ?_) #[true, true, true, true, true, true, true, true, false] rfl rfl (by kernel_rfl) (fun _ _ _ h => h) (Or.inl ⟨by rfl, ?_⟩) ?_ ?_
   rotate_left
   ·intro w'
    go_simp
    with_reducible rfl
   rotate_left
   ·simp only [Act.put, List.setIfInBounds_toArray, List.set_cons_zero, List.set_cons_succ, i64_w, i32_w]
    rfl
   refine pure_ (i := 8) (N := some 6) (v := ?_) (a' := ?_) #[true, true, true, true, true, true, true, true, true] rfl rfl (by kernel_rfl) (fun _ _ _ h => h) (Or.inl ⟨by rfl, ?_⟩) ?_ ?_
   rotate_left
   ·intro w'
    go_simp
    with_reducible rfl
   rotate_left
   ·simp only [Act.put, List.setIfInBounds_toArray, List.set_cons_zero, List.set_cons_succ, i64_w, i32_w]
    rfl
   refine done_ (by kernel_rfl) ?_
   have HW := Lib.hid hHeld
   clear hHeld hV1 hB1 hbit
   have HT2 := Lib.hid (hT.below HW.out.2)
   have HQ := Lib.hid (And.intro hq (And.intro hpre (hBw.trans (HW.out.2.mono (Nat.le_trans HN.out.2.2.1 hBw.size)))))
   clear hT hq hpre hV hBw HI
   have hcn := HT2.out.cellNode HQ.out.1 x
   rw [← HX.out.2] at hcn
   have hfn := (HT2.out.node _ _ HQ.out.1).2.f (1 + f2)
   have hbl := (HT2.out.node _ _ HQ.out.1).2.lt
   cases hN : N (pathOf v.p k ++ [x]) with
   | none =>
    rw [hN] at hcn
    have hcn' : w1.cell? ⟨b, 1 + f2, none⟩ = some (.pointer none) := hcn
    have HNN := Lib.hid hN
    clear hN hcn
    have HA := Lib.hid (HT2.out.add' HQ.out.1 (by simp [pathOf]) x HNN.out (Nat.le_trans HN.out.2.2.1 HQ.out.2.2.size))
    have HE := Lib.hid (World.setCell_alloc_past (w := w1) (.cells #[.slice none 0 0, .pointer none, .pointer none] 50) b (1 + f2) (.pointer (some ⟨w1.heap.size, 0, none⟩)) hbl)
    go_wp2
    go_roundw
    case rel =>
     refine ⟨k + 1, w1.heap.size, by omega, by go_num, rfl, Lib.hid ?_⟩
     rw [← HE.out]
     refine ⟨_, _, by rw [HX.out.2]; exact HA.out, ?_, fun i hi => ?_, ?_, ?_⟩
     ·rw [pathOf_succ, ← HX.out.1, upd_self]
     ·by_cases hik : i = k + 1
      ·subst hik
       exact ⟨w1.heap.size, by rw [pathOf_succ, ← HX.out.1, upd_self]⟩
      ·obtain ⟨b'', hb''⟩ := HQ.out.2.1 i (by omega)
       refine ⟨b'', ?_⟩
       rw [upd_ne _ _ (fun e => by rw [e, HNN.out] at hb''; cases hb'')]
       exact hb''
     ·have hbv := Has.ne HW.out.1 ((HT2.out.node _ _ HQ.out.1).2) (by decide)
      exact (HW.out.1.alloc _).far (p := ⟨b, 1 + f2, none⟩) hbv _
     ·exact Below.setCell (HQ.out.2.2.alloc (Nat.le_trans HN.out.2.2.1 HQ.out.2.2.size) _) (p := ⟨b, 1 + f2, none⟩) (HT2.out.node _ _ HQ.out.1).1 _
    case measure => simp [intOf]; omega
   | some b' =>
    rw [hN] at hcn
    have hcn' : w1.cell? ⟨b, 1 + f2, none⟩ = some (.pointer (some ⟨b', 0, none⟩)) := hcn
    have HNN := Lib.hid hN
    clear hN hcn
    go_wp2
    go_roundw
    case rel =>
     refine ⟨k + 1, b', by omega, by go_num, rfl, Lib.hid ⟨N, H, HT2.out, ?_, fun i hi => ?_, HW.out.1, HQ.out.2.2⟩⟩
     ·rw [pathOf_succ, ← HX.out.1]; exact HNN.out
     ·by_cases hik : i = k + 1
      ·subst hik
       exact ⟨b', by rw [pathOf_succ, ← HX.out.1]; exact HNN.out⟩
      ·exact HQ.out.2.1 i (by omega)
    case measure => simp [intOf]; omega
  ·have hkn : k = n := by omega
   subst hkn
   have hd1 := eq_false (show ¬ (k : Int) < (k : Int) by omega)
   have hd2 : decide ((k : Int) < (k : Int)) = false := decide_eq_false (by omega)
   have hd3 : decide (k < k) = false := decide_eq_false (by omega)
   obtain ⟨N, H, hT, hq, hpre, hV, hBw⟩ := HI.out
   have hkn : v.p.n.toNat = k := by rw [HN.out.1]; rfl
   have HK := Lib.hid hkn
   have hq' : N (pathV v) = some b := by unfold pathV; rw [hkn]; exact hq
   have hrow := hT.row _ _ hq'
   obtain ⟨Ah, ch, hH, hch, hCh⟩ := Kd.R_reads hrow
   have hc0 := hT.cellHere hq'
   rw [hH] at hc0
   have HQ := Lib.hid (And.intro hT (And.intro hq' (And.intro hV (And.intro hBw (And.intro hrow (And.intro hH (And.intro hCh hpre)))))))
   have hlen : (hereP acc (pathV v)).length ≤ acc.length := List.length_filter_le _ _
   have hmem : (v ∈ hereP acc (pathV v)) ↔ v ∈ acc := by unfold hereP; simp
   generalize hhere : hereP acc (pathV v) = here at HQ hc0 hlen hmem
   have HHE := Lib.hid hhere
   clear hhere
   have HM := Lib.hid hmem
   obtain ⟨z, hz⟩ : ∃ z, z = decide (v ∈ here) := ⟨_, rfl⟩
   have HZ := Lib.hid hz
   have hcon : ∀ W, Below wr.heap.size wr W → Calls Try.prog 36 #[.slice Ah here.length ch, .agg v.arr] W fun e w' => e = .returned (.bool z) ∧ Below W.heap.size W w' := fun W hB => by rw [HZ.out]; exact contains_walk Ah ch here v W (Kd.C_below HQ.out.2.2.2.2.2.2.1 hB) (by omega)
   have hV1 : Has wr.drew w.heap.size v.arr 39 := hV
   have hc0' : wr.drew.cell? ⟨b, 0, none⟩ = some (.slice Ah here.length ch) := hc0
   have hB1 : Below wr.heap.size wr wr.drew := (Below.refl _ _).drew
   have hbl := (hT.node _ _ hq').2.lt
   clear hT hq hq' hpre hV hBw HI hrow hH hch hCh hc0 hmem hz hkn
   go_wp2
   refine start_ (n := 6) (S := fun W' => W'.cell? ⟨b, 0, none⟩ = some (.slice Ah here.length ch) ∧ Has W' w.heap.size v.arr 39 ∧ Below wr.heap.size wr W') (ds := []) #[false, false, false, false, false, false] (by kernel_rfl) rfl rfl ⟨hc0', hV1, hB1⟩ (fun hHeld => ?_)
   refine pure_ (i := 0) (N := some 41) (v := ?_) (a' := ?_) #[true, false, false, false, false, false] rfl rfl (by kernel_rfl) (fun _ _ _ h => h) (Or.inl ⟨by rfl, ?_⟩) ?_ ?_
   rotate_left
   ·intro w'
    go_simp
    with_reducible rfl
   rotate_left
   ·simp only [Act.put, List.setIfInBounds_toArray, List.set_cons_zero, List.set_cons_succ, i64_w, i32_w]
    rfl
   refine pure_ (i := 1) (N := some 42) (v := ?_) (a' := ?_) #[true, true, false, false, false, false] rfl rfl (by kernel_rfl) (fun _ _ _ h => h) (Or.inl ⟨by rfl, ?_⟩) ?_ ?_
   rotate_left
   ·intro w'
    go_simp
    with_reducible rfl
   rotate_left
   ·simp only [Act.put, List.setIfInBounds_toArray, List.set_cons_zero, List.set_cons_succ, i64_w, i32_w]
    rfl
   refine pure_ (i := 2) (N := some 43) (v := ?_) (a' := ?_) #[true, true, true, false, false, false] rfl rfl (by kernel_rfl) (fun _ _ _ h => h) (Or.inl ⟨by rfl, ?_⟩) ?_ ?_
   rotate_left
   ·intro w'
    go_simp
    with_reducible rfl
   rotate_left
   ·simp only [Act.put, List.setIfInBounds_toArray, List.set_cons_zero, List.set_cons_succ, i64_w, i32_w]
    rfl
   refine take_ (i := 3) (N := some 44) (v := ?_) (a' := ?_) #[true, true, true, true, false, false] rfl rfl (by kernel_rfl) (fun _ _ _ h => h) (Or.inl ⟨by rfl, ?_⟩) hHeld ?_ ?_
   rotate_left
   ·rintro w' ⟨s0, s1⟩
    go_simp
    with_reducible rfl
   rotate_left
   ·simp only [Act.put, List.setIfInBounds_toArray, List.set_cons_zero, List.set_cons_succ, i64_w, i32_w]
    rfl
   refine take_ (i := 4) (N := some 45) (v := .agg v.arr) (a' := ?_) #[true, true, true, true, true, false] rfl rfl (by kernel_rfl) (fun _ _ _ h => h) ?_ hHeld ?_ ?_
   ·exact yV (by rfl) rfl v w.heap.size 0 rfl (fun W h => h.2.1.rv)
   rotate_left
   ·simp only [Act.put, List.setIfInBounds_toArray, List.set_cons_zero, List.set_cons_succ, i64_w, i32_w]
    rfl
   refine one_ (i := 5) (N := some 46) #[true, true, true, true, true, true] rfl rfl (by kernel_rfl) (by decide) (fun K hK => ?_)
   refine goes_ Try.func36 (by kernel_rfl) rfl #[.slice Ah here.length ch, .agg v.arr] (by rfl) rfl rfl (by (try simp only [List.map_toArray, List.map_cons, List.map_nil]); first | done | rfl) ?_
   refine (hcon _ hHeld.2.2).mono ?_
   rintro e w1 ⟨rfl, hB⟩
   refine ⟨_, rfl, ?_⟩
   refine hK.out _ _ ⟨(hB.cell (p := ⟨b, 0, none⟩) (Nat.lt_of_lt_of_le hbl hHeld.2.2.size)).trans hHeld.1, hHeld.2.1.below hB, hHeld.2.2.trans (hB.mono hHeld.2.2.size)⟩ (fun hHeld => ?_)
   clear hK K
   refine norm_ (a' := ?_) ?_ ?_
   rotate_left
   ·show Act.put _ (some 46) _ = _
    simp only [Act.put, List.setIfInBounds_toArray, List.set_cons_zero, List.set_cons_succ, i64_w, i32_w]
    rfl
   refine done_ (by kernel_rfl) ?_
   have HW := Lib.hid (And.intro hHeld.2.1 hHeld.2.2)
   clear hHeld hcon hV1 hc0' hB1
   cases z
   ·have hni : v ∉ acc := fun h => by have := of_decide_eq_false HZ.out.symm; exact this (HM.out.2 h)
    have hput : putP acc v = acc ++ [v] := by unfold putP; rw [if_neg hni]
    have HP := Lib.hid hput
    clear hput hni
    go_wp2
    have hT2 := HQ.out.1.below HW.out.2
    have hc0 : w1.drew.cell? ⟨b, 0, none⟩ = some (.slice Ah here.length ch) := by have := hT2.cellHere HQ.out.2.1; rw [HQ.out.2.2.2.2.2.1] at this; exact this
    have hV1 : Has w1.drew w.heap.size v.arr 39 := HW.out.1
    have hB1 : Below w1.heap.size w1 w1.drew := (Below.refl _ _).drew
    have HT2 := Lib.hid hT2
    clear hT2
    have HB1 := Lib.hid (HQ.out.2.2.2.1.trans (HW.out.2.mono (Nat.le_trans HN.out.2.2.1 HQ.out.2.2.2.1.size)))
    refine start_ (n := 11) (S := fun W' => W'.cell? ⟨b, 0, none⟩ = some (.slice Ah here.length ch) ∧ Has W' w.heap.size v.arr 39 ∧ Below w1.heap.size w1 W') (ds := [7, 10]) #[false, false, false, false, false, false, false, false, false, false, false] (by kernel_rfl) rfl rfl ⟨hc0, hV1, hB1⟩ (fun hHeld => ?_)
    refine pure_ (i := 0) (N := some 47) (v := ?_) (a' := ?_) #[true, false, false, false, false, false, false, false, false, false, false] rfl rfl (by kernel_rfl) (fun _ _ _ h => h) (Or.inl ⟨by rfl, ?_⟩) ?_ ?_
    rotate_left
    ·intro w'
     go_simp
     with_reducible rfl
    rotate_left
    ·simp only [Act.put, List.setIfInBounds_toArray, List.set_cons_zero, List.set_cons_succ, i64_w, i32_w]
     rfl
    refine pure_ (i := 1) (N := some 48) (v := ?_) (a' := ?_) #[true, true, false, false, false, false, false, false, false, false, false] rfl rfl (by kernel_rfl) (fun _ _ _ h => h) (Or.inl ⟨by rfl, ?_⟩) ?_ ?_
    rotate_left
    ·intro w'
     go_simp
     with_reducible rfl
    rotate_left
    ·simp only [Act.put, List.setIfInBounds_toArray, List.set_cons_zero, List.set_cons_succ, i64_w, i32_w]
     rfl
    refine pure_ (i := 2) (N := some 49) (v := ?_) (a' := ?_) #[true, true, true, false, false, false, false, false, false, false, false] rfl rfl (by kernel_rfl) (fun _ _ _ h => h) (Or.inl ⟨by rfl, ?_⟩) ?_ ?_
    rotate_left
    ·intro w'
     go_simp
     with_reducible rfl
    rotate_left
    ·simp only [Act.put, List.setIfInBounds_toArray, List.set_cons_zero, List.set_cons_succ, i64_w, i32_w]
     rfl
    refine pure_ (i := 3) (N := some 50) (v := ?_) (a' := ?_) #[true, true, true, true, false, false, false, false, false, false, false] rfl rfl (by kernel_rfl) (fun _ _ _ h => h) (Or.inl ⟨by rfl, ?_⟩) ?_ ?_
    rotate_left
    ·intro w'
     go_simp
     with_reducible rfl
    rotate_left
    ·simp only [Act.put, List.setIfInBounds_toArray, List.set_cons_zero, List.set_cons_succ, i64_w, i32_w]
     rfl
    refine take_ (i := 4) (N := some 51) (v := ?_) (a' := ?_) #[true, true, true, true, true, false, false, false, false, false, false] rfl rfl (by kernel_rfl) (fun _ _ _ h => h) (Or.inl ⟨by rfl, ?_⟩) hHeld ?_ ?_
    rotate_left
    ·rintro w' ⟨s0, s1⟩
     go_simp
     with_reducible rfl
    rotate_left
    ·simp only [Act.put, List.setIfInBounds_toArray, List.set_cons_zero, List.set_cons_succ, i64_w, i32_w]
     rfl
    refine take_ (i := 5) (N := some 52) (v := .agg v.arr) (a' := ?_) #[true, true, true, true, true, true, false, false, false, false, false] rfl rfl (by kernel_rfl) (fun _ _ _ h => h) ?_ hHeld ?_ ?_
    ·exact yV (by rfl) rfl v w.heap.size 0 rfl (fun W h => h.2.1.rv)
    rotate_left
    ·simp only [Act.put, List.setIfInBounds_toArray, List.set_cons_zero, List.set_cons_succ, i64_w, i32_w]
     rfl
    generalize w1.drew = wz at hHeld ⊢
    refine one_ (i := 6) (N := some 53) #[true, true, true, true, true, true, true, false, false, false, false] rfl rfl (by kernel_rfl) (by decide) (fun K hK => ?_)
    refine event_step (by rfl) (v := .slice (some ⟨wz.heap.size, 0, none⟩) 1 1) (w1 := wz.alloc (.cells v.arr 39)) (exec_buildV v rfl _) ?_
    refine hK.out _ _ ⟨((show Below wz.heap.size wz (wz.alloc (.cells v.arr 39)) from (Below.refl _ _).alloc (Nat.le_refl _) _).cell (p := ⟨b, 0, none⟩) (block_lt_of_cell hHeld.1)).trans hHeld.1, hHeld.2.1.alloc _, hHeld.2.2.alloc hHeld.2.2.size _⟩ (fun hHeld => ?_)
    clear hK K
    refine norm_ (a' := ?_) ?_ ?_
    rotate_left
    ·show Act.put _ (some 53) _ = _
     simp only [Act.put, List.setIfInBounds_toArray, List.set_cons_zero, List.set_cons_succ, i64_w, i32_w]
     rfl
    have hrowW := Kd.R_below HQ.out.2.2.2.2.1 (HW.out.2.trans (hHeld.2.2.mono HW.out.2.size))
    rw [HQ.out.2.2.2.2.2.1] at hrowW
    have hBW := HB1.out.trans (hHeld.2.2.mono (Nat.le_trans HN.out.2.2.1 HB1.out.size))
    have hnodeW := (HT2.out.node _ _ HQ.out.2.1).2.below (W1 := wz.alloc (.cells v.arr 39)) hHeld.2.2
    have hnb : some b ≠ (Value.slice Ah here.length ch).ownBlock := fun e => by
     obtain ⟨cells, hc⟩ := R_typed hrowW e.symm
     exact Has.ne hnodeW hc (by decide) rfl
    refine last_ (i := 7) (N := some 54) #[true, true, true, true, true, true, true, true, false, false, false] rfl rfl (by kernel_rfl) (by decide) (fun K hK => ?_)
    refine appRows (w0 := w) base (by rfl) (.tmp 51) (.tmp 53) rfl (.slice Ah here.length ch) here [v] (some ⟨wz.heap.size, 0, none⟩) 1 1 rfl rfl hrowW (C_one (Has.new wz v.arr _)) hBW (Nat.le_trans HN.out.2.2.1 hBW.size) (by omega) ?_
    intro v3 w3 hR3 hB3 hg3 hat3
    obtain ⟨A3, c3, e3⟩ := Kd.R_slice hR3
    subst e3
    have hn3 : Has w3 b _ _ := (hg3.block _ hnodeW.lt hnb).trans hnodeW
    have hcb := (hn3.c 0)
    have hfb := hn3.f 0
    rw [HQ.out.2.2.2.2.2.1] at hcb
    have hcb : w3.cell? ⟨b, 0, none⟩ = some (.slice Ah here.length ch) := hcb
    have HG3 : Hid ((∀ k', k' < w1.heap.size → some k' ≠ (Value.slice Ah here.length ch).ownBlock → w3.heap[k']? = w1.heap[k']?) ∧ Has w3 b #[H (pathV v), pt (N (pathV v ++ [false])), pt (N (pathV v ++ [true]))] 50 ∧ kV.R 39 w3 base (fun _ => True) (.slice A3 (here ++ [v]).length c3) (here ++ [v]) ∧ ((Value.slice A3 (here ++ [v]).length c3).ownBlock = (Value.slice Ah here.length ch).ownBlock ∨ ∃ k', (Value.slice A3 (here ++ [v]).length c3).ownBlock = some k' ∧ w1.heap.size ≤ k') ∧ Below base w w3) := Lib.hid ⟨fun k' hk' ho => (hg3.block k' (Nat.lt_of_lt_of_le hk' hHeld.2.2.size) ho).trans (hHeld.2.2.block k' hk'), hn3, hR3, hat3.imp_right (fun ⟨k', e, hle⟩ => ⟨k', e, Nat.le_trans hHeld.2.2.size hle⟩), hB3⟩
    clear hR3 hB3 hg3 hat3 hn3 hrowW hBW hnodeW hnb hHeld
    refine hK.out _ _ ?_
    clear hK K
    refine norm_ (a' := ?_) ?_ ?_
    rotate_left
    ·show Act.put _ (some 54) _ = _
     simp only [Act.put, List.setIfInBounds_toArray, List.set_cons_zero, List.set_cons_succ, i64_w, i32_w]
     rfl
    refine pure_ (i := 8) (N := some 55) (v := ?_) (a' := ?_) #[true, true, true, true, true, true, true, true, true, false, false] rfl rfl (by kernel_rfl) (fun _ _ _ h => h) (Or.inl ⟨by rfl, ?_⟩) ?_ ?_
    rotate_left
    ·intro w'
     go_simp
     with_reducible rfl
    rotate_left
    ·simp only [Act.put, List.setIfInBounds_toArray, List.set_cons_zero, List.set_cons_succ, i64_w, i32_w]
     rfl
    refine pure_ (i := 9) (N := some 56) (v := ?_) (a' := ?_) #[true, true, true, true, true, true, true, true, true, true, false] rfl rfl (by kernel_rfl) (fun _ _ _ h => h) (Or.inl ⟨by rfl, ?_⟩) ?_ ?_
    rotate_left
    ·intro w'
     go_simp
     with_reducible rfl
    rotate_left
    ·simp only [Act.put, List.setIfInBounds_toArray, List.set_cons_zero, List.set_cons_succ, i64_w, i32_w]
     rfl
    refine last_ (i := 10) (N := none) #[true, true, true, true, true, true, true, true, true, true, true] rfl rfl (by kernel_rfl) (by decide) (fun K hK => ?_)
    refine skip_step (by rfl) (w1 := w3.setCell ⟨b, 0, none⟩ (.slice A3 (here ++ [v]).length c3)) (by go_simp; try rfl) ?_
    refine hK.out _ _ ?_
    clear hK K
    refine norm_ (a' := ?_) ?_ ?_
    rotate_left
    ·show Act.put _ none _ = _
     simp only [Act.put]
     rfl
    refine done_ (by kernel_rfl) ?_
    have hT4 := HT2.out.app HQ.out.2.1 (fun i hi => HQ.out.2.2.2.2.2.2.2 i (by rw [HK.out] at hi; exact hi)) (w' := w3.setCell ⟨b, 0, none⟩ (.slice A3 (here ++ [v]).length c3)) (v3 := .slice A3 (here ++ [v]).length c3)
     (fun k' hk' hkb hko => by
      rw [heap_setCell_other _ _ _ _ hkb]
      exact (HG3.out.1 k' hk' (by rw [← HQ.out.2.2.2.2.2.1]; exact hko)))
     (by unfold Has; rw [heap_setCell_same _ _ _ _ _ _ HG3.out.2.1]; rfl)
     (by rw [HHE.out]; exact R_own_only HG3.out.2.2.1 (fun k' hk' => by
      obtain ⟨cells, hc⟩ := R_typed HG3.out.2.2.1 hk'
      exact heap_setCell_other _ _ _ _ (fun e => by
       have := Has.ne (HG3.out.2.1) hc (by decide)
       exact this e.symm)))
     (by rw [HQ.out.2.2.2.2.2.1]; exact HG3.out.2.2.2.1)
    have HB4 := Lib.hid (Below.setCell HG3.out.2.2.2.2 (p := ⟨b, 0, none⟩) (HT2.out.node _ _ HQ.out.2.1).1 (.slice A3 (here ++ [v]).length c3))
    clear hcb hfb HG3
    generalize w3.setCell ⟨b, 0, none⟩ (.slice A3 (here ++ [v]).length c3) = w4 at hT4 HB4 ⊢
    have HT4 := Lib.hid hT4
    have ct := hT4.cellMany
    have ft := hT4.root.f 2
    clear hT4
    have hmb : (acc.length : Int) ≤ 9000000000000000000 := by omega
    go_wp2
    refine bodyPost_end (v := .tuple #[]) (results_none (by kernel_rfl) _ _ _) (by rfl) ?_
    refine ⟨rfl, ?_⟩
    rw [HP.out]
    refine ⟨⟨N, upd H (pathV v) (.slice A3 (here ++ [v]).length c3), ?_⟩, ?_⟩
    ·have := HT4.out.many (m' := (acc ++ [v]).length)
     simpa using this
    ·exact Below.setCell HB4.out (p := ⟨t, 2, none⟩) HT4.out.lo _
   ·have hput : putP acc v = acc := by unfold putP; rw [if_pos (HM.out.1 (of_decide_eq_true HZ.out.symm))]
    have HP := Lib.hid hput
    clear hput
    go_wp2
    refine bodyPost_ret (v := .tuple #[]) (results_none (by kernel_rfl) _ _ _) (by rfl) ?_
    exact ⟨rfl, by rw [HP.out]; exact ⟨N, H, HQ.out.1.below HW.out.2⟩, HQ.out.2.2.2.1.trans (HW.out.2.mono (Nat.le_trans HN.out.2.2.1 HQ.out.2.2.2.1.size))⟩

end Go.Proofs.Ytllahlgnjeeliaa.Ad
end

section
set_option linter.unusedVariables false
set_option linter.unusedSimpArgs false
namespace Go.Proofs.Ytllahlgnjeeliaa.Ad
open Go.RowKit Go.Proofs.YtllahlgnjeeliaaW.PrintWords Go.Proofs.YtllahlgnjeeliaaW.PrintLast Go.Proofs.YtllahlgnjeeliaaW.PrintMore Go.Proofs.Ytllahlgnjeeliaa.PT

theorem setRow_alloc (W : World) (cs cs' : Array Value) (t : TypeId) : (W.alloc (.cells cs t)).setRow W.heap.size cs' = W.alloc (.cells cs' t) := by
 unfold World.setRow World.alloc
 congr 1
 apply Array.ext_getElem?
 intro i
 simp only [Array.getElem?_modify, Array.getElem?_push]
 by_cases h : i = W.heap.size
 ·subst h
  simp
 ·rw [if_neg (fun e => h e.symm), if_neg h, if_neg h]
/-- A variable of a loop: made, and laid. -/
theorem alloc_store {ops : Array Oper} {rest : List Oper} {a : Act} {W : World} {Q : Exit → Act → World → Prop} {n x : Tmp} {ty ty' : TypeId} {pos pos' : String} {af af' : Array Edge} (v : Vrp)
 (hx : (a.put (some n) (.pointer (some ⟨W.heap.size, 0, none⟩))).eval (.tmp x) = .agg v.arr) (hn : (a.put (some n) (.pointer (some ⟨W.heap.size, 0, none⟩))).eval (.tmp n) = .pointer (some ⟨W.heap.size, 0, none⟩))
 (h : wpList Try.prog ops Q rest (a.put (some n) (.pointer (some ⟨W.heap.size, 0, none⟩))) (W.alloc (.cells v.arr 39))) :
 wpList Try.prog ops Q (⟨some n, .alloc 39, ty, pos, af, none⟩ :: ⟨none, .store 39 (.tmp n) (.tmp x), ty', pos', af', none⟩ :: rest) a W := by
 refine valL rfl (v := .pointer (some ⟨W.heap.size, 0, none⟩)) (w1 := W.alloc (.cells zV.arr 39)) (by kernel_rfl) ?_
 refine wpList_store_row rfl 39 (.tmp n) (.tmp x) rfl W.heap.size v.arr hn hx 39 zV.arr (Has.new W zV.arr _) (by rw [v.arr_size]; exact infoV) (by rw [v.arr_size, zV.arr_size]) v.arr_one ?_
 rw [setRow_alloc]
 exact h

def accStep (acc : List Vrp) (v : Vrp) : List Vrp := if oneB v then putP acc v else acc
def accP (l : List Vrp) : List Vrp := l.foldl accStep []
theorem acc_snoc (l : List Vrp) (k : Nat) (h : k < l.length) : accP (l.take (k + 1)) = accStep (accP (l.take k)) l[k] := by
 unfold accP
 rw [List.take_succ_eq_append_getElem h, List.foldl_append]
 rfl
def NewI (w : World) (l : List Vrp) (k t : Nat) (W : World) : Prop := (∃ N H, TN W w.heap.size t N H (accP (l.take k)).length (accP (l.take k))) ∧ Below w.heap.size w W ∧ (accP (l.take k)).length ≤ k
def NewR (w : World) (l : List Vrp) (e : Ending) (w' : World) : Prop := ∃ t, e = .returned (.pointer (some ⟨t, 0, none⟩)) ∧ (∃ N H, TN w' w.heap.size t N H (accP l).length (accP l)) ∧ Below w.heap.size w w'

set_option maxHeartbeats 4000000 in
set_option maxRecDepth 100000 in
theorem new_walk (A : Option Addr) (c : Nat) (l : List Vrp) (w : World) (h : kV.C w A l.length l) (hl : l.length * 48 ≤ 140737488351232) :
 Calls Try.prog 8 #[.slice A l.length c] w fun e w' => NewR w l e w' := by
 have HC := Lib.hid h
 clear h
 have HI0 : Hid (NewI w l 0 (w.heap.size + 2) (((w.alloc (.cells #[.slice none 0 0, .pointer none, .pointer none] 50)).alloc (.cells #[.slice none 0 0, .pointer none, .pointer none] 50)).alloc (.cells #[.pointer (some ⟨w.heap.size, 0, none⟩), .pointer (some ⟨w.heap.size + 1, 0, none⟩), .int .i64 0] 52))) := by
  refine Lib.hid ⟨⟨_, _, TN.new (b0 := w.heap.size) (b1 := w.heap.size + 1) ?_ ?_ ?_ ⟨by omega, by omega, by omega⟩ (by omega)⟩, ?_, Nat.le_refl _⟩
  ·have := Has.new ((w.alloc (.cells #[.slice none 0 0, .pointer none, .pointer none] 50)).alloc (.cells #[.slice none 0 0, .pointer none, .pointer none] 50)) #[.pointer (some ⟨w.heap.size, 0, none⟩), .pointer (some ⟨w.heap.size + 1, 0, none⟩), .int .i64 0] 52
   rwa [show ((w.alloc (.cells #[.slice none 0 0, .pointer none, .pointer none] 50)).alloc (.cells #[.slice none 0 0, .pointer none, .pointer none] 50)).heap.size = w.heap.size + 2 by simp] at this
  ·exact Has.alloc (heap_alloc2_old w _ _) _
  ·exact Has.alloc (heap_alloc2_new w _ _) _
  ·exact (((Below.refl _ _).alloc (Nat.le_refl _) _).alloc (by simp) _).alloc (by simp; omega) _
 go_enter Try.func8, Try.ntmps8
 go_wp2
 generalize ((w.alloc (.cells #[.slice none 0 0, .pointer none, .pointer none] 50)).alloc (.cells #[.slice none 0 0, .pointer none, .pointer none] 50)).alloc (.cells #[.pointer (some ⟨w.heap.size, 0, none⟩), .pointer (some ⟨w.heap.size + 1, 0, none⟩), .int .i64 0] 52) = W at HI0 ⊢
 obtain ⟨t, ht⟩ : ∃ t, t = w.heap.size + 2 := ⟨_, rfl⟩
 rw [← ht] at HI0 ⊢
 clear ht
 go_loopw [15] (fun iv wr => ∃ k : Nat, k ≤ l.length ∧ iv = .int .i64 k ∧ Hid (NewI w l k t wr)) (fun iv _ => l.length - (intOf iv).toNat)
 case atStart => exact ⟨0, Nat.zero_le _, rfl, HI0⟩
 case round =>
  obtain ⟨k, hk, rfl, HI⟩ := hrel
  by_cases hlt : k < l.length
  ·obtain ⟨b, o, hA, hR⟩ := C_form (Kd.C_below HC.out HI.out.2.1) (by omega)
   subst hA
   obtain ⟨v, hv⟩ : ∃ v, v = l[k] := ⟨_, rfl⟩
   have Q0 := Lib.hid (hR k hlt)
   rw [← hv] at Q0
   have HV := Lib.hid hv
   have hsn := acc_snoc l k hlt
   rw [← hv] at hsn
   have HS := Lib.hid hsn
   clear hv hR hsn
   have hd1 := eq_true (show (k : Int) < (l.length : Int) by omega)
   have hd2 : decide ((k : Int) < (l.length : Int)) = true := decide_eq_true (by omega)
   have hd3 : decide (k < l.length) = true := decide_eq_true hlt
   have HN := Lib.hid (Has.new wr v.arr 39)
   have HB : Hid (Below wr.heap.size wr (wr.alloc (.cells v.arr 39))) := Lib.hid ((Below.refl _ _).alloc (Nat.le_refl _) _)
   go_wp2_with (first
    | ((with_reducible refine at_dst 18 ?_); refine loadV v b (o + k * 20) rfl Q0.out ?_)
    | ((with_reducible refine at_dst 5 ?_); refine alloc_store v rfl rfl ?_; generalize hw2 : wr.alloc (.cells v.arr 39) = w2 at HN HB ⊢; clear hw2)
    | ((with_reducible refine at_dst 19 ?_); refine loadV v wr.heap.size 0 rfl HN.out.rv ?_))
   refine (one_walk v w2).mono ?_
   rintro e w3 ⟨rfl, hB3⟩
   have hB3' := HB.out.trans (hB3.mono HB.out.size)
   have HN3 := Lib.hid (HN.out.below hB3)
   have HB3 := Lib.hid hB3'
   have hlen := HI.out.2.2
   obtain ⟨z, hz⟩ : ∃ z, z = oneB v := ⟨_, rfl⟩
   rw [← hz]
   have HZ := Lib.hid hz
   clear hz hB3 hB3' HN HB
   cases z
   ·go_wp2
    go_roundw
    case rel =>
     have e : accP (l.take (k + 1)) = accP (l.take k) := by rw [HS.out]; unfold accStep; rw [← HZ.out]; rfl
     obtain ⟨N, H, hT⟩ := HI.out.1
     exact ⟨k + 1, by omega, by go_num, Lib.hid ⟨by rw [e]; exact ⟨N, H, hT.below HB3.out⟩, HI.out.2.1.trans (HB3.out.mono HI.out.2.1.size), by rw [e]; omega⟩⟩
    case measure => simp [intOf]; omega
   ·obtain ⟨N, H, hT⟩ := HI.out.1
    have hT3 := Lib.hid (hT.below HB3.out)
    clear hT
    go_wp2_with ((with_reducible refine at_dst 22 ?_); refine loadV v wr.heap.size 0 rfl HN3.out.rv ?_)
    refine (put_walk w.heap.size t N H _ v w3 hT3.out HZ.out.symm (Nat.le_trans HI.out.2.1.size HB3.out.size) (by omega)).mono ?_
    rintro e w4 ⟨rfl, hR4⟩
    have HR4 := Lib.hid hR4
    clear hR4
    go_wp2
    go_roundw
    case rel =>
     have e : accP (l.take (k + 1)) = putP (accP (l.take k)) v := by rw [HS.out]; unfold accStep; rw [← HZ.out]; rfl
     have hle : (putP (accP (l.take k)) v).length ≤ (accP (l.take k)).length + 1 := by unfold putP; split <;> simp
     exact ⟨k + 1, by omega, by go_num, Lib.hid ⟨by rw [e]; exact HR4.out.1, (HI.out.2.1.trans (HB3.out.mono HI.out.2.1.size)).trans HR4.out.2, by rw [e]; omega⟩⟩
    case measure => simp [intOf]; omega
  ·have hkn : k = l.length := by omega
   subst hkn
   have hd1 := eq_false (show ¬ (l.length : Int) < (l.length : Int) by omega)
   have hd2 : decide ((l.length : Int) < (l.length : Int)) = false := decide_eq_false (by omega)
   have hd3 : decide (l.length < l.length) = false := decide_eq_false (by omega)
   go_wp2
   go_ret
   refine ⟨t, rfl, ?_, HI.out.2.1⟩
   have := HI.out.1
   rwa [List.take_length] at this

set_option maxRecDepth 100000 in
theorem len_walk {w : World} {base t m : Nat} {N : Path → Option Nat} {H : Path → Value} {acc : List Vrp} (h : TN w base t N H m acc) : Calls Try.prog 14 #[.pointer (some ⟨t, 0, none⟩)] w fun e w' => e = .returned (.int .i64 m) ∧ w' = w := by
 have hc := h.cellMany
 clear h
 go_enter Try.func14, Try.ntmps14
 go_wp2
 go_ret
 exact ⟨rfl, rfl⟩

end Go.Proofs.Ytllahlgnjeeliaa.Ad
end

section
set_option linter.unusedVariables false
set_option linter.unusedSimpArgs false
namespace Go.Proofs.Ytllahlgnjeeliaa.Ad
open Go.RowKit Go.Proofs.YtllahlgnjeeliaaW.PrintWords Go.Proofs.YtllahlgnjeeliaaW.PrintLast Go.Proofs.YtllahlgnjeeliaaW.PrintMore Go.Proofs.Ytllahlgnjeeliaa.PT

/-- All on the way to a prefix. -/
def visL (acc : List Vrp) (p : Pfx) (k : Nat) : List Vrp := (List.range k).flatMap (fun i => hereP acc (pathOf p i))
def visP (acc : List Vrp) (p : Pfx) : List Vrp := visL acc p (p.n.toNat + 1)
/-- As far as one that ends it, with it. -/
def goL (cont : Vrp → Bool) : List Vrp → List Vrp
 | [] => []
 | v :: r => if cont v then v :: goL cont r else [v]
theorem goL_all {cont : Vrp → Bool} : ∀ {l : List Vrp}, (∀ u ∈ l, cont u = true) → goL cont l = l
 | [], _ => rfl
 | v :: r, h => by rw [goL, if_pos (h v (by simp)), goL_all (fun u hu => h u (by simp [hu]))]
theorem goL_stop {cont : Vrp → Bool} {v : Vrp} {r : List Vrp} (hv : cont v = false) : ∀ {a : List Vrp}, (∀ u ∈ a, cont u = true) → goL cont (a ++ v :: r) = a ++ [v]
 | [], _ => by rw [List.nil_append, goL, if_neg (by rw [hv]; simp)]; rfl
 | u :: a, h => by rw [List.cons_append, goL, if_pos (h u (by simp)), goL_stop hv (fun x hx => h x (by simp [hx]))]; rfl
theorem visL_succ (acc : List Vrp) (p : Pfx) (k : Nat) : visL acc p (k + 1) = visL acc p k ++ hereP acc (pathOf p k) := by
 unfold visL
 rw [List.range_succ, List.flatMap_append]
 simp
theorem visL_split (acc : List Vrp) (p : Pfx) : ∀ {k n : Nat}, k ≤ n → ∃ r, visL acc p n = visL acc p k ++ r
 | k, n, h => by
  induction n with
  | zero => exact ⟨[], by rw [show k = 0 by omega]; simp⟩
  | succ n ih =>
   by_cases e : k = n + 1
   ·subst e; exact ⟨[], by simp⟩
   ·obtain ⟨r, hr⟩ := ih (by omega)
    exact ⟨r ++ hereP acc (pathOf p n), by rw [visL_succ, hr, List.append_assoc]⟩
/-- Behind a branch that is not there nothing is. -/
theorem vis_none {w : World} {base t m : Nat} {N : Path → Option Nat} {H : Path → Value} {acc : List Vrp} (h : TN w base t N H m acc) {p : Pfx} {k : Nat} (hk : N (pathOf p k) = none) : ∀ n, k ≤ n → visL acc p n = visL acc p k
 | n, hn => by
  induction n with
  | zero => rw [show k = 0 by omega]
  | succ n ih =>
   by_cases e : k = n + 1
   ·subst e; rfl
   ·rw [visL_succ, ih (by omega)]
    have : hereP acc (pathOf p n) = [] := by
     unfold hereP
     rw [List.filter_eq_nil_iff]
     intro v hv hd
     have hd := of_decide_eq_true hd
     have hl := congrArg List.length hd
     unfold pathV at hd hl
     rw [pathOf_len, pathOf_len] at hl
     obtain ⟨b, hb⟩ := h.mem v hv k (by omega)
     have hpre : pathOf v.p k = pathOf p k := by
      have h1 := congrArg (List.take (k + 1)) hd
      have key : ∀ (q : Pfx) (n : Nat), k ≤ n → (pathOf q n).take (k + 1) = pathOf q k := by
       intro q n hkn
       unfold pathOf
       rw [List.take_succ_cons, ← List.map_take, List.take_range, Nat.min_eq_left hkn]
      rwa [key _ _ (by omega), key _ _ (by omega)] at h1
     rw [hpre, hk] at hb
     cases hb
    rw [this, List.append_nil]

set_option maxHeartbeats 4000000 in
set_option maxRecDepth 100000 in
theorem way_walk (W0 : World) (base t m : Nat) (N : Path → Option Nat) (H : Path → Value) (acc : List Vrp) (hT : TN W0 base t N H m acc) (p : Pfx) (F : Nat) (cb : Array Value)
 (eg : ∀ args w, (callFunc F args).run Try.prog w = .ok (.enter F args) w) (J : List Vrp → World → Prop) (hJ1 : ∀ vs W W', J vs W → Below W.heap.size W W' → J vs W') (hJ2 : ∀ vs W, J vs W → Below W0.heap.size W0 W) (cont : Vrp → Bool)
 (hcl : ∀ vs v r W, visP acc p = vs ++ v :: r → J vs W → Calls Try.prog F (#[.agg v.arr] ++ cb) W fun e w' => e = .returned (.bool (cont v)) ∧ J (vs ++ [v]) w' ∧ ∀ g (q : Pfx), Has W g q.arr 25 → Has w' g q.arr 25)
 (hlen : acc.length ≤ 140737488355328) (w : World) (hJ : J [] w) :
 Calls Try.prog 22 #[.pointer (some ⟨t, 0, none⟩), .agg p.arr, .func (.func F) #[] cb] w fun e w' => e = .returned (.tuple #[]) ∧ J (if rightB p then goL cont (visP acc p) else []) w' := by
 have hV0 := Has.new w p.arr 25
 have hJ0 := hJ1 _ _ _ hJ ((Below.refl _ _).alloc (Nat.le_refl _) (.cells p.arr 25))
 have HJ1 := Lib.hid hJ1
 have HJ2 := Lib.hid hJ2
 have HCL := Lib.hid hcl
 have HT := Lib.hid hT
 clear hJ hJ1 hJ2 hcl hT
 by_cases hr : rightB p = true
 ·obtain ⟨n, hn⟩ := Int.eq_ofNat_of_zero_le (right_iff.1 hr).1
  have hn128 : n ≤ 128 := by have := (right_iff.1 hr).2.1; have := mostP_b p.v6; omega
  obtain ⟨b0, hb0⟩ := root_any HT.out p.v6
  have hvp : visP acc p = visL acc p (n + 1) := by unfold visP; rw [hn]; rfl
  obtain ⟨res, hres⟩ : ∃ res, res = goL cont (visP acc p) := ⟨_, rfl⟩
  have he : (if rightB p = true then goL cont (visP acc p) else []) = res := by rw [if_pos hr, hres]
  rw [he]
  clear he
  have HN := Lib.hid (And.intro hn (And.intro hb0 (And.intro hvp (And.intro hr hres))))
  clear hn hb0 hvp hr hres
  go_enter Try.func22, Try.ntmps22
  go_upto_region 1 with (fail)
  generalize w.alloc (.cells p.arr 25) = W at hV0 hJ0 ⊢
  go_wp2_with ((with_reducible refine at_dst 10 ?_); refine loadP p w.heap.size 0 rfl hV0.rp ?_)
  refine (right_walk p true HN.out.2.2.2.1 W).mono ?_
  rintro e w1 ⟨rfl, hB⟩
  have hV1 := hV0.below hB
  have hJ1 := HJ1.out _ _ _ hJ0 hB
  clear hV0 hJ0 hB
  go_wp2
  have hT1 := HT.out.below (HJ2.out _ _ hJ1)
  obtain ⟨f, hf⟩ : ∃ f, f = bN p.v6 := ⟨_, rfl⟩
  have hcr := hT1.cellRoot p.v6
  rw [HN.out.2.1, ← hf] at hcr
  have hcr' : w1.drew.cell? ⟨t, f, none⟩ = some (.pointer (some ⟨b0, 0, none⟩)) := hcr
  have hfam : ∀ W, Calls Try.prog 34 #[.agg p.arr] W fun e w' => e = .returned (.int .i64 (f : Int)) ∧ Below W.heap.size W w' := fun W => by rw [hf]; exact familyN_walk p W
  have hf2 := eq_true (show (f : Int) < 2 by have := bN_lt p.v6; omega)
  have HF := Lib.hid hf
  have htl : t < w1.heap.size := hT1.root.lt
  have hVd : Has w1.drew w.heap.size p.arr 25 := hV1
  have hBd : Below w1.heap.size w1 w1.drew := (Below.refl _ _).drew
  have HJW := Lib.hid (And.intro hJ1 hV1)
  clear hf hcr hT1 hJ1 hV1
  refine start_ (n := 8) (S := fun W' => W'.cell? ⟨t, f, none⟩ = some (.pointer (some ⟨b0, 0, none⟩)) ∧ Has W' w.heap.size p.arr 25 ∧ Below w1.heap.size w1 W') (ds := []) #[false, false, false, false, false, false, false, false] (by kernel_rfl) rfl rfl ⟨hcr', hVd, hBd⟩ (fun hHeld => ?_)
  refine pure_ (i := 0) (N := some 13) (v := ?_) (a' := ?_) #[true, false, false, false, false, false, false, false] rfl rfl (by kernel_rfl) (fun _ _ _ h => h) (Or.inl ⟨by rfl, ?_⟩) ?_ ?_
  rotate_left
  ·intro w'
   go_simp
   with_reducible rfl
  rotate_left
  ·simp only [Act.put, List.setIfInBounds_toArray, List.set_cons_zero, List.set_cons_succ, i64_w, i32_w]
   rfl
  refine take_ (i := 1) (N := some 14) (v := .agg p.arr) (a' := ?_) #[true, true, false, false, false, false, false, false] rfl rfl (by kernel_rfl) (fun _ _ _ h => h) ?_ hHeld ?_ ?_
  ·exact yP (by rfl) rfl p w.heap.size 0 rfl (fun W h => h.2.1.rp)
  rotate_left
  ·simp only [Act.put, List.setIfInBounds_toArray, List.set_cons_zero, List.set_cons_succ, i64_w, i32_w]
   rfl
  refine pure_ (i := 3) (N := some 16) (v := ?_) (a' := ?_) #[true, true, false, true, false, false, false, false] rfl rfl (by kernel_rfl) (fun _ _ _ h => h) (Or.inl ⟨by rfl, ?_⟩) ?_ ?_
  rotate_left
  ·intro w'
   go_simp
   with_reducible rfl
  rotate_left
  ·simp only [Act.put, List.setIfInBounds_toArray, List.set_cons_zero, List.set_cons_succ, i64_w, i32_w]
   rfl
  refine pure_ (i := 4) (N := some 17) (v := ?_) (a' := ?_) #[true, true, false, true, true, false, false, false] rfl rfl (by kernel_rfl) (fun _ _ _ h => h) (Or.inl ⟨by rfl, ?_⟩) ?_ ?_
  rotate_left
  ·intro w'
   go_simp
   with_reducible rfl
  rotate_left
  ·simp only [Act.put, List.setIfInBounds_toArray, List.set_cons_zero, List.set_cons_succ, i64_w, i32_w]
   rfl
  refine one_ (i := 2) (N := some 15) #[true, true, true, true, true, false, false, false] rfl rfl (by kernel_rfl) (by decide) (fun K hK => ?_)
  refine goes_ Try.func34 (by kernel_rfl) rfl #[.agg p.arr] (by rfl) rfl rfl (by (try simp only [List.map_toArray, List.map_cons, List.map_nil]); first | done | rfl) ?_
  refine (hfam _).mono ?_
  rintro e w2 ⟨rfl, hB⟩
  refine ⟨_, rfl, ?_⟩
  refine hK.out _ _ ⟨(hB.cell (p := ⟨t, f, none⟩) (Nat.lt_of_lt_of_le htl hHeld.2.2.size)).trans hHeld.1, hHeld.2.1.below hB, hHeld.2.2.trans (hB.mono hHeld.2.2.size)⟩ (fun hHeld => ?_)
  clear hK K
  refine norm_ (a' := ?_) ?_ ?_
  rotate_left
  ·show Act.put _ (some 15) _ = _
   simp only [Act.put, List.setIfInBounds_toArray, List.set_cons_zero, List.set_cons_succ, i64_w, i32_w]
   rfl
  refine pure_ (i := 5) (N := some 18) (v := ?_) (a' := ?_) #[true, true, true, true, true, true, false, false] rfl rfl (by kernel_rfl) (fun _ _ _ h => h) (Or.inl ⟨by rfl, ?_⟩) ?_ ?_
  rotate_left
  ·intro w'
   go_simp
   with_reducible rfl
  rotate_left
  ·simp only [Act.put, List.setIfInBounds_toArray, List.set_cons_zero, List.set_cons_succ, i64_w, i32_w]
   rfl
  refine take_ (i := 6) (N := some 19) (v := ?_) (a' := ?_) #[true, true, true, true, true, true, true, false] rfl rfl (by kernel_rfl) (fun _ _ _ h => h) (Or.inl ⟨by rfl, ?_⟩) hHeld ?_ ?_
  rotate_left
  ·rintro w' ⟨s0, s1⟩
   go_simp
   with_reducible rfl
  rotate_left
  ·simp only [Act.put, List.setIfInBounds_toArray, List.set_cons_zero, List.set_cons_succ, i64_w, i32_w]
   rfl
  refine pure_ (i := 7) (N := some 6) (v := ?_) (a' := ?_) #[true, true, true, true, true, true, true, true] rfl rfl (by kernel_rfl) (fun _ _ _ h => h) (Or.inl ⟨by rfl, ?_⟩) ?_ ?_
  rotate_left
  ·intro w'
   go_simp
   with_reducible rfl
  rotate_left
  ·simp only [Act.put, List.setIfInBounds_toArray, List.set_cons_zero, List.set_cons_succ, i64_w, i32_w]
   rfl
  refine done_ (by kernel_rfl) ?_
  have HW := Lib.hid (And.intro (HJ1.out _ _ _ HJW.out.1 hHeld.2.2) hHeld.2.1)
  clear hHeld hcr' hfam hf2 htl hVd hBd HJW
  go_wp2
  go_loopw [6, 7] (fun bv iv wr => ∃ k : Nat, k ≤ n + 1 ∧ iv = .int .i64 k ∧ (N (pathOf p k) = none ∨ k ≤ n) ∧ bv = pt (N (pathOf p k)) ∧ Hid (J (visL acc p k) wr ∧ Has wr w.heap.size p.arr 25 ∧ ∀ u ∈ visL acc p k, cont u = true)) (fun _ iv _ => n + 1 - (intOf iv).toNat)
  case atStart => exact ⟨0, Nat.zero_le _, rfl, .inr (Nat.zero_le _), by rw [show pathOf p 0 = [p.v6] from rfl, HN.out.2.1]; rfl, Lib.hid ⟨HW.out.1, HW.out.2, fun u hu => by simp [visL] at hu⟩⟩
  case round =>
   obtain ⟨k, hk, rfl, hor, rfl, HI⟩ := hrel
   clear HW
   cases hNk : N (pathOf p k) with
   | none =>
    have HNK := Lib.hid hNk
    clear hNk hor
    have e0 : pt none = .pointer none := rfl
    rw [e0]
    go_wp2
    refine bodyPost_end (v := .tuple #[]) (results_none (by kernel_rfl) _ _ _) (by rfl) ?_
    refine ⟨rfl, ?_⟩
    have e : goL cont (visP acc p) = visL acc p k := by rw [HN.out.2.2.1, vis_none HT.out HNK.out (n + 1) hk, goL_all HI.out.2.2]
    rw [HN.out.2.2.2.2, e]
    exact HI.out.1
   | some b =>
    have hkn : k ≤ n := by rcases hor with h | h; rw [hNk] at h; cases h; exact h
    have HNK := Lib.hid hNk
    clear hNk hor
    have e0 : pt (some b) = .pointer (some ⟨b, 0, none⟩) := rfl
    rw [e0]
    obtain ⟨wo, rfl⟩ : ∃ wo : World, wo = wr := ⟨_, rfl⟩
    have hT2 := HT.out.below (HJ2.out _ _ HI.out.1)
    obtain ⟨Ah, ch, hH, hch, hCh⟩ := Kd.R_reads (HT.out.row _ _ HNK.out)
    have hc0 := hT2.cellHere HNK.out
    rw [hH] at hc0
    obtain ⟨here, hhere⟩ : ∃ here, here = hereP acc (pathOf p k) := ⟨_, rfl⟩
    rw [← hhere] at hc0 hch hCh
    have hhl : here.length ≤ acc.length := by rw [hhere]; exact List.length_filter_le _ _
    have HH := Lib.hid (And.intro hhere (And.intro hCh hT2))
    clear hhere hCh hH hT2
    go_wp2
    clear hc0
    go_loopw [29] (fun jv wr => ∃ j : Nat, j ≤ here.length ∧ jv = .int .i64 j ∧ Hid (J (visL acc p k ++ here.take j) wr ∧ Has wr w.heap.size p.arr 25 ∧ ∀ u ∈ visL acc p k ++ here.take j, cont u = true)) (fun jv _ => here.length - (intOf jv).toNat)
    case atStart => exact ⟨0, Nat.zero_le _, rfl, Lib.hid (by rw [List.take_zero, List.append_nil]; exact HI.out)⟩
    case round =>
     obtain ⟨j, hj, rfl, HG⟩ := hrel
     by_cases hlt : j < here.length
     ·obtain ⟨bb, oo, hA, hR⟩ := C_form (Kd.C_below HH.out.2.1 (HJ2.out _ _ HG.out.1)) (by omega)
      subst hA
      obtain ⟨v, hv⟩ : ∃ v, v = here[j] := ⟨_, rfl⟩
      have Q0 := Lib.hid (hR j hlt)
      rw [← hv] at Q0
      have HV := Lib.hid hv
      have hvis : ∃ r, visP acc p = (visL acc p k ++ here.take j) ++ v :: r := by
       obtain ⟨r, hr⟩ := visL_split acc p (show k + 1 ≤ n + 1 by omega)
       refine ⟨here.drop (j + 1) ++ r, ?_⟩
       rw [HN.out.2.2.1, hr, visL_succ, ← HH.out.1, List.append_assoc, List.append_assoc]
       congr 1
       rw [hv, ← List.cons_append, ← List.drop_eq_getElem_cons hlt, ← List.append_assoc, List.take_append_drop]
      obtain ⟨r, hvis⟩ := hvis
      have HVS := Lib.hid hvis
      clear hv hR hvis
      have hd1 := eq_true (show (j : Int) < (here.length : Int) by omega)
      have hd2 : decide ((j : Int) < (here.length : Int)) = true := decide_eq_true (by omega)
      have hd3 : decide (j < here.length) = true := decide_eq_true hlt
      have HNb := Lib.hid (Has.new wr v.arr 39)
      have HPb := Lib.hid (HG.out.2.1.alloc (.cells v.arr 39))
      have HJb := Lib.hid (HJ1.out _ _ _ HG.out.1 ((Below.refl _ _).alloc (Nat.le_refl _) (.cells v.arr 39)))
      have hs := wr.heap.size
      go_wp2_with (first
       | ((with_reducible refine at_dst 32 ?_); refine loadV v bb (oo + j * 20) rfl Q0.out ?_)
       | ((with_reducible refine at_dst 9 ?_); refine alloc_store v rfl rfl ?_; generalize hw2 : wr.alloc (.cells v.arr 39) = w2 at HNb HPb HJb ⊢; clear hw2)
       | ((with_reducible refine at_dst 34 ?_); refine loadV v wr.heap.size 0 rfl HNb.out.rv ?_))
      refine (HCL.out _ v r w2 HVS.out HJb.out).mono ?_
      rintro e w3 ⟨rfl, hJ3, hK3⟩
      have HP3 := Lib.hid (hK3 _ p HPb.out)
      have HJ3 := Lib.hid hJ3
      clear hJ3 hK3 HJb HPb HNb
      obtain ⟨z, hz⟩ : ∃ z, z = cont v := ⟨_, rfl⟩
      rw [← hz]
      have HZ := Lib.hid hz
      clear hz
      have htk : Hid (here.take (j + 1) = here.take j ++ [v]) := Lib.hid (by rw [List.take_succ_eq_append_getElem hlt, HV.out])
      cases z
      ·go_wp2
       try rw [Exit.noGoto_ret]
       refine bodyPost_ret (v := .tuple #[]) (results_none (by kernel_rfl) _ _ _) (by rfl) ?_
       refine ⟨rfl, ?_⟩
       rw [HN.out.2.2.2.2, HVS.out, goL_stop HZ.out.symm HG.out.2.2]
       exact HJ3.out
      ·go_wp2
       go_roundw
       case rel => exact ⟨j + 1, by omega, by go_num, Lib.hid ⟨by rw [htk.out, ← List.append_assoc]; exact HJ3.out, HP3.out, fun u hu => by
        rw [htk.out, ← List.append_assoc] at hu
        rcases List.mem_append.1 hu with hu | hu
        ·exact HG.out.2.2 u hu
        ·rw [List.mem_singleton.1 hu]; exact HZ.out.symm⟩⟩
       case measure => simp [intOf]; omega
     ·have hjl : j = here.length := by omega
      subst hjl
      have hd1 := eq_false (show ¬ (here.length : Int) < (here.length : Int) by omega)
      have hd2 : decide ((here.length : Int) < (here.length : Int)) = false := decide_eq_false (by omega)
      have hd3 : decide (here.length < here.length) = false := decide_eq_false (by omega)
      have cn := rp_n HG.out.2.1.rp
      rw [Nat.zero_add, HN.out.1] at cn
      have HG2 : Hid (J (visL acc p (k + 1)) wr ∧ (∀ u ∈ visL acc p (k + 1), cont u = true)) := Lib.hid (by
       rw [visL_succ, ← HH.out.1]
       have h1 := HG.out.1
       have h2 := HG.out.2.2
       rw [List.take_length] at h1 h2
       exact ⟨h1, h2⟩)
      have HPG := Lib.hid HG.out.2.1
      clear HG
      by_cases hkn2 : k = n
      ·subst hkn2
       have q1 : ((k : Int) == (k : Int)) = true := by simp
       go_wp2
       try rw [Exit.noGoto_ret]
       refine bodyPost_ret (v := .tuple #[]) (results_none (by kernel_rfl) _ _ _) (by rfl) ?_
       refine ⟨rfl, ?_⟩
       rw [HN.out.2.2.2.2, HN.out.2.2.1, goL_all HG2.out.2]
       exact HG2.out.1
      ·have q1 : ((k : Int) == (n : Int)) = false := by simp; omega
       have q2 : (k == n) = false := by simp; omega
       go_wp2
       clear q1 q2 cn hd1 hd2 hd3
       have hT3 := HT.out.below (HJ2.out _ _ HG2.out.1)
       obtain ⟨x, hx⟩ : ∃ x, x = decide (p.a.bit k = 1) := ⟨_, rfl⟩
       obtain ⟨f2, hf⟩ : ∃ f2, f2 = bN x := ⟨_, rfl⟩
       have hbit : ∀ W, Calls Try.prog 35 #[.agg p.arr, .int .i64 k] W fun e w' => e = .returned (.int .i64 (f2 : Int)) ∧ Below W.heap.size W w' := fun W => by rw [hf, hx]; exact bitN_walk p k W (by omega)
       have hf2 := eq_true (show (f2 : Int) < 2 by rw [hf]; have := bN_lt x; omega)
       have hcn := hT3.cellNode HNK.out x
       rw [← hf, hx, ← pathOf_succ] at hcn
       have hcn' : wr.drew.cell? ⟨b, 1 + f2, none⟩ = some (pt (N (pathOf p (k + 1)))) := hcn
       have hbl := (hT3.node _ _ HNK.out).2.lt
       have hVd : Has wr.drew w.heap.size p.arr 25 := HPG.out
       have hBd : Below wr.heap.size wr wr.drew := (Below.refl _ _).drew
       have HX := Lib.hid (And.intro hx hf)
       clear hx hf hcn hT3
       unfold pt at hcn'
       generalize hMM : (N (pathOf p (k + 1))).map (fun b => (⟨b, 0, none⟩ : Addr)) = MM at hcn'
       have HMM := Lib.hid hMM
       clear hMM
       refine start_ (n := 9) (S := fun W' => W'.cell? ⟨b, 1 + f2, none⟩ = some (.pointer MM) ∧ Has W' w.heap.size p.arr 25 ∧ Below wr.heap.size wr W') (ds := []) #[false, false, false, false, false, false, false, false, false] (by kernel_rfl) rfl rfl ⟨hcn', hVd, hBd⟩ (fun hHeld => ?_)
       refine pure_ (i := 0) (N := some 42) (v := ?_) (a' := ?_) #[true, false, false, false, false, false, false, false, false] rfl rfl (by kernel_rfl) (fun _ _ _ h => h) (Or.inl ⟨by rfl, ?_⟩) ?_ ?_
       rotate_left
       ·intro w'
        go_simp
        with_reducible rfl
       rotate_left
       ·simp only [Act.put, List.setIfInBounds_toArray, List.set_cons_zero, List.set_cons_succ, i64_w, i32_w]
        rfl
       refine pure_ (i := 2) (N := some 44) (v := ?_) (a' := ?_) #[true, false, true, false, false, false, false, false, false] rfl rfl (by kernel_rfl) (fun _ _ _ h => h) (Or.inl ⟨by rfl, ?_⟩) ?_ ?_
       rotate_left
       ·intro w'
        go_simp
        with_reducible rfl
       rotate_left
       ·simp only [Act.put, List.setIfInBounds_toArray, List.set_cons_zero, List.set_cons_succ, i64_w, i32_w]
        rfl
       refine take_ (i := 1) (N := some 43) (v := .agg p.arr) (a' := ?_) #[true, true, true, false, false, false, false, false, false] rfl rfl (by kernel_rfl) (fun _ _ _ h => h) ?_ hHeld ?_ ?_
       ·exact yP (by rfl) rfl p w.heap.size 0 rfl (fun W h => h.2.1.rp)
       rotate_left
       ·simp only [Act.put, List.setIfInBounds_toArray, List.set_cons_zero, List.set_cons_succ, i64_w, i32_w]
        rfl
       refine pure_ (i := 4) (N := some 46) (v := ?_) (a' := ?_) #[true, true, true, false, true, false, false, false, false] rfl rfl (by kernel_rfl) (fun _ _ _ h => h) (Or.inl ⟨by rfl, ?_⟩) ?_ ?_
       rotate_left
       ·intro w'
        go_simp
        with_reducible rfl
       rotate_left
       ·simp only [Act.put, List.setIfInBounds_toArray, List.set_cons_zero, List.set_cons_succ, i64_w, i32_w]
        rfl
       refine pure_ (i := 5) (N := some 47) (v := ?_) (a' := ?_) #[true, true, true, false, true, true, false, false, false] rfl rfl (by kernel_rfl) (fun _ _ _ h => h) (Or.inl ⟨by rfl, ?_⟩) ?_ ?_
       rotate_left
       ·intro w'
        go_simp
        with_reducible rfl
       rotate_left
       ·simp only [Act.put, List.setIfInBounds_toArray, List.set_cons_zero, List.set_cons_succ, i64_w, i32_w]
        rfl
       refine one_ (i := 3) (N := some 45) #[true, true, true, true, true, true, false, false, false] rfl rfl (by kernel_rfl) (by decide) (fun K hK => ?_)
       refine goes_ Try.func35 (by kernel_rfl) rfl #[.agg p.arr, .int .i64 k] (by rfl) rfl rfl (by (try simp only [List.map_toArray, List.map_cons, List.map_nil]); first | done | rfl) ?_
       refine (hbit _).mono ?_
       rintro e w2 ⟨rfl, hB⟩
       refine ⟨_, rfl, ?_⟩
       refine hK.out _ _ ⟨(hB.cell (p := ⟨b, 1 + f2, none⟩) (Nat.lt_of_lt_of_le hbl hHeld.2.2.size)).trans hHeld.1, hHeld.2.1.below hB, hHeld.2.2.trans (hB.mono hHeld.2.2.size)⟩ (fun hHeld => ?_)
       clear hK K
       refine norm_ (a' := ?_) ?_ ?_
       rotate_left
       ·show Act.put _ (some 45) _ = _
        simp only [Act.put, List.setIfInBounds_toArray, List.set_cons_zero, List.set_cons_succ, i64_w, i32_w]
        rfl
       refine pure_ (i := 6) (N := some 48) (v := ?_) (a' := ?_) #[true, true, true, true, true, true, true, false, false] rfl rfl (by kernel_rfl) (fun _ _ _ h => h) (Or.inl ⟨by rfl, ?_⟩) ?_ ?_
       rotate_left
       ·intro w'
        go_simp
        with_reducible rfl
       rotate_left
       ·simp only [Act.put, List.setIfInBounds_toArray, List.set_cons_zero, List.set_cons_succ, i64_w, i32_w]
        rfl
       refine take_ (i := 7) (N := some 49) (v := ?_) (a' := ?_) #[true, true, true, true, true, true, true, true, false] rfl rfl (by kernel_rfl) (fun _ _ _ h => h) (Or.inl ⟨by rfl, ?_⟩) hHeld ?_ ?_
       rotate_left
       ·rintro w' ⟨s0, s1⟩
        go_simp
        with_reducible rfl
       rotate_left
       ·simp only [Act.put, List.setIfInBounds_toArray, List.set_cons_zero, List.set_cons_succ, i64_w, i32_w]
        rfl
       refine pure_ (i := 8) (N := some 6) (v := ?_) (a' := ?_) #[true, true, true, true, true, true, true, true, true] rfl rfl (by kernel_rfl) (fun _ _ _ h => h) (Or.inl ⟨by rfl, ?_⟩) ?_ ?_
       rotate_left
       ·intro w'
        go_simp
        with_reducible rfl
       rotate_left
       ·simp only [Act.put, List.setIfInBounds_toArray, List.set_cons_zero, List.set_cons_succ, i64_w, i32_w]
        rfl
       refine done_ (by kernel_rfl) ?_
       have HW4 := Lib.hid (And.intro (HJ1.out _ _ _ HG2.out.1 hHeld.2.2) hHeld.2.1)
       clear hHeld hcn' hbit hf2 hbl hVd hBd
       go_wp2
       go_roundw
       case rel => exact ⟨k + 1, by omega, by go_num, .inr (by omega), by rw [← HMM.out]; rfl, Lib.hid ⟨HW4.out.1, HW4.out.2, HG2.out.2⟩⟩
       case measure => simp [intOf]; omega
 ·have hrf := Bool.eq_false_iff.2 hr
  have he : (if rightB p = true then goL cont (visP acc p) else []) = [] := by rw [if_neg hr]
  rw [he]
  have HN := Lib.hid hrf
  clear hr he hrf
  go_enter Try.func22, Try.ntmps22
  go_upto_region 1 with (fail)
  generalize w.alloc (.cells p.arr 25) = W at hV0 hJ0 ⊢
  go_wp2_with ((with_reducible refine at_dst 10 ?_); refine loadP p w.heap.size 0 rfl hV0.rp ?_)
  refine (right_walk p false HN.out W).mono ?_
  rintro e w1 ⟨rfl, hB⟩
  have hJ1 := HJ1.out _ _ _ hJ0 hB
  clear hV0 hJ0 hB
  go_wp2
  refine bodyPost_ret (v := .tuple #[]) (results_none (by kernel_rfl) _ _ _) (by rfl) ?_
  exact ⟨rfl, hJ1⟩

end Go.Proofs.Ytllahlgnjeeliaa.Ad
end

namespace Go.Proofs
open Go.Shelf
def Try.sortR_ren : Go.Shelf.Ren := ⟨fun | 6 => 24 | 15 => 38 | 14 => 37 | 28 => 56 | 29 => 57 | 20 => 48 | 21 => 49 | 22 => 50 | 23 => 51 | 24 => 52 | 25 => 53 | 26 => 54 | 27 => 55 | 46 => 62 | 47 => 63 | 48 => 64 | 49 => 65 | 50 => 66 | 57 => 68 | n => n, fun | 22 => 22 | 24 => 39 | 25 => 56 | 3 => 3 | 39 => 65 | 0 => 0 | 53 => 26 | 55 => 83 | 4 => 4 | 46 => 75 | 45 => 74 | 50 => 79 | 5 => 5 | 9 => 9 | 66 => 90 | 70 => 94 | 76 => 96 | 77 => 97 | n => n, fun | n => n⟩
theorem Try.sortR : Go.Proofs.SlLaysF0.n6 Try.prog Try.sortR_ren := {
 mixed := by kernel_rfl
 f6 := ⟨Try.f24.name, by decide, Try.func24.trans (congrArg some (by kernel_rfl))⟩
 f14 := ⟨Try.f37.name, by decide, Try.func37.trans (congrArg some (by kernel_rfl))⟩
 f15 := Try.func38.trans (congrArg some (by kernel_rfl))
 f20 := ⟨Try.f48.name, by decide, Try.func48.trans (congrArg some (by kernel_rfl))⟩
 f21 := ⟨Try.f49.name, by decide, Try.func49.trans (congrArg some (by kernel_rfl))⟩
 f22 := ⟨Try.f50.name, by decide, Try.func50.trans (congrArg some (by kernel_rfl))⟩
 f23 := ⟨Try.f51.name, by decide, Try.func51.trans (congrArg some (by kernel_rfl))⟩
 f24 := ⟨Try.f52.name, by decide, Try.func52.trans (congrArg some (by kernel_rfl))⟩
 f25 := ⟨Try.f53.name, by decide, Try.func53.trans (congrArg some (by kernel_rfl))⟩
 f26 := ⟨Try.f54.name, by decide, Try.func54.trans (congrArg some (by kernel_rfl))⟩
 f27 := ⟨Try.f55.name, by decide, Try.func55.trans (congrArg some (by kernel_rfl))⟩
 f28 := Try.func56.trans (congrArg some (by kernel_rfl))
 f29 := Try.func57.trans (congrArg some (by kernel_rfl))
 f46 := ⟨Try.f62.name, by decide, Try.func62.trans (congrArg some (by kernel_rfl))⟩
 f47 := Try.func63.trans (congrArg some (by kernel_rfl))
 f48 := Try.func64.trans (congrArg some (by kernel_rfl))
 f49 := ⟨Try.f65.name, by decide, Try.func65.trans (congrArg some (by kernel_rfl))⟩
 f50 := ⟨Try.f66.name, by decide, Try.func66.trans (congrArg some (by kernel_rfl))⟩
 f57 := ⟨Try.f68.name, by decide, Try.func68.trans (congrArg some (by kernel_rfl))⟩
 t0 := Try.underlying0
 a0 := Try.isAgg0
 z0 := Try.sizeOf0
 v0 := Try.zeroValue0
 t3 := Try.underlying3
 a3 := Try.isAgg3
 z3 := Try.sizeOf3
 v3 := Try.zeroValue3
 t4 := Try.underlying4
 a4 := Try.isAgg4
 z4 := Try.sizeOf4
 v4 := Try.zeroValue4
 t5 := Try.underlying5
 a5 := Try.isAgg5
 z5 := Try.sizeOf5
 v5 := Try.zeroValue5
 t9 := Try.underlying9
 a9 := Try.isAgg9
 z9 := Try.sizeOf9
 v9 := Try.zeroValue9
 t22 := Try.underlying22
 a22 := Try.isAgg22
 z22 := Try.sizeOf22
 v22 := Try.zeroValue22
 t25 := Try.underlying56
 a25 := Try.isAgg56
 z25 := Try.sizeOf56
 v25 := Try.zeroValue56
 t39 := Try.underlying65
 a39 := Try.isAgg65
 z39 := Try.sizeOf65
 v39 := Try.zeroValue65
 t45 := Try.underlying74
 a45 := Try.isAgg74
 z45 := Try.sizeOf74
 v45 := Try.zeroValue74
 t46 := Try.underlying75
 a46 := Try.isAgg75
 z46 := Try.sizeOf75
 v46 := Try.zeroValue75
 t50 := Try.underlying79
 a50 := Try.isAgg79
 z50 := Try.sizeOf79
 v50 := Try.zeroValue79
 t53 := Try.underlying26
 a53 := Try.isAgg26
 z53 := Try.sizeOf26
 v53 := Try.zeroValue26
 t55 := Try.underlying83
 a55 := Try.isAgg83
 z55 := Try.sizeOf83
 v55 := Try.zeroValue83
 t66 := Try.underlying90
 a66 := Try.isAgg90
 z66 := Try.sizeOf90
 v66 := Try.zeroValue90
 t70 := Try.underlying94
 a70 := Try.isAgg94
 z70 := Try.sizeOf94
 v70 := Try.zeroValue94
 t76 := Try.underlying96
 a76 := Try.isAgg96
 z76 := Try.sizeOf96
 v76 := Try.zeroValue96
 t77 := Try.underlying97
 a77 := Try.isAgg97
 z77 := Try.sizeOf97
 v77 := Try.zeroValue97 }
end Go.Proofs


section
set_option linter.unusedVariables false
set_option linter.unusedSimpArgs false
namespace Go.Proofs.Ytllahlgnjeeliaa.Ad
open Go.Shelf Go.RowKit Go.Lib Go.Sort Go.Proofs.YtllahlgnjeeliaaW.PrintWords Go.Proofs.YtllahlgnjeeliaaW.PrintLast Go.Proofs.YtllahlgnjeeliaaW.PrintMore Go.Proofs.Ytllahlgnjeeliaa.PT

instance inhV : Inhabited Vrp := ⟨zV⟩
def JC (W0 : World) (g : Nat) (vs : List Vrp) (W : World) : Prop :=
 ∃ A c, Has W g #[.slice A vs.length c] 22 ∧ kV.R 39 W W0.heap.size (fun _ => True) (.slice A vs.length c) vs ∧ Below W0.heap.size W0 W ∧ W0.heap.size ≤ g

set_option maxHeartbeats 2000000 in
set_option maxRecDepth 100000 in
theorem cov1_walk (W0 : World) (g : Nat) (vs : List Vrp) (v : Vrp) (W : World) (h : JC W0 g vs W) (hl : (vs.length + 1) * 48 ≤ 140737488355328) :
 Calls Try.prog 23 #[.agg v.arr, .pointer (some ⟨g, 0, none⟩)] W fun e w' => e = .returned (.bool true) ∧ JC W0 g (vs ++ [v]) w' ∧ ∀ g' (q : Pfx), Has W g' q.arr 25 → Has w' g' q.arr 25 := by
 obtain ⟨A, c, hg, hR, hB, hge⟩ := h
 have hB0 : Below W.heap.size W (W.alloc (.cells v.arr 39)) := (Below.refl _ _).alloc (Nat.le_refl _) _
 have HV := Lib.hid (Has.new W v.arr 39)
 have HG := Lib.hid (hg.below hB0)
 have HR := Lib.hid (Kd.R_below hR hB0)
 have HB := Lib.hid (hB.trans (hB0.mono hB.size))
 have HK : Hid (∀ g' (q : Pfx), Has W g' q.arr 25 → Has (W.alloc (.cells v.arr 39)) g' q.arr 25) := Lib.hid (fun g' q hq => hq.below hB0)
 clear hg hR hB hB0
 go_enter Try.func23, Try.ntmps23
 go_upto_region 1 with (fail)
 generalize hs : W.heap.size = gs at HV ⊢
 generalize W.alloc (.cells v.arr 39) = W1 at HV HG HR HB HK ⊢
 have cg : W1.cell? ⟨g, 0, none⟩ = some (.slice A vs.length c) := HG.out.c 0
 have hnb : some g ≠ (Value.slice A vs.length c).ownBlock := fun e => by
  obtain ⟨cells, hc⟩ := R_typed HR.out e.symm
  exact Has.ne HG.out hc (by decide) rfl
 have HNB := Lib.hid hnb
 clear hnb hs
 go_wp2_with (first
  | ((with_reducible refine at_dst 5 ?_); refine loadV v gs 0 rfl HV.out.rv ?_)
  | ((with_reducible refine at_dst 6 ?_); refine valL rfl (exec_buildV v rfl _) ?_)
  | ((with_reducible refine at_dst 7 ?_); refine appRowsL (w0 := W0) W0.heap.size rfl (.tmp 4) (.tmp 6) rfl (.slice A vs.length c) vs [v] (some ⟨W1.heap.size, 0, none⟩) 1 1 rfl rfl (Kd.R_below HR.out ((Below.refl _ _).alloc (Nat.le_refl _) _)) (C_one (Has.new W1 v.arr _)) (HB.out.alloc HB.out.size _) (by have := HB.out.size; simp; omega) hl ?_; intro v3 w3 hR3 hB3 hg3 hat3; obtain ⟨A3, c3, e3⟩ := Kd.R_slice hR3; subst e3; have HR3 := Lib.hid hR3; have HB3 := Lib.hid hB3; have HG3 := Lib.hid ((hg3.block g (HG.out.alloc _).lt HNB.out).trans (HG.out.alloc _)); have HK3 : Hid (∀ g' (q : Pfx), Has W g' q.arr 25 → Has w3 g' q.arr 25) := Lib.hid (fun g' q hq => (hg3.block g' ((HK.out g' q hq).alloc _).lt (fun e => by obtain ⟨cells, hc⟩ := R_typed HR.out e.symm; exact Has.ne (HK.out g' q hq) hc (by decide) rfl)).trans ((HK.out g' q hq).alloc _)); clear hR3 hB3 hg3 hat3 cg; have cg3 : w3.cell? ⟨g, 0, none⟩ = some (.slice A vs.length c) := Has.c (cs := #[.slice A vs.length c]) (t := 22) HG3.out 0; have fg3 := Has.f (cs := #[.slice A vs.length c]) (t := 22) HG3.out 0))
 go_ret
 have hG3 : Has w3 g #[.slice A vs.length c] 22 := HG3.out
 refine ⟨rfl, ⟨A3, c3, ?_, ?_, Below.setCell HB3.out (p := ⟨g, 0, none⟩) hge _, hge⟩, fun g' q hq => (HK3.out g' q hq).far (p := ⟨g, 0, none⟩) (fun e => (hG3.ne (HK3.out g' q hq) (by decide)) e.symm) _⟩
 ·unfold Has; rw [heap_setCell_same _ _ _ _ _ _ hG3]; simp
 ·exact R_own_only HR3.out (fun k hk => by
   obtain ⟨cells, hc⟩ := R_typed HR3.out hk
   exact heap_setCell_other _ _ _ _ (fun e => (hG3.ne hc (by decide)) e.symm))

set_option maxHeartbeats 1000000 in
set_option maxRecDepth 100000 in
theorem cov2_walk (x y : Vrp) (w : World) : Calls Try.prog 25 #[.agg x.arr, .agg y.arr] w fun e w' => e = .returned (.int .i64 (cmpV x y)) ∧ Gw w w' := by
 have H0 := G2.new w x.arr y.arr 39
 obtain ⟨r, hr⟩ : ∃ r, r = cmpV x y := ⟨_, rfl⟩
 have hcall : ∀ W, Calls Try.prog 26 #[.agg x.arr, .agg y.arr] W fun e w' => e = .returned (.int .i64 r) ∧ Gw W w' := fun W => by rw [hr]; exact rcmp_walk x y W
 rw [← hr]
 clear hr
 go_enter Try.func25, Try.ntmps25
 go_upto_region 1 with (fail)
 generalize (w.alloc (.cells x.arr 39)).alloc (.cells y.arr 39) = W at H0 ⊢
 go_wp2_with (first | ((with_reducible refine at_dst 5 ?_); refine loadV x w.heap.size 0 rfl H0.1.rv ?_) | ((with_reducible refine at_dst 6 ?_); refine loadV y (w.heap.size + 1) 0 rfl H0.2.1.rv ?_))
 refine (hcall _).mono ?_
 rintro e w1 ⟨rfl, hB⟩
 have H1 := H0.step hB
 clear H0 hB hcall
 go_wp2
 go_ret
 exact ⟨rfl, H1.2.2⟩

theorem ltV (x y : Vrp) : ltOf cmpV x y = decide (cmpV x y < 0) := rfl
theorem swoV : SWO (ltOf cmpV) where
 irrefl x := by rw [ltV, cmpV_eq.2 rfl]; rfl
 trans x y z h1 h2 := by rw [ltV] at *; simp at *; exact cmpV_trans h1 h2
 ntrans x y z h1 h2 := by
  rw [ltV] at *
  simp at *
  have a1 := cmpV_neg x y
  have a2 := cmpV_neg y z
  have a3 := cmpV_neg x z
  by_cases e1 : cmpV x y = 0
  ·rw [cmpV_eq.1 e1]; exact h2
  by_cases e2 : cmpV y z = 0
  ·rw [← cmpV_eq.1 e2]; exact h1
  ·have := cmpV_trans (a := z) (b := y) (c := x) (by omega) (by omega)
   omega
theorem sepV (x y : Vrp) (h1 : ltOf cmpV x y = false) (h2 : ltOf cmpV y x = false) : x = y := by
 rw [ltV] at h1 h2
 simp at h1 h2
 have := cmpV_neg x y
 exact cmpV_eq.1 (by omega)
def sortV (l : List Vrp) : List Vrp := l.mergeSort fun x y => !(ltOf cmpV) y x
theorem sortV_len (l : List Vrp) : (sortV l).length = l.length := (List.mergeSort_perm _ _).length_eq

theorem holdsV {w : World} {base g cap : Nat} {ok : Nat → Prop} {l : List Vrp} (hl : 0 < l.length) (h : Kd.R kV 39 w base ok (.slice (some ⟨g, 0, none⟩) l.length cap) l) :
 HoldsK Vrp.cells 20 w g 0 l.toArray ∧ g < w.heap.size ∧ base ≤ g := by
 obtain ⟨g', c', e, hb, hlt, cells, hc⟩ := Kd.R_form h hl
 injection e with e _ _
 injection e with e
 injection e with e _ _
 subst e
 obtain ⟨A, c, e, _, hC⟩ := Kd.R_reads h
 injection e with e _ _
 subst e
 obtain ⟨b, o, e, hR⟩ := C_form hC hl
 injection e with e
 injection e with e1 e2 _
 subst e1 e2
 refine ⟨fun j hj => ?_, hlt, hb⟩
 rw [size_flatK] at hj
 have hj2 : j / 20 < l.length := by simp at hj; omega
 refine ⟨?_, by simp [World.frozen?, hc]⟩
 rw [get_flatK _ _ _ _ hj]
 have he : (l.toArray[j / 20]! : Vrp) = l[j / 20] := by rw [getElem!_pos _ _ (by simpa using hj2)]; simp
 rw [he]
 have hm : j % 20 < l[j / 20].cells.length := by rw [Vrp.cells_len]; omega
 have := hR (j / 20) hj2 (j % 20) _ (List.getElem?_eq_getElem hm)
 rw [show 0 + j = 0 + j / 20 * 20 + j % 20 by omega, this]
 simp [getElem!_pos, hm]

/-- What the sort leaves. -/
def SortedR (w : World) (g n : Nat) (l : List Vrp) (w1 : World) : Prop := kV.C w1 (some ⟨g, 0, none⟩) n (sortV l) ∧ ∃ f os, w1.heap = (w.heap.modify g f) ++ os ∧ w1.os = w.os ∧ w1.tape = w.tape ∧ w1.output = w.output
theorem sorted_of {w w1 : World} {g n : Nat} {l : List Vrp} {os : Array Obj} (hle : l.length ≤ 140737488355328) (hH : HoldsK Vrp.cells 20 w g 0 l.toArray) (hg : g < w.heap.size)
 (hw : w1 = sortWorldK Vrp.cells 20 w g 0 n (sortV l).toArray os) : SortedR w g l.length l w1 := by
 have hsz := sortV_len l
 have hH1 : HoldsK Vrp.cells 20 w1 g 0 (sortV l).toArray := by rw [hw]; exact holdsK_sortWorldK_c Vrp.cells 20 w g 0 l.toArray (sortV l).toArray n os hH hg (by simpa using hsz)
 refine ⟨⟨hsz, by omega, fun _ => ⟨_, rfl, fun j p hj => ?_⟩⟩, ?_⟩
 ·have hjl : j < (sortV l).toArray.size := by
   have := (List.getElem?_eq_some_iff.1 hj).1
   simpa using this
  have ep : ((sortV l).toArray[j]! : Vrp) = p := by
   rw [getElem!_pos (sortV l).toArray j hjl]
   have := (List.getElem?_eq_some_iff.1 hj).2
   simpa using this
  refine ⟨p.cells, p.cells_len, rfl, fun i u hu => ?_⟩
  have hi : i < 20 := by have := (List.getElem?_eq_some_iff.1 hu).1; rwa [p.cells_len] at this
  have h2 := (HoldsK.cell hH1 hjl hi).1
  rw [ep, getElem!_def, hu] at h2
  rw [Addr.add_mid]
  have e9 : kV.sz = 20 := rfl
  rw [e9]
  simpa using h2
 ·exact ⟨_, os, by rw [hw]; rfl, by rw [hw]; rfl, by rw [hw]; rfl, by rw [hw]; rfl⟩
theorem SortedR.below {w w1 : World} {g n base : Nat} {l : List Vrp} (h : SortedR w g n l w1) (hb : base ≤ g) (hg : g < w.heap.size) : Below base w w1 := by
 obtain ⟨_, f, os, e, e1, e2, e3⟩ := h
 refine ⟨e1, e2, e3, by rw [e]; simp, fun k hk => ?_⟩
 rw [e]
 rw [Array.getElem?_append_left (by simp; omega), Array.getElem?_modify, if_neg (by omega)]

theorem sort_walk (l : List Vrp) (hpos : 0 < l.length) (hl : l.length ≤ 140737488355328) (g cap base : Nat) (w : World) (h : Kd.R kV 39 w base (fun _ => True) (.slice (some ⟨g, 0, none⟩) l.length cap) l) :
 Calls Try.prog 24 #[.slice (some ⟨g, 0, none⟩) l.length cap, .func (.func 25) #[] #[]] w fun e w' => e = .returned (.tuple #[]) ∧ SortedR w g l.length l w' := by
 obtain ⟨hH, hg, hb⟩ := holdsV hpos h
 have eg : ∀ args w, (callFunc 25 args).run Try.prog w = .ok (.enter 25 args) w := enters_of Try.func25 (by kernel_rfl) rfl
 have hcon := AnyQ.slices_SortFunc_total Try.sortR 20 Try.isAgg39 Try.sizeOf39 Vrp.cells Vrp.cells_len Vrp.one cmpV swoV 25 #[] g 0 cap l.toArray w eg (fun _ _ _ _ x y => cov2_walk x y _) hH hg (by simp; omega) sepV
 change Calls Try.prog 24 #[.slice (some ⟨g, 0, none⟩) l.length cap, _] w _ at hcon
 refine hcon.mono ?_
 rintro e w' ⟨rfl, n, os, hw⟩
 exact ⟨rfl, sorted_of hl hH hg hw⟩

def CovR (w : World) (l : List Vrp) (e : Ending) (w' : World) : Prop := ∃ A c, e = .returned (.slice A l.length c) ∧ l.length ≤ c ∧ kV.C w' A l.length l ∧ Below w.heap.size w w'
set_option maxHeartbeats 2000000 in
set_option maxRecDepth 100000 in
theorem covers_walk (base t m : Nat) (N : Path → Option Nat) (H : Path → Value) (acc : List Vrp) (p : Pfx) (w : World) (hT : TN w base t N H m acc) (hlen : (visP acc p).length * 48 ≤ 140737488355328) (hlen2 : acc.length ≤ 140737488355328) :
 Calls Try.prog 10 #[.pointer (some ⟨t, 0, none⟩), .agg p.arr] w fun e w' => CovR w (sortV (if rightB p then visP acc p else [])) e w' := by
 have HT := Lib.hid hT
 clear hT
 have eg : ∀ args w, (callFunc 23 args).run Try.prog w = .ok (.enter 23 args) w := enters_of Try.func23 (by kernel_rfl) rfl
 have HE := Lib.hid eg
 clear eg
 have HP : Hid (Has ((w.alloc (.cells p.arr 25)).alloc (.cells #[.slice none 0 0] 22)) w.heap.size p.arr 25) := Lib.hid (heap_alloc2_old w _ _)
 have HW : Hid (JC w (w.heap.size + 1) [] ((w.alloc (.cells p.arr 25)).alloc (.cells #[.slice none 0 0] 22))) := by
  refine Lib.hid ⟨none, 0, heap_alloc2_new w _ _, Kd.R_nil _ _ _ _ _, ((Below.refl _ _).alloc (Nat.le_refl _) _).alloc (by simp) _, by omega⟩
 obtain ⟨res, hres⟩ : ∃ res, res = (if rightB p then visP acc p else []) := ⟨_, rfl⟩
 rw [← hres]
 have hrl : res.length * 48 ≤ 140737488355328 := by rw [hres]; split; exact hlen; simp
 have hgo : (if rightB p then goL (fun _ => true) (visP acc p) else []) = res := by rw [hres]; split; exact goL_all (fun _ _ => rfl); rfl
 have HR := Lib.hid (And.intro hres hgo)
 clear hres hgo
 go_enter Try.func10, Try.ntmps10
 go_upto_region 2 with (fail)
 generalize (w.alloc (.cells p.arr 25)).alloc (.cells #[.slice none 0 0] 22) = W at HW HP ⊢
 go_wp2_with ((with_reducible refine at_dst 7 ?_); refine loadP p w.heap.size 0 rfl HP.out.rp ?_)
 refine (way_walk w base t m N H acc HT.out p 23 #[.pointer (some ⟨w.heap.size + 1, 0, none⟩)] HE.out (JC w (w.heap.size + 1)) (fun vs W W' ⟨A, c, h1, h2, h3, h4⟩ hB => ⟨A, c, h1.below hB, Kd.R_below h2 hB, h3.trans (hB.mono h3.size), h4⟩) (fun vs W ⟨_, _, _, _, h, _⟩ => h) (fun _ => true) (fun vs v r W hv h => cov1_walk w _ vs v W h (by have := congrArg List.length hv; simp at this; omega)) hlen2 W HW.out).mono ?_
 rintro e w1 ⟨rfl, hJ⟩
 rw [HR.out.2] at hJ
 obtain ⟨A, c, hg, hRo, hB, hge⟩ := hJ
 have cg : w1.cell? ⟨w.heap.size + 1, 0, none⟩ = some (.slice A res.length c) := hg.c 0
 obtain ⟨A', c', e1, hc', hC⟩ := Kd.R_reads hRo
 injection e1 with e1 _ e2
 subst e1 e2
 have HJ := Lib.hid (And.intro hg (And.intro hRo (And.intro hB (And.intro hc' hC))))
 clear hg hRo hB hge hc' hC
 by_cases hz : res.length = 0
 ·have hs : ∀ p c W, Calls Try.prog 24 #[.slice p 0 c, .func (.func 25) #[] #[]] W fun e w' => e = .returned (.tuple #[]) ∧ w' = W := fun p c W => AnyF.slices_SortFunc_none Try.sortR p c _ W
  rw [hz] at cg
  have HZ := Lib.hid hz
  clear hz
  go_wp2_with fail
  refine (hs _ _ _).mono ?_
  rintro e w2 ⟨rfl, hw2⟩
  subst hw2
  go_wp2
  go_ret
  have hnil : res = [] := List.eq_nil_of_length_eq_zero HZ.out
  refine ⟨A, c, ?_, ?_, ?_, HJ.out.2.2.1⟩
  ·rw [hnil, sortV_len]; rfl
  ·rw [hnil, sortV_len]; exact Nat.zero_le _
  ·have := HJ.out.2.2.2.2
   rw [hnil] at this ⊢
   rw [show sortV [] = [] by simp [sortV]]
   exact this
 ·obtain ⟨gg, cc, e1, hb, hlt, cells, hcc⟩ := Kd.R_form HJ.out.2.1 (by omega)
  injection e1 with e1 _ e2
  subst e1 e2
  have hsort := sort_walk res (by omega) (by omega) gg c w.heap.size w1 HJ.out.2.1
  have HB2 := Lib.hid (And.intro hb hlt)
  have hcell : Hid (∀ w2, SortedR w1 gg res.length res w2 → w2.cell? ⟨w.heap.size + 1, 0, none⟩ = some (.slice (some ⟨gg, 0, none⟩) res.length c)) := Lib.hid (fun w2 h => by
   obtain ⟨_, f, os, e, _⟩ := h
   have hne := Has.ne HJ.out.1 hcc (by decide)
   have hl := HJ.out.1.lt
   unfold World.cell?
   have : w2.heap[w.heap.size + 1]? = w1.heap[w.heap.size + 1]? := by
    rw [e, Array.getElem?_append_left (by simpa using hl), Array.getElem?_modify, if_neg (fun e => hne e.symm)]
   rw [this]
   have := HJ.out.1
   unfold Has at this
   rw [this]
   rfl)
  clear hb hlt hcc hz
  go_wp2_with fail
  refine hsort.mono ?_
  rintro e w2 ⟨rfl, hS⟩
  have cg2 := hcell.out _ hS
  have HS := Lib.hid hS
  clear hS cg hsort
  go_wp2
  go_ret
  refine ⟨some ⟨gg, 0, none⟩, c, by rw [sortV_len]; rfl, by rw [sortV_len]; exact HJ.out.2.2.2.1, by rw [sortV_len]; exact HS.out.1, HJ.out.2.2.1.trans (HS.out.below HB2.out.1 HB2.out.2)⟩

end Go.Proofs.Ytllahlgnjeeliaa.Ad
end

section
set_option linter.unusedVariables false
set_option linter.unusedSimpArgs false
namespace Go.Proofs.Ytllahlgnjeeliaa.Ad
open Go.RowKit Go.Proofs.YtllahlgnjeeliaaW.PrintWords Go.Proofs.YtllahlgnjeeliaaW.PrintLast Go.Proofs.YtllahlgnjeeliaaW.PrintMore Go.Proofs.Ytllahlgnjeeliaa.PT

end Go.Proofs.Ytllahlgnjeeliaa.Ad
end

section
set_option linter.unusedVariables false
set_option linter.unusedSimpArgs false
namespace Go.Proofs.Ytllahlgnjeeliaa.Ad
open Go.RowKit Go.Proofs.YtllahlgnjeeliaaW.PrintWords Go.Proofs.YtllahlgnjeeliaaW.PrintLast Go.Proofs.YtllahlgnjeeliaaW.PrintMore Go.Proofs.Ytllahlgnjeeliaa.PT

end Go.Proofs.Ytllahlgnjeeliaa.Ad
end

section
set_option linter.unusedVariables false
set_option linter.unusedSimpArgs false
namespace Go.Proofs.Ytllahlgnjeeliaa.Ad
open Go.RowKit Go.Proofs.YtllahlgnjeeliaaW.PrintWords Go.Proofs.YtllahlgnjeeliaaW.PrintLast Go.Proofs.YtllahlgnjeeliaaW.PrintMore Go.Proofs.Ytllahlgnjeeliaa.PT

def coversP (l : List Vrp) (p : Pfx) : List Vrp := (rowP l).filter (fun v => coversB v.p p)
def hitB (p : Pfx) (an : Int) (v : Vrp) : Bool := decide (v.asn = an) && decide (p.n ≤ v.max) && decide (an ≠ 0)
def answerP (cov : List Vrp) (p : Pfx) (an : Int) : Int := if cov.any (hitB p an) then 2 else if 0 < cov.length then 1 else 0
end Go.Proofs.Ytllahlgnjeeliaa.Ad
end
