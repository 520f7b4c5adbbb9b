/- Merged by wip/tools/merge.py: YtmbgjhkemlliaaaElm, YtmbgjhkemlliaaaRead. -/
import Derived.Test.YtmbgjhkemlliaaaX1
import Derived.Test.YtmbgjhkemlliaaaT1
import Derived.ChangeAlike
import Derived.RegionTactic
import Derived.WalkMore
import Derived.Defers
import Derived.Recover
import Derived.Laws.Pointers
/- tlv's reader: element. -/
set_option linter.unusedVariables false
set_option linter.unusedSimpArgs false
namespace Go.Proofs.Ytmbgjhkemlliaaa.Tlv
open Go.RowKit Go.Proofs.YtmbgjhkemlliaaaW.PrintWords Go.Proofs.YtmbgjhkemlliaaaW.PrintLast Go.Proofs.YtmbgjhkemlliaaaW.PrintMore Go.Proofs.Ytmbgjhkemlliaaa.PTlv
/-- A call in a region that draws its order, that ends in a panic. -/
theorem wrap64_in (n : Int) (h : 0 ≤ n ∧ n ≤ 1000000000) : wrap64 n = n := by unfold wrap64; omega
theorem skip_step {P : Program} {ops : Array Oper} {Q : Exit → Act → World → Prop} {o : Oper} {a : Act} {Kc : Act → World → Prop} {W w1 : World} (hw : Region.wanted o (yielded ops a.tmps) = true) (hrun : (execOp a.eval o).run P W = .ok .skip w1) (h : Kc (a.put o.dst undef) w1) : if Region.wanted o (yielded ops a.tmps) = true then Oper.wp P o a W Kc Q else Kc (a.put o.dst undef) W := by
  rw [if_pos hw]
  unfold Oper.wp
  rw [hrun]
  exact h
theorem dies_ {P : Program} {ops : Array Oper} {Q : Exit → Act → World → Prop} {oi : Oper} {N : Option Tmp} {a : Act} {w : World} {K : Act → World → Prop} {f : FuncId} {fn : Func} {as1 : Array Operand} {ts : Array TypeId} (hf : P.funcs[f]? = some fn) (hname : (fn.name == "runtime.NumGoroutine") = false) (hb : fn.body.isSome = true) (args : Array Value)
    (hw : Region.wanted oi (yielded ops a.tmps) = true) (hop : oi.op = .call { callee := .value (.func f), args := as1, argTypes := ts }) (hargs : as1.map a.eval = args)
    (h : Calls P f args w fun e w' => ∃ ch, e = .panicked ch ∧ Q (.panic ch) a w') : if Region.wanted oi (yielded ops a.tmps) = true then Oper.wp P oi a w K Q else K (a.put N undef) w := by
  rw [if_pos hw]
  have he := enters_ hf hname hb args w
  have hrun : (execOp a.eval oi).run P w = .ok (.enter f args) w := by
    unfold execOp
    simp [hop, resolve, Deferred.ofValue, invoke, Act.eval, hargs, he]
  unfold Oper.wp
  rw [hrun]
  refine h.mono ?_
  rintro e w' ⟨ch, rfl, hq⟩
  exact hq
def lenV : Value → Nat
  | .slice _ n _ => n
  | _ => 0

theorem isTag_small : ∀ n : Nat, n < 256 → (Go.bits .and .i64 (n : Int) 31 != 31) = decide ((n : Int) % 32 ≠ 31) := by decide +kernel
theorem holds_small : ∀ n : Nat, n < 256 → (Go.bits .and .i64 (n : Int) 32 != 0) = holdsB (n : Int) := by decide +kernel
theorem isTag_f (n : Int) : tlv_isTag.f n = some (isTagB n) := by
  unfold tlv_isTag.f isTagB
  by_cases h0 : 0 ≤ n
  · by_cases h1 : n ≤ 255
    · obtain ⟨k, rfl⟩ : ∃ k : Nat, n = k := ⟨n.toNat, by omega⟩
      rw [if_pos h0, if_pos h1, isTag_small k (by omega)]
      simp [h0, h1]
    · rw [if_pos h0, if_neg h1]
      simp [h1]
  · rw [if_neg h0]
    simp [h0]
theorem holds_f (n : Int) (h0 : 0 ≤ n) (h1 : n < 256) : tlv_holds.f n = some (holdsB n) := by
  unfold tlv_holds.f
  obtain ⟨k, rfl⟩ : ∃ k : Nat, n = k := ⟨n.toNat, by omega⟩
  rw [if_pos h0, holds_small k (by omega)]

theorem grown_alloc {w W : World} {r : Option Nat} (h : w.grownBy W r) (o : Obj) : w.grownBy (W.alloc o) r :=
  grown_trans h ⟨rfl, rfl, rfl, by simp, fun k hk _ => Below.heap_alloc W o k hk⟩
theorem grown_new {w W : World} {r : Option Nat} (h : w.grownBy W r) {p : Addr} (hp : w.heap.size ≤ p.block) (v : Value) : w.grownBy (W.setCell p v) r :=
  ⟨h.os, h.tape, h.output, by have := h.size; simpa using this, fun k hk hne => (heap_setCell_other W p k v (by omega)).trans (h.block k hk hne)⟩
/-- Another row than r has been written, of a block that is new. -/
theorem grown_step {w W W2 : World} {r : Option Nat} {q : Option Nat} (h : w.grownBy W r) (h2 : W.grownBy W2 q) (hq : ∀ k, q = some k → w.heap.size ≤ k) : w.grownBy W2 r :=
  ⟨h2.os.trans h.os, h2.tape.trans h.tape, h2.output.trans h.output, Nat.le_trans h.size h2.size, fun k hk hne => (h2.block k (Nat.lt_of_lt_of_le hk h.size) (fun e => by have := hq k e.symm; omega)).trans (h.block k hk hne)⟩
theorem below_grown {w0 W W2 : World} {B : Nat} {q : Option Nat} (h : Below B w0 W) (h2 : W.grownBy W2 q) (hBW : B ≤ W.heap.size) (hq : ∀ k, q = some k → B ≤ k) : Below B w0 W2 :=
  h.grown h2 hBW hq

theorem RdAt.alloc {w : World} {g : Nat} {A : Option Addr} {n c : Nat} {sh : Int} (h : RdAt w g A n c sh) (hg : g < w.heap.size) (o : Obj) : RdAt (w.alloc o) g A n c sh := (Below.heap_alloc w o g hg).trans h
theorem grown_set (W : World) (p : Addr) (v : Value) : W.grownBy (W.setCell p v) (some p.block) :=
  ⟨rfl, rfl, rfl, by simp, fun k _ hne => heap_setCell_other W p k v (fun e => hne (by rw [e]))⟩
theorem At.step {w0 w W W2 : World} {g : Nat} {sh : Int} {r : List Int} {q : Option Nat} (h : At w0 w W g sh r) (h2 : W.grownBy W2 q) (hq : ∀ k, q = some k → w.heap.size ≤ k) (hg : g < w.heap.size) (hw : w0.heap.size ≤ w.heap.size) : At w0 w W2 g sh r := by
  obtain ⟨A2, c2, e1, e2, e3⟩ := h.ex
  have hlt : g < W.heap.size := Nat.lt_of_lt_of_le hg h.grown.size
  refine ⟨⟨A2, c2, (h2.block g hlt (fun e => ?_)).trans e1, e2, e3⟩, below_grown h.below h2 (Nat.le_trans hw h.grown.size) (fun k hk => Nat.le_trans hw (hq k hk)), grown_step h.grown h2 hq⟩
  have := hq g e.symm
  omega
theorem at_dst (n : Tmp) {P : Program} {ops : Array Oper} {Q : Exit → Act → World → Prop} {rest : List Oper} {a : Act} {w : World} {op : Op} {ty : TypeId} {pos : String} {af : Array Edge} {g : Option (Nat × Bool)}
    (h : wpList P ops Q (⟨some n, op, ty, pos, af, g⟩ :: rest) a w) : wpList P ops Q (⟨some n, op, ty, pos, af, g⟩ :: rest) a w := h
theorem own0 (W : World) (base : Nat) (ok : Nat → Prop) (hk : ok W.heap.size) (hb : base ≤ W.heap.size) :
    Kd.R (Kd.int .u8) 5 (W.alloc (.cells #[] 5)) base ok (.slice (some ⟨W.heap.size, 0, none⟩) 0 0) [] :=
  ⟨fun k h => by simp [Value.ownBlock] at h; exact h ▸ hk, [], ⟨rfl, .inr ⟨W.heap.size, 0, _, rfl, hb, heap_alloc_new W _, Nat.le_refl _, by decide, rfl, rfl⟩⟩, Reps.none _ _⟩
theorem grown_undrew {w W : World} {r : Option Nat} (h : w.drew.grownBy W r) : w.grownBy W r := ⟨h.os, h.tape, h.output, h.size, h.block⟩
theorem grown_drewN {w W : World} {r : Option Nat} (h : w.grownBy W r) (n : Nat) : w.grownBy (W.drewN n) r := by
  induction n with
  | zero => exact h
  | succ n ih => exact ⟨ih.os, ih.tape, ih.output, ih.size, ih.block⟩
theorem ReadsInt_below {w0 W : World} {A : Option Addr} {b : List Int} (h : ReadsInt w0 .u8 A b.length b) (hB : Below w0.heap.size w0 W) : ReadsInt W .u8 A b.length b := by
  refine ⟨h.1, h.2.1, fun hp => ?_⟩
  obtain ⟨ad, e, q⟩ := h.2.2 hp
  exact ⟨ad, e, fun j hj => (hB.cell (World.block_lt_of_cell? w0 _ (q j hj))).trans (q j hj)⟩
theorem C_of_R {W : World} {o : Obj} {A : Option Addr} {l : List Int} {n : Nat} (h : ReadsInt W .u8 A l.length l) (hn : l.length = n) : ReadsRow ((Kd.int .u8).K (W.alloc o)) (Kd.int .u8).sz (W.alloc o) A n l := by
  subst hn
  exact Kd.C_of_reads (d := (0 : Int)) (ReadsInt_below h ((Below.refl _ _).alloc (Nat.le_refl _) _))
/-- The two blocks of an element that is being read: the result's, and the one that is filled. -/
structure Two (W : World) (B4 B5 : Nat) (tag : Int) (kv : Value) : Prop where
  a0 : W.cell? ⟨B5, 0, none⟩ = some (.int .i64 tag)
  a1 : W.cell? ⟨B5, 1, none⟩ = some (.slice none 0 0)
  a2 : W.cell? ⟨B5, 2, none⟩ = some kv
  b0 : W.cell? ⟨B4, 0, none⟩ = some (.int .i64 0)
  b1 : W.cell? ⟨B4, 1, none⟩ = some (.slice none 0 0)
  b2 : W.cell? ⟨B4, 2, none⟩ = some (.slice none 0 0)
  p0 : W.frozen? ⟨B5, 0, none⟩ = false
  p1 : W.frozen? ⟨B5, 1, none⟩ = false
  p2 : W.frozen? ⟨B5, 2, none⟩ = false
  r0 : W.frozen? ⟨B4, 0, none⟩ = false
  r1 : W.frozen? ⟨B4, 1, none⟩ = false
  r2 : W.frozen? ⟨B4, 2, none⟩ = false
theorem Two.of {W : World} {B4 B5 : Nat} {tag : Int} {kv : Value} (h4 : W.heap[B4]? = some (.cells #[.int .i64 0, .slice none 0 0, .slice none 0 0] 25 (0, 0))) (h5 : W.heap[B5]? = some (.cells #[.int .i64 tag, .slice none 0 0, kv] 25 (0, 0))) : Two W B4 B5 tag kv :=
  ⟨Lib.cell_of_heap h5 0, Lib.cell_of_heap h5 1, Lib.cell_of_heap h5 2, Lib.cell_of_heap h4 0, Lib.cell_of_heap h4 1, Lib.cell_of_heap h4 2,
    Lib.frozen_of_heap h5 0, Lib.frozen_of_heap h5 1, Lib.frozen_of_heap h5 2, Lib.frozen_of_heap h4 0, Lib.frozen_of_heap h4 1, Lib.frozen_of_heap h4 2⟩
theorem append_in {ops : Array Oper} {o : Oper} {a : Act} {Q : Exit → Act → World → Prop} {rest : List Oper} (w8 : World) (base B4 B5 : Nat) (tag : Int) (A3 : Option Addr) (c : Nat) (l : List Int) (n : Nat) (s x : Operand) (hgd : o.guard = none)
    (ho : o.op = .call { callee := .builtin .append, args := #[s, x], argTypes := #[22, 22] }) (hs : a.eval s = .slice (some ⟨w8.heap.size, 0, none⟩) 0 0) (hx : a.eval x = .slice A3 n c)
    (hr : ReadsInt w8 .u8 A3 l.length l) (hn : l.length = n) (hl : l.length ≤ 1000000000) (hb : base ≤ w8.heap.size) (h4 : w8.heap[B4]? = some (.cells #[.int .i64 0, .slice none 0 0, .slice none 0 0] 25 (0, 0))) (h5 : w8.heap[B5]? = some (.cells #[.int .i64 tag, .slice none 0 0, .slice none 0 0] 25 (0, 0)))
    (h : ∀ Av cv w1, Kd.R (Kd.int .u8) 5 w1 base (fun k => w8.heap.size ≤ k) (.slice Av n cv) l ∧ w8.grownBy w1 none ∧ Two w1 B4 B5 tag (.slice none 0 0) → wpList Try.prog ops Q rest (a.put o.dst (.slice Av n cv)) w1) :
    wpList Try.prog ops Q (o :: rest) a (w8.alloc (.cells #[] 5)) := by
  have k4 : B4 < w8.heap.size := (Array.getElem?_eq_some_iff.1 h4).1
  have k5 : B5 < w8.heap.size := (Array.getElem?_eq_some_iff.1 h5).1
  refine Kd.R_append_rows (Kd.int .u8) (w0 := w8) base hgd s x 22 5 (.int .u8 0) 1 ho Try.underlying22 infoByte rfl (by decide) (by omega) _ [] l A3 n c (fun k => w8.heap.size ≤ k) (fun _ => False) hs hx (own0 w8 _ _ (Nat.le_refl _) hb) (C_of_R hr hn) (fun x cs h => h) (fun _ h => h.elim) (fun k h => by simp at h; omega) ((Below.refl _ _).alloc hb _) (by simp; omega) (by simp; omega) ?_
  intro v1 w1 ho1 hb1 hg1 _
  have e : Value.ownBlock (.slice (some ⟨w8.heap.size, 0, none⟩) 0 0) = some w8.heap.size := rfl
  rw [e] at hg1
  have hg : w8.grownBy w1 none := ⟨hg1.os, hg1.tape, hg1.output, Nat.le_trans (by simp) hg1.size, fun k hk _ => (hg1.block k (by simp; omega) (fun e => by injection e with e; omega)).trans (Below.heap_alloc w8 _ k hk)⟩
  rw [List.nil_append] at ho1
  obtain ⟨Av, cv, rfl⟩ := Kd.R_slice ho1
  rw [hn] at ho1 ⊢
  exact h Av cv w1 ⟨ho1, hg, Two.of ((hg.block _ k4 (by simp)).trans h4) ((hg.block _ k5 (by simp)).trans h5)⟩
def bindK (done : List T) : Res (List T) → Res (List T)
  | .err e => .err e
  | .ok l => .ok (done ++ l)
def LoopRel (n : Nat) (w0 w w8 : World) (g B5 : Nat) (tag sh deep : Int) (rd inn : List Int) (wr : World) : Prop :=
  ∃ (done : List T) (A5 : Option Addr) (c5 m : Nat) (rest : List Int) (v : Value), RdAt wr w8.heap.size A5 rest.length c5 2 ∧ rest.length ≤ c5 ∧ Hid (ReadsInt w0 .u8 A5 rest.length rest) ∧ Hid (∀ x ∈ rest, 0 ≤ x ∧ x < 256) ∧ rest.length + 2 ≤ m ∧ m ≤ n ∧ done.length + rest.length ≤ 1000000 ∧
    Hid (wr.heap[B5]? = some (.cells #[.int .i64 tag, .slice none 0 0, v] 25 (0, 0))) ∧ Hid (wr.heap[w.heap.size]? = some (.cells #[.int .i64 0, .slice none 0 0, .slice none 0 0] 25 (0, 0))) ∧
    Hid (k25.R 25 wr (w8.heap.size + 1) (fun k => w8.heap.size + 1 ≤ k) v done) ∧ Hid (kidsP n (deep + 1) inn = bindK done (kidsP m (deep + 1) rest)) ∧ At w0 w wr g sh rd ∧ w8.heap.size < wr.heap.size
theorem encT_len (t : T) : 2 ≤ (encT t).length := by
  obtain ⟨tag, body, kids⟩ := t
  have h : ∀ a n, 2 ≤ (head a n).length := fun a n => by unfold head; split; simp; split <;> simp
  unfold encT
  split
  · have := h tag (sizeL kids); rw [List.length_append]; omega
  · have := h tag body.length; rw [List.length_append]; omega
theorem after_elem {n m : Nat} {w0 w w8 wo : World} {g B5 : Nat} {tag sh deep : Int} {rd inn : List Int} {done : List T} {Ak : Option Addr} {ck : Nat} {A5 : Option Addr} {c5 : Nat} {x : Int} {rest : List Int} {t : T} {r6 : List Int}
    (hg5 : RdAt wo w8.heap.size A5 (x :: rest).length c5 2) (h5 : wo.heap[B5]? = some (.cells #[.int .i64 tag, .slice none 0 0, .slice Ak done.length ck] 25 (0, 0))) (h4 : wo.heap[w.heap.size]? = some (.cells #[.int .i64 0, .slice none 0 0, .slice none 0 0] 25 (0, 0)))
    (hO : k25.R 25 wo (w8.heap.size + 1) (fun k => w8.heap.size + 1 ≤ k) (.slice Ak done.length ck) done) (hK : kidsP n (deep + 1) inn = bindK done (kidsP (m + 1) (deep + 1) (x :: rest))) (he : elemP m (deep + 1) 2 (x :: rest) = .ok (t, r6)) (hA : At w0 w wo g sh rd) (hgs : w8.heap.size < wo.heap.size)
    (hvv : ∀ y ∈ x :: rest, 0 ≤ y ∧ y < 256) (hm1 : (x :: rest).length + 2 ≤ m + 1) (hm2 : m + 1 ≤ n) (hdl : done.length + (x :: rest).length ≤ 1000000) (hw1 : w.heap.size + 1 ≤ B5) (hs8 : B5 < w8.heap.size) (hgw : g < w.heap.size) (hww : w0.heap.size ≤ w.heap.size)
    (w9 : World) (v1 v2 : Value) (hv1 : (Kd.int .u8).R 5 w9 wo.drew.heap.size (fun _ => True) v1 t.f1) (hv2 : k25.R 25 w9 wo.drew.heap.size (fun k => some k ≠ v1.ownBlock) v2 t.f2) (hA9 : At w0 wo.drew w9 w8.heap.size 2 r6) :
    w9.cell? ⟨B5, 2, none⟩ = some (.slice Ak done.length ck) ∧ k25.M w9 (w8.heap.size + 1) (fun k => wo.heap.size ≤ k) t [.int .i64 t.f0, v1, v2] ∧ (∀ k, wo.heap.size ≤ k → w8.heap.size + 1 ≤ k ∧ some k ≠ (Value.slice Ak done.length ck).ownBlock) ∧ (∀ k, w9.heap.size ≤ k → w8.heap.size + 1 ≤ k) ∧
    k25.R 25 w9 (w8.heap.size + 1) (fun k => w8.heap.size + 1 ≤ k) (.slice Ak done.length ck) done ∧ w8.heap.size + 1 ≤ w9.heap.size ∧ (done.length + 1) * 56 ≤ 140737488355328 ∧
    (∀ (w10 : World) (A9 : Option Addr) (c9 : Nat), k25.R 25 w10 (w8.heap.size + 1) (fun k => w8.heap.size + 1 ≤ k) (.slice A9 (done ++ [t]).length c9) (done ++ [t]) → w9.grownBy w10 (Value.slice Ak done.length ck).ownBlock →
      w10.cell? ⟨B5, 2, none⟩ = some (.slice Ak done.length ck) ∧ w10.frozen? ⟨B5, 2, none⟩ = false ∧ LoopRel n w0 w w8 g B5 tag sh deep rd inn (w10.setCell ⟨B5, 2, none⟩ (.slice A9 (done ++ [t]).length c9)) ∧
      lenV (((w10.setCell ⟨B5, 2, none⟩ (.slice A9 (done ++ [t]).length c9)).cell? ⟨w8.heap.size, 0, none⟩).getD .nilIface) < lenV ((wo.cell? ⟨w8.heap.size, 0, none⟩).getD .nilIface)) := by
  have hG : wo.grownBy w9 (some w8.heap.size) := ⟨hA9.grown.os, hA9.grown.tape, hA9.grown.output, hA9.grown.size, hA9.grown.block⟩
  have hsz := hG.size
  have hxl : (x :: rest).length = rest.length + 1 := rfl
  have h59 : w9.heap[B5]? = some (.cells #[.int .i64 tag, .slice none 0 0, .slice Ak done.length ck] 25 (0, 0)) := (hG.block _ (by omega) (by intro e; injection e with e; omega)).trans h5
  have h49 : w9.heap[w.heap.size]? = some (.cells #[.int .i64 0, .slice none 0 0, .slice none 0 0] 25 (0, 0)) := (hG.block _ (by omega) (by intro e; injection e with e; omega)).trans h4
  have hOb : ∀ k, (Value.slice Ak done.length ck).ownBlock = some k → w8.heap.size + 1 ≤ k ∧ k < wo.heap.size := fun k hk => by
    have h1 := (Kd.R_bound hO).1 k hk
    exact ⟨h1.2.1, h1.2.2.1⟩
  have hO9 : k25.R 25 w9 (w8.heap.size + 1) (fun k => w8.heap.size + 1 ≤ k) (.slice Ak done.length ck) done := Kd.R_grown hO hG (fun k hk e => by injection e with e; omega)
  obtain ⟨e1, e2, e3, e4⟩ := elemP_ok m (deep + 1) 2 (x :: rest) t r6 hvv he
  have hlen := congrArg List.length e1
  rw [List.length_append] at hlen
  have henc := encT_len t
  have hv6 : ∀ y ∈ r6, 0 ≤ y ∧ y < 256 := fun y hy => hvv y (by rw [e1]; exact List.mem_append_right _ hy)
  obtain ⟨A6, c6, g6, hc6, hr6⟩ := hA9.ex
  refine ⟨Lib.cell_of_heap h59 2, k25_mkM w9 _ _ t (Kd.R_lower (Kd.R_mono (Kd.R_bound hv1) (fun k h => h.2.1)) (Nat.succ_le_of_lt hgs)) (Kd.R_lower (Kd.R_mono (Kd.R_bound hv2) (fun k h => h.2.1)) (Nat.succ_le_of_lt hgs)), fun k hk => ⟨by omega, fun e => by have := hOb k e.symm; omega⟩, fun k hk => by omega, hO9, by omega, by omega, ?_⟩
  intro w10 A9 c9 hR hg10
  have hsz2 := hg10.size
  have far : ∀ k, k < w8.heap.size + 1 → some k ≠ (Value.slice Ak done.length ck).ownBlock := fun k hk e => by have := hOb k e.symm; omega
  have h510 : w10.heap[B5]? = some (.cells #[.int .i64 tag, .slice none 0 0, .slice Ak done.length ck] 25 (0, 0)) := (hg10.block _ (by omega) (far _ (by omega))).trans h59
  have h410 : w10.heap[w.heap.size]? = some (.cells #[.int .i64 0, .slice none 0 0, .slice none 0 0] 25 (0, 0)) := (hg10.block _ (by omega) (far _ (by omega))).trans h49
  have g10 : RdAt w10 w8.heap.size A6 r6.length c6 2 := (hg10.block _ (by omega) (far _ (by omega))).trans g6
  have g11 : RdAt (w10.setCell ⟨B5, 2, none⟩ (.slice A9 (done ++ [t]).length c9)) w8.heap.size A6 r6.length c6 2 := (heap_setCell_other w10 ⟨B5, 2, none⟩ _ _ (by show w8.heap.size ≠ B5; omega)).trans g10
  refine ⟨Lib.cell_of_heap h510 2, Lib.frozen_of_heap h510 2, ⟨done ++ [t], A6, c6, m, r6, .slice A9 (done ++ [t]).length c9, g11, hc6, hr6, hv6, by omega, by omega, by rw [List.length_append, List.length_singleton]; omega, heap_setCell_same w10 B5 2 _ _ _ h510, (heap_setCell_other w10 ⟨B5, 2, none⟩ _ _ (by show w.heap.size ≠ B5; omega)).trans h410, Kd.R_far hR (fun k hk => by show k ≠ B5; omega) _, ?_, ?_, by simp; omega⟩, ?_⟩
  · show _ = _
    rw [hK, kidsP, he]
    dsimp only
    cases kidsP m (deep + 1) r6 with
    | err e => rfl
    | ok l => show Res.ok (done ++ (t :: l)) = Res.ok ((done ++ [t]) ++ l); rw [List.append_assoc]; rfl
  · exact ((hA.step hG (fun k h => by injection h with h; omega) hgw hww).step hg10 (fun k h => by have := hOb k h; omega) hgw hww).step (grown_set _ _ _) (fun k h => by injection h with h; subst h; show w.heap.size ≤ B5; omega) hgw hww
  · rw [g11.c0, hg5.c0]
    show r6.length < (x :: rest).length
    omega
def ElemPost (n : Nat) (w0 w : World) (g : Nat) (sh deep : Int) (b : List Int) (e : Ending) (w' : World) : Prop :=
  match elemP n deep sh b with
  | .err x => e = gone x ∧ Lost w0 w w' g
  | .ok (t, r) => ∃ v1 v2 : Value, e = .returned (.agg #[.int .i64 t.f0, v1, v2]) ∧ (Kd.int .u8).R 5 w' w.heap.size (fun _ => True) v1 t.f1 ∧ k25.R 25 w' w.heap.size (fun k => some k ≠ v1.ownBlock) v2 t.f2 ∧ At w0 w w' g sh r

def ElemC (n : Nat) : Prop := ∀ (w0 : World) (g : Nat) (A : Option Addr) (c : Nat) (b : List Int) (sh deep : Int) (w : World), b.length + 1 ≤ n → 0 ≤ deep → deep ≤ 32 → RdAt w g A b.length c sh → b.length ≤ c → b.length ≤ 1000000000 →
    ReadsInt w0 .u8 A b.length b → Below w0.heap.size w0 w → w0.heap.size ≤ g → (∀ x ∈ b, 0 ≤ x ∧ x < 256) →
    Calls Try.prog 37 #[.pointer (some ⟨g, 0, none⟩), .int .i64 deep] w (ElemPost n w0 w g sh deep b)

set_option maxHeartbeats 8000000 in
set_option maxRecDepth 100000 in
theorem element_step (n : Nat) (ih : ∀ m, m ≤ n → ElemC m) : ElemC (n + 1) := by
  intro w0 g A c b sh deep w hn hd0 hd1 hg hc hb hr hB hgB hv
  have hgw : g < w.heap.size := (Array.getElem?_eq_some_iff.1 hg).1
  cases b with
  | nil =>
    have hp : ElemPost (n + 1) w0 w g sh deep [] = fun e w' => e = gone sh ∧ Lost w0 w w' g := by funext e w'; rfl
    rw [hp]
    go_enter Try.func37, Try.ntmps37
    go_wp2_with (fail)
    refine (take_no g A c [] sh 1 _ (hg.alloc hgw _) (by simp)).mono ?_
    rintro e w' ⟨rfl, rfl⟩
    exact ⟨rfl, rfl, hB.alloc hB.size _, grown_alloc (grown_refl _ _) _⟩
  | cons tag b =>
    obtain ⟨t0, t1⟩ := hv tag List.mem_cons_self
    have hv' : ∀ x ∈ b, 0 ≤ x ∧ x < 256 := fun x hx => hv x (List.mem_cons_of_mem _ hx)
    have hbl : (tag :: b).length = b.length + 1 := rfl
    have HV := Lib.hid hv
    have HV' := Lib.hid hv'
    have hn' : b.length + 1 ≤ n := by omega
    clear hv hv'
    have P0 : isTagB tag = false → ElemPost (n + 1) w0 w g sh deep (tag :: b) = fun e w' => e = gone 2 ∧ Lost w0 w w' g := by
      intro h; funext e w'; unfold ElemPost elemP; simp [h]
    have P1 : ∀ x, isTagB tag = true → lenP sh b = .err x → ElemPost (n + 1) w0 w g sh deep (tag :: b) = fun e w' => e = gone x ∧ Lost w0 w w' g := by
      intro x h h2; funext e w'; unfold ElemPost elemP; simp [h, h2]
    have P2 : ∀ m r, isTagB tag = true → lenP sh b = .ok (m, r) → (r.length : Int) < m → ElemPost (n + 1) w0 w g sh deep (tag :: b) = fun e w' => e = gone sh ∧ Lost w0 w w' g := by
      intro m r h h2 h3; funext e w'; unfold ElemPost elemP; simp [h, h2, h3]
    have P3 : ∀ m r, isTagB tag = true → lenP sh b = .ok (m, r) → ¬ (r.length : Int) < m → 32 ≤ deep → ElemPost (n + 1) w0 w g sh deep (tag :: b) = fun e w' => e = gone 4 ∧ Lost w0 w w' g := by
      intro m r h h2 h3 h4; funext e w'; unfold ElemPost elemP; simp [h, h2, h3, h4]
    have P4 : ∀ m r, isTagB tag = true → lenP sh b = .ok (m, r) → ¬ (r.length : Int) < m → ¬ 32 ≤ deep → holdsB tag = false → ElemPost (n + 1) w0 w g sh deep (tag :: b) = fun e w' => ∃ v1 v2 : Value, e = .returned (.agg #[.int .i64 tag, v1, v2]) ∧ (Kd.int .u8).R 5 w' w.heap.size (fun _ => True) v1 (r.take m.toNat) ∧ k25.R 25 w' w.heap.size (fun k => some k ≠ v1.ownBlock) v2 [] ∧ At w0 w w' g sh (r.drop m.toNat) := by
      intro m r h h2 h3 h4 h5; funext e w'; unfold ElemPost elemP; simp [h, h2, h3, h4, h5]
    have P5 : ∀ m r x, isTagB tag = true → lenP sh b = .ok (m, r) → ¬ (r.length : Int) < m → ¬ 32 ≤ deep → holdsB tag = true → kidsP n (deep + 1) (r.take m.toNat) = .err x → ElemPost (n + 1) w0 w g sh deep (tag :: b) = fun e w' => e = gone x ∧ Lost w0 w w' g := by
      intro m r x h h2 h3 h4 h5 h6; funext e w'; unfold ElemPost elemP; simp [h, h2, h3, h4, h5, h6]
    have P6 : ∀ m r l, isTagB tag = true → lenP sh b = .ok (m, r) → ¬ (r.length : Int) < m → ¬ 32 ≤ deep → holdsB tag = true → kidsP n (deep + 1) (r.take m.toNat) = .ok l → ElemPost (n + 1) w0 w g sh deep (tag :: b) = fun e w' => ∃ v1 v2 : Value, e = .returned (.agg #[.int .i64 tag, v1, v2]) ∧ (Kd.int .u8).R 5 w' w.heap.size (fun _ => True) v1 [] ∧ k25.R 25 w' w.heap.size (fun k => some k ≠ v1.ownBlock) v2 l ∧ At w0 w w' g sh (r.drop m.toNat) := by
      intro m r l h h2 h3 h4 h5 h6; funext e w'; unfold ElemPost elemP; simp [h, h2, h3, h4, h5, h6]
    generalize ElemPost (n + 1) w0 w g sh deep (tag :: b) = PP at P0 P1 P2 P3 P4 P5 P6 ⊢
    have Q0 := Lib.hid P0
    have Q1 := Lib.hid P1
    have Q2 := Lib.hid P2
    have Q3 := Lib.hid P3
    have Q4 := Lib.hid P4
    have Q5 := Lib.hid P5
    have Q6 := Lib.hid P6
    clear P0 P1 P2 P3 P4 P5 P6
    have hb' : b.length ≤ 1000000000 := by omega
    have hg1 : RdAt (w.alloc (.cells #[.int .i64 0, .slice none 0 0, .slice none 0 0] 25)) g A (tag :: b).length c sh := hg.alloc hgw _
    have ht := take_go w0 g A c (tag :: b) sh 1 _ hg1 hc (by simp) hb hr (hB.alloc hB.size _) hgB
    rw [List.drop_succ_cons, List.drop_zero] at ht
    have hcell : ∀ W : World, Below w0.heap.size w0 W → ∃ ad, A = some ad ∧ W.cell? ad = some (.int .u8 tag) := fun W hW => cellAt0 hr hW
    have HCELL := Lib.hid hcell
    have hsz : (w.alloc (.cells #[.int .i64 0, .slice none 0 0, .slice none 0 0] 25)).heap.size = w.heap.size + 1 := by simp
    have hnew : (w.alloc (.cells #[.int .i64 0, .slice none 0 0, .slice none 0 0] 25)).heap[w.heap.size]? = some (.cells #[.int .i64 0, .slice none 0 0, .slice none 0 0] 25 (0, 0)) := heap_alloc_new w _
    have HNEW := Lib.hid hnew
    have HSZ := Lib.hid hsz
    clear hcell hg1 hnew hsz hg hr hc hb hbl hn
    go_enter Try.func37, Try.ntmps37
    go_wp2_with (fail)
    refine ht.mono ?_
    rintro e w1 ⟨A2, rfl, hg1, hc1, hr1, hB1, hG1⟩
    obtain ⟨ad, rfl, q0⟩ := HCELL.out w1 hB1
    have hw1 : w.heap.size + 1 ≤ w1.heap.size := by have := hG1.size; rw [HSZ.out] at this; exact this
    have h4 : w1.heap[w.heap.size]? = some (.cells #[.int .i64 0, .slice none 0 0, .slice none 0 0] 25 (0, 0)) := (hG1.block _ (by rw [HSZ.out]; omega) (by intro e; injection e with e; omega)).trans HNEW.out
    have hG : w.grownBy w1 (some g) := grown_trans (grown_alloc (grown_refl w _) _) hG1
    have H4 := Lib.hid h4
    have HG := Lib.hid hG
    clear HNEW HSZ h4 hG1 hG ht HCELL
    go_wp2_with (fail)
    have hgw1 : g < w1.heap.size := (Array.getElem?_eq_some_iff.1 hg1).1
    have hg2 := hg1.alloc hgw1 (.cells #[.int .i64 tag, .slice none 0 0, .slice none 0 0] 25)
    have hB2 := hB1.alloc hB1.size (.cells #[.int .i64 tag, .slice none 0 0, .slice none 0 0] 25)
    have hG2 := grown_alloc HG.out (.cells #[.int .i64 tag, .slice none 0 0, .slice none 0 0] 25)
    have h42 : (w1.alloc (.cells #[.int .i64 tag, .slice none 0 0, .slice none 0 0] 25)).heap[w.heap.size]? = some (.cells #[.int .i64 0, .slice none 0 0, .slice none 0 0] 25 (0, 0)) := (Below.heap_alloc w1 _ _ (by omega)).trans H4.out
    have h52 : (w1.alloc (.cells #[.int .i64 tag, .slice none 0 0, .slice none 0 0] 25)).heap[w1.heap.size]? = some (.cells #[.int .i64 tag, .slice none 0 0, .slice none 0 0] 25 (0, 0)) := heap_alloc_new w1 _
    have hs2 : w1.heap.size < (w1.alloc (.cells #[.int .i64 tag, .slice none 0 0, .slice none 0 0] 25)).heap.size := by simp
    generalize w1.alloc (.cells #[.int .i64 tag, .slice none 0 0, .slice none 0 0] 25) = w2 at hg2 hB2 hG2 h42 h52 hs2 ⊢
    generalize w1.heap.size = B5 at hw1 h52 hs2 ⊢
    clear hg1 hB1 H4 HG hgw1 q0
    refine (tlv_isTag.calls tag (isTagB tag) _ (isTag_f tag)).mono ?_
    rintro e w3 ⟨rfl, nd, rfl⟩
    have hg3 : RdAt (w2.drewN nd) g A2 b.length (c - 1) sh := hg2
    have hB3 : Below w0.heap.size w0 (w2.drewN nd) := pw_below_drewN hB2 nd
    have hG3 : w.grownBy (w2.drewN nd) (some g) := grown_drewN hG2 nd
    have h43 : (w2.drewN nd).heap[w.heap.size]? = some (.cells #[.int .i64 0, .slice none 0 0, .slice none 0 0] 25 (0, 0)) := h42
    have h53 : (w2.drewN nd).heap[B5]? = some (.cells #[.int .i64 tag, .slice none 0 0, .slice none 0 0] 25 (0, 0)) := h52
    have hs3 : B5 < (w2.drewN nd).heap.size := hs2
    clear hg2 hB2 hG2 h42 h52 hs2
    generalize w2.drewN nd = w3 at hg3 hB3 hG3 h43 h53 hs3 ⊢
    cases hT : isTagB tag with
    | false =>
      go_wp2_with (fail)
      refine (must_no 2 w3).mono ?_
      rintro e w4 ⟨rfl, rfl⟩
      refine ⟨rfl, ?_⟩
      rw [Q0.out hT]
      exact ⟨rfl, hB3, hG3⟩
    | true =>
      have HT := Lib.hid hT
      clear hT
      go_wp2_with (fail)
      refine (must_yes 2 w3).mono ?_
      rintro e w4 ⟨rfl, rfl⟩
      go_wp2_with (fail)
      refine (length_walk w0 g A2 (c - 1) b sh w4 hg3 hc1 hb' hr1 hB3 hgB HV'.out).mono ?_
      intro e w5 hp
      unfold LenPost at hp
      cases hL : lenP sh b with
      | err x =>
        rw [hL] at hp
        obtain ⟨rfl, hB5, hG5⟩ := hp
        refine ⟨rfl, ?_⟩
        rw [Q1.out x HT.out hL]
        exact ⟨rfl, hB5, grown_trans hG3 hG5⟩
      | ok p =>
        obtain ⟨m, r⟩ := p
        rw [hL] at hp
        obtain ⟨rfl, ⟨A3, c3, hg5, hc5, hr5⟩, hB5, hG5⟩ := hp
        have HL := Lib.hid hL
        obtain ⟨m0, m1, hm⟩ := lenP_ok HV'.out hL tag ⟨t0, t1⟩
        have hlr : r.length + 1 ≤ b.length := by
          have := congrArg List.length hm
          have h1 := head_length tag m
          have h2 : 2 ≤ headLen m := by unfold headLen; split; omega; split <;> omega
          rw [List.length_append] at this
          simp only [List.length_cons] at this
          omega
        have hvr : ∀ x ∈ r, 0 ≤ x ∧ x < 256 := fun x hx => by
          have : x ∈ tag :: b := by rw [hm]; exact List.mem_append_right _ hx
          exact HV.out x this
        have HVR := Lib.hid hvr
        clear hL hm hvr
        have h45 : w5.heap[w.heap.size]? = some (.cells #[.int .i64 0, .slice none 0 0, .slice none 0 0] 25 (0, 0)) := (hG5.block _ (by omega) (by intro e; injection e with e; omega)).trans h43
        have h55 : w5.heap[B5]? = some (.cells #[.int .i64 tag, .slice none 0 0, .slice none 0 0] 25 (0, 0)) := (hG5.block _ (by omega) (by intro e; injection e with e; omega)).trans h53
        have hG6 : w.grownBy w5 (some g) := grown_trans hG3 hG5
        have hs5 : B5 < w5.heap.size := by have := hG5.size; omega
        clear h43 h53 hG3 hG5 hs3 hB3 hg3
        by_cases hlt : (r.length : Int) < m
        · go_wp2_with (fail)
          refine (take_no g A3 c3 r sh m w5 hg5 hlt).mono ?_
          rintro e w6 ⟨rfl, rfl⟩
          refine ⟨rfl, ?_⟩
          rw [Q2.out m r HT.out HL.out hlt]
          exact ⟨rfl, hB5, hG6⟩
        · obtain ⟨mn, rfl⟩ : ∃ mn : Nat, m = mn := ⟨m.toNat, by omega⟩
          go_wp2_with (fail)
          refine (take_go w0 g A3 c3 r sh mn w5 hg5 hc5 (by omega) (by omega) hr5 hB5 hgB).mono ?_
          rintro e w6 ⟨A4, rfl, hg6, hc6, hr6, hB6, hG7⟩
          have h46 : w6.heap[w.heap.size]? = some (.cells #[.int .i64 0, .slice none 0 0, .slice none 0 0] 25 (0, 0)) := (hG7.block _ (by omega) (by intro e; injection e with e; omega)).trans h45
          have h56 : w6.heap[B5]? = some (.cells #[.int .i64 tag, .slice none 0 0, .slice none 0 0] 25 (0, 0)) := (hG7.block _ (by omega) (by intro e; injection e with e; omega)).trans h55
          have hG8 : w.grownBy w6 (some g) := grown_trans hG6 hG7
          have hs6 : B5 < w6.heap.size := by have := hG7.size; omega
          have HA : At w0 w w6 g sh (r.drop mn) := ⟨⟨A4, _, hg6, hc6, hr6⟩, hB6, hG8⟩
          clear h45 h55 hG6 hG7 hs5 hg5 hg6 hc6 hr6 hG8
          by_cases hd : 32 ≤ deep
          · have e1 : decide (deep < 32) = false := decide_eq_false (by omega)
            go_wp2_with (fail)
            refine (must_no 4 w6).mono ?_
            rintro e w7 ⟨rfl, rfl⟩
            refine ⟨rfl, ?_⟩
            rw [Q3.out mn r HT.out HL.out hlt hd]
            exact ⟨rfl, hB6, HA.grown⟩
          · have e1 : decide (deep < 32) = true := decide_eq_true (by omega)
            go_wp2_with (fail)
            refine (must_yes 4 w6).mono ?_
            rintro e w7 ⟨rfl, rfl⟩
            have c50 : w7.cell? ⟨B5, 0, none⟩ = some (.int .i64 tag) := by rw [Lib.cell_of_heap h56]; rfl
            go_wp2_with (fail)
            refine (tlv_holds.calls tag (holdsB tag) _ (holds_f tag t0 t1)).mono ?_
            rintro e w8 ⟨rfl, nd2, rfl⟩
            have h48 : (w7.drewN nd2).heap[w.heap.size]? = some (.cells #[.int .i64 0, .slice none 0 0, .slice none 0 0] 25 (0, 0)) := h46
            have h58 : (w7.drewN nd2).heap[B5]? = some (.cells #[.int .i64 tag, .slice none 0 0, .slice none 0 0] 25 (0, 0)) := h56
            have hs8 : B5 < (w7.drewN nd2).heap.size := hs6
            have HA8 : At w0 w (w7.drewN nd2) g sh (r.drop mn) := ⟨HA.ex, pw_below_drewN HA.below nd2, grown_drewN HA.grown nd2⟩
            clear h46 h56 hs6 HA c50 hB6
            generalize w7.drewN nd2 = w8 at h48 h58 hs8 HA8 ⊢
            have hnot : ∀ (x : Bool) (w : World), (Op.unary .not (.bool x)).run Try.prog w = .ok (.bool (!x)) w := fun _ _ => rfl
            have HWW := Lib.hid (show w0.heap.size ≤ w.heap.size from hB.size)
            have hrd : ReadsInt w8 .u8 A3 (r.take mn).length (r.take mn) := ReadsInt_below (reads_take hr5 mn (by omega)) HA8.below
            have NUM := Lib.hid (And.intro hw1 (And.intro hs8 (And.intro hlr (And.intro hlt (And.intro hd (And.intro hn' (And.intro hd0 (And.intro hgw m1))))))))
            cases hH : holdsB tag with
            | false =>
              have HH := Lib.hid hH
              clear hH
              have HRD := Lib.hid hrd
              clear hrd
              have HLN := Lib.hid (show (r.take mn).length = mn by simp; omega)
              have HAP := fun (ops : Array Oper) (o : Oper) (a : Act) (Q : Exit → Act → World → Prop) (rest : List Oper) (s x : Operand) hgd ho hs hx h => append_in (ops := ops) (o := o) (a := a) (Q := Q) (rest := rest) w8 w.heap.size w.heap.size B5 tag A3 c3 (r.take mn) mn s x hgd ho hs hx HRD.out HLN.out (by have := HLN.out; omega) (by omega) h48 h58 h
              have hne : ¬ B5 = w.heap.size := by omega
              clear h48 h58 hw1 hs8 m0 m1 hlr hlt hd e1 hn' t0 t1 hd0 hd1 hgw hgB hb' hc1
              go_wp2_with ((with_reducible refine at_dst 31 ?_); go_must (refine HAP _ _ _ _ _ (.tmp 29) (.tmp 30) rfl rfl rfl rfl ?_); rintro Av cv w9 ⟨ho9, hg9, a0, a1, a2, b0, b1, b2, p0, p1, p2, r0, r1, r2⟩; have HO9 := Aside0.mk ho9; have HG9 := Aside0.mk hg9; clear ho9 hg9)
              obtain ⟨hw1, hs8, hlr, hlt, hd, hn', hd0, hgw, m1⟩ := NUM.out
              have far : ∀ (p : Addr), p.block < w8.heap.size → ∀ k, w8.heap.size ≤ k → k ≠ p.block := fun p hp k hk => by omega
              refine bodyPost_ret (v := .agg #[.int .i64 tag, .slice Av mn cv, .slice none 0 0]) (by simp [results, Try.results37, go_sem, b0, b1, b2]) rfl ?_
              rw [Q4.out mn r HT.out HL.out hlt hd HH.out]
              have hA9 := (((((HA8.step HG9.out (fun k h => by cases h) hgw HWW.out).step (grown_set _ ⟨B5, 1, none⟩ (.slice Av mn cv)) (fun k h => by injection h with h; subst h; show w.heap.size ≤ B5; omega) hgw HWW.out).step (grown_set _ ⟨w.heap.size, 0, none⟩ (.int .i64 tag)) (fun k h => by injection h with h; subst h; exact Nat.le_refl _) hgw HWW.out).step (grown_set _ ⟨w.heap.size, 1, none⟩ (.slice Av mn cv)) (fun k h => by injection h with h; subst h; exact Nat.le_refl _) hgw HWW.out).step (grown_set _ ⟨w.heap.size, 2, none⟩ (.slice none 0 0)) (fun k h => by injection h with h; subst h; exact Nat.le_refl _) hgw HWW.out)
              have hO := Kd.R_far (Kd.R_far (Kd.R_far (Kd.R_far HO9.out (far ⟨B5, 1, none⟩ hs8) (.slice Av mn cv)) (far ⟨w.heap.size, 0, none⟩ (by show w.heap.size < _; omega)) (.int .i64 tag)) (far ⟨w.heap.size, 1, none⟩ (by show w.heap.size < _; omega)) (.slice Av mn cv)) (far ⟨w.heap.size, 2, none⟩ (by show w.heap.size < _; omega)) (.slice none 0 0)
              exact ⟨_, _, rfl, Kd.R_mono hO (fun _ _ => trivial), Kd.R_nil _ _ _ _ _, hA9⟩
            | true =>
              have HH := Lib.hid hH
              clear hH
              have hkr : kidsP n (deep + 1) (r.take mn) = bindK [] (kidsP n (deep + 1) (r.take mn)) := by cases kidsP n (deep + 1) (r.take mn) <;> rfl
              have HMT := Lib.hid (show (mn : Int).toNat = mn from Int.toNat_natCast mn)
              generalize hRES : kidsP n (deep + 1) (r.take mn) = RES at hkr
              have HRES := Lib.hid hRES
              clear hRES
              rw [← HRES.out] at hkr
              have HKR := Lib.hid hkr
              have hvt : ∀ x ∈ r.take mn, 0 ≤ x ∧ x < 256 := fun x hx => HVR.out x (List.mem_of_mem_take hx)
              have HVT := Lib.hid hvt
              have hr0 : ReadsInt w0 .u8 A3 (r.take mn).length (r.take mn) := reads_take hr5 mn (by omega)
              have HR0 := Lib.hid hr0
              have hln : (r.take mn).length = mn := by simp; omega
              have hmc : mn ≤ c3 := by omega
              have hng : mn + 2 ≤ n := by omega
              obtain ⟨inn, hinn⟩ : ∃ inn, inn = r.take mn := ⟨_, rfl⟩
              rw [← hinn] at HVT HR0 hln HKR
              have HINN := Lib.hid hinn
              have hmi : mn ≤ 1000000 := by omega
              clear hkr hvt hr0 hinn hrd
              have HLN := Lib.hid hln
              clear hln
              go_wp2
              go_loopw [37] (fun kv wr => LoopRel n w0 w w8 g B5 tag sh deep (r.drop mn) inn wr)
                (fun _ wr => lenV ((wr.cell? ⟨w8.heap.size, 0, none⟩).getD .nilIface))
              case atStart =>
                refine ⟨[], A3, c3, n, inn, .slice none 0 0, ?_, by rw [HLN.out]; exact hmc, HR0, HVT, by rw [HLN.out]; exact hng, Nat.le_refl _, by rw [HLN.out]; simpa using hmi, (Below.heap_alloc w8 _ B5 hs8).trans h58, (Below.heap_alloc w8 _ w.heap.size (by omega)).trans h48, Kd.R_nil _ _ _ _ _, HKR, HA8.step (grown_alloc (grown_refl w8 none) _) (fun k h => by cases h) hgw HWW.out, by simp⟩
                show _ = _
                rw [HLN.out]
                exact heap_alloc_new w8 _
              case round =>
                rename World => wo
                obtain ⟨done, A5, c5, m, rest, v, hrd5, hc5, hrr, hvv, hm1, hm2, hdl, h5, h4, hO, hK, hA, hgs⟩ := hrel
                obtain ⟨Ak, ck, rfl⟩ := Kd.R_slice hO.out
                obtain ⟨a0, a1, a2, b0, b1, b2, p0, p1, p2, r0, r1, r2⟩ := Two.of h4.out h5.out
                have g0 := hrd5.c0
                have g1 := hrd5.f0 0
                have hne : ¬ B5 = w.heap.size := by omega
                obtain ⟨m, rfl⟩ : ∃ m', m = m' + 1 := ⟨m - 1, by omega⟩
                have NUM2 := Lib.hid (And.intro hm1 (And.intro hm2 (And.intro hdl (And.intro hgs (And.intro hc5 (And.intro hw1 (And.intro hs8 (And.intro hd0 hd))))))))
                cases rest with
                | nil =>
                  have hfin : kidsP n (deep + 1) inn = .ok done := by rw [hK.out]; simp [kidsP, bindK]
                  have HFIN := Lib.hid hfin
                  clear hfin hK hrr hvv hm1 hm2 hdl hgs hc5
                  clear h48 h58 hw1 hs8 m0 m1 hlr hlt hd e1 hn' t0 t1 hd0 hd1 hgw hgB hb' hc1 hmc hng hmi
                  go_wp2
                  obtain ⟨hm1, hm2, hdl, hgs, hc5, hw1, hs8, hd0, hd⟩ := NUM2.out
                  obtain ⟨_, _, hlr, hlt, _, hn', _, hgw, m1⟩ := NUM.out
                  have far : ∀ (p : Addr), p.block < w8.heap.size → ∀ k, w8.heap.size + 1 ≤ k → k ≠ p.block := fun p hp k hk => by omega
                  refine bodyPost_ret (v := .agg #[.int .i64 tag, .slice none 0 0, .slice Ak done.length ck]) (by simp [results, Try.results37, go_sem, b0, b1, b2]) rfl ?_
                  rw [Q6.out mn r done HT.out HL.out hlt hd HH.out (by rw [HMT.out, ← HINN.out]; exact HFIN.out)]
                  have hA9 := (((hA.step (grown_set _ ⟨w.heap.size, 0, none⟩ (.int .i64 tag)) (fun k h => by injection h with h; subst h; exact Nat.le_refl _) hgw HWW.out).step (grown_set _ ⟨w.heap.size, 1, none⟩ (.slice none 0 0)) (fun k h => by injection h with h; subst h; exact Nat.le_refl _) hgw HWW.out).step (grown_set _ ⟨w.heap.size, 2, none⟩ (.slice Ak done.length ck)) (fun k h => by injection h with h; subst h; exact Nat.le_refl _) hgw HWW.out)
                  have hO9 := Kd.R_far (Kd.R_far (Kd.R_far hO.out (far ⟨w.heap.size, 0, none⟩ (by show w.heap.size < _; omega)) (.int .i64 tag)) (far ⟨w.heap.size, 1, none⟩ (by show w.heap.size < _; omega)) (.slice none 0 0)) (far ⟨w.heap.size, 2, none⟩ (by show w.heap.size < _; omega)) (.slice Ak done.length ck)
                  exact ⟨_, _, rfl, Kd.R_nil _ _ _ _ _, Kd.R_lower (Kd.R_mono hO9 (fun _ _ => by simp [Value.ownBlock])) (by omega), hA9⟩
                | cons x rest =>
                  have hxl : (x :: rest).length = rest.length + 1 := rfl
                  have hcall := ih m (by omega) w0 w8.heap.size A5 c5 (x :: rest) 2 (deep + 1) wo.drew (by omega) (by omega) (by omega) hrd5 hc5 (by omega) hrr.out hA.below.drew (by have := HWW.out; omega) hvv.out
                  have hpos : decide ((0 : Int) < ((x :: rest).length : Int)) = true := decide_eq_true (by omega)
                  have HWD := Lib.hid (wrap64_in (deep + 1) (by omega))
                  cases he : elemP m (deep + 1) 2 (x :: rest) with
                  | err y =>
                    have hp : ElemPost m w0 wo.drew w8.heap.size 2 (deep + 1) (x :: rest) = fun e w' => e = gone y ∧ Lost w0 wo.drew w' w8.heap.size := by
                      funext e w'; unfold ElemPost; rw [he]
                    rw [hp] at hcall
                    have hfin : kidsP n (deep + 1) inn = .err y := by rw [hK.out, kidsP, he]; rfl
                    have HFIN := Lib.hid hfin
                    have HCALL := Lib.hid hcall
                    clear hfin hK hrr hvv hm1 hm2 hdl hgs hc5 hp hcall he
                    clear h48 h58 hw1 hs8 m0 m1 hlr hlt hd e1 hn' t0 t1 hd0 hd1 hgw hgB hb' hc1 hmc hng hmi
                    go_wp2
                    refine start_ (n := 10) (S := fun w' => w'.cell? ⟨B5, 2, none⟩ = some (.slice Ak done.length ck)) (ds := [9]) #[false, false, false, false, false, false, false, false, false, false] (by kernel_rfl) rfl rfl a2 (fun hHeld => ?_)
                    refine pure_ (i := 0) (N := some 43) (v := ?_) (a' := ?_) #[true, false, false, false, false, false, false, false, false, false] rfl rfl (by kernel_rfl) (fun _ _ _ h => h) (Or.inl ⟨by rfl, ?_⟩) ?_ ?_
                    rotate_left
                    · intro w'
                      go_simp
                      with_reducible rfl
                    rotate_left
                    · simp only [Act.put, List.setIfInBounds_toArray, List.set_cons_zero, List.set_cons_succ, i64_w, i32_w]
                      rfl
                    refine pure_ (i := 2) (N := some 45) (v := ?_) (a' := ?_) #[true, false, true, false, false, false, false, false, false, false] rfl rfl (by kernel_rfl) (fun _ _ _ h => h) (Or.inl ⟨by rfl, ?_⟩) ?_ ?_
                    rotate_left
                    · intro w'
                      go_simp
                      with_reducible rfl
                    rotate_left
                    · simp only [Act.put, List.setIfInBounds_toArray, List.set_cons_zero, List.set_cons_succ, i64_w, i32_w]
                      rfl
                    refine pure_ (i := 3) (N := some 46) (v := ?_) (a' := ?_) #[true, false, true, true, false, false, false, false, false, false] rfl rfl (by kernel_rfl) (fun _ _ _ h => h) (Or.inl ⟨by rfl, ?_⟩) ?_ ?_
                    rotate_left
                    · intro w'
                      go_simp
                      with_reducible rfl
                    rotate_left
                    · simp only [Act.put, List.setIfInBounds_toArray, List.set_cons_zero, List.set_cons_succ, i64_w, i32_w]
                      rfl
                    refine pure_ (i := 4) (N := some 47) (v := ?_) (a' := ?_) #[true, false, true, true, true, false, false, false, false, false] rfl rfl (by kernel_rfl) (fun _ _ _ h => h) (Or.inl ⟨by rfl, ?_⟩) ?_ ?_
                    rotate_left
                    · intro w'
                      go_simp
                      with_reducible rfl
                    rotate_left
                    · simp only [Act.put, List.setIfInBounds_toArray, List.set_cons_zero, List.set_cons_succ, i64_w, i32_w]
                      rfl
                    refine take_ (i := 1) (N := some 44) (v := ?_) (a' := ?_) #[true, true, true, true, true, false, false, false, false, false] rfl rfl (by kernel_rfl) (fun _ _ _ h => h) (Or.inl ⟨by rfl, ?_⟩) hHeld ?_ ?_
                    rotate_left
                    · rintro w' s0
                      go_simp
                      with_reducible rfl
                    rotate_left
                    · simp only [Act.put, List.setIfInBounds_toArray, List.set_cons_zero, List.set_cons_succ, i64_w, i32_w]
                      rfl
                    refine one_ (i := 5) (N := some 48) #[true, true, true, true, true, true, false, false, false, false] rfl rfl (by kernel_rfl) (by decide) (fun K hK => ?_)
                    refine dies_ Try.func37 (by kernel_rfl) rfl #[.pointer (some ⟨w8.heap.size, 0, none⟩), .int .i64 (deep + 1)] (by rfl) rfl (by first | rfl | (simp [Act.eval]; exact HWD.out)) ?_
                    refine HCALL.out.mono ?_
                    rintro e w9 ⟨rfl, hB9, hG9⟩
                    refine ⟨_, rfl, ?_⟩
                    obtain ⟨_, _, hlr, hlt, _, hn', _, hgw, m1⟩ := NUM.out
                    obtain ⟨hm1, hm2, hdl, hgs, hc5, hw1, hs8, hd0, hd⟩ := NUM2.out
                    refine ⟨rfl, ?_⟩
                    rw [Q5.out mn r y HT.out HL.out hlt hd HH.out (by rw [HMT.out, ← HINN.out]; exact HFIN.out)]
                    exact ⟨rfl, hB9, grown_step hA.grown (grown_undrew hG9) (fun k h => by injection h with h; omega)⟩
                  | ok p =>
                    obtain ⟨t, r6⟩ := p
                    have hp : ElemPost m w0 wo.drew w8.heap.size 2 (deep + 1) (x :: rest) = fun e w' => ∃ v1 v2 : Value, e = .returned (.agg #[.int .i64 t.f0, v1, v2]) ∧ (Kd.int .u8).R 5 w' wo.drew.heap.size (fun _ => True) v1 t.f1 ∧ k25.R 25 w' wo.drew.heap.size (fun k => some k ≠ v1.ownBlock) v2 t.f2 ∧ At w0 wo.drew w' w8.heap.size 2 r6 := by
                      funext e w'; unfold ElemPost; rw [he]
                    rw [hp] at hcall
                    have HCALL := Lib.hid hcall
                    have HAFTER := Lib.hid (fun w9 v1 v2 a b c => after_elem hrd5 h5.out h4.out hO.out hK.out he hA hgs hvv.out hm1 hm2 hdl hw1 hs8 hgw HWW.out w9 v1 v2 a b c)
                    clear hK hrr hvv hm1 hm2 hdl hgs hc5 hp hcall he
                    clear h48 h58 hw1 hs8 m0 m1 hlr hlt hd e1 hn' t0 t1 hd0 hd1 hgw hgB hb' hc1 hmc hng hmi
                    go_wp2
                    refine start_ (n := 10) (S := fun w' => w'.cell? ⟨B5, 2, none⟩ = some (.slice Ak done.length ck)) (ds := [9]) #[false, false, false, false, false, false, false, false, false, false] (by kernel_rfl) rfl rfl a2 (fun hHeld => ?_)
                    refine pure_ (i := 0) (N := some 43) (v := ?_) (a' := ?_) #[true, false, false, false, false, false, false, false, false, false] rfl rfl (by kernel_rfl) (fun _ _ _ h => h) (Or.inl ⟨by rfl, ?_⟩) ?_ ?_
                    rotate_left
                    · intro w'
                      go_simp
                      with_reducible rfl
                    rotate_left
                    · simp only [Act.put, List.setIfInBounds_toArray, List.set_cons_zero, List.set_cons_succ, i64_w, i32_w]
                      rfl
                    refine pure_ (i := 2) (N := some 45) (v := ?_) (a' := ?_) #[true, false, true, false, false, false, false, false, false, false] rfl rfl (by kernel_rfl) (fun _ _ _ h => h) (Or.inl ⟨by rfl, ?_⟩) ?_ ?_
                    rotate_left
                    · intro w'
                      go_simp
                      with_reducible rfl
                    rotate_left
                    · simp only [Act.put, List.setIfInBounds_toArray, List.set_cons_zero, List.set_cons_succ, i64_w, i32_w]
                      rfl
                    refine pure_ (i := 3) (N := some 46) (v := ?_) (a' := ?_) #[true, false, true, true, false, false, false, false, false, false] rfl rfl (by kernel_rfl) (fun _ _ _ h => h) (Or.inl ⟨by rfl, ?_⟩) ?_ ?_
                    rotate_left
                    · intro w'
                      go_simp
                      with_reducible rfl
                    rotate_left
                    · simp only [Act.put, List.setIfInBounds_toArray, List.set_cons_zero, List.set_cons_succ, i64_w, i32_w]
                      rfl
                    refine pure_ (i := 4) (N := some 47) (v := ?_) (a' := ?_) #[true, false, true, true, true, false, false, false, false, false] rfl rfl (by kernel_rfl) (fun _ _ _ h => h) (Or.inl ⟨by rfl, ?_⟩) ?_ ?_
                    rotate_left
                    · intro w'
                      go_simp
                      with_reducible rfl
                    rotate_left
                    · simp only [Act.put, List.setIfInBounds_toArray, List.set_cons_zero, List.set_cons_succ, i64_w, i32_w]
                      rfl
                    refine take_ (i := 1) (N := some 44) (v := ?_) (a' := ?_) #[true, true, true, true, true, false, false, false, false, false] rfl rfl (by kernel_rfl) (fun _ _ _ h => h) (Or.inl ⟨by rfl, ?_⟩) hHeld ?_ ?_
                    rotate_left
                    · rintro w' s0
                      go_simp
                      with_reducible rfl
                    rotate_left
                    · simp only [Act.put, List.setIfInBounds_toArray, List.set_cons_zero, List.set_cons_succ, i64_w, i32_w]
                      rfl
                    refine one_ (i := 5) (N := some 48) #[true, true, true, true, true, true, false, false, false, false] rfl rfl (by kernel_rfl) (by decide) (fun K hK => ?_)
                    refine goes_ Try.func37 (by kernel_rfl) rfl #[.pointer (some ⟨w8.heap.size, 0, none⟩), .int .i64 (deep + 1)] (by rfl) rfl rfl (by first | rfl | (simp [Act.eval]; exact HWD.out)) ?_
                    refine HCALL.out.mono ?_
                    rintro e w9 ⟨v1, v2, rfl, hv1, hv2, hA9⟩
                    refine ⟨_, rfl, ?_⟩
                    have HF := Lib.hid (HAFTER.out w9 v1 v2 hv1 hv2 hA9)
                    clear hv1 hv2 hA9
                    refine hK.out _ _ HF.out.1 (fun hHeld => ?_)
                    clear hK K
                    refine norm_ (a' := ?_) ?_ ?_
                    rotate_left
                    · show Act.put _ (some 48) _ = _
                      simp only [Act.put, List.setIfInBounds_toArray, List.set_cons_zero, List.set_cons_succ, i64_w, i32_w]
                      rfl
                    refine one_ (i := 6) (N := some 49) #[true, true, true, true, true, true, true, false, false, false] rfl rfl (by kernel_rfl) (by decide) (fun K hK => ?_)
                    refine event_step (by rfl) (v := .slice (some ⟨w9.heap.size, 0, none⟩) 1 1) (w1 := w9.alloc (.cells #[.int .i64 t.f0, v1, v2] 25)) (by go_simp; try rfl) ?_
                    refine hK.out _ _ ((World.cell?_alloc_lt _ _ _ (World.block_lt_of_cell? w9 _ HF.out.1)).trans HF.out.1) (fun hHeld => ?_)
                    clear hK K
                    refine norm_ (a' := ?_) ?_ ?_
                    rotate_left
                    · show Act.put _ (some 49) _ = _
                      simp only [Act.put, List.setIfInBounds_toArray, List.set_cons_zero, List.set_cons_succ, i64_w, i32_w]
                      rfl
                    refine one_ (i := 7) (N := some 50) #[true, true, true, true, true, true, true, true, false, false] rfl rfl (by kernel_rfl) (by decide) (fun K hK => ?_)
                    refine Kd.R_append_step k25 (w0 := w9) (W := w9) (w8.heap.size + 1) (by rfl) (.tmp 44) (.tmp 49) 23 25 (.agg #[.int .i64 0, .slice none 0 0, .slice none 0 0]) 56 rfl Try.underlying23 info25 rfl (by decide) (by omega) (.slice Ak done.length ck) done t [.int .i64 t.f0, v1, v2] (fun k => w8.heap.size + 1 ≤ k) (fun k => wo.heap.size ≤ k) (by rfl) (by rfl) HF.out.2.1 HF.out.2.2.1 HF.out.2.2.2.1 HF.out.2.2.2.2.1 (Below.refl _ _) HF.out.2.2.2.2.2.1 HF.out.2.2.2.2.2.2.1 ?_
                    intro v3 w10 ho10 hb10 hg10 hat10
                    obtain ⟨A9, c9, rfl⟩ := Kd.R_slice ho10
                    have HG := Lib.hid (HF.out.2.2.2.2.2.2.2 w10 A9 c9 ho10 hg10)
                    clear ho10 hb10 hg10 hat10
                    refine hK.out _ _ HG.out.1 (fun hHeld => ?_)
                    clear hK K
                    refine norm_ (a' := ?_) ?_ ?_
                    rotate_left
                    · show Act.put _ (some 50) _ = _
                      simp only [Act.put, List.setIfInBounds_toArray, List.set_cons_zero, List.set_cons_succ, i64_w, i32_w]
                      rfl
                    refine pure_ (i := 8) (N := some 51) (v := ?_) (a' := ?_) #[true, true, true, true, true, true, true, true, true, false] rfl rfl (by kernel_rfl) (fun _ _ _ h => h) (Or.inl ⟨by rfl, ?_⟩) ?_ ?_
                    rotate_left
                    · intro w'
                      go_simp
                      with_reducible rfl
                    rotate_left
                    · simp only [Act.put, List.setIfInBounds_toArray, List.set_cons_zero, List.set_cons_succ, i64_w, i32_w]
                      rfl
                    refine last_ (i := 9) (N := none) #[true, true, true, true, true, true, true, true, true, true] rfl rfl (by kernel_rfl) (by decide) (fun K hK => ?_)
                    have hz1 := HG.out.1
                    have hz2 := HG.out.2.1
                    refine skip_step (by rfl) (w1 := w10.setCell ⟨B5, 2, none⟩ (.slice A9 (done ++ [t]).length c9)) (by go_simp; try rfl) ?_
                    refine hK.out _ _ ?_
                    clear hK K
                    refine done_ (by kernel_rfl) ?_
                    exact ⟨⟨_, _, _, _, _, _, _, _, _, _, _, _, _, _, _, HG.out.2.2.1, rfl⟩, HG.out.2.2.2⟩

theorem element_any : ∀ n, ElemC n := by
  intro n
  induction n using Nat.strongRecOn with
  | ind n ih =>
    cases n with
    | zero => intro w0 g A c b sh deep w hn; omega
    | succ n => exact element_step n (fun m hm => ih m (by omega))

end Go.Proofs.Ytmbgjhkemlliaaa.Tlv

/- tlv.Read: its deferred closure, and the walk. -/
set_option linter.unusedVariables false
set_option linter.unusedSimpArgs false
namespace Go.Proofs.Ytmbgjhkemlliaaa.Tlv
open Go.RowKit Go.Proofs.YtmbgjhkemlliaaaW.PrintWords Go.Proofs.YtmbgjhkemlliaaaW.PrintLast Go.Proofs.YtmbgjhkemlliaaaW.PrintMore Go.Proofs.Ytmbgjhkemlliaaa.PTlv

def readP (b : List Int) : Res T := if 20000 < b.length then .err 5 else match elemP (b.length + 1) 0 3 b with
  | .err e => .err e
  | .ok (t, r) => if r = [] then .ok t else .err 2

theorem as_yes (v : Value) (w : World) : (Instr.typeAssert (.iface 28 v) 20 28 true).run Try.prog w = .ok (.tuple #[v, .bool true]) w := by kernel_rfl
theorem as_no (w : World) : (Instr.typeAssert .nilIface 20 28 true).run Try.prog w = .ok (.tuple #[.int .i64 0, .bool false]) w := by kernel_rfl
attribute [local go_sem] as_yes as_no
set_option maxHeartbeats 1000000 in
theorem catch_panicking (B2 B3 : Nat) (x : Int) (w : World) (c0 : (w.cell? ⟨B2, 0, none⟩).isSome = true) (c1 : (w.cell? ⟨B2, 1, none⟩).isSome = true) (c2 : (w.cell? ⟨B2, 2, none⟩).isSome = true) (c3 : (w.cell? ⟨B3, 0, none⟩).isSome = true)
    (f0 : w.frozen? ⟨B2, 0, none⟩ = false) (f1 : w.frozen? ⟨B2, 1, none⟩ = false) (f2 : w.frozen? ⟨B2, 2, none⟩ = false) (f3 : w.frozen? ⟨B3, 0, none⟩ = false) (hne : ¬ B2 = B3) :
    CallsD Try.prog 36 #[.pointer (some ⟨B2, 0, none⟩), .pointer (some ⟨B3, 0, none⟩)] (.panicking [{ v := .iface 28 (.int .i64 x), recovered := false }]) w fun e u' w' =>
      e = .returned (.tuple #[]) ∧ u' = .panicking [{ v := .iface 28 (.int .i64 x), recovered := true }] ∧ w' = (((w.setCell ⟨B2, 0, none⟩ (.int .i64 0)).setCell ⟨B2, 1, none⟩ (.slice none 0 0)).setCell ⟨B2, 2, none⟩ (.slice none 0 0)).setCell ⟨B3, 0, none⟩ (.int .i64 x) := by
  refine callsD_of_wpS Try.func36 rfl fun c₀ cs hu => ?_
  apply wpS_seq
  apply wpS_region
  simp [wpOpsS, go_sem, recoverD, hu, Try.ntmps36, Exit.thenS]
  apply wpS_seq
  apply wpS_region
  simp [wpOpsS, go_sem, Exit.thenS]
  refine wpS_cond (t := true) (by simp [Act.eval, Array.replicate]) ?_
  simp only [if_true]
  refine wpS_of_wp ?_
  obtain ⟨x0, e0⟩ := Option.isSome_iff_exists.1 c0
  obtain ⟨x1, e1⟩ := Option.isSome_iff_exists.1 c1
  obtain ⟨x2, e2⟩ := Option.isSome_iff_exists.1 c2
  obtain ⟨x3, e3⟩ := Option.isSome_iff_exists.1 c3
  clear c0 c1 c2 c3
  go_wp2
  cases c₀
  simp_all [bodyPostS, results, Try.results36]

set_option maxHeartbeats 1000000 in
theorem catch_idle (B2 B3 : Nat) (w : World) :
    CallsD Try.prog 36 #[.pointer (some ⟨B2, 0, none⟩), .pointer (some ⟨B3, 0, none⟩)] .returning w fun e u' w' => e = .returned (.tuple #[]) ∧ u' = .returning ∧ w' = w := by
  refine callsD_of_wpS Try.func36 rfl fun c₀ cs hu => ?_
  apply wpS_seq
  apply wpS_region
  simp [wpOpsS, go_sem, recoverD, hu, Try.ntmps36, Exit.thenS]
  apply wpS_seq
  apply wpS_region
  simp [wpOpsS, go_sem, Exit.thenS]
  refine wpS_cond (t := false) (by simp [Act.eval, Array.replicate]) ?_
  simp only [Bool.false_eq_true, if_false]
  refine wpS_of_wp (wp_skip ?_)
  cases c₀
  simp_all [bodyPostS, results, Try.results36]

def ReadPost (w : World) (l : List Int) (e : Ending) (w' : World) : Prop :=
  match readP l with
  | .err x => e = .returned (.tuple #[.agg #[.int .i64 0, .slice none 0 0, .slice none 0 0], .int .i64 x]) ∧ Below w.heap.size w w'
  | .ok t => ∃ v1 v2 : Value, e = .returned (.tuple #[.agg #[.int .i64 t.f0, v1, v2], .int .i64 0]) ∧ (Kd.int .u8).R 5 w' w.heap.size (fun _ => True) v1 t.f1 ∧ k25.R 25 w' w.heap.size (fun k => some k ≠ v1.ownBlock) v2 t.f2 ∧ Below w.heap.size w w'

set_option maxHeartbeats 4000000 in
set_option maxRecDepth 100000 in
/-- The door, behind a panic. -/
theorem door (x : Int) (w w4 : World) (hB : Below w.heap.size w w4) (tmps : Array Value) (n0 n1 n2 n3 : Value) (h2 : w4.heap[w.heap.size]? = some (.cells #[n0, n1, n2] 25 (0, 0))) (h3 : w4.heap[w.heap.size + 1]? = some (.cells #[n3] 28 (0, 0))) (ht2 : tmps[2]? = some (.pointer (some ⟨w.heap.size, 0, none⟩))) (ht3 : tmps[3]? = some (.pointer (some ⟨w.heap.size + 1, 0, none⟩))) :
    bodyPostD Try.prog Try.f19 (fun e w' => e = .returned (.tuple #[.agg #[.int .i64 0, .slice none 0 0, .slice none 0 0], .int .i64 x]) ∧ Below w.heap.size w w') (Exit.panic [{ v := .iface 28 (.int .i64 x), recovered := false }])
      { tmps := tmps, defers := [{ target := .fn (.func 36) #[.pointer (some ⟨w.heap.size, 0, none⟩), .pointer (some ⟨w.heap.size + 1, 0, none⟩)], args := #[] }] } w4 := by
  refine leaves_cons (f := 36) (args := #[.pointer (some ⟨w.heap.size, 0, none⟩), .pointer (some ⟨w.heap.size + 1, 0, none⟩)]) (by simp) (by simp [go_sem]) ?_
  have a0 := Lib.cell_of_heap h2 0
  have a1 := Lib.cell_of_heap h2 1
  have a2 := Lib.cell_of_heap h2 2
  have a3 := Lib.cell_of_heap h3 0
  refine (catch_panicking w.heap.size (w.heap.size + 1) x w4 (by rw [a0]; rfl) (by rw [a1]; rfl) (by rw [a2]; rfl) (by rw [a3]; rfl) (Lib.frozen_of_heap h2 0) (Lib.frozen_of_heap h2 1) (Lib.frozen_of_heap h2 2) (Lib.frozen_of_heap h3 0) (by omega)).mono ?_
  rintro e u' w'' ⟨rfl, rfl, rfl⟩
  have hBB : Below w.heap.size w ((((w4.setCell ⟨w.heap.size, 0, none⟩ (.int .i64 0)).setCell ⟨w.heap.size, 1, none⟩ (.slice none 0 0)).setCell ⟨w.heap.size, 2, none⟩ (.slice none 0 0)).setCell ⟨w.heap.size + 1, 0, none⟩ (.int .i64 x)) :=
    Below.setCell (Below.setCell (Below.setCell (Below.setCell hB (p := ⟨w.heap.size, 0, none⟩) (Nat.le_refl _) _) (p := ⟨w.heap.size, 1, none⟩) (Nat.le_refl _) _) (p := ⟨w.heap.size, 2, none⟩) (Nat.le_refl _) _) (p := ⟨w.heap.size + 1, 0, none⟩) (Nat.le_succ _) _
  simp [Leaves, settle, results, Try.results19, go_sem, a0, a1, a2, a3, ht2, ht3]
  exact hBB

set_option maxHeartbeats 4000000 in
set_option maxRecDepth 100000 in
/-- The door, behind a return. -/
theorem door_ret (B2 B3 : Nat) (w4 : World) (P : Ending → World → Prop) (tmps : Array Value) (n0 n1 n2 n3 : Value) (h2 : w4.heap[B2]? = some (.cells #[n0, n1, n2] 25 (0, 0))) (h3 : w4.heap[B3]? = some (.cells #[n3] 28 (0, 0))) (ht2 : tmps[2]? = some (.pointer (some ⟨B2, 0, none⟩))) (ht3 : tmps[3]? = some (.pointer (some ⟨B3, 0, none⟩)))
    (hP : P (.returned (.tuple #[.agg #[n0, n1, n2], n3])) w4) (x : Value) :
    bodyPostD Try.prog Try.f19 P Exit.ret
      { tmps := tmps, defers := [{ target := .fn (.func 36) #[.pointer (some ⟨B2, 0, none⟩), .pointer (some ⟨B3, 0, none⟩)], args := #[] }] } w4 := by
  have a0 := Lib.cell_of_heap h2 0
  have a1 := Lib.cell_of_heap h2 1
  have a2 := Lib.cell_of_heap h2 2
  have a3 := Lib.cell_of_heap h3 0
  refine leaves_cons (f := 36) (args := #[.pointer (some ⟨B2, 0, none⟩), .pointer (some ⟨B3, 0, none⟩)]) (by simp) (by simp [go_sem]) ?_
  refine (catch_idle B2 B3 w4).mono ?_
  rintro e u' w'' ⟨rfl, rfl, rfl⟩
  simp [Leaves, settle, results, Try.results19, go_sem, a0, a1, a2, a3, ht2, ht3]
  exact hP

theorem again {w W : World} {n0 n1 n2 z : Value} (x : Value) (K2 : W.heap[w.heap.size]? = some (.cells #[n0, n1, n2] 25 (0, 0))) (K3 : W.heap[w.heap.size + 1]? = some (.cells #[z] 28 (0, 0))) (KB : Below w.heap.size w W) :
    ((((W.setCell ⟨w.heap.size, 0, none⟩ n0).setCell ⟨w.heap.size, 1, none⟩ n1).setCell ⟨w.heap.size, 2, none⟩ n2).setCell ⟨w.heap.size + 1, 0, none⟩ x).heap[w.heap.size]? = some (.cells #[n0, n1, n2] 25 (0, 0)) ∧
    ((((W.setCell ⟨w.heap.size, 0, none⟩ n0).setCell ⟨w.heap.size, 1, none⟩ n1).setCell ⟨w.heap.size, 2, none⟩ n2).setCell ⟨w.heap.size + 1, 0, none⟩ x).heap[w.heap.size + 1]? = some (.cells #[x] 28 (0, 0)) ∧
    Below w.heap.size w ((((W.setCell ⟨w.heap.size, 0, none⟩ n0).setCell ⟨w.heap.size, 1, none⟩ n1).setCell ⟨w.heap.size, 2, none⟩ n2).setCell ⟨w.heap.size + 1, 0, none⟩ x) ∧
    (∀ k, w.heap.size + 1 < k → ((((W.setCell ⟨w.heap.size, 0, none⟩ n0).setCell ⟨w.heap.size, 1, none⟩ n1).setCell ⟨w.heap.size, 2, none⟩ n2).setCell ⟨w.heap.size + 1, 0, none⟩ x).heap[k]? = W.heap[k]?) := by
  have h3 : (((W.setCell ⟨w.heap.size, 0, none⟩ n0).setCell ⟨w.heap.size, 1, none⟩ n1).setCell ⟨w.heap.size, 2, none⟩ n2).heap[w.heap.size + 1]? = some (.cells #[z] 28 (0, 0)) :=
    (heap_setCell_other _ _ _ _ (by show w.heap.size + 1 ≠ w.heap.size; omega)).trans ((heap_setCell_other _ _ _ _ (by show w.heap.size + 1 ≠ w.heap.size; omega)).trans ((heap_setCell_other _ _ _ _ (by show w.heap.size + 1 ≠ w.heap.size; omega)).trans K3))
  refine ⟨(heap_setCell_other _ _ _ _ (by show w.heap.size ≠ w.heap.size + 1; omega)).trans (heap_setCell_same _ _ 2 _ _ _ (heap_setCell_same _ _ 1 _ _ _ (heap_setCell_same _ _ 0 _ _ _ K2))), heap_setCell_same _ _ 0 _ _ _ h3,
    Below.setCell (Below.setCell (Below.setCell (Below.setCell KB (p := ⟨w.heap.size, 0, none⟩) (Nat.le_refl _) _) (p := ⟨w.heap.size, 1, none⟩) (Nat.le_refl _) _) (p := ⟨w.heap.size, 2, none⟩) (Nat.le_refl _) _) (p := ⟨w.heap.size + 1, 0, none⟩) (Nat.le_succ _) _, fun k hk => ?_⟩
  exact (heap_setCell_other _ _ _ _ (by show k ≠ w.heap.size + 1; omega)).trans ((heap_setCell_other _ _ _ _ (by show k ≠ w.heap.size; omega)).trans ((heap_setCell_other _ _ _ _ (by show k ≠ w.heap.size; omega)).trans (heap_setCell_other _ _ _ _ (by show k ≠ w.heap.size; omega))))

set_option maxHeartbeats 4000000 in
set_option maxRecDepth 100000 in
theorem read_walk (A : Option Addr) (c : Nat) (l : List Int) (w : World) (hr : ReadsInt w .u8 A l.length l) (hc : l.length ≤ c) (hv : ∀ x ∈ l, 0 ≤ x ∧ x < 256) (hl : l.length ≤ 1000000000) :
    Calls Try.prog 19 #[.slice A l.length c] w (ReadPost w l) := by
  have hmf : ∀ (fn : Fn) (first cap : Array Value) (w : World), (Instr.makeFunc fn first cap).run Try.prog w = .ok (.func fn first cap) w := fun _ _ _ _ => rfl
  by_cases h0 : 20000 < l.length
  · have hp : ReadPost w l = fun e w' => e = .returned (.tuple #[.agg #[.int .i64 0, .slice none 0 0, .slice none 0 0], .int .i64 5]) ∧ Below w.heap.size w w' := by
      funext e w'; unfold ReadPost readP; rw [if_pos h0]
    rw [hp]
    have hd : decide ((20000 : Int) < (l.length : Int)) = true := decide_eq_true (by omega)
    go_enter_defers Try.func19, Try.ntmps19
    go_wp2
    have hB : Below w.heap.size w ((w.alloc (.cells #[.int .i64 0, .slice none 0 0, .slice none 0 0] 25)).alloc (.cells #[.int .i64 5] 28)) := ((Below.refl _ _).alloc (Nat.le_refl _) _).alloc (by simp) _
    simp [bodyPostD, Leaves, settle, results, Try.results19, go_sem]
    exact hB
  · have hd : decide ((20000 : Int) < (l.length : Int)) = false := decide_eq_false (by omega)
    go_enter_defers Try.func19, Try.ntmps19
    go_wp2_with (fail)
    have g3 : RdAt (((w.alloc (.cells #[.int .i64 0, .slice none 0 0, .slice none 0 0] 25)).alloc (.cells #[.int .i64 0] 28)).alloc (.cells #[.slice A l.length c, .int .i64 3] 57)) (w.heap.size + 1 + 1) A l.length c 3 := by
      have := heap_alloc_new ((w.alloc (.cells #[.int .i64 0, .slice none 0 0, .slice none 0 0] 25)).alloc (.cells #[.int .i64 0] 28)) (.cells #[.slice A l.length c, .int .i64 3] 57)
      unfold RdAt
      simpa using this
    have h2 : (((w.alloc (.cells #[.int .i64 0, .slice none 0 0, .slice none 0 0] 25)).alloc (.cells #[.int .i64 0] 28)).alloc (.cells #[.slice A l.length c, .int .i64 3] 57)).heap[w.heap.size]? = some (.cells #[.int .i64 0, .slice none 0 0, .slice none 0 0] 25 (0, 0)) :=
      (Below.heap_alloc _ _ _ (by simp; omega)).trans ((Below.heap_alloc _ _ _ (by simp)).trans (heap_alloc_new w _))
    have h3 : (((w.alloc (.cells #[.int .i64 0, .slice none 0 0, .slice none 0 0] 25)).alloc (.cells #[.int .i64 0] 28)).alloc (.cells #[.slice A l.length c, .int .i64 3] 57)).heap[w.heap.size + 1]? = some (.cells #[.int .i64 0] 28 (0, 0)) :=
      (Below.heap_alloc _ _ _ (by simp)).trans (by have := heap_alloc_new (w.alloc (.cells #[.int .i64 0, .slice none 0 0, .slice none 0 0] 25)) (.cells #[.int .i64 0] 28); simpa using this)
    have hB : Below w.heap.size w (((w.alloc (.cells #[.int .i64 0, .slice none 0 0, .slice none 0 0] 25)).alloc (.cells #[.int .i64 0] 28)).alloc (.cells #[.slice A l.length c, .int .i64 3] 57)) := (((Below.refl _ _).alloc (Nat.le_refl _) _).alloc (by simp) _).alloc (by simp; omega) _
    generalize ((w.alloc (.cells #[.int .i64 0, .slice none 0 0, .slice none 0 0] 25)).alloc (.cells #[.int .i64 0] 28)).alloc (.cells #[.slice A l.length c, .int .i64 3] 57) = W3 at g3 h2 h3 hB ⊢
    have hs3 : w.heap.size + 1 + 1 < W3.heap.size := (Array.getElem?_eq_some_iff.1 g3).1
    refine (element_any (l.length + 1) w (w.heap.size + 1 + 1) A c l 3 0 W3 (Nat.le_refl _) (by omega) (by omega) g3 hc hl hr hB (by omega) hv).mono ?_
    intro e w4 hp
    unfold ElemPost at hp
    cases he : elemP (l.length + 1) 0 3 l with
    | err x =>
      rw [he] at hp
      obtain ⟨rfl, hB4, hG4⟩ := hp
      have hp : ReadPost w l = fun e w' => e = .returned (.tuple #[.agg #[.int .i64 0, .slice none 0 0, .slice none 0 0], .int .i64 x]) ∧ Below w.heap.size w w' := by
        funext e w'; unfold ReadPost readP; rw [if_neg h0, he]
      rw [hp]
      have h24 := (hG4.block w.heap.size (by omega) (by intro e; injection e with e; omega)).trans h2
      have h34 := (hG4.block (w.heap.size + 1) (by omega) (by intro e; injection e with e; omega)).trans h3
      exact door x w w4 hB4 _ _ _ _ _ h24 h34 rfl rfl
    | ok p =>
      obtain ⟨t, r⟩ := p
      rw [he] at hp
      obtain ⟨v1, v2, rfl, hv1, hv2, hA4⟩ := hp
      obtain ⟨A1, c1, rfl⟩ := Kd.R_slice hv1
      obtain ⟨A2, c2, rfl⟩ := Kd.R_slice hv2
      obtain ⟨Ar, cr, g4, hcr, _⟩ := hA4.ex
      have h24 := (hA4.grown.block w.heap.size (by omega) (by intro e; injection e with e; omega)).trans h2
      have h34 := (hA4.grown.block (w.heap.size + 1) (by omega) (by intro e; injection e with e; omega)).trans h3
      have a0 := Lib.cell_of_heap h24 0
      have a1 := Lib.cell_of_heap h24 1
      have a2 := Lib.cell_of_heap h24 2
      have a3 := Lib.cell_of_heap h34 0
      have f0 := Lib.frozen_of_heap h24 0
      have f1 := Lib.frozen_of_heap h24 1
      have f2 := Lib.frozen_of_heap h24 2
      have f3 := Lib.frozen_of_heap h34 0
      have g0 := g4.c0
      have hs4 : W3.heap.size ≤ w4.heap.size := hA4.grown.size
      -- the element laid into the result's variable
      have k2 : (((w4.setCell ⟨w.heap.size, 0, none⟩ (.int .i64 t.f0)).setCell ⟨w.heap.size, 1, none⟩ (.slice A1 t.f1.length c1)).setCell ⟨w.heap.size, 2, none⟩ (.slice A2 t.f2.length c2)).heap[w.heap.size]? = some (.cells #[.int .i64 t.f0, .slice A1 t.f1.length c1, .slice A2 t.f2.length c2] 25 (0, 0)) :=
        heap_setCell_same _ _ 2 _ _ _ (heap_setCell_same _ _ 1 _ _ _ (heap_setCell_same _ _ 0 _ _ _ h24))
      have k3 : (((w4.setCell ⟨w.heap.size, 0, none⟩ (.int .i64 t.f0)).setCell ⟨w.heap.size, 1, none⟩ (.slice A1 t.f1.length c1)).setCell ⟨w.heap.size, 2, none⟩ (.slice A2 t.f2.length c2)).heap[w.heap.size + 1]? = some (.cells #[.int .i64 0] 28 (0, 0)) :=
        (heap_setCell_other _ _ _ _ (by show w.heap.size + 1 ≠ w.heap.size; omega)).trans ((heap_setCell_other _ _ _ _ (by show w.heap.size + 1 ≠ w.heap.size; omega)).trans ((heap_setCell_other _ _ _ _ (by show w.heap.size + 1 ≠ w.heap.size; omega)).trans h34))
      have kB : Below w.heap.size w (((w4.setCell ⟨w.heap.size, 0, none⟩ (.int .i64 t.f0)).setCell ⟨w.heap.size, 1, none⟩ (.slice A1 t.f1.length c1)).setCell ⟨w.heap.size, 2, none⟩ (.slice A2 t.f2.length c2)) :=
        Below.setCell (Below.setCell (Below.setCell hA4.below (p := ⟨w.heap.size, 0, none⟩) (Nat.le_refl _) _) (p := ⟨w.heap.size, 1, none⟩) (Nat.le_refl _) _) (p := ⟨w.heap.size, 2, none⟩) (Nat.le_refl _) _
      have far : ∀ (p : Addr), p.block < W3.heap.size → ∀ k, W3.heap.size ≤ k → k ≠ p.block := fun p hp k hk => by omega
      have hv1' := Kd.R_far (Kd.R_far (Kd.R_far (Kd.R_mono (Kd.R_bound hv1) (fun k h => h.2.1)) (far ⟨w.heap.size, 0, none⟩ (by show w.heap.size < _; omega)) (.int .i64 t.f0)) (far ⟨w.heap.size, 1, none⟩ (by show w.heap.size < _; omega)) (.slice A1 t.f1.length c1)) (far ⟨w.heap.size, 2, none⟩ (by show w.heap.size < _; omega)) (.slice A2 t.f2.length c2)
      have hv2' := Kd.R_far (Kd.R_far (Kd.R_far (Kd.R_mono (Kd.R_bound hv2) (fun k h => And.intro h.1 h.2.1)) (fun k h => far ⟨w.heap.size, 0, none⟩ (by show w.heap.size < _; omega) k h.2) (.int .i64 t.f0)) (fun k h => far ⟨w.heap.size, 1, none⟩ (by show w.heap.size < _; omega) k h.2) (.slice A1 t.f1.length c1)) (fun k h => far ⟨w.heap.size, 2, none⟩ (by show w.heap.size < _; omega) k h.2) (.slice A2 t.f2.length c2)
      have K2 := Lib.hid k2
      have K3 := Lib.hid k3
      have KB := Lib.hid kB
      have V1 := Lib.hid hv1'
      have V2 := Lib.hid hv2'
      have HE := Lib.hid he
      have H0 := Lib.hid h0
      have HS := Lib.hid hs3
      clear k2 k3 kB hv1' hv2' hv1 hv2 hA4 h24 h34 h2 h3 g3 hB far g4 he h0 hr hv hs4 hs3
      by_cases hn : r = []
      · have e1 : ((r.length : Int) == 0) = true := by rw [hn]; rfl
        have HN := Lib.hid hn
        clear hn
        go_wp2_with (fail)
        refine (must_yes 2 _).mono ?_
        rintro e w5 ⟨rfl, rfl⟩
        go_wp2
        obtain ⟨z2, z3, zB, zk⟩ := again (.int .i64 0) K2.out K3.out KB.out
        have hp : ReadPost w l = fun e w' => ∃ v1 v2 : Value, e = .returned (.tuple #[.agg #[.int .i64 t.f0, v1, v2], .int .i64 0]) ∧ (Kd.int .u8).R 5 w' w.heap.size (fun _ => True) v1 t.f1 ∧ k25.R 25 w' w.heap.size (fun k => some k ≠ v1.ownBlock) v2 t.f2 ∧ Below w.heap.size w w' := by
          funext e w'; unfold ReadPost readP; rw [if_neg H0.out, HE.out]; simp [HN.out]
        rw [hp]
        have hs3 := HS.out
        refine door_ret _ _ _ _ _ _ _ _ _ z2 z3 rfl rfl ⟨_, _, rfl, ?_, ?_, zB⟩ .nilIface
        · exact Kd.R_lower (Kd.R_mono (Kd.R_move V1.out (fun k hk => zk k (by omega))) (fun _ _ => trivial)) (by omega)
        · exact Kd.R_lower (Kd.R_mono (Kd.R_move V2.out (fun k hk => zk k (by have := hk.2; omega))) (fun k hk => hk.1)) (by omega)
      · have e1 : ((r.length : Int) == 0) = false := by
          rw [beq_eq_false_iff_ne]
          intro h
          exact hn (List.length_eq_zero_iff.1 (by omega))
        have HN := Lib.hid hn
        clear hn
        go_wp2_with (fail)
        refine (must_no 2 _).mono ?_
        rintro e w5 ⟨rfl, rfl⟩
        have hp : ReadPost w l = fun e w' => e = .returned (.tuple #[.agg #[.int .i64 0, .slice none 0 0, .slice none 0 0], .int .i64 2]) ∧ Below w.heap.size w w' := by
          funext e w'; unfold ReadPost readP; rw [if_neg H0.out, HE.out]; simp [HN.out]
        rw [hp]
        exact door 2 w _ KB.out _ _ _ _ _ K2.out K3.out rfl rfl

end Go.Proofs.Ytmbgjhkemlliaaa.Tlv
