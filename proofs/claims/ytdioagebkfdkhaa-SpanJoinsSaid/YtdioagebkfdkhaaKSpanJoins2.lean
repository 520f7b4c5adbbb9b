/- Merged by a program of this session (wip/tools/pack.py). -/
import Derived.Test.YtdioagebkfdkhaaKSpanJoins1
import Derived.RangeFuncNested
import Derived.RangeFuncLeaves
import Derived.TacticsIn
import Derived.OrdersIn
import Derived.Shelf.Abstract
import Derived.RangeFuncBound
import Derived.Shelf.SlSortCmp.WholeK
import Derived.Test.YtdioagebkfdkhaaProg
import Derived.Shelf.SlSortCmp.NoneTotal
section
set_option linter.unusedVariables false
set_option linter.unusedSimpArgs false
namespace Go.Proofs.Ytdioagebkfdkhaa.Ad
open Go Go.RowKit

/-- Addresses and spans: an iterator's own cells. -/
def itO : Obj → Bool
 | .cells _ t _ => t == 28 || t == 30
 | _ => false
/-- Prefixes and lists of them: a round's own cells. -/
def boO : Obj → Bool
 | .cells _ t _ => t == 37 || t == 42
 | _ => false
def frO (o : Obj) : Bool := !o.isCells || itO o
/-- What is said abides the turn of one block of a kind, at or above B. -/
def AbT {β : Type} (ok : Obj → Bool) (B : Nat) (I : β → World → Prop) : Prop :=
 ∀ s W W' row, I s W → W.grownBy W' row → (∀ r, row = some r → B ≤ r ∧ ∃ o : Obj, W.heap[r]? = some o ∧ ok o = true) → I s W'
theorem AbT.putObj {β : Type} {ok : Obj → Bool} {B : Nat} {I : β → World → Prop} (h : AbT ok B I) {s : β} {W : World} {l : Nat} {o : Obj} (o' : Obj) (hs : I s W) (hB : B ≤ l) (hl : W.heap[l]? = some o) (ho : ok o = true) : I s (W.putObj l o') :=
 h s W _ (some l) hs (grownBy_putObj' W l o') (fun r e => by cases e; exact ⟨hB, o, hl, ho⟩)
theorem AbT.alloc {β : Type} {ok : Obj → Bool} {B : Nat} {I : β → World → Prop} (h : AbT ok B I) {s : β} {W : World} (o : Obj) (hs : I s W) : I s (W.alloc o) :=
 h s W _ none hs (World.grownBy_alloc W o none) (fun r e => by cases e)
theorem AbT.mono {β : Type} {ok : Obj → Bool} {B B' : Nat} {I : β → World → Prop} (h : AbT ok B I) (hb : B ≤ B') : AbT ok B' I :=
 fun s W W' row hs hg hr => h s W W' row hs hg (fun r e => ⟨Nat.le_trans hb (hr r e).1, (hr r e).2⟩)
/-- A round's word: what is not its own lies as it lay (of what is no cells: from block B on). -/
def KeepI (B : Nat) (W W' : World) : Prop := W.heap.size ≤ W'.heap.size ∧ ∀ (k : Nat) (o : Obj), W.heap[k]? = some o → boO o = false → (B ≤ k ∨ o.isCells = true) → W'.heap[k]? = some o
theorem KeepI.refl (B : Nat) (W : World) : KeepI B W W := ⟨Nat.le_refl _, fun _ _ h _ _ => h⟩
theorem KeepI.trans {B : Nat} {X Y Z : World} (h : KeepI B X Y) (k : KeepI B Y Z) : KeepI B X Z := ⟨Nat.le_trans h.1 k.1, fun i o hi ho hb => k.2 i o (h.2 i o hi ho hb) ho hb⟩
theorem KeepI.mono {B B' : Nat} {X Y : World} (h : KeepI B X Y) (hb : B ≤ B') : KeepI B' X Y := ⟨h.1, fun i o hi ho hk => h.2 i o hi ho (hk.imp_left (Nat.le_trans hb))⟩
theorem KeepI.putObj {B : Nat} {W : World} {l : Nat} {o : Obj} (o' : Obj) (hl : W.heap[l]? = some o) (ho : o.isCells = false) (hB : l < B) : KeepI B W (W.putObj l o') :=
 ⟨by simp, fun k o1 hk _ hb => by
  by_cases e : k = l
  ·subst e
   rw [hl] at hk
   cases hk
   rcases hb with hb | hb
   ·omega
   ·rw [ho] at hb; cases hb
  ·exact (World.putObj_heap_other e).trans hk⟩
theorem KeepI.of_below {B : Nat} {W W' : World} (h : Below W.heap.size W W') : KeepI B W W' := ⟨h.size, fun k o hk _ _ => (h.block k (Array.getElem?_eq_some_iff.1 hk).1).trans hk⟩
theorem KeepI.has {B : Nat} {W W' : World} (h : KeepI B W W') {g : Nat} {cs : Array Value} {t : TypeId} (hg : Has W g cs t) (h1 : t ≠ 37) (h2 : t ≠ 42) : Has W' g cs t :=
 h.2 g _ hg (by simp [boO, h1, h2]) (.inr rfl)

/-- What an iterator promises that gives xs. -/
def GivesT (gf : FuncId) (lb : Array Value) {α : Type} (encs : α → Array Value) (xs : List α) (w : World) : Prop :=
 ∀ (l : Nat) (J Jx : List α → World → Prop) (W : World), Below w.heap.size w W → AbT frO W.heap.size J → AbT frO W.heap.size Jx →
  (∀ pre x W1, pre ++ [x] <+: xs → J pre W1 → W.heap.size ≤ W1.heap.size → YieldAt Fence.wide 0 Try.prog l (encs x) W1 fun e W' =>
   KeepI W.heap.size W1 W' ∧ ((e = .returned (.bool true) ∧ J (pre ++ [x]) W') ∨ (e = .returned (.bool false) ∧ Jx (pre ++ [x]) W'))) →
  J [] W →
  Calls Try.prog gf (#[.func (.yield l) #[] #[]] ++ lb) W fun e W' => (∃ v, e = .returned v) ∧ (J xs W' ∨ ∃ pre, pre <+: xs ∧ Jx pre W')

/-- How a round's body may be left. -/
def postT {α : Type} (B : Nat) (I : List α → World → Prop) (Ix : Code → List α → World → Prop) (ys : List α) (W : World) : Exit → Act → World → Prop
 | .normal, _, W' => KeepI B W W' ∧ I ys W'
 | .ret, _, W' => KeepI B W W' ∧ Ix .ret ys W'
 | .exit id, _, W' => KeepI B W W' ∧ Ix (.exit id) ys W'
 | .goto t, _, W' => KeepI B W W' ∧ Ix (.goto t) ys W'
 | .panic _, _, _ => False
 | .outgrown, _, _ => False

/-- The statement. -/
theorem range_wp {α : Type} {g : Operand} {ps : Array Tmp} {assign body : Code} {Q : Exit → Act → World → Prop} {a : Act} {w w0 : World} {gf : Nat} {lb : Array Value} {encs : α → Array Value} {xs : List α}
 (hg : a.eval g = .func (.func gf) #[] lb) (eg : ∀ args w, (callFunc gf args).run Try.prog w = .ok (.enter gf args) w) (hseq : GivesT gf lb encs xs w0) (hb0 : Below w0.heap.size w0 w) (hps : ∀ x, (encs x).size = ps.size)
 (I : List α → World → Prop) (Ix : Code → List α → World → Prop) (hI : AbT frO w.heap.size I) (hIx : ∀ c, AbT frO w.heap.size (Ix c)) (h0 : I [] w)
 (Ax : α → Act → World → Prop) (hAx : ∀ x a', AbT (fun o => !o.isCells) w.heap.size (fun (_ : Unit) W => Ax x a' W))
 (hassign : ∀ (l : Nat) (pre : List α) (x : α) (W : World) (K : Act → World → Prop), I pre W → w.heap.size ≤ W.heap.size → (∀ a' W', KeepI w.heap.size W W' → I pre W' → Ax x a' W' → K a' W') →
  assign.wpIn (Fence.wide.inRound l) 0 Try.prog (Exit.then K (fun _ _ _ => False)) { tmps := (ps.zip (encs x)).foldl (fun t (p, v) => t.setIfInBounds p v) a.tmps, defers := [] } W)
 (hbody : ∀ (l : Nat) (pre : List α) (x : α) (a' : Act) (W : World), I pre W → Ax x a' W → pre ++ [x] <+: xs → w.heap.size ≤ W.heap.size → body.wpIn (Fence.wide.inRound l) 0 Try.prog (postT w.heap.size I Ix (pre ++ [x]) W) a' W)
 (hdone : ∀ (D : Nat) (W : World), w.heap.size ≤ D → I xs W → W.heap[D]? = some (.deferred (some [])) → Q .normal { a with defers := { target := .collected D, args := #[] } :: a.defers } W)
 (hstop : ∀ (D : Nat) (c : Code) (pre : List α) (W : World), w.heap.size ≤ D → pre <+: xs → Ix c pre W → W.heap[D]? = some (.deferred (some [])) → c.wp Try.prog Q { a with defers := { target := .collected D, args := #[] } :: a.defers } W) :
 (Code.rangeFunc g ps assign body).wp Try.prog Q a w := by
 refine (wpIn_wide (n := 0)).1 (wpIn_rangeFunc fun fn _ => ?_)
 obtain ⟨rec, hrec⟩ : ∃ rec : LoopState → Option Code → Loop, rec = fun st pe => { state := st, pending := pe, fn, tmps := a.tmps, params := ps, assign, body, defers := w.heap.size } := ⟨_, rfl⟩
 obtain ⟨W1, hW1⟩ : ∃ W1, (w.alloc (.deferred (some []))).alloc (.loop (rec .ready none)) = W1 := ⟨_, rfl⟩
 obtain ⟨D, hD⟩ : ∃ D, D = w.heap.size := ⟨_, rfl⟩
 have hsz : W1.heap.size = D + 2 := by rw [← hW1, hD]; simp
 have hL1 : W1.heap[D + 1]? = some (.loop (rec .ready none)) := by
  have := World.alloc_heap_new (w.alloc (.deferred (some []))) (.loop (rec .ready none))
  rwa [hW1, World.size_alloc, ← hD] at this
 have hK1 : W1.heap[D]? = some (.deferred (some [])) := by
  rw [← hW1, hD]
  exact (Below.heap_alloc _ _ _ (by simp)).trans (World.alloc_heap_new w _)
 have hI1 : I [] W1 := by rw [← hW1]; exact hI.alloc _ (hI.alloc _ h0)
 have hb1 : Below w0.heap.size w0 W1 := by
  rw [← hW1]
  exact hb0.trans ((((Below.refl _ w).alloc (Nat.le_refl _) _).alloc (by simp) _).mono hb0.size)
 rw [← hD] at hI hIx hAx hassign hbody hdone hstop
 have hfar : ∀ {X Y : World} {row : Option Nat} {k : Nat} {o : Obj}, X.grownBy Y row → (∀ r, row = some r → W1.heap.size ≤ r ∧ ∃ o : Obj, X.heap[r]? = some o ∧ frO o = true) → k < D + 2 → X.heap[k]? = some o → Y.heap[k]? = some o :=
  fun hg' hr hk hX => (hg'.block _ (Array.getElem?_eq_some_iff.1 hX).1 (fun e => by have := (hr _ e.symm).1; omega)).trans hX
 have hup : ∀ {X : World} {row : Option Nat}, (∀ r, row = some r → W1.heap.size ≤ r ∧ ∃ o : Obj, X.heap[r]? = some o ∧ frO o = true) → (∀ r, row = some r → D ≤ r ∧ ∃ o : Obj, X.heap[r]? = some o ∧ frO o = true) :=
  fun hr r e => ⟨by have := (hr r e).1; omega, (hr r e).2⟩
 refine ⟨D + 1, [{ target := .collected D, args := #[] }], W1, { target := .fn (.func gf) lb, args := #[.func (.yield (D + 1)) #[] #[]] }, W1, gf, #[.func (.yield (D + 1)) #[] #[]] ++ lb, W1, ?_, ?_, fun _ _ => trivial, ?_, (fun h => by cases h), callsIn_wide.2 ?_⟩
 ·rw [← hW1, hrec, hD]
  exact run_enterLoop_outer _ _ _ _ _
 ·simp only [resolve, hg]
  simp [go_sem]
 ·simp [invoke, go_sem, eg]
 refine (hseq (D + 1)
  (fun pre W => I pre W ∧ W.heap[D + 1]? = some (.loop (rec .ready none)) ∧ W.heap[D]? = some (.deferred (some [])))
  (fun pre W => ∃ c, Ix c pre W ∧ W.heap[D + 1]? = some (.loop (rec .done (some c))) ∧ W.heap[D]? = some (.deferred (some [])))
  W1 hb1 (fun s X Y row hs hg' hr => ⟨hI s X Y row hs.1 hg' (hup hr), hfar hg' hr (by omega) hs.2.1, hfar hg' hr (by omega) hs.2.2⟩)
  (fun s X Y row ⟨c, h1, h2, h3⟩ hg' hr => ⟨c, hIx c s X Y row h1 hg' (hup hr), hfar hg' hr (by omega) h2, hfar hg' hr (by omega) h3⟩) ?_ ⟨hI1, hL1, hK1⟩).mono ?_
 ·rintro pre x W hpx ⟨hi, hl, hk⟩ hWs
  have hy := run_yield (P := Try.prog) (args := encs x) hl (by rw [hrec]; exact hps x)
  rw [hrec] at hy
  refine ⟨fn, _, assign, body, hy, roundIn_of_wpIn trivial (hassign _ pre x W _ hi (by omega) ?_)⟩
  clear hy
  intro a' Wa hka hia hax
  have hl := hka.2 _ _ hl rfl (.inl (by omega))
  have hk := hka.2 _ _ hk rfl (.inl (Nat.le_refl _))
  have hlt : D + 1 < Wa.heap.size := (Array.getElem?_eq_some_iff.1 hl).1
  refine ⟨_, run_beginRound hl (by rw [hrec]), ?_⟩
  obtain ⟨Wb, hWb⟩ : ∃ Wb, Wa.putObj (D + 1) (.loop { rec .ready none with state := .busy }) = Wb := ⟨_, rfl⟩
  have hl2 : Wb.heap[D + 1]? = some (.loop { rec .ready none with state := .busy }) := by rw [← hWb]; exact World.putObj_heap_same hlt
  have hk2 : Wb.heap[D]? = some (.deferred (some [])) := by rw [← hWb]; exact (World.putObj_heap_other (by omega)).trans hk
  have hw2 : KeepI W1.heap.size Wa Wb := by rw [← hWb]; exact KeepI.putObj _ hl rfl (by omega)
  have hib : I pre Wb := by rw [← hWb]; exact hI.putObj _ hia (by omega) hl rfl
  have hab : Ax x a' Wb := by rw [← hWb]; exact (hAx x a').putObj (s := ()) _ hax (by omega) hl rfl
  have hsb : Wb.heap.size = Wa.heap.size := by rw [← hWb]; simp
  rw [hWb]
  refine wpIn_mono (hbody _ pre x a' Wb hib hab hpx (by omega)) ?_
  have fin : ∀ (jump : Option Code) (W3 : World), KeepI D Wb W3 →
   (Instr.endRound (D + 1) jump).run Try.prog W3 = .ok (.bool jump.isNone) (W3.putObj (D + 1) (.loop (rec (if jump.isNone then .ready else .done) jump))) ∧ W3.heap[D + 1]? = some (.loop { rec .ready none with state := .busy }) ∧
   (W3.putObj (D + 1) (.loop (rec (if jump.isNone then .ready else .done) jump))).heap[D + 1]? = some (.loop (rec (if jump.isNone then .ready else .done) jump)) ∧
   (W3.putObj (D + 1) (.loop (rec (if jump.isNone then .ready else .done) jump))).heap[D]? = some (.deferred (some [])) := fun jump W3 hk3 => by
   have hl3 := hk3.2 _ _ hl2 rfl (.inl (by omega))
   have := run_endRound (P := Try.prog) jump hl3
   rw [hrec] at this ⊢
   exact ⟨this, by rw [hrec] at hl3; exact hl3, World.putObj_heap_same (Array.getElem?_eq_some_iff.1 hl3).1, (World.putObj_heap_other (by omega)).trans (hk3.2 _ _ hk2 rfl (.inl (Nat.le_refl _)))⟩
  have all : ∀ (jump : Option Code) (W3 : World), KeepI D Wb W3 → W3.heap[D + 1]? = some (.loop { rec .ready none with state := .busy }) → KeepI W1.heap.size W (W3.putObj (D + 1) (.loop (rec (if jump.isNone then .ready else .done) jump))) := fun jump W3 hk3 hl3 =>
   (hka.mono (by omega)).trans (hw2.trans ((hk3.mono (by omega)).trans (KeepI.putObj _ hl3 rfl (by omega))))
  intro e a3 W3 hp
  cases e with
  | normal =>
   obtain ⟨hk3, hi3⟩ := hp
   obtain ⟨hr, hl3, hl4, hk4⟩ := fin none W3 hk3
   exact ⟨_, _, hr, all none W3 hk3 hl3, .inl ⟨rfl, hI.putObj _ hi3 (by omega) hl3 rfl, hl4, hk4⟩⟩
  | ret =>
   obtain ⟨hk3, hi3⟩ := hp
   obtain ⟨hr, hl3, hl4, hk4⟩ := fin (some .ret) W3 hk3
   exact ⟨_, _, hr, all (some .ret) W3 hk3 hl3, .inr ⟨rfl, .ret, (hIx _).putObj _ hi3 (by omega) hl3 rfl, hl4, hk4⟩⟩
  | exit id =>
   obtain ⟨hk3, hi3⟩ := hp
   obtain ⟨hr, hl3, hl4, hk4⟩ := fin (some (.exit id)) W3 hk3
   exact ⟨_, _, hr, all (some (.exit id)) W3 hk3 hl3, .inr ⟨rfl, .exit id, (hIx _).putObj _ hi3 (by omega) hl3 rfl, hl4, hk4⟩⟩
  | goto t =>
   obtain ⟨hk3, hi3⟩ := hp
   obtain ⟨hr, hl3, hl4, hk4⟩ := fin (some (.goto t)) W3 hk3
   exact ⟨_, _, hr, all (some (.goto t)) W3 hk3 hl3, .inr ⟨rfl, .goto t, (hIx _).putObj _ hi3 (by omega) hl3 rfl, hl4, hk4⟩⟩
  | panic ch => exact hp.elim
  | outgrown => exact hp.elim
 ·rintro e W2 ⟨⟨v, rfl⟩, (⟨hi, hl, hk⟩ | ⟨pre, hpre, c, hi, hl, hk⟩)⟩
  ·exact ⟨none, _, by have := run_endLoop (P := Try.prog) hl (by rw [hrec]; simp); rw [hrec] at this; exact this, hdone _ _ (Nat.le_refl _) (hI.putObj _ hi (by omega) hl rfl) ((World.putObj_heap_other (by omega)).trans hk)⟩
  ·exact ⟨some c, _, by have := run_endLoop (P := Try.prog) hl (by rw [hrec]; simp); rw [hrec] at this; exact this, wpIn_wide.2 (hstop _ c pre _ (Nat.le_refl _) hpre ((hIx c).putObj _ hi (by omega) hl rfl) ((World.putObj_heap_other (by omega)).trans hk))⟩

/-- No deferred call. -/
def plainO (o : Oper) : Bool := match o.op with
 | .defer _ => false
 | _ => true
theorem plainO_spec {o : Oper} (h : plainO o = true) (ρ : Operand → Value) (l : Nat) : o.semAt (some l) ρ = execOp ρ o := Oper.semAt_some l ρ o (fun c e => by rw [plainO, e] at h; cases h)
theorem operIn {P : Program} {o : Oper} {a : Act} {w : World} {K : Act → World → Prop} {Q : Exit → Act → World → Prop} (l : Nat) (hp : plainO o = true) (h : o.wp P a w K Q) : o.wpIn (Fence.wide.inRound l) 0 P a w K Q := by
 refine ⟨fun _ _ => trivial, ?_⟩
 show o.uponIn _ _ _ _ _ _ ((o.semAt (some l) a.eval).run P w)
 rw [plainO_spec hp]
 unfold Oper.wp at h
 generalize (execOp a.eval o).run P w = r at *
 cases r with
 | ok x w' =>
  cases x <;> simp only [Oper.uponIn, Oper.upon] at h ⊢
  case value => exact h
  case skip => exact h
  case defer => exact h
  case enter f args => exact ⟨(fun h => by cases h), CallsIn.inRound l (callsIn_wide.2 h)⟩
  case row row args => exact ⟨(fun h => by cases h), fun c cs _ => let ⟨v, w2, r, s⟩ := h c cs; ⟨v, w2, r, stepsIn_wide.2 s⟩⟩
 | halt x w' => cases x <;> simp only [Oper.uponIn, Oper.upon] at h ⊢ <;> exact h
/-- A list of operations in a round: as everywhere. -/
theorem listIn {P : Program} {ops : Array Oper} {Q : Exit → Act → World → Prop} (l : Nat) (hQ : ¬ LetsOut Q) : ∀ (os : List Oper) (a : Act) (w : World), os.all plainO = true → wpList P ops Q os a w → wpListIn (Fence.wide.inRound l) 0 P ops Q os a w
 | [], a, w, _, h => h
 | o :: rest, a, w, hp, h => by
  rw [List.all_cons, Bool.and_eq_true] at hp
  unfold wpList at h
  unfold wpListIn
  by_cases hw : Region.wanted o (yielded ops a.tmps) = true
  ·rw [if_pos hw] at h ⊢
   rcases h with h | ⟨_, h⟩
   ·exact Oper.wpIn_mono (fun a' w' => listIn l hQ rest a' w' hp.2) (operIn l hp.1 h)
   ·exact absurd h hQ
  ·rw [if_neg hw] at h ⊢
   exact ⟨fun _ _ => trivial, listIn l hQ rest _ w hp.2 h⟩
theorem regionIn {P : Program} {id : Nat} {os : List Oper} {Q : Exit → Act → World → Prop} {a : Act} {w : World} (l : Nat) (hQ : ¬ LetsOut Q) (hp : os.all plainO = true) (h : wpList P os.toArray Q os a w) :
 (Code.region id os.toArray false).wpIn (Fence.wide.inRound l) 0 P Q a w := wpIn_region_lit (listIn l hQ os a w hp h)
end Go.Proofs.Ytdioagebkfdkhaa.Ad
end

section
set_option linter.unusedVariables false
set_option linter.unusedSimpArgs false
namespace Go.Proofs.Ytdioagebkfdkhaa.Ad
open Go.RowKit Go.Proofs.YtdioagebkfdkhaaW.PrintWords Go.Proofs.YtdioagebkfdkhaaW.PrintLast Go.Proofs.YtdioagebkfdkhaaW.PrintMore Go.Proofs.Ytdioagebkfdkhaa.PT

theorem grown_below {W W' : World} (h : Below W.heap.size W W') : W.grownBy W' none := ⟨h.os, h.tape, h.output, h.size, fun k hk _ => h.block k hk⟩
theorem AbT.below {β : Type} {ok : Obj → Bool} {B : Nat} {I : β → World → Prop} (h : AbT ok B I) {s : β} {W W' : World} (hs : I s W) (hB : Below W.heap.size W W') : I s W' := h s W W' none hs (grown_below hB) (fun r e => by cases e)
theorem grown_setRow (W : World) (g : Nat) (c : Array Value) : W.grownBy (W.setRow g c) (some g) :=
 ⟨rfl, rfl, rfl, by show W.heap.size ≤ (W.heap.modify g _).size; rw [Array.size_modify]; exact Nat.le_refl _, fun k _ hk => by
  show (W.heap.modify g _)[k]? = _
  rw [Array.getElem?_modify, if_neg (fun e => hk (by rw [e]))]⟩
theorem AbT.setRow {β : Type} {B : Nat} {I : β → World → Prop} (h : AbT frO B I) {s : β} {W : World} {g : Nat} {cs : Array Value} (hs : I s W) (hB : B ≤ g) (hg : Has W g cs 28) (c : Array Value) : I s (W.setRow g c) :=
 h s W _ (some g) hs (grown_setRow W g c) (fun r e => by cases e; exact ⟨hB, _, hg, by simp [frO, itO]⟩)
theorem A16.arr_inj {a b : A16} (h : a.arr = b.arr) : a = b := A16.cells_inj (by simpa [A16.arr] using h)
theorem partsN_uniq (v6 : Bool) (hi : A16) : ∀ (k1 k2 : Nat) (n : A16 × Bool) (r1 r2 : List Spn), partsN k1 v6 hi n = some r1 → partsN k2 v6 hi n = some r2 → r1 = r2
 | 0, k2, n, r1, r2, h1, h2 => by
  unfold partsN at h1
  split at h1
  ·cases h1
  ·rename_i hc
   cases h1
   cases k2 <;> unfold partsN at h2 <;> rw [if_neg hc] at h2 <;> exact Option.some.inj h2
 | k1 + 1, k2, n, r1, r2, h1, h2 => by
  unfold partsN at h1
  by_cases hc : (n.2 && decide (lexC n.1.l hi.l ≤ 0)) = true
  ·rw [if_pos hc] at h1
   cases k2 with
   | zero => unfold partsN at h2; rw [if_pos hc] at h2; cases h2
   | succ k2 =>
    unfold partsN at h2
    rw [if_pos hc] at h2
    obtain ⟨x, hx, rfl⟩ := Option.map_eq_some_iff.1 h1
    obtain ⟨y, hy, rfl⟩ := Option.map_eq_some_iff.1 h2
    rw [partsN_uniq v6 hi k1 k2 _ x y hx hy]
  ·rw [if_neg hc] at h1
   cases h1
   cases k2 <;> unfold partsN at h2 <;> rw [if_neg hc] at h2 <;> exact Option.some.inj h2
/-- How many are left, read off the world. -/
def LeftP (s : Spn) (g : Nat) (v : Value) (W : World) (rest : List Spn) : Prop := ∃ (k : Nat) (a : A16) (b : Bool), v = .bool b ∧ Has W g a.arr 28 ∧ partsN k s.v6 s.hi (a, b) = some rest
open Classical in
noncomputable def leftA (s : Spn) (g : Nat) (v : Value) (W : World) : Nat := if h : ∃ rest, LeftP s g v W rest then (Classical.choose h).length else 0
theorem leftA_eq {s : Spn} {g : Nat} {v : Value} {W : World} {rest : List Spn} (h : LeftP s g v W rest) : leftA s g v W = rest.length := by
 have hx : ∃ rest, LeftP s g v W rest := ⟨rest, h⟩
 unfold leftA
 rw [dif_pos hx]
 obtain ⟨k, a, b, e1, e2, e3⟩ := h
 obtain ⟨k', a', b', f1, f2, f3⟩ := Classical.choose_spec hx
 rw [e1] at f1
 cases f1
 have e2' : W.heap[g]? = some (.cells a.arr 28 (0, 0)) := e2
 have f2' : W.heap[g]? = some (.cells a'.arr 28 (0, 0)) := f2
 rw [e2'] at f2'
 have : a = a' := A16.arr_inj (by injection f2' with f; injection f)
 subst this
 exact congrArg List.length (partsN_uniq _ _ _ _ _ _ _ f3 e3)

/-- A call of yield. -/
theorem exec_yield {P : Program} {ρ : Operand → Value} {n x y : Tmp} {tys : Array TypeId} {ty : TypeId} {pos : String} {af : Array Edge} {g : Option (Nat × Bool)} {l : Nat} {v : Value} (hx : ρ (.tmp x) = .func (.yield l) #[] #[]) (hy : ρ (.tmp y) = v) (W : World) :
 (execOp ρ ⟨some n, .call { callee := .value (.tmp x), args := #[.tmp y], argTypes := tys }, ty, pos, af, g⟩).run P W = (Instr.yield l #[v]).run P W := by
 simp [execOp, resolve, hx, hy, invoke, go_sem]
theorem yieldW {P : Program} {o : Oper} {a : Act} {w : World} {K : Act → World → Prop} {Q : Exit → Act → World → Prop} {l : Nat} {args : Array Value} {R : Ending → World → Prop} (hrun : (execOp a.eval o).run P w = (Instr.yield l args).run P w) (hY : YieldAt Fence.wide 0 P l args w R)
 (h : ∀ e w', R e w' → ∃ v, e = .returned v ∧ K (a.put o.dst v) w') : o.wpIn Fence.wide 0 P a w K Q := by
 obtain ⟨fn, tmps, assign, body, hy, hR⟩ := hY
 refine ⟨fun _ _ => trivial, ?_⟩
 show o.uponIn _ _ _ _ _ _ ((execOp a.eval o).run P w)
 rw [hrun, hy]
 refine ⟨(fun h => by cases h), hR.mono fun e w' he => ?_⟩
 obtain ⟨v, rfl, hk⟩ := h e w' he
 exact hk
theorem yieldR {P : Program} {o : Oper} {a : Act} {w : World} {K : Act → World → Prop} {Q : Exit → Act → World → Prop} {l : Nat} {args : Array Value} {R : Ending → World → Prop} (l' : Nat) (hp : plainO o = true) (hrun : (execOp a.eval o).run P w = (Instr.yield l args).run P w) (hY : YieldAt Fence.wide 0 P l args w R)
 (h : ∀ e w', R e w' → ∃ v, e = .returned v ∧ K (a.put o.dst v) w') : o.wpIn (Fence.wide.inRound l') 0 P a w K Q := by
 obtain ⟨fn, tmps, assign, body, hy, hR⟩ := hY
 refine ⟨fun _ _ => trivial, ?_⟩
 show o.uponIn _ _ _ _ _ _ ((o.semAt (some l') a.eval).run P w)
 rw [plainO_spec hp, hrun, hy]
 refine ⟨(fun h => by cases h), RoundIn.mono (F := Fence.wide) hR fun e w' he => ?_⟩
 obtain ⟨v, rfl, hk⟩ := h e w' he
 exact hk
theorem listW {P : Program} {ops : Array Oper} {Q : Exit → Act → World → Prop} {o : Oper} {rest : List Oper} {a : Act} {w w1 : World} {v : Value} (hg : o.guard = none) (hrun : (execOp a.eval o).run P w = .ok (.value v) w1) (h : wpListIn Fence.wide 0 P ops Q rest (a.put o.dst v) w1) : wpListIn Fence.wide 0 P ops Q (o :: rest) a w :=
 wpListIn_plain hg fun K hK => ⟨fun _ _ => trivial, by
  show o.uponIn _ _ _ _ _ _ ((execOp a.eval o).run P w)
  rw [hrun]
  exact hK _ _ h⟩

theorem operW {P : Program} {o : Oper} {a : Act} {w : World} {K : Act → World → Prop} {Q : Exit → Act → World → Prop} (h : o.wp P a w K Q) : o.wpIn Fence.wide 0 P a w K Q := by
 refine ⟨fun _ _ => trivial, ?_⟩
 show o.uponIn _ _ _ _ _ _ ((execOp a.eval o).run P w)
 unfold Oper.wp at h
 generalize (execOp a.eval o).run P w = r at *
 cases r with
 | ok x w' =>
  cases x <;> simp only [Oper.uponIn, Oper.upon] at h ⊢
  case value => exact h
  case skip => exact h
  case defer => exact h
  case enter f args => exact ⟨(fun h => by cases h), callsIn_wide.2 h⟩
  case row row args => exact ⟨(fun h => by cases h), fun c cs _ => let ⟨v, w2, r, s⟩ := h c cs; ⟨v, w2, r, stepsIn_wide.2 s⟩⟩
 | halt x w' => cases x <;> simp only [Oper.uponIn, Oper.upon] at h ⊢ <;> exact h
theorem listOp {P : Program} {ops : Array Oper} {Q : Exit → Act → World → Prop} {o : Oper} {rest : List Oper} {a : Act} {w : World} (hg : o.guard = none) (h : o.wp P a w (wpListIn Fence.wide 0 P ops Q rest) Q) : wpListIn Fence.wide 0 P ops Q (o :: rest) a w :=
 wpListIn_plain hg fun K hK => Oper.wpIn_mono hK (operW h)
theorem storeA_step {ops : Array Oper} {o : Oper} {a : Act} {Kc : Act → World → Prop} {Q : Exit → Act → World → Prop} {W : World} (hw : Region.wanted o (yielded ops a.tmps) = true) (p x : Tmp) (ho : o.op = .store 28 (.tmp p) (.tmp x)) (g : Nat) (v : A16)
 (hp : a.eval (.tmp p) = .pointer (some ⟨g, 0, none⟩)) (hx : a.eval (.tmp x) = .agg v.arr) {u : A16} (h0 : Has W g u.arr 28) (h : Kc (a.put o.dst undef) (W.setRow g v.arr)) :
 if Region.wanted o (yielded ops a.tmps) = true then Oper.wp Try.prog o a W Kc Q else Kc (a.put o.dst undef) W := by
 rw [if_pos hw]
 exact wp_store_row 28 (.tmp p) (.tmp x) ho g v.arr hp hx 28 u.arr h0 (by rw [v.arr_size]; exact infoA) (by rw [v.arr_size, u.arr_size]) v.arr_one h
/-- What holds in parts's iterator. -/
def PaS (w0 : World) (Bs g : Nat) (s : Spn) (a : A16) (W : World) : Prop := Has W Bs s.arr 30 ∧ Has W g a.arr 28 ∧ w0.heap.size ≤ g ∧ Bs < w0.heap.size ∧ w0.heap.size ≤ W.heap.size
theorem PaS.step {w0 W W1 : World} {Bs g : Nat} {s : Spn} {a : A16} (h : PaS w0 Bs g s a W) (hB : Below W.heap.size W W1) : PaS w0 Bs g s a W1 := ⟨h.1.below hB, h.2.1.below hB, h.2.2.1, h.2.2.2.1, Nat.le_trans h.2.2.2.2 hB.size⟩
theorem PaS.keep {w0 W W1 : World} {B Bs g : Nat} {s : Spn} {a : A16} (h : PaS w0 Bs g s a W) (hB : KeepI B W W1) : PaS w0 Bs g s a W1 := ⟨hB.has h.1 (by decide) (by decide), hB.has h.2.1 (by decide) (by decide), h.2.2.1, h.2.2.2.1, Nat.le_trans h.2.2.2.2 hB.1⟩
theorem PaS.set {w0 W : World} {Bs g : Nat} {s : Spn} {a : A16} (h : PaS w0 Bs g s a W) (b : A16) : PaS w0 Bs g s b (W.setRow g b.arr) := ⟨h.1.setRow_other (by have := h.2.2.1; have := h.2.2.2.1; omega) _, h.2.1.setRow_same, h.2.2.1, h.2.2.2.1, Nat.le_trans h.2.2.2.2 (grown_setRow W g b.arr).size⟩

set_option maxHeartbeats 4000000 in
set_option maxRecDepth 100000 in
theorem parts_gives (s : Spn) (k0 : Nat) (xs : List Spn) (hx : partsN k0 s.v6 s.hi (s.lo, rightS s) = some xs) (w : World) (Bs : Nat) (hs : Has w Bs s.arr 30) : GivesT 59 #[.pointer (some ⟨Bs, 0, none⟩)] (fun t : Spn => #[.agg t.arr]) xs w := by
 intro l J Jx w0 hW hJ hJx hY h0
 show Calls Try.prog 59 #[.func (.yield l) #[] #[], .pointer (some ⟨Bs, 0, none⟩)] w0 _
 have hs0 : Has w0 Bs s.arr 30 := hs.below hW
 clear hW hs
 obtain ⟨r, hr⟩ : ∃ r, r = rightS s := ⟨_, rfl⟩
 have hright : ∀ W, Calls Try.prog 15 #[.agg s.arr] W fun e w' => e = .returned (.bool r) ∧ Gw W w' := fun W => by rw [hr]; exact rightS_walk s W
 rw [← hr] at hx
 have HX := Lib.hid hx
 have HJ := Lib.hid (And.intro hJ hJx)
 have HY := Lib.hid hY
 have H0 := Lib.hid h0
 clear hx hr hJ hJx hY h0
 go_enter Try.func59, Try.ntmps59
 go_upto_region 0 with (fail)
 refine start_ (n := 7) (S := fun W => Has W Bs s.arr 30 ∧ Below w0.heap.size w0 W) (ds := []) #[false, false, false, false, false, false, false] (by kernel_rfl) rfl rfl ⟨hs0.drew, (Below.refl _ _).drew⟩ (fun hHeld => ?_)
 refine pure_ (i := 0) (N := some 6) (v := ?_) (a' := ?_) #[true, false, false, false, false, false, false] rfl rfl (by kernel_rfl) (fun _ _ _ h => h) (Or.inl ⟨by rfl, ?_⟩) ?_ ?_
 rotate_left
 ·intro w'
  go_simp
  with_reducible rfl
 rotate_left
 ·simp only [Act.put, List.setIfInBounds_toArray, List.set_cons_zero, List.set_cons_succ, i64_w, i32_w]
  rfl
 refine take_ (i := 1) (N := some 7) (v := .agg s.lo.arr) (a' := ?_) #[true, true, false, false, false, false, false] rfl rfl (by kernel_rfl) (fun _ _ _ h => h) ?_ hHeld ?_ ?_
 ·exact yA (by rfl) rfl s.lo Bs 1 rfl (fun W h => by have := rlo_of_s h.1.rs; rwa [Nat.zero_add] at this)
 rotate_left
 ·simp only [Act.put, List.setIfInBounds_toArray, List.set_cons_zero, List.set_cons_succ, i64_w, i32_w]
  rfl
 refine take_ (i := 2) (N := some 8) (v := .agg s.arr) (a' := ?_) #[true, true, true, false, false, false, false] rfl rfl (by kernel_rfl) (fun _ _ _ h => h) ?_ hHeld ?_ ?_
 ·exact yS (by rfl) rfl s Bs 0 rfl (fun W h => h.1.rs)
 rotate_left
 ·simp only [Act.put, List.setIfInBounds_toArray, List.set_cons_zero, List.set_cons_succ, i64_w, i32_w]
  rfl
 generalize w0.drew = wz at hHeld ⊢
 refine join_ (σ := Nat) 1 #[true, true, true, true, true, true, false] (fun g => [(9, .bool r), (3, .pointer (some ⟨g, 0, none⟩))]) (fun g W => Has W Bs s.arr 30 ∧ Has W g s.lo.arr 28 ∧ w0.heap.size ≤ g ∧ Below w0.heap.size w0 W) ?_ ?_
 rotate_left
 ·intro hJn
  simp only [putAll, Act.put, List.setIfInBounds_toArray, List.set_cons_zero, List.set_cons_succ, i64_w, i32_w] at hJn
  refine two_ (i := 3) (j := 4) (Ni := some 9) (Nj := some 3) #[true, true, true, true, false, false, false] #[true, true, true, false, true, false, false] rfl rfl rfl rfl (by kernel_rfl) (by decide) (by decide) (fun K hK => ?_) (fun K hK => ?_)
  ·refine goes_ Try.func15 (by kernel_rfl) rfl #[.agg s.arr] (by rfl) rfl rfl (by (try simp only [List.map_toArray, List.map_cons, List.map_nil]); first | done | rfl) ?_
   refine (hright _).mono ?_
   rintro e wa ⟨rfl, hB⟩
   refine ⟨_, rfl, ?_⟩
   refine hK.out _ _ (show Has _ _ _ _ ∧ Below _ _ _ from ⟨hHeld.1.below hB.below, hHeld.2.trans (hB.below.mono hHeld.2.size)⟩) (fun hHeld => ?_)
   clear hK K hB
   refine norm_ (a' := ?_) ?_ ?_
   rotate_left
   ·show Act.put _ (some 9) _ = _
    simp only [Act.put, List.setIfInBounds_toArray, List.set_cons_zero, List.set_cons_succ, i64_w, i32_w]
    rfl
   refine one_ (i := 4) (N := some 3) #[true, true, true, true, true, false, false] rfl rfl (by kernel_rfl) (by decide) (fun K hK => ?_)
   refine event_step (by rfl) (v := .pointer (some ⟨wa.heap.size, 0, none⟩)) (w1 := wa.alloc (.cells z16.arr 28)) (by first | kernel_rfl | (go_simp; rfl)) ?_
   have hN := Has.new wa z16.arr 28
   have hG := hHeld.2.size
   refine hK.out _ _ (show Has _ _ _ _ ∧ Below _ _ _ from ⟨hHeld.1.alloc _, hHeld.2.alloc hHeld.2.size (.cells z16.arr 28)⟩) (fun hHeld => ?_)
   clear hK K
   refine norm_ (a' := ?_) ?_ ?_
   rotate_left
   ·show Act.put _ (some 3) _ = _
    simp only [Act.put, List.setIfInBounds_toArray, List.set_cons_zero, List.set_cons_succ, i64_w, i32_w]
    rfl
   generalize wa.heap.size = g at hN hG ⊢
   generalize wa.alloc (.cells z16.arr 28) = wb at hHeld hN ⊢
   refine one_ (i := 5) (N := none) #[true, true, true, true, true, true, false] rfl rfl (by kernel_rfl) (by decide) (fun K hK => ?_)
   refine storeA_step (by rfl) 3 7 rfl g s.lo rfl rfl hN ?_
   refine hK.out _ _ (show Has _ _ _ _ ∧ Below _ _ _ from ⟨hHeld.1.setRow_other (by have := hs0.lt; omega) _, below_setRow hHeld.2 hG s.lo.arr⟩) (fun hHeld => ?_)
   clear hK K
   refine norm_ (a' := ?_) ?_ ?_
   rotate_left
   ·show Act.put _ none _ = _
    simp only [Act.put]
    rfl
   exact hJn g _ ⟨hHeld.1, hN.setRow_same, hG, hHeld.2⟩
  ·refine event_step (by rfl) (v := .pointer (some ⟨wz.heap.size, 0, none⟩)) (w1 := wz.alloc (.cells z16.arr 28)) (by first | kernel_rfl | (go_simp; rfl)) ?_
   have hN := Has.new wz z16.arr 28
   have hG := hHeld.2.size
   refine hK.out _ _ (show Has _ _ _ _ ∧ Below _ _ _ from ⟨hHeld.1.alloc _, hHeld.2.alloc hHeld.2.size (.cells z16.arr 28)⟩) (fun hHeld => ?_)
   clear hK K
   refine norm_ (a' := ?_) ?_ ?_
   rotate_left
   ·show Act.put _ (some 3) _ = _
    simp only [Act.put, List.setIfInBounds_toArray, List.set_cons_zero, List.set_cons_succ, i64_w, i32_w]
    rfl
   generalize wz.heap.size = g at hN hG ⊢
   generalize wz.alloc (.cells z16.arr 28) = wa at hHeld hN ⊢
   refine one_ (i := 3) (N := some 9) #[true, true, true, true, true, false, false] rfl rfl (by kernel_rfl) (by decide) (fun K hK => ?_)
   refine goes_ Try.func15 (by kernel_rfl) rfl #[.agg s.arr] (by rfl) rfl rfl (by (try simp only [List.map_toArray, List.map_cons, List.map_nil]); first | done | rfl) ?_
   refine (hright _).mono ?_
   rintro e wb ⟨rfl, hB⟩
   refine ⟨_, rfl, ?_⟩
   replace hN := hN.below hB.below
   refine hK.out _ _ (show Has _ _ _ _ ∧ Below _ _ _ from ⟨hHeld.1.below hB.below, hHeld.2.trans (hB.below.mono hHeld.2.size)⟩) (fun hHeld => ?_)
   clear hK K hB
   refine norm_ (a' := ?_) ?_ ?_
   rotate_left
   ·show Act.put _ (some 9) _ = _
    simp only [Act.put, List.setIfInBounds_toArray, List.set_cons_zero, List.set_cons_succ, i64_w, i32_w]
    rfl
   refine one_ (i := 5) (N := none) #[true, true, true, true, true, true, false] rfl rfl (by kernel_rfl) (by decide) (fun K hK => ?_)
   refine storeA_step (by rfl) 3 7 rfl g s.lo rfl rfl hN ?_
   refine hK.out _ _ (show Has _ _ _ _ ∧ Below _ _ _ from ⟨hHeld.1.setRow_other (by have := hs0.lt; omega) _, below_setRow hHeld.2 hG s.lo.arr⟩) (fun hHeld => ?_)
   clear hK K
   refine norm_ (a' := ?_) ?_ ?_
   rotate_left
   ·show Act.put _ none _ = _
    simp only [Act.put]
    rfl
   exact hJn g _ ⟨hHeld.1, hN.setRow_same, hG, hHeld.2⟩
 intro g w3 hHeld
 simp only [putAll, Act.put, List.setIfInBounds_toArray, List.set_cons_zero, List.set_cons_succ, i64_w, i32_w]
 refine pure_ (i := 6) (N := some 4) (v := ?_) (a' := ?_) #[true, true, true, true, true, true, true] rfl rfl (by kernel_rfl) (fun _ _ _ h => h) (Or.inl ⟨by rfl, ?_⟩) ?_ ?_
 rotate_left
 ·intro w'
  go_simp
  with_reducible rfl
 rotate_left
 ·simp only [Act.put, List.setIfInBounds_toArray, List.set_cons_zero, List.set_cons_succ, i64_w, i32_w]
  rfl
 refine done_ (by kernel_rfl) ?_
 have HP : Hid (PaS w0 Bs g s s.lo w3 ∧ J [] w3) := Lib.hid ⟨⟨hHeld.1, hHeld.2.1, hHeld.2.2.1, hs0.lt, hHeld.2.2.2.size⟩, HJ.out.1.below H0.out hHeld.2.2.2⟩
 clear hHeld hright H0 hs0
 go_wp2
 go_loopw [4, 5] (fun iv _ wr => ∃ (pre rest : List Spn) (a : A16) (b : Bool) (k : Nat), iv = .bool b ∧ Hid (xs = pre ++ rest ∧ partsN k s.v6 s.hi (a, b) = some rest ∧ PaS w0 Bs g s a wr ∧ J pre wr)) (fun iv _ wr => leftA s g iv wr)
 case atStart => exact ⟨[], xs, s.lo, r, k0, rfl, Lib.hid ⟨rfl, HX.out, HP.out.1, HP.out.2⟩⟩
 case round =>
  obtain ⟨pre, rest, a, b, k, rfl, H⟩ := hrel
  clear HP
  have hLeft := leftA_eq (s := s) (g := g) (v := .bool b) (W := wr) ⟨k, a, b, rfl, H.out.2.2.1.2.1, H.out.2.1⟩
  have HLeft := Lib.hid hLeft
  clear hLeft
  cases b with
  | false =>
   have hrest : rest = [] := by
    have := H.out.2.1
    cases k <;> unfold partsN at this <;> simpa using this.symm
   have hJe : J xs wr := by have := H.out.2.2.2; rw [H.out.1, hrest, List.append_nil]; exact this
   have HE := Lib.hid hJe
   clear hJe hrest
   go_wp2
   go_end0
   exact ⟨⟨_, rfl⟩, .inl HE.out⟩
  | true =>
   obtain ⟨q, hq⟩ : ∃ q, q = lexC a.l s.hi.l := ⟨_, rfl⟩
   have hcmp : ∀ W, Calls Try.prog 30 #[.agg a.arr, .agg s.hi.arr] W fun e w' => e = .returned (.int .i64 q) ∧ Gw W w' := fun W => by rw [hq]; exact scmp_walk _ _ W
   have HQ := Lib.hid hq
   clear hq
   go_wp2_with (first
    | ((with_reducible refine at_dst 12 ?_); refine gate_guard (by rfl) ?_; refine loadA a g 0 rfl H.out.2.2.1.2.1.ra ?_)
    | ((with_reducible refine at_dst 14 ?_); refine gate_guard (by rfl) ?_; refine loadA s.hi Bs 17 rfl (by have := rhi_of_s H.out.2.2.1.1.rs; rwa [Nat.zero_add] at this) ?_))
   refine (hcmp _).mono ?_
   rintro e w5 ⟨rfl, hB⟩
   have H5 := Lib.hid (And.intro H.out.1 (And.intro H.out.2.1 (And.intro (H.out.2.2.1.step hB.below) (HJ.out.1.below H.out.2.2.2 hB.below))))
   clear hcmp H hB
   by_cases p : q ≤ 0
   ·have p1 : decide (q ≤ 0) = true := decide_eq_true p
    have p2 := eq_true p
    have hc : (true && decide (lexC a.l s.hi.l ≤ 0)) = true := by rw [← HQ.out, p1]; rfl
    obtain ⟨t, ht⟩ : ∃ t, t = greatP s.v6 a s.hi := ⟨_, rfl⟩
    have hsp : ∃ k' rest', rest = t :: rest' ∧ partsN k' s.v6 s.hi (nextP s.v6 t.hi) = some rest' := by
     have := H5.out.2.1
     cases k with
     | zero => unfold partsN at this; rw [if_pos hc] at this; cases this
     | succ k =>
      unfold partsN at this
      rw [if_pos hc] at this
      obtain ⟨y, hy, e⟩ := Option.map_eq_some_iff.1 this
      exact ⟨k, y, by rw [ht]; exact e.symm, by rw [ht]; exact hy⟩
    obtain ⟨k', rest', hre, hpn⟩ := hsp
    obtain ⟨v6, hv⟩ : ∃ v, v = s.v6 := ⟨_, rfl⟩
    have c0 : w5.cell? ⟨Bs, 0, none⟩ = some (.bool v6) := by rw [hv]; exact rs_v6 H5.out.2.2.1.1.rs
    have hgr : ∀ W, Calls Try.prog 60 #[.bool v6, .agg a.arr, .agg s.hi.arr] W fun e w' => e = .returned (.agg t.arr) ∧ Below W.heap.size W w' := fun W => by rw [hv, ht]; exact great_walk _ _ _ W
    have HN := Lib.hid (And.intro hv (And.intro hre hpn))
    clear hc ht hre hpn hv
    go_wp2_with (first
     | ((with_reducible refine at_dst 20 ?_); refine loadA a g 0 rfl H5.out.2.2.1.2.1.ra ?_)
     | ((with_reducible refine at_dst 22 ?_); refine loadA s.hi Bs 17 rfl (by have := rhi_of_s H5.out.2.2.1.1.rs; rwa [Nat.zero_add] at this) ?_))
    refine (hgr _).mono ?_
    rintro e w6 ⟨rfl, hB⟩
    have hal := (show Below w6.heap.size w6 (w6.alloc (.cells t.arr 30)) from (Below.refl _ _).alloc (Nat.le_refl _) _)
    have H6 : Hid (PaS w0 Bs g s a (w6.alloc (.cells t.arr 30)) ∧ J pre (w6.alloc (.cells t.arr 30)) ∧ Has (w6.alloc (.cells t.arr 30)) w6.heap.size t.arr 30 ∧ w0.heap.size ≤ w6.heap.size) :=
     Lib.hid ⟨(H5.out.2.2.1.step hB).step hal, HJ.out.1.below (HJ.out.1.below H5.out.2.2.2 hB) hal, Has.new _ _ _, (H5.out.2.2.1.step hB).2.2.2.2⟩
    have HXS := Lib.hid H5.out.1
    clear hB hal hgr c0 H5 p p1 p2
    go_upto_region 3 with (first
     | ((with_reducible refine at_dst 5 ?_); refine alloc_storeS t rfl rfl ?_; generalize w6.heap.size = g5 at H6 ⊢; generalize w6.alloc (.cells t.arr 30) = w7 at H6 ⊢))
    refine (wpIn_wide (n := 0)).1 (wpIn_region_lit ?_)
    refine listW rfl (v := .func (.yield l) #[] #[]) (w1 := w7) (by go_simp; try rfl) ?_
    refine listOp rfl (wp_load_mid 30 (.tmp 5) rfl g5 0 rfl t.cells _ H6.out.2.2.1.rs Try.underlying30 rfl (by rw [t.cells_len]; exact infoS) ?_)
    have hYt := HY.out pre t w7 ⟨rest', by rw [HXS.out, HN.out.2.1, List.append_assoc]; rfl⟩ H6.out.2.1 H6.out.1.2.2.2.2
    refine wpListIn_plain rfl fun K hK => yieldW (exec_yield rfl rfl _) hYt ?_
    rintro e w8 ⟨hk8, ⟨rfl, hJ8⟩ | ⟨rfl, hJx8⟩⟩
    ·refine ⟨_, rfl, hK _ _ ?_⟩
     clear hK K hYt
     obtain ⟨n, hn⟩ : ∃ n, n = nextP s.v6 t.hi := ⟨_, rfl⟩
     have hnx : ∀ W, Calls Try.prog 41 #[.bool v6, .agg t.hi.arr] W fun e w' => e = .returned (.tuple #[.agg n.1.arr, .bool n.2]) ∧ Below W.heap.size W w' := fun W => by rw [HN.out.1, hn]; exact next_walk _ _ W
     have H8 : Hid (PaS w0 Bs g s a w8 ∧ J (pre ++ [t]) w8 ∧ Has w8 g5 t.arr 30) := Lib.hid ⟨H6.out.1.keep hk8, hJ8, hk8.has H6.out.2.2.1 (by decide) (by decide)⟩
     have c0 : w8.cell? ⟨Bs, 0, none⟩ = some (.bool v6) := by rw [HN.out.1]; exact rs_v6 H8.out.1.1.rs
     have HNX := Lib.hid hn
     clear hJ8 hk8 H6 hn
     refine listW rfl (v := .bool false) (w1 := w8) (by go_simp; try rfl) ?_
     refine wpListIn_nil ?_
     go_wp2_with (first
      | ((with_reducible refine at_dst 32 ?_); refine loadA t.hi g5 17 rfl (by have := rhi_of_s H8.out.2.2.rs; rwa [Nat.zero_add] at this) ?_))
     refine (hnx _).mono ?_
     rintro e w9 ⟨rfl, hB⟩
     have H9 : Hid (PaS w0 Bs g s a w9 ∧ J (pre ++ [t]) w9) := Lib.hid ⟨H8.out.1.step hB, HJ.out.1.below H8.out.2.1 hB⟩
     obtain ⟨n1, n2⟩ := n
     clear hB hnx c0 H8
     have H10 : Hid (PaS w0 Bs g s n1 (w9.setRow g n1.arr) ∧ J (pre ++ [t]) (w9.setRow g n1.arr)) := Lib.hid ⟨H9.out.1.set n1, HJ.out.1.setRow H9.out.2 H9.out.1.2.2.1 H9.out.1.2.1 _⟩
     go_wp2_with (first
      | (refine wpList_store_row rfl 28 (.tmp 3) (.tmp 34) rfl g n1.arr rfl rfl 28 a.arr H9.out.1.2.1 (by rw [n1.arr_size]; exact infoA) (by rw [n1.arr_size, a.arr_size]) n1.arr_one ?_; generalize w9.setRow g n1.arr = w10 at H10 ⊢))
     go_roundw
     case rel => exact ⟨pre ++ [t], rest', n1, n2, k', rfl, Lib.hid ⟨by rw [HXS.out, HN.out.2.1, List.append_assoc]; rfl, by rw [HNX.out]; exact HN.out.2.2, H10.out.1, H10.out.2⟩⟩
     case measure =>
      rw [HLeft.out, leftA_eq (rest := rest') ⟨k', n1, n2, rfl, H10.out.1.2.1, by rw [HNX.out]; exact HN.out.2.2⟩, HN.out.2.1]
      simp
    ·refine ⟨_, rfl, hK _ _ ?_⟩
     clear hK K hYt
     have HE := Lib.hid hJx8
     clear hJx8 hk8
     refine listW rfl (v := .bool true) (w1 := w8) (by go_simp; try rfl) ?_
     refine wpListIn_nil ?_
     go_wp2
     refine bodyPost_ret (results_none rfl _ _ _) rfl ?_
     exact ⟨⟨_, rfl⟩, .inr ⟨pre ++ [t], ⟨rest', by rw [HXS.out, HN.out.2.1, List.append_assoc]; rfl⟩, HE.out⟩⟩
   ·have p1 : decide (q ≤ 0) = false := decide_eq_false p
    have p2 := eq_false p
    have hc : (true && decide (lexC a.l s.hi.l ≤ 0)) = false := by rw [← HQ.out, p1]; rfl
    have hrest : rest = [] := by
     have := H5.out.2.1
     cases k <;> unfold partsN at this <;> rw [if_neg (by rw [hc]; simp)] at this <;> exact (Option.some.inj this).symm
    have hJe : J xs w5 := by have := H5.out.2.2.2; rw [H5.out.1, hrest, List.append_nil]; exact this
    have HE := Lib.hid hJe
    clear hJe hrest hc
    go_wp2
    go_end0
    exact ⟨⟨_, rfl⟩, .inl HE.out⟩

end Go.Proofs.Ytdioagebkfdkhaa.Ad
end

section
set_option linter.unusedVariables false
set_option linter.unusedSimpArgs false
namespace Go.Proofs.Ytdioagebkfdkhaa.Ad
open Go Go.RowKit Go.Proofs.YtdioagebkfdkhaaW.PrintWords Go.Proofs.YtdioagebkfdkhaaW.PrintLast Go.Proofs.YtdioagebkfdkhaaW.PrintMore Go.Proofs.Ytdioagebkfdkhaa.PT

/-- A region that draws its order, by what holds whatever has come up. -/
theorem wpAnyIn_inv {F : Fence} {n : Nat} {P : Program} {md : Region.Mode} {ops : Array Oper} {Q : Exit → Act → World → Prop} (G : Nat → Array Bool → Act → World → Prop)
 (hend : ∀ k L a w, G k L a w → Region.ready md ops L = [] → Q .normal a w) (hz : ∀ L a w, G 0 L a w → Region.ready md ops L = [])
 (hstep : ∀ k L a w i, G (k + 1) L a w → i ∈ Region.ready md ops L → wpOpIn F n P ops Q i (G k (L.setIfInBounds i true)) a w) :
 ∀ k L a w, G k L a w → wpAnyIn F n P md ops Q k L a w
 | 0, L, a, w, h => ⟨hz L a w h, hend 0 L a w h (hz L a w h)⟩
 | k + 1, L, a, w, h => ⟨fun h0 => hend _ L a w h h0, fun i hi => wpOpIn_mono (fun a' w' => wpAnyIn_inv G hend hz hstep k _ a' w') (hstep k L a w i h hi)⟩
theorem count_set_false : ∀ (l : List Bool) (i k : Nat), l.getD i true = false → l.count false = k + 1 → (l.set i true).count false = k
 | [], i, k, h, _ => by simp at h
 | b :: l, 0, k, h, hc => by
  have hb : b = false := by simpa using h
  subst hb
  simpa using hc
 | b :: l, i + 1, k, h, hc => by
  have h' : l.getD i true = false := by simpa using h
  cases b
  ·have hc' : l.count false = k := by simpa using hc
   cases k with
   | zero =>
    exfalso
    have hm : false ∈ l := by
     rw [List.getD_eq_getElem?_getD] at h'
     cases e : l[i]? with
     | none => rw [e] at h'; cases h'
     | some x => rw [e] at h'; simp at h'; subst h'; exact List.mem_of_getElem? e
    exact absurd (List.count_pos_iff.2 hm) (by omega)
   | succ k =>
    have := count_set_false l i k h' hc'
    simpa using this
  ·have := count_set_false l i k h' (by simpa using hc)
   simpa using this
/-- What of ten has come up. -/
def bt (L : Array Bool) (i : Nat) : Prop := L.getD i true = true
theorem bt_set {L : Array Bool} {i j : Nat} (h : bt L j) : bt (L.setIfInBounds i true) j := by
 unfold bt at *
 by_cases e : i = j
 ·subst e
  rw [Array.getD_eq_getD_getElem?, Array.getElem?_setIfInBounds, if_pos rfl]
  split <;> rfl
 ·rw [Array.getD_eq_getD_getElem?, Array.getElem?_setIfInBounds_ne e, ← Array.getD_eq_getD_getElem?]
  exact h
theorem bt_of_set {L : Array Bool} {i j : Nat} (h : bt (L.setIfInBounds i true) j) (e : i ≠ j) : bt L j := by
 unfold bt at *
 rw [Array.getD_eq_getD_getElem?, Array.getElem?_setIfInBounds_ne e, ← Array.getD_eq_getD_getElem?] at h
 exact h
theorem bt_new {L : Array Bool} {i : Nat} : bt (L.setIfInBounds i true) i := by
 unfold bt
 rw [Array.getD_eq_getD_getElem?, Array.getElem?_setIfInBounds, if_pos rfl]
 split <;> rfl
theorem bt_dep {L : Array Bool} {i : Nat} (h : L.getD i false = true) : bt L i := by
 unfold bt
 rw [Array.getD_eq_getD_getElem?] at *
 cases e : L[i]? with
 | none => rfl
 | some x => rw [e] at h; exact h
theorem bt_low {L : Array Bool} {i : Nat} (hi : i < L.size) (h : bt L i) : L.getD i false = true := by
 unfold bt at h
 rw [Array.getD_eq_getD_getElem?, Array.getElem?_eq_getElem hi] at *
 exact h
theorem tmpE {a : Act} {n : Nat} {v : Value} (h : a.eval (.tmp n) = v) : a.tmps[n]?.getD undef = v := by
 rw [← Array.getD_eq_getD_getElem?]
 exact h
theorem put_eval {a : Act} {d j : Nat} {v : Value} (h : j ≠ d) : (a.put (some d) v).eval (.tmp j) = a.eval (.tmp j) := Act.eval_put fun d' e hx => by cases e; cases hx; exact h rfl
theorem put_here {a : Act} {d : Nat} {v : Value} (h : d < a.tmps.size) : (a.put (some d) v).eval (.tmp d) = v := by
 show (a.tmps.setIfInBounds d v).getD d undef = v
 rw [Array.getD_eq_getD_getElem?, Array.getElem?_setIfInBounds_self_of_lt h]
 rfl
theorem put_size {a : Act} {d : Nat} {v : Value} : (a.put (some d) v).tmps.size = a.tmps.size := by
 show (a.tmps.setIfInBounds d v).size = _
 rw [Array.size_setIfInBounds]

def toP (t : Spn) : Pfx := ⟨t.v6, t.lo, longP t⟩
/-- The round's region. -/
noncomputable def ops3 : Array Oper := match Try.f45.body with
 | some (.seq _ (.seq _ (.block _ (.rangeFunc _ _ _ (.block _ (.seq (.region _ ops _) _)))))) => ops
 | _ => #[]
def slotV (l b3 : Nat) (t : Spn) : Nat → Value
 | 0 => .func (.yield l) #[] #[]
 | 1 => .pointer (some ⟨b3, 0, none⟩)
 | 2 => .bool t.v6
 | 3 => .pointer (some ⟨b3, 1, none⟩)
 | 4 => .agg t.lo.arr
 | 5 => .agg t.arr
 | 6 => .int .i64 (longP t)
 | 7 => .agg (toP t).arr
 | _ => undef
/-- What holds whatever has come up. -/
structure GG (l b2 b3 : Nat) (t : Spn) (S : World → Prop) (Pt : Bool → World → Prop) (k : Nat) (L : Array Bool) (a : Act) (w : World) : Prop where
 hl : L.size = 10
 hk : L.toList.count false = k
 ht : a.tmps.size = 17
 h2 : a.eval (.tmp 2) = .pointer (some ⟨b2, 0, none⟩)
 h3 : a.eval (.tmp 3) = .pointer (some ⟨b3, 0, none⟩)
 hv : ∀ i, i < 8 → bt L i → a.eval (.tmp (7 + i)) = slotV l b3 t i
 hs : ¬ bt L 8 → S w
 hp : bt L 8 → (∀ i, i < 8 → bt L i) ∧ ∃ b, a.eval (.tmp 15) = .bool b ∧ Pt b w ∧ (bt L 9 → a.eval (.tmp 16) = .bool (!b))
 d7 : bt L 7 → bt L 2 ∧ bt L 4 ∧ bt L 6
 d2 : bt L 2 → bt L 1
 d4 : bt L 4 → bt L 3
 d6 : bt L 6 → bt L 5
 h9 : bt L 9 → bt L 8
/-- One of the first eight has come up, and left its value. -/
theorem GG.put {l b2 b3 : Nat} {t : Spn} {S : World → Prop} {Pt : Bool → World → Prop} {k : Nat} {L : Array Bool} {a : Act} {w w' : World} {i : Nat} (h : GG l b2 b3 t S Pt (k + 1) L a w) (hi : i < 8) (hun : L.getD i true = false)
 (e7 : i = 7 → bt L 2 ∧ bt L 4 ∧ bt L 6) (e2 : i = 2 → bt L 1) (e4 : i = 4 → bt L 3) (e6 : i = 6 → bt L 5) (hS : S w') :
 GG l b2 b3 t S Pt k (L.setIfInBounds i true) (a.put (some (7 + i)) (slotV l b3 t i)) w' where
 hl := by rw [Array.size_setIfInBounds]; exact h.hl
 hk := by
  rw [Array.toList_setIfInBounds]
  exact count_set_false _ _ _ (by rw [← hun, Array.getD_eq_getD_getElem?, List.getD_eq_getElem?_getD, Array.getElem?_toList]) h.hk
 ht := by rw [put_size]; exact h.ht
 h2 := by rw [put_eval (by omega)]; exact h.h2
 h3 := by rw [put_eval (by omega)]; exact h.h3
 hv := fun j hj hb => by
  by_cases e : i = j
  ·subst e
   exact put_here (by rw [h.ht]; omega)
  ·rw [put_eval (by omega)]
   exact h.hv j hj (bt_of_set hb e)
 hs := fun _ => hS
 hp := fun hb => by
  have := (h.hp (bt_of_set hb (by omega))).1 i hi
  unfold bt at this
  rw [hun] at this
  cases this
 d7 := fun hb => by
  by_cases e : i = 7
  ·obtain ⟨x, y, z⟩ := e7 e
   exact ⟨bt_set x, bt_set y, bt_set z⟩
  ·obtain ⟨x, y, z⟩ := h.d7 (bt_of_set hb e)
   exact ⟨bt_set x, bt_set y, bt_set z⟩
 d2 := fun hb => by
  by_cases e : i = 2
  ·exact bt_set (e2 e)
  ·exact bt_set (h.d2 (bt_of_set hb e))
 d4 := fun hb => by
  by_cases e : i = 4
  ·exact bt_set (e4 e)
  ·exact bt_set (h.d4 (bt_of_set hb e))
 d6 := fun hb => by
  by_cases e : i = 6
  ·exact bt_set (e6 e)
  ·exact bt_set (h.d6 (bt_of_set hb e))
 h9 := fun hb => bt_set (h.h9 (bt_of_set hb (by omega)))
theorem wp_val {P : Program} {o : Oper} {a : Act} {w w1 : World} {v : Value} {K : Act → World → Prop} {Q : Exit → Act → World → Prop} (hrun : (execOp a.eval o).run P w = .ok (.value v) w1) (h : K (a.put o.dst v) w1) : o.wp P a w K Q := by
 unfold Oper.wp
 rw [hrun]
 exact h
/-- The round has been called. -/
theorem GG.yield {l b2 b3 : Nat} {t : Spn} {S : World → Prop} {Pt : Bool → World → Prop} {k : Nat} {L : Array Bool} {a : Act} {w w' : World} {b : Bool} (h : GG l b2 b3 t S Pt (k + 1) L a w) (hun : L.getD 8 true = false) (e0 : bt L 0) (e7 : bt L 7) (hP : Pt b w') :
 GG l b2 b3 t S Pt k (L.setIfInBounds 8 true) (a.put (some 15) (.bool b)) w' where
 hl := by rw [Array.size_setIfInBounds]; exact h.hl
 hk := by
  rw [Array.toList_setIfInBounds]
  exact count_set_false _ _ _ (by rw [← hun, Array.getD_eq_getD_getElem?, List.getD_eq_getElem?_getD, Array.getElem?_toList]) h.hk
 ht := by rw [put_size]; exact h.ht
 h2 := by rw [put_eval (by omega)]; exact h.h2
 h3 := by rw [put_eval (by omega)]; exact h.h3
 hv := fun j hj hb => by rw [put_eval (by omega)]; exact h.hv j hj (bt_of_set hb (by omega))
 hs := fun hb => absurd bt_new hb
 hp := fun _ => by
  obtain ⟨e2, e4, e6⟩ := h.d7 e7
  refine ⟨fun i hi => bt_set ?_, b, put_here (by rw [h.ht]; decide), hP, fun hb => ?_⟩
  ·have hcase : i = 0 ∨ i = 1 ∨ i = 2 ∨ i = 3 ∨ i = 4 ∨ i = 5 ∨ i = 6 ∨ i = 7 := by omega
   rcases hcase with rfl | rfl | rfl | rfl | rfl | rfl | rfl | rfl
   ·exact e0
   ·exact h.d2 e2
   ·exact e2
   ·exact h.d4 e4
   ·exact e4
   ·exact h.d6 e6
   ·exact e6
   ·exact e7
  ·have hb9 := h.h9 (bt_of_set hb (by omega))
   unfold bt at hb9
   rw [hun] at hb9
   cases hb9
 d7 := fun hb => by
  obtain ⟨x, y, z⟩ := h.d7 (bt_of_set hb (by omega))
  exact ⟨bt_set x, bt_set y, bt_set z⟩
 d2 := fun hb => bt_set (h.d2 (bt_of_set hb (by omega)))
 d4 := fun hb => bt_set (h.d4 (bt_of_set hb (by omega)))
 d6 := fun hb => bt_set (h.d6 (bt_of_set hb (by omega)))
 h9 := fun hb => bt_new
/-- Its answer, turned. -/
theorem GG.no {l b2 b3 : Nat} {t : Spn} {S : World → Prop} {Pt : Bool → World → Prop} {k : Nat} {L : Array Bool} {a : Act} {w : World} {b : Bool} (h : GG l b2 b3 t S Pt (k + 1) L a w) (hun : L.getD 9 true = false) (e8 : bt L 8) (h15 : a.eval (.tmp 15) = .bool b) (hP : Pt b w) :
 GG l b2 b3 t S Pt k (L.setIfInBounds 9 true) (a.put (some 16) (.bool (!b))) w where
 hl := by rw [Array.size_setIfInBounds]; exact h.hl
 hk := by
  rw [Array.toList_setIfInBounds]
  exact count_set_false _ _ _ (by rw [← hun, Array.getD_eq_getD_getElem?, List.getD_eq_getElem?_getD, Array.getElem?_toList]) h.hk
 ht := by rw [put_size]; exact h.ht
 h2 := by rw [put_eval (by omega)]; exact h.h2
 h3 := by rw [put_eval (by omega)]; exact h.h3
 hv := fun j hj hb => by rw [put_eval (by omega)]; exact h.hv j hj (bt_of_set hb (by omega))
 hs := fun hb => absurd (bt_set e8) hb
 hp := fun _ => ⟨fun i hi => bt_set ((h.hp e8).1 i hi), b, by rw [put_eval (by omega)]; exact h15, hP, fun _ => put_here (by rw [h.ht]; decide)⟩
 d7 := fun hb => by
  obtain ⟨x, y, z⟩ := h.d7 (bt_of_set hb (by omega))
  exact ⟨bt_set x, bt_set y, bt_set z⟩
 d2 := fun hb => bt_set (h.d2 (bt_of_set hb (by omega)))
 d4 := fun hb => bt_set (h.d4 (bt_of_set hb (by omega)))
 d6 := fun hb => bt_set (h.d6 (bt_of_set hb (by omega)))
 h9 := fun _ => bt_set e8
theorem wp_enter {P : Program} {o : Oper} {a : Act} {w : World} {f : FuncId} {args : Array Value} {K : Act → World → Prop} {Q : Exit → Act → World → Prop} (hrun : (execOp a.eval o).run P w = .ok (.enter f args) w) (h : Calls P f args w fun e w' => ∃ v, e = .returned v ∧ K (a.put o.dst v) w') : o.wp P a w K Q := by
 unfold Oper.wp
 rw [hrun]
 exact h.mono fun e w' ⟨v, he, hk⟩ => by subst he; exact hk
theorem ops3_size : ops3.size = 10 := by kernel_rfl

set_option maxHeartbeats 2000000 in
set_option maxRecDepth 100000 in
theorem round_draw {Q : Exit → Act → World → Prop} (l l' b2 b3 : Nat) (t : Spn) (S : World → Prop) (Pt : Bool → World → Prop)
 (hS2 : ∀ w, S w → w.cell? ⟨b2, 0, none⟩ = some (.func (.yield l) #[] #[])) (hS3 : ∀ w, S w → w.rangeAt b3 0 t.cells) (hSB : ∀ w w', S w → Below w.heap.size w w' → S w')
 (hY : ∀ w, S w → YieldAt Fence.wide 0 Try.prog l #[.agg (toP t).arr] w fun e w' => ∃ b, e = .returned (.bool b) ∧ Pt b w')
 (hQ : ∀ a w b, a.eval (.tmp 16) = .bool (!b) → Pt b w → Q .normal a w) (a : Act) (w : World) (ha : a.tmps.size = 17) (h2 : a.eval (.tmp 2) = .pointer (some ⟨b2, 0, none⟩)) (h3 : a.eval (.tmp 3) = .pointer (some ⟨b3, 0, none⟩)) (hS : S w) :
 wpAnyIn (Fence.wide.inRound l') 0 Try.prog .any ops3 Q 10 (Array.replicate 10 false) a w := by
 refine wpAnyIn_inv (GG l b2 b3 t S Pt) ?_ ?_ ?_ 10 _ a w ?_
 ·intro k L a w h hr
  have key : ∀ i, i < 10 → (∀ o, ops3[i]? = some o → ∀ e ∈ o.after, e.on < 10 ∧ bt L e.on) → bt L i := fun i hi hd => Classical.byContradiction fun hn => by
   have hun : L.getD i true = false := by unfold bt at hn; simpa using hn
   have ho : ops3[i]? = some ops3[i] := Array.getElem?_eq_getElem (by rw [ops3_size]; exact hi)
   have : i ∈ Region.ready .any ops3 L := mem_ready.2 ⟨hun, _, ho, fun e he _ => by
    obtain ⟨x, y⟩ := hd _ ho e he
    exact bt_low (by rw [h.hl]; exact x) y⟩
   rw [hr] at this
   cases this
  have b0 : bt L 0 := key 0 (by decide) (fun o ho e he => by
   simp only [ops3, Try.f45] at ho
   simp at ho
   subst ho
   simp at he)
  have b1 : bt L 1 := key 1 (by decide) (fun o ho e he => by
   simp only [ops3, Try.f45] at ho
   simp at ho
   subst ho
   simp at he)
  have b3 : bt L 3 := key 3 (by decide) (fun o ho e he => by
   simp only [ops3, Try.f45] at ho
   simp at ho
   subst ho
   simp at he)
  have b5 : bt L 5 := key 5 (by decide) (fun o ho e he => by
   simp only [ops3, Try.f45] at ho
   simp at ho
   subst ho
   simp at he)
  have b2 : bt L 2 := key 2 (by decide) (fun o ho e he => by
   simp only [ops3, Try.f45] at ho
   simp at ho
   subst ho
   simp at he
   subst he
   exact ⟨by decide, b1⟩)
  have b4 : bt L 4 := key 4 (by decide) (fun o ho e he => by
   simp only [ops3, Try.f45] at ho
   simp at ho
   subst ho
   simp at he
   subst he
   exact ⟨by decide, b3⟩)
  have b6 : bt L 6 := key 6 (by decide) (fun o ho e he => by
   simp only [ops3, Try.f45] at ho
   simp at ho
   subst ho
   simp at he
   subst he
   exact ⟨by decide, b5⟩)
  have b7 : bt L 7 := key 7 (by decide) (fun o ho e he => by
   simp only [ops3, Try.f45] at ho
   simp at ho
   subst ho
   simp at he
   rcases he with rfl | rfl | rfl
   ·exact ⟨by decide, b2⟩
   ·exact ⟨by decide, b4⟩
   ·exact ⟨by decide, b6⟩)
  have b8 : bt L 8 := key 8 (by decide) (fun o ho e he => by
   simp only [ops3, Try.f45] at ho
   simp at ho
   subst ho
   simp at he
   rcases he with rfl | rfl | rfl
   ·exact ⟨by decide, b0⟩
   ·exact ⟨by decide, b7⟩
   ·exact ⟨by decide, b6⟩)
  have b9 : bt L 9 := key 9 (by decide) (fun o ho e he => by
   simp only [ops3, Try.f45] at ho
   simp at ho
   subst ho
   simp at he
   subst he
   exact ⟨by decide, b8⟩)
  obtain ⟨_, b, _, hp, he⟩ := h.hp b8
  exact hQ a w b (he b9) hp
 ·intro L a w h
  cases hr : Region.ready .any ops3 L with
  | nil => rfl
  | cons i r =>
   exfalso
   have hi : i ∈ Region.ready .any ops3 L := by rw [hr]; exact List.mem_cons_self
   obtain ⟨hun, o, ho, _⟩ := mem_ready.1 hi
   have hi10 : i < L.size := by rw [h.hl, ← ops3_size]; exact (Array.getElem?_eq_some_iff.1 ho).1
   have hm : false ∈ L.toList := by
    rw [Array.getD_eq_getD_getElem?, Array.getElem?_eq_getElem hi10] at hun
    have hun : L[i] = false := hun
    rw [← hun]
    exact Array.mem_toList_iff.2 (Array.getElem_mem hi10)
   exact absurd (List.count_pos_iff.2 hm) (by rw [h.hk]; decide)
 ·intro k L a w i h hi
  obtain ⟨hun, o, ho, hall⟩ := mem_ready.1 hi
  have hi10 : i < 10 := by rw [← ops3_size]; exact (Array.getElem?_eq_some_iff.1 ho).1
  have hn8 : i < 8 → ¬ bt L 8 := fun h8 hb => by
   have := (h.hp hb).1 i h8
   unfold bt at this
   rw [hun] at this
   cases this
  unfold wpOpIn
  rw [ho]
  dsimp only
  have hcase : i = 0 ∨ i = 1 ∨ i = 2 ∨ i = 3 ∨ i = 4 ∨ i = 5 ∨ i = 6 ∨ i = 7 ∨ i = 8 ∨ i = 9 := by omega
  clear hi
  rcases hcase with rfl | rfl | rfl | rfl | rfl | rfl | rfl | rfl | rfl | rfl
  ·simp only [ops3, Try.f45] at ho
   simp at ho
   subst ho
   have hc := hS2 w (h.hs (hn8 (by decide)))
   have h2 := tmpE h.h2
   rw [if_pos (by rfl)]
   exact operIn l' rfl (wp_val (v := slotV l b3 t 0) (w1 := w) (by go_simp; try rfl) (h.put (i := 0) (by decide) hun (by omega) (by omega) (by omega) (by omega) (h.hs (hn8 (by decide)))))
  ·simp only [ops3, Try.f45] at ho
   simp at ho
   subst ho
   have h3 := tmpE h.h3
   rw [if_pos (by rfl)]
   exact operIn l' rfl (wp_val (v := slotV l b3 t 1) (w1 := w) (by go_simp; try rfl) (h.put (i := 1) (by decide) hun (by omega) (by omega) (by omega) (by omega) (h.hs (hn8 (by decide)))))
  ·simp only [ops3, Try.f45] at ho
   simp at ho
   subst ho
   have d1 := (bt_dep (hall ⟨1, .data⟩ (by simp) rfl))
   have h8 := tmpE (show a.eval (.tmp 8) = .pointer (some ⟨b3, 0, none⟩) from h.hv 1 (by decide) d1)
   have hc := rs_v6 (hS3 w (h.hs (hn8 (by decide))))
   rw [if_pos (by rfl)]
   exact operIn l' rfl (wp_val (v := slotV l b3 t 2) (w1 := w) (by go_simp; try rfl) (h.put (i := 2) (by decide) hun (by omega) (fun _ => d1) (by omega) (by omega) (h.hs (hn8 (by decide)))))
  ·simp only [ops3, Try.f45] at ho
   simp at ho
   subst ho
   have h3 := tmpE h.h3
   rw [if_pos (by rfl)]
   exact operIn l' rfl (wp_val (v := slotV l b3 t 3) (w1 := w) (by go_simp; try rfl) (h.put (i := 3) (by decide) hun (by omega) (by omega) (by omega) (by omega) (h.hs (hn8 (by decide)))))
  ·simp only [ops3, Try.f45] at ho
   simp at ho
   subst ho
   have d1 := (bt_dep (hall ⟨3, .data⟩ (by simp) rfl))
   have h10 : a.eval (.tmp 10) = .pointer (some ⟨b3, 1, none⟩) := h.hv 3 (by decide) d1
   have hr : w.rangeAt b3 1 t.lo.cells := by
    have := rlo_of_s (hS3 w (h.hs (hn8 (by decide))))
    rwa [Nat.zero_add] at this
   rw [if_pos (by rfl)]
   exact operIn l' rfl (wp_load_mid 28 (.tmp 10) rfl b3 1 h10 t.lo.cells _ hr Try.underlying28 rfl (by rw [t.lo.cells_len]; exact infoA) (h.put (i := 4) (by decide) hun (by omega) (by omega) (fun _ => d1) (by omega) (h.hs (hn8 (by decide)))))
  ·simp only [ops3, Try.f45] at ho
   simp at ho
   subst ho
   rw [if_pos (by rfl)]
   exact operIn l' rfl (wp_load_mid 30 (.tmp 3) rfl b3 0 h.h3 t.cells _ (hS3 w (h.hs (hn8 (by decide)))) Try.underlying30 rfl (by rw [t.cells_len]; exact infoS) (h.put (i := 5) (by decide) hun (by omega) (by omega) (by omega) (by omega) (h.hs (hn8 (by decide)))))
  ·simp only [ops3, Try.f45] at ho
   simp at ho
   subst ho
   have d1 := (bt_dep (hall ⟨5, .data⟩ (by simp) rfl))
   have h12 := tmpE (show a.eval (.tmp 12) = .agg t.arr from h.hv 5 (by decide) d1)
   have hs := (h.hs (hn8 (by decide)))
   rw [if_pos (by rfl)]
   refine operIn l' rfl (wp_enter (f := 47) (args := #[.agg t.arr]) (by go_simp; try rfl) ((long_walk t w).mono ?_))
   rintro e w' ⟨rfl, hB⟩
   exact ⟨_, rfl, h.put (i := 6) (by decide) hun (by omega) (by omega) (by omega) (fun _ => d1) (hSB w w' hs hB)⟩
  ·simp only [ops3, Try.f45] at ho
   simp at ho
   subst ho
   have d2 := (bt_dep (hall ⟨2, .data⟩ (by simp) rfl))
   have d4 := (bt_dep (hall ⟨4, .data⟩ (by simp) rfl))
   have d6 := (bt_dep (hall ⟨6, .data⟩ (by simp) rfl))
   have h9 : a.eval (.tmp 9) = .bool t.v6 := h.hv 2 (by decide) d2
   have h11 : a.eval (.tmp 11) = .agg t.lo.arr := h.hv 4 (by decide) d4
   have h13 : a.eval (.tmp 13) = .int .i64 (longP t) := h.hv 6 (by decide) d6
   rw [if_pos (by rfl)]
   exact operIn l' rfl (wp_val (v := slotV l b3 t 7) (w1 := w) (exec_buildP3 t.v6 t.lo (longP t) h9 h11 h13 w) (h.put (i := 7) (by decide) hun (fun _ => ⟨d2, d4, d6⟩) (by omega) (by omega) (by omega) (h.hs (hn8 (by decide)))))
  ·simp only [ops3, Try.f45] at ho
   simp at ho
   subst ho
   have d0 := (bt_dep (hall ⟨0, .data⟩ (by simp) rfl))
   have d7 := (bt_dep (hall ⟨7, .data⟩ (by simp) rfl))
   have h7 : a.eval (.tmp 7) = .func (.yield l) #[] #[] := h.hv 0 (by decide) d0
   have h14 : a.eval (.tmp 14) = .agg (toP t).arr := h.hv 7 (by decide) d7
   have hn : ¬ bt L 8 := fun hb => by unfold bt at hb; rw [hun] at hb; cases hb
   rw [if_pos (by rfl)]
   refine yieldR l' rfl (exec_yield h7 h14 w) (hY w (h.hs hn)) ?_
   rintro e w' ⟨b, rfl, hp⟩
   exact ⟨_, rfl, h.yield hun d0 d7 hp⟩
  ·simp only [ops3, Try.f45] at ho
   simp at ho
   subst ho
   have d8 := (bt_dep (hall ⟨8, .data⟩ (by simp) rfl))
   obtain ⟨hall8, b, h15, hp, _⟩ := h.hp d8
   have h15' := tmpE h15
   rw [if_pos (by rfl)]
   exact operIn l' rfl (wp_val (v := .bool (!b)) (w1 := w) (by go_simp; try rfl) (h.no hun d8 h15 hp))
 ·have hno : ∀ i, i < 10 → ¬ bt (Array.replicate 10 false) i := fun i hi hb => by
   unfold bt at hb
   rw [Array.getD_eq_getD_getElem?, Array.getElem?_replicate, if_pos hi] at hb
   cases hb
  exact ⟨by simp, by simp, ha, h2, h3, fun i hi hb => absurd hb (hno i (by omega)), fun _ => hS, fun hb => absurd hb (hno 8 (by decide)), fun hb => absurd hb (hno 7 (by decide)), fun hb => absurd hb (hno 2 (by decide)), fun hb => absurd hb (hno 4 (by decide)), fun hb => absurd hb (hno 6 (by decide)), fun hb => absurd hb (hno 9 (by decide))⟩

end Go.Proofs.Ytdioagebkfdkhaa.Ad
end

section
set_option linter.unusedVariables false
set_option linter.unusedSimpArgs false
namespace Go.Proofs.Ytdioagebkfdkhaa.Ad
open Go Go.Shelf Go.RowKit Go.Proofs.YtdioagebkfdkhaaW.PrintWords Go.Proofs.YtdioagebkfdkhaaW.PrintLast Go.Proofs.YtdioagebkfdkhaaW.PrintMore Go.Proofs.Ytdioagebkfdkhaa.PT

theorem parts_walk (s : Spn) (W : World) : Calls Try.prog 46 #[.agg s.arr] W fun e w' => e = .returned (.func (.func 59) #[] #[.pointer (some ⟨W.heap.size, 0, none⟩)]) ∧ w' = W.alloc (.cells s.arr 30) := by
 go_enter Try.func46, Try.ntmps46
 go_wp2
 go_ret
 exact ⟨rfl, rfl⟩
theorem prefixes_walk (s : Spn) (W : World) : Calls Try.prog 37 #[.agg s.arr] W fun e w' => e = .returned (.func (.func 45) #[] #[.pointer (some ⟨W.heap.size, 0, none⟩)]) ∧ w' = W.alloc (.cells s.arr 30) := by
 go_enter Try.func37, Try.ntmps37
 go_wp2
 go_ret
 exact ⟨rfl, rfl⟩
theorem calls_marks {P : Program} {f : FuncId} {fn : Func} {c : Code} {args : Array Value} {w : World} {R : Ending → World → Prop} (hf : P.funcs[f]? = some fn) (hb : fn.body = some c)
 (h : c.wp P (bodyPostM Fence.wide 0 P fn R) { tmps := args ++ Array.replicate (fn.ntmps - args.size) undef, defers := [] } w) : Calls P f args w R :=
 callsIn_wide.1 (callsIn_of_wp_marks (n := 0) hf hb trivial (wpIn_wide.2 h) rfl)
theorem fold1 (t : Array Value) (p : Tmp) (v : Value) : (#[p].zip #[v]).foldl (fun t (x : Tmp × Value) => match x with | (p, v) => t.setIfInBounds p v) t = t.setIfInBounds p v := by
 rw [← Array.foldl_toList, Array.toList_zip]
 rfl
theorem inits_map {α β : Type} (f : α → β) {pre xs : List α} (h : pre <+: xs) : pre.map f <+: xs.map f := by
 obtain ⟨r, rfl⟩ := h
 exact ⟨r.map f, by rw [List.map_append]⟩

set_option maxHeartbeats 4000000 in
set_option maxRecDepth 100000 in
theorem prefixes_gives (s : Spn) (k0 : Nat) (xs : List Spn) (hx : partsN k0 s.v6 s.hi (s.lo, rightS s) = some xs) (w : World) (Bp : Nat) (hs : Has w Bp s.arr 30) :
 GivesT 45 #[.pointer (some ⟨Bp, 0, none⟩)] (fun p : Pfx => #[.agg p.arr]) (xs.map toP) w := by
 intro l J Jx w0 hW hJ hJx hY h0
 show Calls Try.prog 45 #[.func (.yield l) #[] #[], .pointer (some ⟨Bp, 0, none⟩)] w0 _
 have hs0 : Has w0 Bp s.arr 30 := hs.below hW
 clear hW hs
 have HX := Lib.hid hx
 have HJ := Lib.hid (And.intro hJ hJx)
 have HY := Lib.hid hY
 have hyn := Has.new w0 #[.func (.yield l) #[] #[]] 41
 have hb1 := (show Below w0.heap.size w0 (w0.alloc (.cells #[.func (.yield l) #[] #[]] 41)) from (Below.refl _ _).alloc (Nat.le_refl _) _)
 have HB1 : Hid (Has (w0.alloc (.cells #[.func (.yield l) #[] #[]] 41)) w0.heap.size #[.func (.yield l) #[] #[]] 41 ∧ Has (w0.alloc (.cells #[.func (.yield l) #[] #[]] 41)) Bp s.arr 30 ∧ Below w0.heap.size w0 (w0.alloc (.cells #[.func (.yield l) #[] #[]] 41)) ∧ J [] (w0.alloc (.cells #[.func (.yield l) #[] #[]] 41))) :=
  Lib.hid ⟨hyn, hs0.alloc _, hb1, hJ.below h0 hb1⟩
 clear hx hJ hJx hY h0 hyn hb1 hs0
 refine calls_marks Try.func45 rfl ?_
 simp only [Try.ntmps45, List.size_toArray, List.length_cons, List.length_nil, Nat.reduceAdd, Nat.reduceSub, Array.replicate_succ, Array.replicate_zero, List.push_toArray, List.append_toArray, List.nil_append, List.cons_append]
 go_upto_region 1 with (fail)
 generalize hBy : w0.heap.size = By at HB1 ⊢
 generalize w0.alloc (.cells #[.func (.yield l) #[] #[]] 41) = w1 at HB1 ⊢
 go_wp2_with (first
  | ((with_reducible refine at_dst 4 ?_); refine loadS s Bp 0 rfl HB1.out.2.1.rs ?_))
 refine (parts_walk s _).mono ?_
 rintro e w2 ⟨rfl, rfl⟩
 have hs2 := Has.new w1 s.arr 30
 have hb2 := (show Below w1.heap.size w1 (w1.alloc (.cells s.arr 30)) from (Below.refl _ _).alloc (Nat.le_refl _) _)
 have HB2 : Hid (Has (w1.alloc (.cells s.arr 30)) w1.heap.size s.arr 30 ∧ Has (w1.alloc (.cells s.arr 30)) By #[.func (.yield l) #[] #[]] 41 ∧ By ≤ (w1.alloc (.cells s.arr 30)).heap.size ∧ J [] (w1.alloc (.cells s.arr 30))) :=
  Lib.hid ⟨hs2, HB1.out.1.alloc _, Nat.le_trans (Nat.le_of_lt HB1.out.1.lt) hb2.size, HJ.out.1.below HB1.out.2.2.2 hb2⟩
 clear hs2 hb2 HB1
 generalize w1.heap.size = Bs at HB2 ⊢
 generalize w1.alloc (.cells s.arr 30) = w2 at HB2 ⊢
 go_wp2
 have hBs := HB2.out.2.1.lt
 refine range_wp (gf := 59) (lb := #[.pointer (some ⟨Bs, 0, none⟩)]) (encs := fun t : Spn => #[.agg t.arr]) (xs := xs) (w0 := w2) rfl (enters_of Try.func59 (by kernel_rfl) rfl)
  (parts_gives s k0 xs HX.out w2 Bs HB2.out.1) (Below.refl _ _) (fun _ => rfl)
  (fun pre W => J (pre.map toP) W ∧ Has W By #[.func (.yield l) #[] #[]] 41 ∧ By ≤ W.heap.size) (fun c pre W => c = .ret ∧ Jx (pre.map toP) W)
  (fun pre X Y row hs hg hr => ⟨HJ.out.1 _ X Y row hs.1 hg (fun r e => ⟨by have := (hr r e).1; omega, (hr r e).2⟩), (hg.block By hs.2.1.lt (fun e => by have := (hr _ e.symm).1; omega)).trans hs.2.1, Nat.le_trans hs.2.2 hg.size⟩)
  (fun c pre X Y row hs hg hr => ⟨hs.1, HJ.out.2 _ X Y row hs.2 hg (fun r e => ⟨by have := (hr r e).1; omega, (hr r e).2⟩)⟩)
  ⟨HB2.out.2.2.2, HB2.out.2.1, HB2.out.2.2.1⟩
  (fun x a' W => ∃ b3, a'.tmps.size = 17 ∧ a'.eval (.tmp 2) = .pointer (some ⟨By, 0, none⟩) ∧ a'.eval (.tmp 3) = .pointer (some ⟨b3, 0, none⟩) ∧ Has W b3 x.arr 30)
  (fun x a' _ X Y row ⟨b3, e1, e2, e3, h⟩ hg hr => ⟨b3, e1, e2, e3, (hg.block b3 h.lt (fun e => by
   obtain ⟨_, o, ho, hc⟩ := hr _ e.symm
   rw [show X.heap[b3]? = _ from h] at ho
   cases ho
   cases hc)).trans h⟩) ?assign ?body ?done ?stop
 case assign =>
  intro l' pre x W K hi hW hK
  dsimp only
  rw [fold1]
  simp only [List.setIfInBounds_toArray, List.set_cons_succ, List.set_cons_zero]
  refine regionIn l' (fun ⟨_, _, h⟩ => h) rfl ?_
  refine alloc_storeS x rfl rfl ?_
  refine wpList_nil ?_
  have hal := (show Below W.heap.size W (W.alloc (.cells x.arr 30)) from (Below.refl _ _).alloc (Nat.le_refl _) _)
  exact hK _ _ (KeepI.of_below hal) ⟨HJ.out.1.below hi.1 hal, hi.2.1.alloc _, Nat.le_trans hi.2.2 hal.size⟩ ⟨W.heap.size, rfl, rfl, rfl, Has.new _ _ _⟩
 case body =>
  rintro l' pre x a' W ⟨hJ, hy, hsz⟩ ⟨b3, e1, e2, e3, h3⟩ hpre hW
  refine wpIn_block ?_
  refine wpIn_seq_k fun K hK => ?_
  have hpre' : pre.map toP ++ [toP x] <+: xs.map toP := by
   have := inits_map toP hpre
   rwa [List.map_append] at this
  refine wpIn_region_any (ops := ops3) (by kernel_rfl) ?_
  refine round_draw l l' By b3 x (fun W' => J (pre.map toP) W' ∧ Has W' By #[.func (.yield l) #[] #[]] 41 ∧ Has W' b3 x.arr 30 ∧ Below W.heap.size W W')
   (fun b W' => KeepI w2.heap.size W W' ∧ (if b = true then J (pre.map toP ++ [toP x]) W' ∧ Has W' By #[.func (.yield l) #[] #[]] 41 ∧ By ≤ W'.heap.size else Jx (pre.map toP ++ [toP x]) W'))
   (fun W' h => by have := h.2.1.c 0; simpa using this) (fun W' h => h.2.2.1.rs) (fun W' W'' h hB => ⟨HJ.out.1.below h.1 hB, h.2.1.below hB, h.2.2.1.below hB, h.2.2.2.trans (hB.mono h.2.2.2.size)⟩) ?_ ?_ a' _ e1 e2 e3
   ⟨HJ.out.1.below hJ ((Below.refl _ _).drew), hy.drew, h3.drew, (Below.refl _ _).drew⟩
  ·intro W' h
   have := HY.out (pre.map toP) (toP x) W' hpre' h.1 (by have := h.2.2.2.size; omega)
   refine YieldAt.mono this ?_
   rintro e W'' ⟨hk, ⟨rfl, hj⟩ | ⟨rfl, hj⟩⟩
   ·refine ⟨true, rfl, (KeepI.of_below h.2.2.2).trans (hk.mono (by omega)), ?_⟩
    rw [if_pos rfl]
    exact ⟨hj, hk.has h.2.1 (by decide) (by decide), by have := h.2.2.2.size; have := hk.1; omega⟩
   ·refine ⟨false, rfl, (KeepI.of_below h.2.2.2).trans (hk.mono (by omega)), ?_⟩
    rw [if_neg (by simp)]
    exact hj
  ·intro a3 W3 b h16 hP
   refine hK _ _ (wpIn_cond h16 ?_)
   cases b
   ·rw [if_neg (by simp)] at hP
    exact wpIn_ret ⟨hP.1, rfl, by rw [List.map_append]; exact hP.2⟩
   ·rw [if_pos rfl] at hP
    exact wpIn_skip ⟨hP.1, by rw [List.map_append]; exact hP.2.1, hP.2.2⟩
 case done =>
  intro D W hD hI hK
  refine ⟨by simp, .inl ⟨D, _, rfl, run_takeDeferred hK, ?_⟩⟩
  exact ⟨_, results_none rfl _ _ _, ⟨_, rfl⟩, .inl (HJ.out.1.putObj _ hI.1 (by omega) hK rfl)⟩
 case stop =>
  rintro D c pre W hD hpre ⟨rfl, hJx⟩ hK
  refine wp_ret ?_
  refine ⟨by simp, .inl ⟨D, _, rfl, run_takeDeferred hK, ?_⟩⟩
  exact ⟨_, results_none rfl _ _ _, ⟨_, rfl⟩, .inr ⟨_, inits_map toP hpre, HJ.out.2.putObj _ hJx (by omega) hK rfl⟩⟩

end Go.Proofs.Ytdioagebkfdkhaa.Ad
end

section
set_option linter.unusedVariables false
set_option linter.unusedSimpArgs false
namespace Go.Proofs.Ytdioagebkfdkhaa.Ad
open Go Go.Shelf Go.RowKit Go.Proofs.YtdioagebkfdkhaaW.PrintWords Go.Proofs.YtdioagebkfdkhaaW.PrintLast Go.Proofs.YtdioagebkfdkhaaW.PrintMore Go.Proofs.Ytdioagebkfdkhaa.PT

/-- The kind of prefixes in a row. -/
def kP : Kd Pfx where
 sz := 18
 E := []
 K := fun _ x cs => cs = x.cells
 M := fun _ _ _ x cs => cs = x.cells
 K_len := fun h => by rw [h]; exact Pfx.cells_len _
 K_one := fun h u hu => by rw [h] at hu; exact Pfx.one _ u hu
 K_below := fun _ h => h
 K_of_M := fun h => h
 M_mono := fun _ h => h
 M_bound := fun h => h
 M_move := fun _ h => h
 M_lower := fun _ h => h
theorem infoPz : (Try.prog.info? 37).map (fun i => (i.zero, i.size, i.bytes)) = some (some (.agg zP.arr), 18, 32) := by kernel_rfl
theorem CP_one {W : World} {g t : Nat} {v : Pfx} (h : Has W g v.arr t) : kP.C W (some ⟨g, 0, none⟩) 1 [v] :=
 ⟨rfl, by decide, fun _ => ⟨_, rfl, fun j p hj => by
  have hj0 : j = 0 := by
   have := (List.getElem?_eq_some_iff.1 hj).1
   simp at this
   exact this
  subst hj0
  have hp : v = p := by simpa using hj
  subst hp
  refine ⟨v.cells, v.cells_len, rfl, fun i u hu => ?_⟩
  rw [Addr.add_mid]
  have := h.rp i u hu
  simpa using this⟩⟩
theorem CP_form {w : World} {A : Option Addr} {n : Nat} {xs : List Pfx} (h : kP.C w A n xs) (hn : 0 < n) : ∃ b o, A = some ⟨b, o, none⟩ ∧ ∀ i (hi : i < xs.length), w.rangeAt b (o + i * 18) xs[i].cells := by
 obtain ⟨ad, e, hc⟩ := h.2.2 hn
 have hl := h.1
 obtain ⟨c0, hcl, hK, hcell⟩ := hc 0 _ (List.getElem?_eq_getElem (show 0 < xs.length by omega))
 have hK' : c0 = xs[0].cells := hK
 have hs := spot_none (hcell 0 _ (show c0[0]? = some (.bool xs[0].v6) by rw [hK']; rfl))
 have hs' : ad.spot = none := by
  have e0 : ad.add (0 * kP.sz + 0) = ad := by unfold Addr.add; rw [if_pos (by simp)]
  rw [e0] at hs
  exact hs
 obtain ⟨b, o, sp⟩ := ad
 have : sp = none := hs'
 subst this
 refine ⟨b, o, e, fun i hi j u hu => ?_⟩
 obtain ⟨c, _, hKi, hci⟩ := hc i _ (List.getElem?_eq_getElem hi)
 have hKi' : c = xs[i].cells := hKi
 have := hci j u (by rw [hKi']; exact hu)
 rw [Addr.add_mid] at this
 rw [show o + i * 18 + j = o + (i * 18 + j) by omega]
 exact this
theorem RP_only {e : Nat} {w w1 : World} {base : Nat} {v : Value} {xs : List Pfx} (h : kP.R e w base (fun _ => True) v xs) (hm : ∀ k, v.ownBlock = some k → w1.heap[k]? = w.heap[k]?) : kP.R e w1 base (fun _ => True) v xs := by
 have h1 : kP.R e w base (fun k => v.ownBlock = some k) v xs := by
  obtain ⟨_, inner, ho, hr⟩ := h
  exact ⟨fun k hk => hk, inner, ho, hr⟩
 exact Kd.R_mono (Kd.R_move h1 hm) (fun _ _ => trivial)
theorem RP_typed {e : Nat} {w : World} {base : Nat} {v : Value} {xs : List Pfx} (h : kP.R e w base (fun _ => True) v xs) {k : Nat} (hk : v.ownBlock = some k) : ∃ cells, w.heap[k]? = some (.cells cells e (0, 0)) := by
 obtain ⟨_, inner, ⟨_, h1⟩, hr⟩ := h
 rcases h1 with ⟨e1, _⟩ | ⟨g, cap, cur, e1, _, hc, _⟩
 ·subst e1; cases hk
 ·subst e1
  simp only [Value.ownBlock, Option.some.injEq] at hk
  subst hk
  exact ⟨_, hc⟩
theorem appRowsP {ops : Array Oper} {o : Oper} {a : Act} {Q : Exit → Act → World → Prop} {rest : List Oper} {w0 W : World} (base : Nat) (hg : o.guard = none) (s x : Operand)
 (ho : o.op = .call { callee := .builtin .append, args := #[s, x], argTypes := #[42, 42] })
 (v : Value) (xs ys : List Pfx) (A : Option Addr) (m c : Nat) (hs : a.eval s = v) (hx : a.eval x = .slice A m c)
 (HO : kP.R 37 W base (fun _ => True) v xs) (HR : kP.C W A m ys) (HB : Below base w0 W) (hbase : base ≤ W.heap.size) (hl : (xs.length + m) * 32 ≤ 140737488355328)
 (h : ∀ v1 w1, kP.R 37 w1 base (fun _ => True) v1 (xs ++ ys) → Below base w0 w1 → W.grownBy w1 v.ownBlock → (v1.ownBlock = v.ownBlock ∨ ∃ b, v1.ownBlock = some b ∧ W.heap.size ≤ b) → wpList Try.prog ops Q rest (a.put o.dst v1) w1) :
 wpList Try.prog ops Q (o :: rest) a W :=
 Kd.R_append_rows kP base hg s x _ _ (.agg zP.arr) 32 ho Try.underlying42 infoPz rfl (by decide) (by decide) v xs ys A m c (fun _ => True) (fun _ => False) hs hx HO HR (fun x cs h => h) (fun _ h => h.elim) (fun _ _ => trivial) HB hbase hl h
set_option maxRecDepth 100000 in
theorem buildPs (v : Pfx) (W : World) : (Instr.buildSlice 42 1 #[(0, .agg v.arr)]).run Try.prog W = .ok (.slice (some ⟨W.heap.size, 0, none⟩) 1 1) (W.alloc (.cells v.arr 37)) := by
 rw [Pfx.lit]
 kernel_rfl
theorem exec_buildPs {ρ : Operand → Value} {n m : Tmp} {ty : TypeId} {pos : String} {af : Array Edge} {g : Option (Nat × Bool)} (v : Pfx) (h : ρ (.tmp m) = .agg v.arr) (W : World) :
 (execOp ρ ⟨some n, .buildSlice 42 1 #[(0, .tmp m)], ty, pos, af, g⟩).run Try.prog W = .ok (.value (.slice (some ⟨W.heap.size, 0, none⟩) 1 1)) (W.alloc (.cells v.arr 37)) := by
 have := buildPs v W
 unfold execOp
 simp only [List.map_toArray, List.map_cons, List.map_nil, h, Sem.run_map, this]
 simp [Result.andThen, this]
theorem KeepI.grown {B : Nat} {W W' : World} {row : Option Nat} (hg : W.grownBy W' row) (hr : ∀ r, row = some r → ∃ o : Obj, W.heap[r]? = some o ∧ boO o = true) : KeepI B W W' :=
 ⟨hg.size, fun k o hk ho _ => (hg.block k (Array.getElem?_eq_some_iff.1 hk).1 (fun e => by
  obtain ⟨o', h1, h2⟩ := hr k e.symm
  rw [hk] at h1
  cases h1
  rw [ho] at h2
  cases h2)).trans hk⟩

theorem row_ne {e : Nat} {w : World} {base : Nat} {v : Value} {xs : List Pfx} (h : kP.R e w base (fun _ => True) v xs) {g : Nat} {cs : Array Value} {t : TypeId} (hg : Has w g cs t) (ht : t ≠ e := by decide) : some g ≠ v.ownBlock := fun e' => by
 obtain ⟨cs', hc⟩ := RP_typed h e'.symm
 rw [show w.heap[g]? = _ from hg] at hc
 injection hc with hc
 injection hc with _ hc
 exact ht hc
theorem row_bo {w : World} {base : Nat} {v : Value} {xs : List Pfx} (h : kP.R 37 w base (fun _ => True) v xs) : ∀ r, v.ownBlock = some r → ∃ o : Obj, w.heap[r]? = some o ∧ boO o = true := fun r e => by
 obtain ⟨cs, hc⟩ := RP_typed h e
 exact ⟨_, hc, rfl⟩
theorem not_nilF (f : FuncId) (lb : Array Value) (w : World) : (binOp .eql 56 (.func (.func f) #[] lb) .nilFunc).run Try.prog w = .ok (.bool false) w := by kernel_rfl
/-- What holds in told: the list so far, the most. -/
def TdS (w0 : World) (m : Nat) (B3 B5 : Nat) (ys : List Pfx) (W : World) : Prop :=
 ∃ ov, Has W B5 #[ov] 42 ∧ kP.R 37 W w0.heap.size (fun _ => True) ov (ys.take m) ∧ Has W B3 #[.int .i64 m] 3 ∧ Below w0.heap.size w0 W
theorem TdS.abide {w0 : World} {m B3 B5 B : Nat} (hB : w0.heap.size ≤ B) (h3 : B3 < B) (h5 : B5 < B) : AbT frO B (fun ys => TdS w0 m B3 B5 ys) := by
 rintro ys X Y row ⟨ov, h1, h2, h4, h6⟩ hg hr
 have far : ∀ {k : Nat} {cs : Array Value} {t : TypeId}, Has X k cs t → k < B → Has Y k cs t := fun hk hlt => (hg.block _ hk.lt (fun e => by have := (hr _ e.symm).1; omega)).trans hk
 refine ⟨ov, far h1 h5, RP_only h2 (fun k hk => ?_), far h4 h3, h6.grown hg (Nat.le_trans h6.size (Nat.le_refl _)) (fun r e => by have := (hr r e).1; omega)⟩
 obtain ⟨cs, hc⟩ := RP_typed h2 hk
 refine hg.block k (Array.getElem?_eq_some_iff.1 hc).1 (fun e => ?_)
 obtain ⟨_, o, ho, hf⟩ := hr _ e.symm
 rw [hc] at ho
 cases ho
 simp [frO, itO, Obj.isCells] at hf

set_option maxHeartbeats 4000000 in
set_option maxRecDepth 100000 in
theorem told_walk (s : Spn) (k0 : Nat) (xs : List Spn) (hx : partsN k0 s.v6 s.hi (s.lo, rightS s) = some xs) (hl : xs.length ≤ 1000000) (m : Nat) (w : World) :
 Calls Try.prog 20 #[.agg s.arr, .int .i64 m] w fun e w' => ∃ v, e = .returned v ∧ kP.R 37 w' w.heap.size (fun _ => True) v ((xs.map toP).take m) ∧ Below w.heap.size w w' := by
 have HX := Lib.hid hx
 clear hx
 have H0 : Hid (Has (((w.alloc (.cells s.arr 30)).alloc (.cells #[.int .i64 m] 3)).alloc (.cells #[.slice none 0 0] 42)) w.heap.size s.arr 30 ∧ Has (((w.alloc (.cells s.arr 30)).alloc (.cells #[.int .i64 m] 3)).alloc (.cells #[.slice none 0 0] 42)) (w.heap.size + 1) #[.int .i64 m] 3 ∧ Has (((w.alloc (.cells s.arr 30)).alloc (.cells #[.int .i64 m] 3)).alloc (.cells #[.slice none 0 0] 42)) (w.heap.size + 1 + 1) #[.slice none 0 0] 42 ∧ Below w.heap.size w (((w.alloc (.cells s.arr 30)).alloc (.cells #[.int .i64 m] 3)).alloc (.cells #[.slice none 0 0] 42)) ∧ w.heap.size + 3 ≤ (((w.alloc (.cells s.arr 30)).alloc (.cells #[.int .i64 m] 3)).alloc (.cells #[.slice none 0 0] 42)).heap.size) := by
  refine Lib.hid ⟨((Has.new w _ _).alloc _).alloc _, ?_, ?_, (((Below.refl _ _).alloc (Nat.le_refl _) _).alloc (by simp) _).alloc (by simp; omega) _, by simp⟩
  ·have := (Has.new (w.alloc (.cells s.arr 30)) #[.int .i64 m] 3).alloc (.cells #[.slice none 0 0] 42)
   rwa [World.size_alloc] at this
  ·have := Has.new ((w.alloc (.cells s.arr 30)).alloc (.cells #[.int .i64 m] 3)) #[.slice none 0 0] 42
   rwa [World.size_alloc, World.size_alloc] at this
 refine calls_marks Try.func20 rfl ?_
 simp only [Try.ntmps20, List.size_toArray, List.length_cons, List.length_nil, Nat.reduceAdd, Nat.reduceSub, Array.replicate_succ, Array.replicate_zero, List.push_toArray, List.append_toArray, List.nil_append, List.cons_append]
 go_upto_region 2 with (fail)
 have hbs : w.heap.size < w.heap.size + 1 ∧ w.heap.size + 1 < w.heap.size + 1 + 1 := by omega
 have hb5 : w.heap.size + 1 + 1 < (((w.alloc (.cells s.arr 30)).alloc (.cells #[.int .i64 m] 3)).alloc (.cells #[.slice none 0 0] 42)).heap.size := by have := H0.out.2.2.2.2; omega
 generalize hB5 : w.heap.size + 1 + 1 = B5 at H0 hbs hb5 ⊢
 generalize hB3 : w.heap.size + 1 = B3 at H0 hbs hb5 ⊢
 generalize (((w.alloc (.cells s.arr 30)).alloc (.cells #[.int .i64 m] 3)).alloc (.cells #[.slice none 0 0] 42)) = w1 at H0 hb5 ⊢
 have HBB := Lib.hid (And.intro hbs (And.intro hb5 hB3))
 clear hbs hb5 hB5 hB3
 go_wp2_with (first
  | ((with_reducible refine at_dst 8 ?_); refine loadS s w.heap.size 0 rfl H0.out.1.rs ?_))
 refine (prefixes_walk s _).mono ?_
 rintro e w2 ⟨rfl, rfl⟩
 have hs2 := Has.new w1 s.arr 30
 have hb2 := (show Below w1.heap.size w1 (w1.alloc (.cells s.arr 30)) from (Below.refl _ _).alloc (Nat.le_refl _) _)
 have H2 : Hid (Has (w1.alloc (.cells s.arr 30)) w1.heap.size s.arr 30 ∧ TdS w m B3 B5 [] (w1.alloc (.cells s.arr 30)) ∧ w1.heap.size ≤ (w1.alloc (.cells s.arr 30)).heap.size) :=
  Lib.hid ⟨hs2, ⟨_, H0.out.2.2.1.alloc _, by rw [List.take_nil]; exact Kd.R_nil _ _ _ _ _, H0.out.2.1.alloc _, H0.out.2.2.2.1.trans (hb2.mono H0.out.2.2.2.1.size)⟩, hb2.size⟩
 clear hs2 hb2 H0
 generalize hBp : w1.heap.size = Bp at H2 HBB ⊢
 generalize w1.alloc (.cells s.arr 30) = w2 at H2 ⊢
 clear hBp
 have hnf := fun w => not_nilF 45 #[.pointer (some ⟨Bp, 0, none⟩)] w
 go_wp2
 have hb := HBB.out
 have hsz := H2.out.2.2
 obtain ⟨_, _, _, _, hbw⟩ := H2.out.2.1
 have hws := hbw.size
 refine range_wp (gf := 45) (lb := #[.pointer (some ⟨Bp, 0, none⟩)]) (encs := fun p : Pfx => #[.agg p.arr]) (xs := xs.map toP) (w0 := w2) rfl (enters_of Try.func45 (by kernel_rfl) rfl)
  (prefixes_gives s k0 xs HX.out w2 Bp H2.out.1) (Below.refl _ _) (fun _ => rfl)
  (fun pre W => pre.length ≤ m ∧ TdS w m B3 B5 pre W) (fun c pre W => c = .exit 0 ∧ m ≤ pre.length ∧ TdS w m B3 B5 pre W)
  (fun pre X Y row hs hg hr => ⟨hs.1, TdS.abide hws (by omega) (by omega) pre X Y row hs.2 hg hr⟩)
  (fun c pre X Y row hs hg hr => ⟨hs.1, hs.2.1, TdS.abide hws (by omega) (by omega) pre X Y row hs.2.2 hg hr⟩)
  ⟨Nat.zero_le _, H2.out.2.1⟩
  (fun x a' W => ∃ b7, a' = { tmps := #[.agg s.arr, .int .i64 m, .pointer (some ⟨w.heap.size, 0, none⟩), .pointer (some ⟨B3, 0, none⟩), .slice none 0 0, .pointer (some ⟨B5, 0, none⟩), .func (.func 45) #[] #[.pointer (some ⟨Bp, 0, none⟩)], .pointer (some ⟨b7, 0, none⟩), .agg s.arr, .func (.func 45) #[] #[.pointer (some ⟨Bp, 0, none⟩)], .func (.func 45) #[] #[.pointer (some ⟨Bp, 0, none⟩)], .bool false, .func (.func 45) #[] #[.pointer (some ⟨Bp, 0, none⟩)], .agg x.arr, undef, undef, undef, undef, undef, undef, undef, undef, undef], defers := [] } ∧ Has W b7 x.arr 37)
  (fun x a' _ X Y row ⟨b7, e1, h⟩ hg hr => ⟨b7, e1, (hg.block b7 h.lt (fun e => by
   obtain ⟨_, o, ho, hc⟩ := hr _ e.symm
   rw [show X.heap[b7]? = _ from h] at ho
   cases ho
   cases hc)).trans h⟩) ?assign ?body ?done ?stop
 case assign =>
  intro l' pre x W K hi hW hK
  dsimp only
  rw [fold1]
  simp only [List.setIfInBounds_toArray, List.set_cons_succ, List.set_cons_zero]
  refine regionIn l' (fun ⟨_, _, h⟩ => h) rfl ?_
  refine alloc_storeP x rfl rfl ?_
  refine wpList_nil ?_
  have hal := (show Below W.heap.size W (W.alloc (.cells x.arr 37)) from (Below.refl _ _).alloc (Nat.le_refl _) _)
  refine hK _ _ (KeepI.of_below hal) ⟨hi.1, AbT.below (TdS.abide hws (by omega) (by omega)) hi.2 hal⟩ ⟨W.heap.size, rfl, Has.new _ _ _⟩
 case body =>
  rintro l' pre x a' W ⟨hlen, hT⟩ ⟨b7, rfl, h7⟩ hpre hW
  obtain ⟨ov, hov, hR, hm, hB⟩ := hT
  obtain ⟨Ao, co, e⟩ := Kd.R_slice hR
  subst e
  have htk : pre.take m = pre := List.take_of_length_le hlen
  rw [htk] at hov hR
  have hlx : pre.length + 1 ≤ xs.length := by
   have := hpre.length_le
   rw [List.length_append, List.length_map] at this
   exact this
  refine wpIn_block ?_
  refine wpIn_seq_k fun K1 hK1 => ?_
  refine wpIn_seq_k fun K2 hK2 => ?_
  refine regionIn l' (fun ⟨_, _, h⟩ => h) rfl ?_
  have c5 : W.cell? ⟨B5, 0, none⟩ = some (.slice Ao pre.length co) := by have := hov.c 0; simpa using this
  have c3 : W.cell? ⟨B3, 0, none⟩ = some (.int .i64 m) := by have := hm.c 0; simpa using this
  have HT := Lib.hid (And.intro hov (And.intro hR (And.intro hm (And.intro hB h7))))
  have hHK1 := Lib.hid hK1
  have hHK2 := Lib.hid hK2
  clear hov hR hm hB h7 hK1 hK2 hb hsz hbw
  by_cases hc : pre.length = m
  ·have hc1 : ((pre.length : Int) == (m : Int)) = true := by simp [hc]
   have hc2 : decide ((pre.length : Int) = (m : Int)) = true := decide_eq_true (by omega)
   have hc3 := eq_true (show (pre.length : Int) = (m : Int) by omega)
   have HC := Lib.hid hc
   clear hc
   go_wp2
   show K2 _ _
   refine hHK2.out _ _ (wpIn_cond_true rfl (wpIn_exit ?_))
   have htk2 : (pre ++ [x]).take m = pre := by rw [← HC.out, List.take_left]
   exact ⟨KeepI.refl _ _, rfl, by rw [← HC.out]; simp, ⟨_, HT.out.1, by rw [htk2]; exact HT.out.2.1, HT.out.2.2.1, HT.out.2.2.2.1⟩⟩
  ·have hc1 : ((pre.length : Int) == (m : Int)) = false := by rw [beq_eq_false_iff_ne]; omega
   have hc2 : decide ((pre.length : Int) = (m : Int)) = false := decide_eq_false (by omega)
   have hc3 := eq_false (show ¬ (pre.length : Int) = (m : Int) by omega)
   have hlt : pre.length < m := by omega
   have HC := Lib.hid hc
   clear hc
   go_wp2
   show K2 _ _
   refine hHK2.out _ _ (wpIn_cond_false rfl (wpIn_skip ?_))
   show K1 _ _
   refine hHK1.out _ _ ?_
   refine regionIn l' (fun ⟨_, _, h⟩ => h) rfl ?_
   clear hHK1 hHK2 c3 hc1 hc2 hc3
   have hal := (show Below W.heap.size W (W.alloc (.cells x.arr 37)) from (Below.refl _ _).alloc (Nat.le_refl _) _)
   go_wp2_with (first
    | ((with_reducible refine at_dst 19 ?_); refine loadP x b7 0 rfl HT.out.2.2.2.2.rp ?_)
    | ((with_reducible refine at_dst 20 ?_); refine valN rfl (exec_buildPs x rfl _) ?_)
    | ((with_reducible refine at_dst 21 ?_); refine appRowsP (w0 := w) w.heap.size rfl (.tmp 18) (.tmp 20) rfl (.slice Ao pre.length co) pre [x] (some ⟨W.heap.size, 0, none⟩) 1 1 rfl rfl (Kd.R_below HT.out.2.1 hal) (CP_one (Has.new W x.arr _)) (HT.out.2.2.2.1.alloc HT.out.2.2.2.1.size _) (Nat.le_trans HT.out.2.2.2.1.size hal.size) (by omega) ?_; intro v8 w8 hR8 hB8 hg8 hat8; obtain ⟨A8, c8, e8⟩ := Kd.R_slice hR8; subst e8; have hov8 : Has w8 B5 #[.slice Ao pre.length co] 42 := (hg8.block B5 (Nat.lt_of_lt_of_le HT.out.1.lt hal.size) (row_ne HT.out.2.1 HT.out.1)).trans (HT.out.1.alloc _); have hm8 : Has w8 B3 #[.int .i64 m] 3 := (hg8.block B3 (Nat.lt_of_lt_of_le HT.out.2.2.1.lt hal.size) (row_ne HT.out.2.1 HT.out.2.2.1)).trans (HT.out.2.2.1.alloc _); have hk8 : KeepI w2.heap.size W w8 := KeepI.trans (KeepI.of_below hal) (KeepI.grown hg8 (row_bo (Kd.R_below HT.out.2.1 hal))); have HE8 := Lib.hid (And.intro hR8 (And.intro hB8 (And.intro hov8 (And.intro hm8 hk8)))); have c5 : w8.cell? ⟨B5, 0, none⟩ = some (.slice Ao pre.length co) := (by have := hov8.c 0; simpa using this); have f5 := hov8.f 0; clear hR8 hB8 hg8 hat8 hov8 hm8 hk8))
   have hset : Has (w8.setCell ⟨B5, 0, none⟩ (.slice A8 (pre.length + 1) c8)) B5 #[.slice A8 (pre.length + 1) c8] 42 := heap_setCell_same _ _ _ _ _ _ HE8.out.2.2.1
   have h9 := HE8.out.1
   have hgs := grownBy_setCell' w8 B5 (.slice A8 (pre.length + 1) c8)
   refine ⟨HE8.out.2.2.2.2.trans (KeepI.grown hgs (fun r e => by cases e; exact ⟨_, HE8.out.2.2.1, rfl⟩)), by simp; omega, ⟨_, hset, ?_, HE8.out.2.2.2.1.far (fun e => by have e : B3 = B5 := e; have := HBB.out.1.2; omega) _, Below.setCell HE8.out.2.1 (p := ⟨B5, 0, none⟩) (by have := HBB.out.1; show w.heap.size ≤ B5; omega) _⟩⟩
   rw [List.take_of_length_le (by simp; omega)]
   have h10 := RP_only h9 (w1 := w8.setCell ⟨B5, 0, none⟩ (.slice A8 (pre.length + 1) c8)) (fun k hk => heap_setCell_other _ _ _ _ (fun e => row_ne h9 HE8.out.2.2.1 (by decide) (by rw [hk, show k = B5 from e])))
   rwa [List.length_append, List.length_singleton] at h10
 case done =>
  rintro D W hD ⟨hlen, ov, hov, hR, hm, hB⟩ hK
  have c5 : W.cell? ⟨B5, 0, none⟩ = some ov := by have := hov.c 0; simpa using this
  have HR := Lib.hid (And.intro hR (And.intro hB hK))
  clear hov hR hm hB hK hb hsz hbw
  go_wp2
  refine ⟨by simp, .inl ⟨D, _, rfl, run_takeDeferred HR.out.2.2, ?_⟩⟩
  exact ⟨_, results_tmp rfl _ _ _, ov, rfl, RP_only HR.out.1 (fun k hk => by
   obtain ⟨cs, hc⟩ := RP_typed HR.out.1 hk
   refine World.putObj_heap_other (fun e => ?_)
   subst e
   rw [HR.out.2.2] at hc
   cases hc), HR.out.2.1.grown (grownBy_putObj' W D _) HR.out.2.1.size (fun r e => by cases e; omega)⟩
 case stop =>
  rintro D c pre W hD hpre ⟨rfl, hmp, ov, hov, hR, hm, hB⟩ hK
  have htk : pre.take m = (xs.map toP).take m := by
   obtain ⟨r, hr⟩ := hpre
   rw [← hr, List.take_append_of_le_length hmp]
  rw [htk] at hR
  have c5 : W.cell? ⟨B5, 0, none⟩ = some ov := by have := hov.c 0; simpa using this
  have HR := Lib.hid (And.intro hR (And.intro hB hK))
  clear hov hR hm hB hK hb hsz hbw htk
  refine wp_exit ?_
  go_wp2
  refine ⟨by simp, .inl ⟨D, _, rfl, run_takeDeferred HR.out.2.2, ?_⟩⟩
  exact ⟨_, results_tmp rfl _ _ _, ov, rfl, RP_only HR.out.1 (fun k hk => by
   obtain ⟨cs, hc⟩ := RP_typed HR.out.1 hk
   refine World.putObj_heap_other (fun e => ?_)
   subst e
   rw [HR.out.2.2] at hc
   cases hc), HR.out.2.1.grown (grownBy_putObj' W D _) HR.out.2.1.size (fun r e => by cases e; omega)⟩

end Go.Proofs.Ytdioagebkfdkhaa.Ad
end

namespace Go.Proofs
open Go.Shelf
def Try.sortR_ren : Go.Shelf.Ren := ⟨fun | 6 => 26 | 15 => 40 | 14 => 39 | 28 => 56 | 29 => 57 | 20 => 48 | 21 => 49 | 22 => 50 | 23 => 51 | 24 => 52 | 25 => 53 | 26 => 54 | 27 => 55 | 46 => 61 | 47 => 62 | 48 => 63 | 49 => 64 | 50 => 65 | 57 => 67 | n => n, fun | 22 => 22 | 24 => 30 | 25 => 48 | 3 => 3 | 39 => 61 | 0 => 0 | 53 => 77 | 55 => 79 | 4 => 4 | 46 => 70 | 45 => 69 | 50 => 74 | 5 => 5 | 9 => 9 | 66 => 81 | 70 => 85 | 76 => 89 | 77 => 90 | n => n, fun | n => n⟩
theorem Try.sortR : Go.Proofs.SlLaysF0.n6 Try.prog Try.sortR_ren := {
 mixed := by kernel_rfl
 f6 := ⟨Try.f26.name, by decide, Try.func26.trans (congrArg some (by kernel_rfl))⟩
 f14 := ⟨Try.f39.name, by decide, Try.func39.trans (congrArg some (by kernel_rfl))⟩
 f15 := Try.func40.trans (congrArg some (by kernel_rfl))
 f20 := ⟨Try.f48.name, by decide, Try.func48.trans (congrArg some (by kernel_rfl))⟩
 f21 := ⟨Try.f49.name, by decide, Try.func49.trans (congrArg some (by kernel_rfl))⟩
 f22 := ⟨Try.f50.name, by decide, Try.func50.trans (congrArg some (by kernel_rfl))⟩
 f23 := ⟨Try.f51.name, by decide, Try.func51.trans (congrArg some (by kernel_rfl))⟩
 f24 := ⟨Try.f52.name, by decide, Try.func52.trans (congrArg some (by kernel_rfl))⟩
 f25 := ⟨Try.f53.name, by decide, Try.func53.trans (congrArg some (by kernel_rfl))⟩
 f26 := ⟨Try.f54.name, by decide, Try.func54.trans (congrArg some (by kernel_rfl))⟩
 f27 := ⟨Try.f55.name, by decide, Try.func55.trans (congrArg some (by kernel_rfl))⟩
 f28 := Try.func56.trans (congrArg some (by kernel_rfl))
 f29 := Try.func57.trans (congrArg some (by kernel_rfl))
 f46 := ⟨Try.f61.name, by decide, Try.func61.trans (congrArg some (by kernel_rfl))⟩
 f47 := Try.func62.trans (congrArg some (by kernel_rfl))
 f48 := Try.func63.trans (congrArg some (by kernel_rfl))
 f49 := ⟨Try.f64.name, by decide, Try.func64.trans (congrArg some (by kernel_rfl))⟩
 f50 := ⟨Try.f65.name, by decide, Try.func65.trans (congrArg some (by kernel_rfl))⟩
 f57 := ⟨Try.f67.name, by decide, Try.func67.trans (congrArg some (by kernel_rfl))⟩
 t0 := Try.underlying0
 a0 := Try.isAgg0
 z0 := Try.sizeOf0
 v0 := Try.zeroValue0
 t3 := Try.underlying3
 a3 := Try.isAgg3
 z3 := Try.sizeOf3
 v3 := Try.zeroValue3
 t4 := Try.underlying4
 a4 := Try.isAgg4
 z4 := Try.sizeOf4
 v4 := Try.zeroValue4
 t5 := Try.underlying5
 a5 := Try.isAgg5
 z5 := Try.sizeOf5
 v5 := Try.zeroValue5
 t9 := Try.underlying9
 a9 := Try.isAgg9
 z9 := Try.sizeOf9
 v9 := Try.zeroValue9
 t22 := Try.underlying22
 a22 := Try.isAgg22
 z22 := Try.sizeOf22
 v22 := Try.zeroValue22
 t25 := Try.underlying48
 a25 := Try.isAgg48
 z25 := Try.sizeOf48
 v25 := Try.zeroValue48
 t39 := Try.underlying61
 a39 := Try.isAgg61
 z39 := Try.sizeOf61
 v39 := Try.zeroValue61
 t45 := Try.underlying69
 a45 := Try.isAgg69
 z45 := Try.sizeOf69
 v45 := Try.zeroValue69
 t46 := Try.underlying70
 a46 := Try.isAgg70
 z46 := Try.sizeOf70
 v46 := Try.zeroValue70
 t50 := Try.underlying74
 a50 := Try.isAgg74
 z50 := Try.sizeOf74
 v50 := Try.zeroValue74
 t53 := Try.underlying77
 a53 := Try.isAgg77
 z53 := Try.sizeOf77
 v53 := Try.zeroValue77
 t55 := Try.underlying79
 a55 := Try.isAgg79
 z55 := Try.sizeOf79
 v55 := Try.zeroValue79
 t66 := Try.underlying81
 a66 := Try.isAgg81
 z66 := Try.sizeOf81
 v66 := Try.zeroValue81
 t70 := Try.underlying85
 a70 := Try.isAgg85
 z70 := Try.sizeOf85
 v70 := Try.zeroValue85
 t76 := Try.underlying89
 a76 := Try.isAgg89
 z76 := Try.sizeOf89
 v76 := Try.zeroValue89
 t77 := Try.underlying90
 a77 := Try.isAgg90
 z77 := Try.sizeOf90
 v77 := Try.zeroValue90 }
end Go.Proofs


section
set_option linter.unusedVariables false
set_option linter.unusedSimpArgs false
namespace Go.Proofs.Ytdioagebkfdkhaa.Ad
open Go.Shelf Go.RowKit Go.Lib Go.Sort Go.Proofs.YtdioagebkfdkhaaW.PrintWords Go.Proofs.YtdioagebkfdkhaaW.PrintLast Go.Proofs.YtdioagebkfdkhaaW.PrintMore Go.Proofs.Ytdioagebkfdkhaa.PT

instance inhSpn : Inhabited Spn := ⟨zS⟩
/-- By which spans are sorted. -/
def numS (s : Spn) : Int := (if s.v6 then 2 ^ 200 else 0) + num 16 s.lo
theorem row_lt (s t : Spn) : rowS s t < 0 ↔ numS s < numS t := by
 have h1 := num_b 16 s.lo
 have h2 := num_b 16 t.lo
 unfold rowS numS
 by_cases h : s.v6 = t.v6
 ·rw [if_pos h, ← num_lex, h]
  omega
 ·rw [if_neg h]
  cases hs : s.v6 <;> cases ht : t.v6
  ·rw [hs, ht] at h; exact absurd rfl h
  ·simp only [if_true, Bool.false_eq_true, if_false]
   omega
  ·simp only [if_true, Bool.false_eq_true, if_false]
   omega
  ·rw [hs, ht] at h; exact absurd rfl h
theorem ltS (x y : Spn) : ltOf rowS x y = decide (numS x < numS y) := by
 show decide (rowS x y < 0) = _
 rw [Bool.eq_iff_iff, decide_eq_true_iff, decide_eq_true_iff]
 exact row_lt x y
theorem swoS : SWO (ltOf rowS) where
 irrefl x := by rw [ltS]; simp
 trans x y z h1 h2 := by rw [ltS] at *; simp at *; omega
 ntrans x y z h1 h2 := by rw [ltS] at *; simp at *; omega
theorem holdsS {w : World} {base g cap : Nat} {l : List Spn} (h : RowAt w base g cap l) : HoldsK Spn.cells 33 w g 0 l.toArray := by
 obtain ⟨cur, hc, hs⟩ := h.hcell
 refine fun j hj => ?_
 rw [size_flatK] at hj
 have hj2 : j / 33 < l.length := by simp at hj; omega
 refine ⟨?_, by simp [World.frozen?, hc]⟩
 rw [get_flatK _ _ _ _ hj]
 have he : (l.toArray[j / 33]! : Spn) = l[j / 33] := by rw [getElem!_pos _ _ (by simpa using hj2)]; simp
 rw [he]
 have hm : j % 33 < l[j / 33].cells.length := by rw [Spn.cells_len]; omega
 have := h.hr (j / 33) hj2 (j % 33) _ (List.getElem?_eq_getElem hm)
 rw [show 0 + j = j / 33 * 33 + j % 33 by omega, this]
 simp [getElem!_pos, hm]
/-- What the sort leaves. -/
def SortedS (l : List Spn) (w w1 : World) (base g : Nat) : Prop :=
 ∃ d : List Spn, d.Perm l ∧ d.Pairwise (fun a b => numS a ≤ numS b) ∧ kS.C w1 (some ⟨g, 0, none⟩) l.length d ∧ Below base w w1
theorem sorted_of {w w1 : World} {base g n : Nat} {l : List Spn} {d' : Array Spn} {os : Array Obj} (hle : l.length ≤ 1000000000) (hH : HoldsK Spn.cells 33 w g 0 l.toArray) (hg : g < w.heap.size) (hb : base ≤ g)
 (hp : PermIn 0 l.toArray.size l.toArray d') (hs : SortedIn (ltOf rowS) 0 l.toArray.size d') (hw : w1 = sortWorldK Spn.cells 33 w g 0 n d' os) : SortedS l w w1 base g := by
 have hsz : d'.size = l.length := by simpa using hp.1
 have hH1 : HoldsK Spn.cells 33 w1 g 0 d' := by rw [hw]; exact holdsK_sortWorldK_c Spn.cells 33 w g 0 l.toArray d' n os hH hg (by simpa using hsz)
 obtain ⟨f, hw2⟩ : ∃ f, w1.heap = (w.heap.modify g f) ++ os := ⟨_, by rw [hw]; rfl⟩
 refine ⟨d'.toList, ?_, ?_, ?_, ?_⟩
 ·have := hp.2.2
  have e2 : List.take l.length d'.toList = d'.toList := List.take_of_length_le (by simp [hsz])
  simpa [hsz, e2] using this
 ·rw [List.pairwise_iff_getElem]
  intro i j hi hj hij
  have h1 := hs i j (Nat.zero_le _) hij (by simpa [hsz] using hj)
  rw [ltS] at h1
  have ei : (d'[i]! : Spn) = d'.toList[i] := by rw [getElem!_pos _ _ (by simpa using hi)]; simp
  have ej : (d'[j]! : Spn) = d'.toList[j] := by rw [getElem!_pos _ _ (by simpa using hj)]; simp
  rw [ei, ej] at h1
  simpa using h1
 ·refine ⟨by simp [hsz], by omega, fun _ => ⟨_, rfl, fun j p hj => ?_⟩⟩
  have hjl : j < d'.size := by
   have := (List.getElem?_eq_some_iff.1 hj).1
   simpa using this
  have ep : (d'[j]! : Spn) = p := by
   rw [getElem!_pos d' j hjl]
   have := (List.getElem?_eq_some_iff.1 hj).2
   simpa using this
  refine ⟨p.cells, p.cells_len, rfl, fun i u hu => ?_⟩
  have hi : i < 33 := by have := (List.getElem?_eq_some_iff.1 hu).1; rwa [p.cells_len] at this
  have h2 := (HoldsK.cell hH1 hjl hi).1
  rw [ep, getElem!_def, hu] at h2
  rw [Addr.add_mid]
  have e9 : kS.sz = 33 := rfl
  rw [e9]
  simpa using h2
 ·refine ⟨by rw [hw]; rfl, by rw [hw]; rfl, by rw [hw]; rfl, by rw [hw2]; simp, fun k hk => ?_⟩
  rw [hw2, Array.getElem?_append_left (by simp; omega), Array.getElem?_modify, if_neg (by omega)]
theorem sort_walk (l : List Spn) (hpos : 0 < l.length) (hl : l.length ≤ 1000000000) (g cap base : Nat) (w : World) (h : RowAt w base g cap l) (hbase : base ≤ w.heap.size) :
 Calls Try.prog 26 #[.slice (some ⟨g, 0, none⟩) l.length cap, .func (.func 27) #[] #[]] w fun e w' => e = .returned (.tuple #[]) ∧ SortedS l w w' base g := by
 have hH := holdsS h
 have eg : ∀ args w, (callFunc 27 args).run Try.prog w = .ok (.enter 27 args) w := enters_of Try.func27 (by kernel_rfl) rfl
 have hcon := AnyQ.slices_SortFunc Try.sortR 33 Try.isAgg30 Try.sizeOf30 Spn.cells Spn.cells_len Spn.one rowS swoS 27 #[] g 0 cap l.toArray w eg (fun _ _ _ _ x y => join2_walk x y _) hH h.lt (by simp; omega)
 change Calls Try.prog 26 #[.slice (some ⟨g, 0, none⟩) l.length cap, _] w _ at hcon
 refine hcon.mono ?_
 rintro e w' ⟨rfl, d', n, os, hp, hs, hw⟩
 exact ⟨rfl, sorted_of hl hH h.lt h.hb hp hs hw⟩

end Go.Proofs.Ytdioagebkfdkhaa.Ad
end

section
set_option linter.unusedVariables false
set_option linter.unusedSimpArgs false
namespace Go.Proofs.Ytdioagebkfdkhaa.Ad
open Go.Shelf Go.RowKit Go.Proofs.YtdioagebkfdkhaaW.PrintWords Go.Proofs.YtdioagebkfdkhaaW.PrintLast Go.Proofs.YtdioagebkfdkhaaW.PrintMore Go.Proofs.Ytdioagebkfdkhaa.PT

theorem indexFunc_nil (c : Nat) (w : World) : Calls Try.prog 38 #[.slice none 0 c, .func (.func 25) #[] #[]] w fun e w' => e = .returned (.int .i64 (-1)) ∧ w' = w := by
 go_enter Try.func38, Try.ntmps38
 go_wp2
 go_loopw [8] (fun iv wr => iv = .int .i64 0 ∧ wr = w) (fun _ _ => 0)
 case atStart => exact ⟨rfl, rfl⟩
 case round =>
  obtain ⟨rfl, rfl⟩ := hrel
  go_wp2
  try rw [Exit.noGoto_ret]
  go_ret
  exact ⟨rfl, rfl⟩
theorem delete_nil (c : Nat) (w : World) : Calls Try.prog 23 #[.slice none 0 c, .func (.func 25) #[] #[]] w fun e w' => e = .returned (.slice none 0 c) ∧ w' = w := by
 go_enter Try.func23, Try.ntmps23
 go_wp2_with (refine (indexFunc_nil c w).mono ?_; rintro e w1 ⟨rfl, rfl⟩)
 go_ret
 exact ⟨rfl, rfl⟩
theorem delete_any (base : Nat) (v : Value) (xs : List Spn) (w : World) (h : kS.R 30 w base (fun _ => True) v xs) (hbase : base ≤ w.heap.size) (hl : xs.length ≤ 4000000000) :
 Calls Try.prog 23 #[v, .func (.func 25) #[] #[]] w fun e w' => ∃ v', e = .returned v' ∧ kS.R 30 w' base (fun _ => True) v' (xs.filter rightS) ∧ Below base w w' := by
 rcases RowAt.of_R h with ⟨rfl, rfl⟩ | ⟨g, cap, rfl, hr⟩
 ·exact (delete_nil 0 w).mono fun e w' ⟨h1, h2⟩ => ⟨_, h1, by subst h2; exact Kd.R_nil _ _ _ _ _, by subst h2; exact Below.refl _ _⟩
 ·exact deleteFunc_walk base g cap xs w hr hbase hl
theorem sort_any (base : Nat) (v : Value) (xs : List Spn) (w : World) (h : kS.R 30 w base (fun _ => True) v xs) (hbase : base ≤ w.heap.size) (hl : xs.length ≤ 1000000000) :
 Calls Try.prog 26 #[v, .func (.func 27) #[] #[]] w fun e w' => e = .returned (.tuple #[]) ∧
  ∃ (d : List Spn) (A : Option Addr) (c : Nat), v = .slice A d.length c ∧ d.Perm xs ∧ d.Pairwise (fun a b => numS a ≤ numS b) ∧ kS.C w' A d.length d ∧ Below base w w' := by
 obtain ⟨A, c, e, hc, hC⟩ := Kd.R_reads h
 subst e
 by_cases h0 : xs.length = 0
 ·have hx : xs = [] := List.eq_nil_of_length_eq_zero h0
  subst hx
  exact (AnyF.slices_SortFunc_none Try.sortR A c _ w).mono fun e w' ⟨h1, h2⟩ => ⟨h1, [], A, c, rfl, List.Perm.refl _, List.Pairwise.nil, by subst h2; exact hC, by subst h2; exact Below.refl _ _⟩
 ·rcases RowAt.of_R h with ⟨_, rfl⟩ | ⟨g, cap, e, hr⟩
  ·exact absurd rfl h0
  ·injection e with e1 _ e2
   subst e1 e2
   refine (sort_walk xs (by omega) hl g c base w hr hbase).mono ?_
   rintro e w' ⟨h1, d, h2, h3, h4, h5⟩
   have hdl := h2.length_eq
   exact ⟨h1, d, _, c, by rw [hdl], h2, h3, by rw [hdl]; exact h4, h5⟩

/-- The last one's end is another one. -/
theorem RowAt.setHi {W : World} {base g cap : Nat} {ys : List Spn} (h : RowAt W base g cap ys) {i : Nat} (hi : i < ys.length) (a : A16) : RowAt (W.setCells g (i * 33 + 17) a.cells) base g cap (ys.set i ⟨ys[i].v6, ys[i].lo, a⟩) := by
 have hcap : i * 33 + 33 ≤ cap * 33 := by have := h.hl; omega
 refine ⟨h.hb, ?_, by rw [List.length_set]; exact h.hl, h.hm, fun j hj => ?_⟩
 ·obtain ⟨cur, hc, hs⟩ := h.hcell
  obtain ⟨c, h1, h2⟩ := setCells_row g _ a.cells (i * 33 + 17) W cur hc
  exact ⟨c, h1, h2.trans hs⟩
 ·rw [List.length_set] at hj
  by_cases e : i = j
  ·subst e
   rw [List.getElem_set_self]
   intro k u hu
   have hk : k < 33 := by have := (List.getElem?_eq_some_iff.1 hu).1; rwa [Spn.cells_len] at this
   have hsame := World.rangeAt_setCells_same W g (i * 33 + 17) a.cells (h.there (by rw [a.cells_len]; omega))
   by_cases h17 : k < 17
   ·have hp : W.rangeAt g (i * 33) (ys[i].cells.take 17) := fun k' u' hu' => by
     rw [List.getElem?_take] at hu'
     split at hu'
     ·exact h.hr i hi k' u' hu'
     ·cases hu'
    have hp2 := World.rangeAt_setCells_apart hp g (i * 33 + 17) a.cells (.inr (.inl (by rw [List.length_take]; omega)))
    refine hp2 k u ?_
    rw [List.getElem?_take, if_pos h17]
    rw [← hu]
    show (Value.bool _ :: (_ ++ _))[k]? = (Value.bool _ :: (_ ++ _))[k]?
    cases k with
    | zero => rfl
    | succ k =>
     rw [List.getElem?_cons_succ, List.getElem?_cons_succ, List.getElem?_append_left (by rw [A16.cells_len]; omega), List.getElem?_append_left (by rw [A16.cells_len]; omega)]
   ·have := hsame (k - 17) u (by
     rw [← hu]
     show _ = (Value.bool _ :: (_ ++ _))[k]?
     obtain ⟨m, rfl⟩ : ∃ m, k = m + 17 := ⟨k - 17, by omega⟩
     rw [show m + 17 = (m + 16) + 1 from rfl, List.getElem?_cons_succ, List.getElem?_append_right (by rw [A16.cells_len]; omega), A16.cells_len]
     congr 1)
    rwa [show i * 33 + 17 + (k - 17) = i * 33 + k by omega] at this
  ·rw [List.getElem_set_ne e]
   refine World.rangeAt_setCells_apart (h.hr j hj) g (i * 33 + 17) a.cells (.inr ?_)
   rw [Spn.cells_len, a.cells_len]
   omega

def lastS (out : List Spn) : Spn := out.getD (out.length - 1) zS
def stepS (out : List Spn) (s : Spn) : List Spn :=
 if out.length = 0 then out ++ [s]
 else if touchS (lastS out) s = true then (if 0 < lexC s.hi.l (lastS out).hi.l then out.set (out.length - 1) ⟨(lastS out).v6, (lastS out).lo, s.hi⟩ else out)
 else out ++ [s]
theorem stepS_len (out : List Spn) (s : Spn) : (stepS out s).length ≤ out.length + 1 := by
 unfold stepS
 split
 ·simp
 split
 ·split
  ·simp
  ·omega
 ·simp
theorem foldS_len : ∀ (d out : List Spn), (d.foldl stepS out).length ≤ out.length + d.length
 | [], out => by simp
 | s :: d, out => by
  have h1 := stepS_len out s
  have h2 := foldS_len d (stepS out s)
  simp only [List.foldl_cons, List.length_cons]
  omega
theorem fold_take (d : List Spn) (k : Nat) (h : k < d.length) : (d.take (k + 1)).foldl stepS [] = stepS ((d.take k).foldl stepS []) d[k] := by
 rw [List.take_succ_eq_append_getElem h, List.foldl_append]
 rfl

/-- What holds in a round: the one at hand, the row so far. -/
def JH (w2 : World) (gs : Nat) (s : Spn) (out : List Spn) (ov : Value) (W : World) : Prop :=
 Has W gs s.arr 30 ∧ kS.R 30 W w2.heap.size (fun _ => True) ov out ∧ Below w2.heap.size w2 W
theorem JH.step {w2 W W1 : World} {gs : Nat} {s : Spn} {out : List Spn} {ov : Value} (h : JH w2 gs s out ov W) (hB : Below W.heap.size W W1) : JH w2 gs s out ov W1 :=
 ⟨h.1.below hB, Kd.R_below h.2.1 hB, h.2.2.trans (hB.mono h.2.2.size)⟩
def JK (w2 : World) (gs : Nat) (s : Spn) (out : List Spn) (go co m : Nat) (z : Spn) (W : World) : Prop :=
 Has W gs s.arr 30 ∧ RowAt W w2.heap.size go co out ∧ W.rangeAt go (m * 33) z.cells ∧ Below w2.heap.size w2 W
theorem JK.step {w2 W W1 : World} {gs : Nat} {s : Spn} {out : List Spn} {go co m : Nat} {z : Spn} (h : JK w2 gs s out go co m z W) (hB : Below W.heap.size W W1) : JK w2 gs s out go co m z W1 :=
 ⟨h.1.below hB, h.2.1.below hB, ra_below h.2.2.1 hB, h.2.2.2.trans (hB.mono h.2.2.2.size)⟩
/-- What holds at the head of a round of Join. -/
def JI (w2 : World) (d : List Spn) (k : Nat) (ov : Value) (W : World) : Prop :=
 kS.R 30 W w2.heap.size (fun _ => True) ov ((d.take k).foldl stepS []) ∧ Below w2.heap.size w2 W

set_option maxHeartbeats 4000000 in
set_option maxRecDepth 100000 in
theorem join_walk (A : Option Addr) (c : Nat) (l : List Spn) (w : World) (h : kS.C w A l.length l) (hl : l.length ≤ 1000000) :
 Calls Try.prog 9 #[.slice A l.length c] w fun e w' => ∃ (v : Value) (d : List Spn), e = .returned v ∧ d.Perm (l.filter rightS) ∧ d.Pairwise (fun a b => numS a ≤ numS b) ∧
  kS.R 30 w' w.heap.size (fun _ => True) v (d.foldl stepS []) ∧ Below w.heap.size w w' := by
 have hcl := clone_walk A c l w h (by omega)
 clear h
 go_enter Try.func9, Try.ntmps9
 go_wp2_with fail
 refine hcl.mono ?_
 rintro e w1 ⟨v1, rfl, hR1, hB1⟩
 obtain ⟨A1, c1, e1⟩ := Kd.R_slice hR1
 subst e1
 have hdl := delete_any w.heap.size _ l w1 hR1 hB1.size (by omega)
 have HB1 := Lib.hid hB1
 clear hcl hR1 hB1
 go_wp2_with fail
 refine hdl.mono ?_
 rintro e w2 ⟨v2, rfl, hR2, hB2⟩
 have HB2 := Lib.hid (HB1.out.trans hB2)
 obtain ⟨A2, c2, e2⟩ := Kd.R_slice hR2
 subst e2
 have hfl : (l.filter rightS).length ≤ l.length := List.length_filter_le _ _
 have hso := sort_any w.heap.size _ _ w2 hR2 HB2.out.size (by omega)
 clear hdl hR2 hB2 HB1
 go_wp2_with fail
 refine hso.mono ?_
 rintro e w3 ⟨rfl, d, A3, c3, e3, hp, hs, hC, hB3⟩
 have hdlen : d.length ≤ l.length := by rw [hp.length_eq]; exact hfl
 rw [e3]
 clear e3
 have HP := Lib.hid (And.intro hp (And.intro hs hC))
 have HB3 := Lib.hid (HB2.out.trans hB3)
 clear hso hp hs hC hB3 HB2 hfl
 go_wp2
 go_loopw [4, 15] (fun ov iv wr => ∃ k : Nat, k ≤ d.length ∧ iv = .int .i64 k ∧ Hid (JI w3 d k ov wr)) (fun _ iv _ => d.length - (intOf iv).toNat)
 case atStart => exact ⟨0, Nat.zero_le _, rfl, Lib.hid ⟨Kd.R_nil _ _ _ _ _, Below.refl _ _⟩⟩
 case round =>
  obtain ⟨k, hk, rfl, HX⟩ := hrel
  by_cases hkd : k < d.length
  ·obtain ⟨Ao, co, hov, hco, hCO⟩ := Kd.R_reads HX.out.1
   subst hov
   obtain ⟨bl, ol, hA, hR0⟩ := C_form (Kd.C_below HP.out.2.2 HX.out.2) (by omega)
   subst hA
   obtain ⟨s, hs⟩ : ∃ s, s = d[k] := ⟨_, rfl⟩
   have hq := hR0 k hkd
   rw [← hs] at hq
   have Q := Lib.hid hq
   have hft := fold_take d k hkd
   rw [← hs] at hft
   have hol := foldS_len (d.take k) []
   rw [List.length_take, List.length_nil] at hol
   generalize hout : (d.take k).foldl stepS [] = out at hco hCO hft hol ⊢
   have hX1 := HX.out.1
   rw [hout] at hX1
   have HR := Lib.hid hX1
   have HBx := Lib.hid HX.out.2
   have HFT := Lib.hid hft
   have hN0 := Has.new wr s.arr 30
   have HN := Lib.hid hN0
   have HBa := Lib.hid (show Below wr.heap.size wr (wr.alloc (.cells s.arr 30)) from (Below.refl _ _).alloc (Nat.le_refl _) _)
   clear hq hs hft hout hX1 hN0 hR0 hCO HX
   have hd1 := eq_true (show (k : Int) < (d.length : Int) by omega)
   have hd2 : decide ((k : Int) < (d.length : Int)) = true := decide_eq_true (by omega)
   have hd3 : decide (k < d.length) = true := decide_eq_true hkd
   go_wp2_with (first
    | ((with_reducible refine at_dst 18 ?_); refine loadS s bl (ol + k * 33) rfl Q.out ?_)
    | ((with_reducible refine at_dst 6 ?_); refine alloc_storeS s rfl rfl ?_; generalize hg : wr.heap.size = gs at HN ⊢; generalize hw : wr.alloc (.cells s.arr 30) = w4 at HN HBa ⊢; clear hw))
   have HR4 := Lib.hid (Kd.R_below HR.out HBa.out)
   have HB4 := Lib.hid (HBx.out.trans (HBa.out.mono HBx.out.size))
   have hgs : w3.heap.size ≤ gs := by rw [← hg]; exact HBx.out.size
   clear hd1 hd2 hd3 HR HBa HBx Q hg
   have HJ4 : Hid (JH w3 gs s out (.slice Ao out.length co) w4) := Lib.hid ⟨HN.out, HR4.out, HB4.out⟩
   clear HN HR4 HB4
   by_cases ho : out.length = 0
   ·have hft : stepS out s = out ++ [s] := by unfold stepS; rw [if_pos ho]
    have ho1 : ((out.length : Int) == 0) = true := by simp [ho]
    have ho2 : decide ((out.length : Int) = 0) = true := decide_eq_true (by omega)
    have ho3 := eq_true (show (out.length : Int) = 0 by omega)
    clear ho
    go_wp2
    refine start_ (n := 14) (S := JH w3 gs s out (.slice Ao out.length co)) (ds := []) #[false, false, false, false, false, false, false, false, false, false, false, false, false, false] (by kernel_rfl) rfl rfl (HJ4.out.step (show Below w4.heap.size w4 w4.drew from (Below.refl _ _).drew)) (fun hHeld => ?_)
    refine pure_ (i := 0) (N := some 19) (v := ?_) (a' := ?_) #[true, false, false, false, false, false, false, false, false, false, false, false, false, false] rfl rfl (by kernel_rfl) (fun _ _ _ h => h) (Or.inl ⟨by rfl, ?_⟩) ?_ ?_
    rotate_left
    ·intro w'
     go_simp
     with_reducible rfl
    rotate_left
    ·simp only [Act.put, List.setIfInBounds_toArray, List.set_cons_zero, List.set_cons_succ, i64_w, i32_w]
     rfl
    refine pure_ (i := 1) (N := some 20) (v := ?_) (a' := ?_) #[true, true, false, false, false, false, false, false, false, false, false, false, false, false] rfl rfl (by kernel_rfl) (fun _ _ _ h => h) (Or.inl ⟨by rfl, ?_⟩) ?_ ?_
    rotate_left
    ·intro w'
     go_simp
     with_reducible rfl
    rotate_left
    ·simp only [Act.put, List.setIfInBounds_toArray, List.set_cons_zero, List.set_cons_succ, i64_w, i32_w]
     rfl
    refine pure_ (i := 2) (N := some 21) (v := ?_) (a' := ?_) #[true, true, true, false, false, false, false, false, false, false, false, false, false, false] rfl rfl (by kernel_rfl) (fun _ _ _ h => h) (Or.inl ⟨by rfl, ?_⟩) ?_ ?_
    rotate_left
    ·intro w'
     go_simp
     with_reducible rfl
    rotate_left
    ·simp only [Act.put, List.setIfInBounds_toArray, List.set_cons_zero, List.set_cons_succ, i64_w, i32_w]
     rfl
    refine pure_ (i := 3) (N := some 22) (v := ?_) (a' := ?_) #[true, true, true, true, false, false, false, false, false, false, false, false, false, false] rfl rfl (by kernel_rfl) (fun _ _ _ h => h) (Or.inl ⟨by rfl, ?_⟩) ?_ ?_
    rotate_left
    ·intro w'
     go_simp
     with_reducible rfl
    rotate_left
    ·simp only [Act.put, List.setIfInBounds_toArray, List.set_cons_zero, List.set_cons_succ, i64_w, i32_w]
     rfl
    refine pure_ (i := 4) (N := some 23) (v := undef) (a' := ?_) #[true, true, true, true, true, false, false, false, false, false, false, false, false, false] rfl rfl (by kernel_rfl) (fun _ _ _ h => h) (Or.inr ⟨by rfl, rfl⟩) ?_ ?_
    rotate_left
    ·simp only [Act.put, List.setIfInBounds_toArray, List.set_cons_zero, List.set_cons_succ, i64_w, i32_w]
     rfl
    refine pure_ (i := 5) (N := some 24) (v := undef) (a' := ?_) #[true, true, true, true, true, true, false, false, false, false, false, false, false, false] rfl rfl (by kernel_rfl) (fun _ _ _ h => h) (Or.inr ⟨by rfl, rfl⟩) ?_ ?_
    rotate_left
    ·simp only [Act.put, List.setIfInBounds_toArray, List.set_cons_zero, List.set_cons_succ, i64_w, i32_w]
     rfl
    refine pure_ (i := 6) (N := some 25) (v := undef) (a' := ?_) #[true, true, true, true, true, true, true, false, false, false, false, false, false, false] rfl rfl (by kernel_rfl) (fun _ _ _ h => h) (Or.inr ⟨by rfl, rfl⟩) ?_ ?_
    rotate_left
    ·simp only [Act.put, List.setIfInBounds_toArray, List.set_cons_zero, List.set_cons_succ, i64_w, i32_w]
     rfl
    refine pure_ (i := 7) (N := some 26) (v := undef) (a' := ?_) #[true, true, true, true, true, true, true, true, false, false, false, false, false, false] rfl rfl (by kernel_rfl) (fun _ _ _ h => h) (Or.inr ⟨by rfl, rfl⟩) ?_ ?_
    rotate_left
    ·simp only [Act.put, List.setIfInBounds_toArray, List.set_cons_zero, List.set_cons_succ, i64_w, i32_w]
     rfl
    refine pure_ (i := 8) (N := some 27) (v := undef) (a' := ?_) #[true, true, true, true, true, true, true, true, true, false, false, false, false, false] rfl rfl (by kernel_rfl) (fun _ _ _ h => h) (Or.inr ⟨by rfl, rfl⟩) ?_ ?_
    rotate_left
    ·simp only [Act.put, List.setIfInBounds_toArray, List.set_cons_zero, List.set_cons_succ, i64_w, i32_w]
     rfl
    refine pure_ (i := 9) (N := some 28) (v := undef) (a' := ?_) #[true, true, true, true, true, true, true, true, true, true, false, false, false, false] rfl rfl (by kernel_rfl) (fun _ _ _ h => h) (Or.inr ⟨by rfl, rfl⟩) ?_ ?_
    rotate_left
    ·simp only [Act.put, List.setIfInBounds_toArray, List.set_cons_zero, List.set_cons_succ, i64_w, i32_w]
     rfl
    refine pure_ (i := 10) (N := some 29) (v := undef) (a' := ?_) #[true, true, true, true, true, true, true, true, true, true, true, false, false, false] rfl rfl (by kernel_rfl) (fun _ _ _ h => h) (Or.inr ⟨by rfl, rfl⟩) ?_ ?_
    rotate_left
    ·simp only [Act.put, List.setIfInBounds_toArray, List.set_cons_zero, List.set_cons_succ, i64_w, i32_w]
     rfl
    refine pure_ (i := 11) (N := some 30) (v := undef) (a' := ?_) #[true, true, true, true, true, true, true, true, true, true, true, true, false, false] rfl rfl (by kernel_rfl) (fun _ _ _ h => h) (Or.inr ⟨by rfl, rfl⟩) ?_ ?_
    rotate_left
    ·simp only [Act.put, List.setIfInBounds_toArray, List.set_cons_zero, List.set_cons_succ, i64_w, i32_w]
     rfl
    refine pure_ (i := 12) (N := some 31) (v := undef) (a' := ?_) #[true, true, true, true, true, true, true, true, true, true, true, true, true, false] rfl rfl (by kernel_rfl) (fun _ _ _ h => h) (Or.inr ⟨by rfl, rfl⟩) ?_ ?_
    rotate_left
    ·simp only [Act.put, List.setIfInBounds_toArray, List.set_cons_zero, List.set_cons_succ, i64_w, i32_w]
     rfl
    refine pure_ (i := 13) (N := some 32) (v := ?_) (a' := ?_) #[true, true, true, true, true, true, true, true, true, true, true, true, true, true] rfl rfl (by kernel_rfl) (fun _ _ _ h => h) (Or.inl ⟨by rfl, ?_⟩) ?_ ?_
    rotate_left
    ·intro w'
     go_simp
     with_reducible rfl
    rotate_left
    ·simp only [Act.put, List.setIfInBounds_toArray, List.set_cons_zero, List.set_cons_succ, i64_w, i32_w]
     rfl
    refine done_ (by kernel_rfl) ?_
    generalize w4.drew = w6 at hHeld ⊢
    have HJ5 := Lib.hid hHeld
    clear hHeld HJ4 ho1 ho2 ho3
    go_wp2_with (first
     | ((with_reducible refine at_dst 34 ?_); refine loadS s gs 0 rfl HJ5.out.1.rs ?_)
     | ((with_reducible refine at_dst 35 ?_); refine valN rfl (exec_buildS s rfl _) ?_)
     | ((with_reducible refine at_dst 36 ?_); refine appRowsL (w0 := w3) w3.heap.size rfl (.tmp 33) (.tmp 35) rfl (.slice Ao out.length co) out [s] (some ⟨w6.heap.size, 0, none⟩) 1 1 rfl rfl (Kd.R_below HJ5.out.2.1 ((Below.refl _ _).alloc (Nat.le_refl _) _)) (C_one (Has.new w6 s.arr _)) (HJ5.out.2.2.alloc HJ5.out.2.2.size _) (by have := HJ5.out.2.2.size; simp; omega) (by omega) ?_; intro v8 w8 hR8 hB8 hg8 hat8; obtain ⟨A8, c8, e8⟩ := Kd.R_slice hR8; subst e8; have HE8 := Lib.hid (And.intro hR8 hB8); clear hR8 hB8 hg8 hat8))
    go_roundw
    case rel => exact ⟨k + 1, by omega, by go_num, Lib.hid ⟨by rw [HFT.out, hft]; have h9 := HE8.out.1; rw [List.length_append, List.length_singleton] at h9; exact h9, HE8.out.2⟩⟩
    case measure => simp [intOf]; omega
   ·obtain ⟨m, hm⟩ : ∃ m, out.length = m + 1 := ⟨out.length - 1, by omega⟩
    rcases RowAt.of_R HJ4.out.2.1 with ⟨_, e⟩ | ⟨go, cap, e, hrow⟩
    ·rw [e] at ho; exact absurd rfl ho
    injection e with e1 _ e2
    subst e1 e2
    have hml : m < out.length := by omega
    obtain ⟨z, hz⟩ : ∃ z, z = out[m] := ⟨_, rfl⟩
    have hls : lastS out = z := by
     unfold lastS
     rw [hz, List.getD_eq_getElem?_getD, show out.length - 1 = m by omega, List.getElem?_eq_getElem hml]
     rfl
    have hqz := hrow.hr m hml
    rw [← hz] at hqz
    have HK4 : Hid (JK w3 gs s out go co m z w4) := Lib.hid ⟨HJ4.out.1, hrow, hqz, HJ4.out.2.2⟩
    have HZ := Lib.hid hz
    clear hqz hrow hz
    obtain ⟨b, hb⟩ : ∃ b, b = touchS z s := ⟨_, rfl⟩
    have htouch : ∀ W, Calls Try.prog 29 #[.agg z.arr, .agg s.arr] W fun e w' => e = .returned (.bool b) ∧ Below W.heap.size W w' := fun W => by rw [hb]; exact touch_walk z s W
    have hft : stepS out s = if b = true then (if 0 < lexC s.hi.l z.hi.l then out.set m ⟨z.v6, z.lo, s.hi⟩ else out) else out ++ [s] := by
     unfold stepS
     rw [if_neg ho, hls, ← hb, show out.length - 1 = m by omega]
    have ho1 : ((out.length : Int) == 0) = false := by rw [beq_eq_false_iff_ne]; omega
    have ho2 : decide ((out.length : Int) = 0) = false := decide_eq_false (by omega)
    have ho3 := eq_false (show ¬ (out.length : Int) = 0 by omega)
    have ho4 := eq_false ho
    have hm1 : Go.RowKit.wrap64 ((out.length : Int) - 1) = (m : Int) := by unfold Go.RowKit.wrap64; omega
    have hm2 : IntKind.i64.wrap ((out.length : Int) - 1) = (m : Int) := by rw [i64_w]; exact hm1
    have hm3 := eq_true (show (m : Int) < (out.length : Int) by omega)
    have HB := Lib.hid hb
    have HM := Lib.hid (And.intro ho hm)
    clear hb hls ho ho4 hm
    go_wp2
    refine start_ (n := 14) (S := JK w3 gs s out go co m z) (ds := []) #[false, false, false, false, false, false, false, false, false, false, false, false, false, false] (by kernel_rfl) rfl rfl (HK4.out.step (show Below w4.heap.size w4 w4.drew from (Below.refl _ _).drew)) (fun hHeld => ?_)
    refine pure_ (i := 0) (N := some 19) (v := ?_) (a' := ?_) #[true, false, false, false, false, false, false, false, false, false, false, false, false, false] rfl rfl (by kernel_rfl) (fun _ _ _ h => h) (Or.inl ⟨by rfl, ?_⟩) ?_ ?_
    rotate_left
    ·intro w'
     go_simp
     with_reducible rfl
    rotate_left
    ·simp only [Act.put, List.setIfInBounds_toArray, List.set_cons_zero, List.set_cons_succ, i64_w, i32_w]
     rfl
    refine pure_ (i := 1) (N := some 20) (v := ?_) (a' := ?_) #[true, true, false, false, false, false, false, false, false, false, false, false, false, false] rfl rfl (by kernel_rfl) (fun _ _ _ h => h) (Or.inl ⟨by rfl, ?_⟩) ?_ ?_
    rotate_left
    ·intro w'
     go_simp
     with_reducible rfl
    rotate_left
    ·simp only [Act.put, List.setIfInBounds_toArray, List.set_cons_zero, List.set_cons_succ, i64_w, i32_w]
     rfl
    refine pure_ (i := 2) (N := some 21) (v := ?_) (a' := ?_) #[true, true, true, false, false, false, false, false, false, false, false, false, false, false] rfl rfl (by kernel_rfl) (fun _ _ _ h => h) (Or.inl ⟨by rfl, ?_⟩) ?_ ?_
    rotate_left
    ·intro w'
     go_simp
     with_reducible rfl
    rotate_left
    ·simp only [Act.put, List.setIfInBounds_toArray, List.set_cons_zero, List.set_cons_succ, i64_w, i32_w]
     rfl
    refine pure_ (i := 3) (N := some 22) (v := ?_) (a' := ?_) #[true, true, true, true, false, false, false, false, false, false, false, false, false, false] rfl rfl (by kernel_rfl) (fun _ _ _ h => h) (Or.inl ⟨by rfl, ?_⟩) ?_ ?_
    rotate_left
    ·intro w'
     go_simp
     with_reducible rfl
    rotate_left
    ·simp only [Act.put, List.setIfInBounds_toArray, List.set_cons_zero, List.set_cons_succ, i64_w, i32_w]
     rfl
    refine pure_ (i := 4) (N := some 23) (v := ?_) (a' := ?_) #[true, true, true, true, true, false, false, false, false, false, false, false, false, false] rfl rfl (by kernel_rfl) (fun _ _ _ h => h) (Or.inl ⟨by rfl, ?_⟩) ?_ ?_
    rotate_left
    ·intro w'
     go_simp
     with_reducible rfl
    rotate_left
    ·simp only [Act.put, List.setIfInBounds_toArray, List.set_cons_zero, List.set_cons_succ, i64_w, i32_w]
     rfl
    refine pure_ (i := 5) (N := some 24) (v := ?_) (a' := ?_) #[true, true, true, true, true, true, false, false, false, false, false, false, false, false] rfl rfl (by kernel_rfl) (fun _ _ _ h => h) (Or.inl ⟨by rfl, ?_⟩) ?_ ?_
    rotate_left
    ·intro w'
     go_simp
     with_reducible rfl
    rotate_left
    ·simp only [Act.put, List.setIfInBounds_toArray, List.set_cons_zero, List.set_cons_succ, i64_w, i32_w]
     rfl
    refine pure_ (i := 6) (N := some 25) (v := ?_) (a' := ?_) #[true, true, true, true, true, true, true, false, false, false, false, false, false, false] rfl rfl (by kernel_rfl) (fun _ _ _ h => h) (Or.inl ⟨by rfl, ?_⟩) ?_ ?_
    rotate_left
    ·intro w'
     go_simp
     with_reducible rfl
    rotate_left
    ·simp only [Act.put, List.setIfInBounds_toArray, List.set_cons_zero, List.set_cons_succ, i64_w, i32_w]
     rfl
    refine pure_ (i := 7) (N := some 26) (v := ?_) (a' := ?_) #[true, true, true, true, true, true, true, true, false, false, false, false, false, false] rfl rfl (by kernel_rfl) (fun _ _ _ h => h) (Or.inl ⟨by rfl, ?_⟩) ?_ ?_
    rotate_left
    ·intro w'
     go_simp
     with_reducible rfl
    rotate_left
    ·simp only [Act.put, List.setIfInBounds_toArray, List.set_cons_zero, List.set_cons_succ, i64_w, i32_w]
     rfl
    refine pure_ (i := 8) (N := some 27) (v := ?_) (a' := ?_) #[true, true, true, true, true, true, true, true, true, false, false, false, false, false] rfl rfl (by kernel_rfl) (fun _ _ _ h => h) (Or.inl ⟨by rfl, ?_⟩) ?_ ?_
    rotate_left
    ·intro w'
     go_simp
     with_reducible rfl
    rotate_left
    ·simp only [Act.put, List.setIfInBounds_toArray, List.set_cons_zero, List.set_cons_succ, i64_w, i32_w]
     rfl
    refine take_ (i := 9) (N := some 28) (v := .agg z.arr) (a' := ?_) #[true, true, true, true, true, true, true, true, true, true, false, false, false, false] rfl rfl (by kernel_rfl) (fun _ _ _ h => h) ?_ hHeld ?_ ?_
    ·exact yS (by rfl) rfl z go (m * 33) rfl (fun W h => h.2.2.1)
    rotate_left
    ·simp only [Act.put, List.setIfInBounds_toArray, List.set_cons_zero, List.set_cons_succ, i64_w, i32_w]
     rfl
    refine take_ (i := 10) (N := some 29) (v := .agg s.arr) (a' := ?_) #[true, true, true, true, true, true, true, true, true, true, true, false, false, false] rfl rfl (by kernel_rfl) (fun _ _ _ h => h) ?_ hHeld ?_ ?_
    ·exact yS (by rfl) rfl s gs 0 rfl (fun W h => h.1.rs)
    rotate_left
    ·simp only [Act.put, List.setIfInBounds_toArray, List.set_cons_zero, List.set_cons_succ, i64_w, i32_w]
     rfl
    refine one_ (i := 11) (N := some 30) #[true, true, true, true, true, true, true, true, true, true, true, true, false, false] rfl rfl (by kernel_rfl) (by decide) (fun K hK => ?_)
    refine goes_ Try.func29 (by kernel_rfl) rfl #[.agg z.arr, .agg s.arr] (by rfl) rfl rfl (by (try simp only [List.map_toArray, List.map_cons, List.map_nil]); first | done | rfl) ?_
    refine (htouch _).mono ?_
    rintro e w6 ⟨rfl, hB⟩
    refine ⟨_, rfl, ?_⟩
    refine hK.out _ _ (JK.step hHeld hB) (fun hHeld => ?_)
    clear hK K
    refine norm_ (a' := ?_) ?_ ?_
    rotate_left
    ·show Act.put _ (some 30) _ = _
     simp only [Act.put, List.setIfInBounds_toArray, List.set_cons_zero, List.set_cons_succ, i64_w, i32_w]
     rfl
    refine pure_ (i := 12) (N := some 31) (v := ?_) (a' := ?_) #[true, true, true, true, true, true, true, true, true, true, true, true, true, false] rfl rfl (by kernel_rfl) (fun _ _ _ h => h) (Or.inl ⟨by rfl, ?_⟩) ?_ ?_
    rotate_left
    ·intro w'
     go_simp
     with_reducible rfl
    rotate_left
    ·simp only [Act.put, List.setIfInBounds_toArray, List.set_cons_zero, List.set_cons_succ, i64_w, i32_w]
     rfl
    refine pure_ (i := 13) (N := some 32) (v := ?_) (a' := ?_) #[true, true, true, true, true, true, true, true, true, true, true, true, true, true] rfl rfl (by kernel_rfl) (fun _ _ _ h => h) (Or.inl ⟨by rfl, ?_⟩) ?_ ?_
    rotate_left
    ·intro w'
     go_simp
     with_reducible rfl
    rotate_left
    ·simp only [Act.put, List.setIfInBounds_toArray, List.set_cons_zero, List.set_cons_succ, i64_w, i32_w]
     rfl
    refine done_ (by kernel_rfl) ?_
    have HK5 := Lib.hid hHeld
    clear hHeld HK4 HJ4
    cases b
    ·rw [if_neg (by simp)] at hft
     have HJ5 : Hid (JH w3 gs s out (.slice (some ⟨go, 0, none⟩) out.length co) w6) := Lib.hid ⟨HK5.out.1, HK5.out.2.1.R, HK5.out.2.2.2⟩
     clear HK5
     go_wp2_with (first
      | ((with_reducible refine at_dst 34 ?_); refine loadS s gs 0 rfl HJ5.out.1.rs ?_)
      | ((with_reducible refine at_dst 35 ?_); refine valN rfl (exec_buildS s rfl _) ?_)
      | ((with_reducible refine at_dst 36 ?_); refine appRowsL (w0 := w3) w3.heap.size rfl (.tmp 33) (.tmp 35) rfl (.slice (some ⟨go, 0, none⟩) out.length co) out [s] (some ⟨w6.heap.size, 0, none⟩) 1 1 rfl rfl (Kd.R_below HJ5.out.2.1 ((Below.refl _ _).alloc (Nat.le_refl _) _)) (C_one (Has.new w6 s.arr _)) (HJ5.out.2.2.alloc HJ5.out.2.2.size _) (by have := HJ5.out.2.2.size; simp; omega) (by omega) ?_; intro v8 w8 hR8 hB8 hg8 hat8; obtain ⟨A8, c8, e8⟩ := Kd.R_slice hR8; subst e8; have HE8 := Lib.hid (And.intro hR8 hB8); clear hR8 hB8 hg8 hat8))
     go_roundw
     case rel => exact ⟨k + 1, by omega, by go_num, Lib.hid ⟨by rw [HFT.out, hft]; have h9 := HE8.out.1; rw [List.length_append, List.length_singleton] at h9; exact h9, HE8.out.2⟩⟩
     case measure => simp [intOf]; omega
    ·rw [if_pos rfl] at hft
     obtain ⟨q, hqq⟩ : ∃ q, q = lexC s.hi.l z.hi.l := ⟨_, rfl⟩
     have hcmp : ∀ W, Calls Try.prog 30 #[.agg s.hi.arr, .agg z.hi.arr] W fun e w' => e = .returned (.int .i64 q) ∧ Gw W w' := fun W => by rw [hqq]; exact scmp_walk _ _ W
     rw [← hqq] at hft
     clear hqq
     go_wp2
     refine start_ (n := 8) (S := JK w3 gs s out go co m z) (ds := []) #[false, false, false, false, false, false, false, false] (by kernel_rfl) rfl rfl (HK5.out.step (show Below w6.heap.size w6 w6.drew from (Below.refl _ _).drew)) (fun hHeld => ?_)
     refine pure_ (i := 0) (N := some 42) (v := ?_) (a' := ?_) #[true, false, false, false, false, false, false, false] rfl rfl (by kernel_rfl) (fun _ _ _ h => h) (Or.inl ⟨by rfl, ?_⟩) ?_ ?_
     rotate_left
     ·intro w'
      go_simp
      with_reducible rfl
     rotate_left
     ·simp only [Act.put, List.setIfInBounds_toArray, List.set_cons_zero, List.set_cons_succ, i64_w, i32_w]
      rfl
     refine take_ (i := 1) (N := some 43) (v := .agg s.hi.arr) (a' := ?_) #[true, true, false, false, false, false, false, false] rfl rfl (by kernel_rfl) (fun _ _ _ h => h) ?_ hHeld ?_ ?_
     ·exact yA (by rfl) rfl s.hi gs 17 rfl (fun W h => by have := rhi_of_s h.1.rs; rwa [Nat.zero_add] at this)
     rotate_left
     ·simp only [Act.put, List.setIfInBounds_toArray, List.set_cons_zero, List.set_cons_succ, i64_w, i32_w]
      rfl
     refine pure_ (i := 2) (N := some 44) (v := ?_) (a' := ?_) #[true, true, true, false, false, false, false, false] rfl rfl (by kernel_rfl) (fun _ _ _ h => h) (Or.inl ⟨by rfl, ?_⟩) ?_ ?_
     rotate_left
     ·intro w'
      go_simp
      with_reducible rfl
     rotate_left
     ·simp only [Act.put, List.setIfInBounds_toArray, List.set_cons_zero, List.set_cons_succ, i64_w, i32_w]
      rfl
     refine pure_ (i := 3) (N := some 45) (v := ?_) (a' := ?_) #[true, true, true, true, false, false, false, false] rfl rfl (by kernel_rfl) (fun _ _ _ h => h) (Or.inl ⟨by rfl, ?_⟩) ?_ ?_
     rotate_left
     ·intro w'
      go_simp
      with_reducible rfl
     rotate_left
     ·simp only [Act.put, List.setIfInBounds_toArray, List.set_cons_zero, List.set_cons_succ, i64_w, i32_w]
      rfl
     refine pure_ (i := 4) (N := some 46) (v := ?_) (a' := ?_) #[true, true, true, true, true, false, false, false] rfl rfl (by kernel_rfl) (fun _ _ _ h => h) (Or.inl ⟨by rfl, ?_⟩) ?_ ?_
     rotate_left
     ·intro w'
      go_simp
      with_reducible rfl
     rotate_left
     ·simp only [Act.put, List.setIfInBounds_toArray, List.set_cons_zero, List.set_cons_succ, i64_w, i32_w]
      rfl
     refine take_ (i := 5) (N := some 47) (v := .agg z.hi.arr) (a' := ?_) #[true, true, true, true, true, true, false, false] rfl rfl (by kernel_rfl) (fun _ _ _ h => h) ?_ hHeld ?_ ?_
     ·exact yA (by rfl) rfl z.hi go (m * 33 + 17) rfl (fun W h => rhi_of_s h.2.2.1)
     rotate_left
     ·simp only [Act.put, List.setIfInBounds_toArray, List.set_cons_zero, List.set_cons_succ, i64_w, i32_w]
      rfl
     refine one_ (i := 6) (N := some 48) #[true, true, true, true, true, true, true, false] rfl rfl (by kernel_rfl) (by decide) (fun K hK => ?_)
     refine goes_ Try.func30 (by kernel_rfl) rfl #[.agg s.hi.arr, .agg z.hi.arr] (by rfl) rfl rfl (by (try simp only [List.map_toArray, List.map_cons, List.map_nil]); first | done | rfl) ?_
     refine (hcmp _).mono ?_
     rintro e w7 ⟨rfl, hB⟩
     refine ⟨_, rfl, ?_⟩
     refine hK.out _ _ (JK.step hHeld hB.below) (fun hHeld => ?_)
     clear hK K
     refine norm_ (a' := ?_) ?_ ?_
     rotate_left
     ·show Act.put _ (some 48) _ = _
      simp only [Act.put, List.setIfInBounds_toArray, List.set_cons_zero, List.set_cons_succ, i64_w, i32_w]
      rfl
     refine pure_ (i := 7) (N := some 49) (v := ?_) (a' := ?_) #[true, true, true, true, true, true, true, true] rfl rfl (by kernel_rfl) (fun _ _ _ h => h) (Or.inl ⟨by rfl, ?_⟩) ?_ ?_
     rotate_left
     ·intro w'
      go_simp
      with_reducible rfl
     rotate_left
     ·simp only [Act.put, List.setIfInBounds_toArray, List.set_cons_zero, List.set_cons_succ, i64_w, i32_w]
      rfl
     refine done_ (by kernel_rfl) ?_
     have HK7 := Lib.hid hHeld
     clear hHeld HK5 hcmp
     by_cases hq0 : 0 < q
     ·rw [if_pos hq0] at hft
      have hq1 : decide (0 < q) = true := decide_eq_true hq0
      have hq2 := eq_true hq0
      have HS7 : Hid (RowAt (w7.setCells go (m * 33 + 17) s.hi.cells) w3.heap.size go co (out.set m ⟨z.v6, z.lo, s.hi⟩) ∧ Below w3.heap.size w3 (w7.setCells go (m * 33 + 17) s.hi.cells)) := by
       refine Lib.hid ⟨?_, setCells_below _ go w3 HK7.out.2.1.hb _ _ _ HK7.out.2.2.2⟩
       have := HK7.out.2.1.setHi hml s.hi
       rwa [← HZ.out] at this
      go_wp2_with (first
       | ((with_reducible refine at_dst 52 ?_); refine loadA s.hi gs 17 rfl (by have := rhi_of_s HK7.out.1.rs; rwa [Nat.zero_add] at this) ?_)
       | (refine wpList_store_mid rfl 28 (.tmp 54) (.tmp 52) rfl go (m * 33 + 17) s.hi.arr rfl rfl (HK7.out.2.1.there (by rw [s.hi.arr_size]; have := HK7.out.2.1.hl; omega)) (by rw [s.hi.arr_size]; exact infoA) s.hi.arr_one ?_))
      go_roundw
      case rel => exact ⟨k + 1, by omega, by go_num, Lib.hid ⟨by
       rw [HFT.out, hft]
       have := HS7.out.1.R
       rwa [List.length_set] at this, HS7.out.2⟩⟩
      case measure => simp [intOf]; omega
     ·rw [if_neg hq0] at hft
      have hq1 : decide (0 < q) = false := decide_eq_false hq0
      have hq2 := eq_false hq0
      go_wp2
      go_roundw
      case rel => exact ⟨k + 1, by omega, by go_num, Lib.hid ⟨by rw [HFT.out, hft]; exact HK7.out.2.1.R, HK7.out.2.2.2⟩⟩
      case measure => simp [intOf]; omega
  ·have hkn : k = d.length := by omega
   subst hkn
   have hd1 := eq_false (show ¬ (d.length : Int) < (d.length : Int) by omega)
   have hd2 : decide ((d.length : Int) < (d.length : Int)) = false := decide_eq_false (by omega)
   have hd3 : decide (d.length < d.length) = false := decide_eq_false (by omega)
   obtain ⟨Ao, co, hov, hco, hCO⟩ := Kd.R_reads HX.out.1
   subst hov
   go_wp2
   go_ret
   have hR := HX.out.1
   rw [List.take_length] at hR
   rw [List.take_length]
   exact ⟨_, d, rfl, HP.out.1, HP.out.2.1, Kd.R_lower hR HB3.out.size, HB3.out.trans (HX.out.2.mono HB3.out.size)⟩

end Go.Proofs.Ytdioagebkfdkhaa.Ad
end

section
set_option linter.unusedVariables false
set_option linter.unusedSimpArgs false
namespace Go.Proofs.Ytdioagebkfdkhaa.Ad
open Go.RowKit Go.Proofs.YtdioagebkfdkhaaW.PrintWords Go.Proofs.YtdioagebkfdkhaaW.PrintLast Go.Proofs.YtdioagebkfdkhaaW.PrintMore Go.Proofs.Ytdioagebkfdkhaa.PT

def sameL (a b : List Spn) : Bool := decide (a = b)
set_option maxHeartbeats 2000000 in
set_option maxRecDepth 100000 in
theorem sameS_walk (A : Option Addr) (c : Nat) (l : List Spn) (A' : Option Addr) (c' : Nat) (l' : List Spn) (w : World)
 (h : kS.C w A l.length l) (h' : kS.C w A' l'.length l') (hl : l.length ≤ 140737488355328) (hl' : l'.length ≤ 140737488355328) :
 Calls Try.prog 8 #[.slice A l.length c, .slice A' l'.length c'] w fun e w' => e = .returned (.bool (sameL l l')) ∧ Gw w w' := by
 obtain ⟨r, hr⟩ : ∃ r, r = sameL l l' := ⟨_, rfl⟩
 rw [← hr]
 have HR := Lib.hid hr
 clear hr
 by_cases hlen : l.length = l'.length
 ·have HC := Lib.hid (And.intro h h')
  clear h h'
  have HL := Lib.hid hlen
  have e1 : ((l.length : Int) != (l'.length : Int)) = false := by rw [hlen]; simp
  have e2 : ((l.length : Int) == (l'.length : Int)) = true := by rw [hlen]; simp
  have e3 : (l.length != l'.length) = false := by rw [hlen]; simp
  have e4 : (l.length == l'.length) = true := by rw [hlen]; simp
  clear hlen
  go_enter Try.func8, Try.ntmps8
  go_wp2
  clear e1 e2 e3 e4
  go_loopw [5] (fun iv wr => ∃ k : Nat, k ≤ l.length ∧ iv = .int .i64 k ∧ Hid ((∀ j (h1 : j < l.length) (h2 : j < l'.length), j < k → l[j] = l'[j]) ∧ Gw w wr)) (fun iv _ => l.length - (intOf iv).toNat)
  case atStart => exact ⟨0, Nat.zero_le _, rfl, Lib.hid ⟨fun j _ _ h => by omega, Gw.refl _⟩⟩
  case round =>
   obtain ⟨k, hk, rfl, H⟩ := hrel
   by_cases hlt : k < l.length
   ·have hlt' : k < l'.length := by have := HL.out; omega
    obtain ⟨b, o, hA, hR⟩ := C_form (Kd.C_below HC.out.1 H.out.2.below) (by omega)
    obtain ⟨b', o', hA', hR'⟩ := C_form (Kd.C_below HC.out.2 H.out.2.below) (by omega)
    subst hA hA'
    have q0 := Lib.hid (hR k hlt)
    have q1 := Lib.hid (hR' k hlt')
    clear hR hR'
    have hd1 := eq_true (show (k : Int) < (l.length : Int) by omega)
    have hd2 : decide ((k : Int) < (l.length : Int)) = true := decide_eq_true (by omega)
    have hd3 : decide (k < l.length) = true := decide_eq_true hlt
    have hi1 := eq_true (show (k : Int) < (l'.length : Int) by omega)
    go_wp2
    have HD := H.out.2.drew
    have q0' : wr.drew.rangeAt b (o + k * 33) l[k].cells := q0.out
    have q1' : wr.drew.rangeAt b' (o' + k * 33) l'[k].cells := q1.out
    obtain ⟨x, hx⟩ : ∃ x, x = l[k] := ⟨_, rfl⟩
    obtain ⟨y, hy⟩ : ∃ y, y = l'[k] := ⟨_, rfl⟩
    rw [← hx] at q0'
    rw [← hy] at q1'
    have HXY := Lib.hid (And.intro hx hy)
    clear hx hy
    obtain ⟨z, hz⟩ : ∃ z, z = !decide (x = y) := ⟨_, rfl⟩
    have hnq : ∀ W, (binOp .neq 30 (.agg x.arr) (.agg y.arr)).run Try.prog W = .ok (.bool z) W := fun W => by rw [hz]; exact neqS W _ _
    have HZ := Lib.hid hz
    clear hz
    refine start_ (n := 9) (S := fun W => W.rangeAt b (o + k * 33) x.cells ∧ W.rangeAt b' (o' + k * 33) y.cells ∧ Gw w W) (ds := []) #[false, false, false, false, false, false, false, false, false] (by kernel_rfl) rfl rfl ⟨q0', q1', HD⟩ (fun hHeld => ?_)
    refine pure_ (i := 0) (N := some 17) (v := ?_) (a' := ?_) #[true, false, false, false, false, false, false, false, false] rfl rfl (by kernel_rfl) (fun _ _ _ h => h) (Or.inl ⟨by rfl, ?_⟩) ?_ ?_
    rotate_left
    ·intro w'
     go_simp
     with_reducible rfl
    rotate_left
    ·simp only [Act.put, List.setIfInBounds_toArray, List.set_cons_zero, List.set_cons_succ, i64_w, i32_w]
     rfl
    refine pure_ (i := 1) (N := some 18) (v := ?_) (a' := ?_) #[true, true, false, false, false, false, false, false, false] rfl rfl (by kernel_rfl) (fun _ _ _ h => h) (Or.inl ⟨by rfl, ?_⟩) ?_ ?_
    rotate_left
    ·intro w'
     go_simp
     with_reducible rfl
    rotate_left
    ·simp only [Act.put, List.setIfInBounds_toArray, List.set_cons_zero, List.set_cons_succ, i64_w, i32_w]
     rfl
    refine pure_ (i := 2) (N := some 19) (v := ?_) (a' := ?_) #[true, true, true, false, false, false, false, false, false] rfl rfl (by kernel_rfl) (fun _ _ _ h => h) (Or.inl ⟨by rfl, ?_⟩) ?_ ?_
    rotate_left
    ·intro w'
     go_simp
     with_reducible rfl
    rotate_left
    ·simp only [Act.put, List.setIfInBounds_toArray, List.set_cons_zero, List.set_cons_succ, i64_w, i32_w]
     rfl
    refine pure_ (i := 4) (N := some 21) (v := ?_) (a' := ?_) #[true, true, true, false, true, false, false, false, false] rfl rfl (by kernel_rfl) (fun _ _ _ h => h) (Or.inl ⟨by rfl, ?_⟩) ?_ ?_
    rotate_left
    ·intro w'
     go_simp
     with_reducible rfl
    rotate_left
    ·simp only [Act.put, List.setIfInBounds_toArray, List.set_cons_zero, List.set_cons_succ, i64_w, i32_w]
     rfl
    refine pure_ (i := 5) (N := some 22) (v := ?_) (a' := ?_) #[true, true, true, false, true, true, false, false, false] rfl rfl (by kernel_rfl) (fun _ _ _ h => h) (Or.inl ⟨by rfl, ?_⟩) ?_ ?_
    rotate_left
    ·intro w'
     go_simp
     with_reducible rfl
    rotate_left
    ·simp only [Act.put, List.setIfInBounds_toArray, List.set_cons_zero, List.set_cons_succ, i64_w, i32_w]
     rfl
    refine pure_ (i := 6) (N := some 23) (v := ?_) (a' := ?_) #[true, true, true, false, true, true, true, false, false] rfl rfl (by kernel_rfl) (fun _ _ _ h => h) (Or.inl ⟨by rfl, ?_⟩) ?_ ?_
    rotate_left
    ·intro w'
     go_simp
     with_reducible rfl
    rotate_left
    ·simp only [Act.put, List.setIfInBounds_toArray, List.set_cons_zero, List.set_cons_succ, i64_w, i32_w]
     rfl
    refine take_ (i := 3) (N := some 20) (v := .agg x.arr) (a' := ?_) #[true, true, true, true, true, true, true, false, false] rfl rfl (by kernel_rfl) (fun _ _ _ h => h) ?_ hHeld ?_ ?_
    ·exact yS (by rfl) rfl x b (o + k * 33) rfl (fun W h => h.1)
    rotate_left
    ·simp only [Act.put, List.setIfInBounds_toArray, List.set_cons_zero, List.set_cons_succ, i64_w, i32_w]
     rfl
    refine take_ (i := 7) (N := some 24) (v := .agg y.arr) (a' := ?_) #[true, true, true, true, true, true, true, true, false] rfl rfl (by kernel_rfl) (fun _ _ _ h => h) ?_ hHeld ?_ ?_
    ·exact yS (by rfl) rfl y b' (o' + k * 33) rfl (fun W h => h.2.1)
    rotate_left
    ·simp only [Act.put, List.setIfInBounds_toArray, List.set_cons_zero, List.set_cons_succ, i64_w, i32_w]
     rfl
    refine pure_ (i := 8) (N := some 25) (v := ?_) (a' := ?_) #[true, true, true, true, true, true, true, true, true] rfl rfl (by kernel_rfl) (fun _ _ _ h => h) (Or.inl ⟨by rfl, ?_⟩) ?_ ?_
    rotate_left
    ·intro w'
     go_simp
     with_reducible rfl
    rotate_left
    ·simp only [Act.put, List.setIfInBounds_toArray, List.set_cons_zero, List.set_cons_succ, i64_w, i32_w]
     rfl
    refine done_ (by kernel_rfl) ?_
    have HN := Lib.hid (And.intro H.out.1 hHeld.2.2)
    clear H HD hHeld q0' q1' q0 q1
    clear hnq
    cases z
    ·have HE : Hid (x = y) := Lib.hid (by have := HZ.out; simpa using this)
     go_wp2
     go_roundw
     case rel => exact ⟨k + 1, by omega, by go_num, Lib.hid ⟨fun j h1 h2 hj => by
      by_cases hjk : j = k
      ·subst hjk; rw [← HXY.out.1, ← HXY.out.2]; exact HE.out
      ·exact HN.out.1 j h1 h2 (by omega), HN.out.2⟩⟩
     case measure => simp [intOf]; omega
    ·have hxy : ¬ x = y := by have := HZ.out; simpa using this
     have hres : r = false := by
      rw [HR.out]
      unfold sameL
      rw [decide_eq_false_iff_not]
      intro he
      apply hxy
      rw [HXY.out.1, HXY.out.2]
      subst he
      rfl
     subst hres
     clear hxy
     go_wp2
     go_ret
     exact ⟨rfl, HN.out.2⟩
   ·have hkn : k = l.length := by omega
    have hd2 : decide ((k : Int) < (l.length : Int)) = false := decide_eq_false (by omega)
    have hd3 : decide (k < l.length) = false := decide_eq_false hlt
    have hd1 := eq_false (show ¬ (k : Int) < (l.length : Int) by omega)
    have hres : r = true := by
     rw [HR.out]
     unfold sameL
     rw [decide_eq_true_iff]
     exact List.ext_getElem HL.out (fun j h1 h2 => H.out.1 j h1 h2 (by omega))
    subst hres
    go_wp2
    go_ret
    exact ⟨rfl, H.out.2⟩
 ·have hres : r = false := by
   rw [HR.out]
   unfold sameL
   rw [decide_eq_false_iff_not]
   intro he
   exact hlen (by rw [he])
  subst hres
  have e1 : ((l.length : Int) != (l'.length : Int)) = true := by simp; omega
  have e2 : ((l.length : Int) == (l'.length : Int)) = false := by simp; omega
  have e3 : (l.length != l'.length) = true := by simpa using hlen
  have e4 : (l.length == l'.length) = false := by simpa using hlen
  go_enter Try.func8, Try.ntmps8
  go_wp2
  go_ret
  exact ⟨rfl, Gw.refl _⟩

set_option maxHeartbeats 2000000 in
set_option maxRecDepth 100000 in
theorem equalS_walk (A : Option Addr) (c : Nat) (l : List Spn) (A' : Option Addr) (c' : Nat) (l' : List Spn) (w : World)
 (h : kS.C w A l.length l) (h' : kS.C w A' l'.length l') (hl : l.length ≤ 140737488355328) (hl' : l'.length ≤ 140737488355328) :
 Calls Try.prog 33 #[.slice A l.length c, .slice A' l'.length c'] w fun e w' => e = .returned (.bool (sameL l l')) ∧ Gw w w' := by
 obtain ⟨r, hr⟩ : ∃ r, r = sameL l l' := ⟨_, rfl⟩
 rw [← hr]
 have HR := Lib.hid hr
 clear hr
 by_cases hlen : l.length = l'.length
 ·have HC := Lib.hid (And.intro h h')
  clear h h'
  have HL := Lib.hid hlen
  have e1 : ((l.length : Int) != (l'.length : Int)) = false := by rw [hlen]; simp
  have e2 : ((l.length : Int) == (l'.length : Int)) = true := by rw [hlen]; simp
  have e3 : (l.length != l'.length) = false := by rw [hlen]; simp
  have e4 : (l.length == l'.length) = true := by rw [hlen]; simp
  clear hlen
  go_enter Try.func33, Try.ntmps33
  go_wp2
  clear e1 e2 e3 e4
  go_loopw [13] (fun iv wr => ∃ k : Nat, k ≤ l.length ∧ iv = .int .i64 k ∧ Hid ((∀ j (h1 : j < l.length) (h2 : j < l'.length), j < k → l[j] = l'[j]) ∧ Gw w wr)) (fun iv _ => l.length - (intOf iv).toNat)
  case atStart => exact ⟨0, Nat.zero_le _, rfl, Lib.hid ⟨fun j _ _ h => by omega, Gw.refl _⟩⟩
  case round =>
   obtain ⟨k, hk, rfl, H⟩ := hrel
   by_cases hlt : k < l.length
   ·have hlt' : k < l'.length := by have := HL.out; omega
    obtain ⟨b, o, hA, hR⟩ := C_form (Kd.C_below HC.out.1 H.out.2.below) (by omega)
    obtain ⟨b', o', hA', hR'⟩ := C_form (Kd.C_below HC.out.2 H.out.2.below) (by omega)
    subst hA hA'
    have q0 := Lib.hid (hR k hlt)
    have q1 := Lib.hid (hR' k hlt')
    clear hR hR'
    have hd1 := eq_true (show (k : Int) < (l.length : Int) by omega)
    have hd2 : decide ((k : Int) < (l.length : Int)) = true := decide_eq_true (by omega)
    have hd3 : decide (k < l.length) = true := decide_eq_true hlt
    have hi1 := eq_true (show (k : Int) < (l'.length : Int) by omega)
    go_wp2
    have HD := H.out.2.drew
    have q0' : wr.drew.rangeAt b (o + k * 33) l[k].cells := q0.out
    have q1' : wr.drew.rangeAt b' (o' + k * 33) l'[k].cells := q1.out
    obtain ⟨x, hx⟩ : ∃ x, x = l[k] := ⟨_, rfl⟩
    obtain ⟨y, hy⟩ : ∃ y, y = l'[k] := ⟨_, rfl⟩
    rw [← hx] at q0'
    rw [← hy] at q1'
    have HXY := Lib.hid (And.intro hx hy)
    clear hx hy
    obtain ⟨z, hz⟩ : ∃ z, z = !decide (x = y) := ⟨_, rfl⟩
    have hnq : ∀ W, (binOp .neq 30 (.agg x.arr) (.agg y.arr)).run Try.prog W = .ok (.bool z) W := fun W => by rw [hz]; exact neqS W _ _
    have HZ := Lib.hid hz
    clear hz
    refine start_ (n := 9) (S := fun W => W.rangeAt b (o + k * 33) x.cells ∧ W.rangeAt b' (o' + k * 33) y.cells ∧ Gw w W) (ds := []) #[false, false, false, false, false, false, false, false, false] (by kernel_rfl) rfl rfl ⟨q0', q1', HD⟩ (fun hHeld => ?_)
    refine pure_ (i := 0) (N := some 16) (v := ?_) (a' := ?_) #[true, false, false, false, false, false, false, false, false] rfl rfl (by kernel_rfl) (fun _ _ _ h => h) (Or.inl ⟨by rfl, ?_⟩) ?_ ?_
    rotate_left
    ·intro w'
     go_simp
     with_reducible rfl
    rotate_left
    ·simp only [Act.put, List.setIfInBounds_toArray, List.set_cons_zero, List.set_cons_succ, i64_w, i32_w]
     rfl
    refine pure_ (i := 1) (N := some 17) (v := ?_) (a' := ?_) #[true, true, false, false, false, false, false, false, false] rfl rfl (by kernel_rfl) (fun _ _ _ h => h) (Or.inl ⟨by rfl, ?_⟩) ?_ ?_
    rotate_left
    ·intro w'
     go_simp
     with_reducible rfl
    rotate_left
    ·simp only [Act.put, List.setIfInBounds_toArray, List.set_cons_zero, List.set_cons_succ, i64_w, i32_w]
     rfl
    refine pure_ (i := 2) (N := some 18) (v := ?_) (a' := ?_) #[true, true, true, false, false, false, false, false, false] rfl rfl (by kernel_rfl) (fun _ _ _ h => h) (Or.inl ⟨by rfl, ?_⟩) ?_ ?_
    rotate_left
    ·intro w'
     go_simp
     with_reducible rfl
    rotate_left
    ·simp only [Act.put, List.setIfInBounds_toArray, List.set_cons_zero, List.set_cons_succ, i64_w, i32_w]
     rfl
    refine pure_ (i := 4) (N := some 20) (v := ?_) (a' := ?_) #[true, true, true, false, true, false, false, false, false] rfl rfl (by kernel_rfl) (fun _ _ _ h => h) (Or.inl ⟨by rfl, ?_⟩) ?_ ?_
    rotate_left
    ·intro w'
     go_simp
     with_reducible rfl
    rotate_left
    ·simp only [Act.put, List.setIfInBounds_toArray, List.set_cons_zero, List.set_cons_succ, i64_w, i32_w]
     rfl
    refine pure_ (i := 5) (N := some 21) (v := ?_) (a' := ?_) #[true, true, true, false, true, true, false, false, false] rfl rfl (by kernel_rfl) (fun _ _ _ h => h) (Or.inl ⟨by rfl, ?_⟩) ?_ ?_
    rotate_left
    ·intro w'
     go_simp
     with_reducible rfl
    rotate_left
    ·simp only [Act.put, List.setIfInBounds_toArray, List.set_cons_zero, List.set_cons_succ, i64_w, i32_w]
     rfl
    refine pure_ (i := 6) (N := some 22) (v := ?_) (a' := ?_) #[true, true, true, false, true, true, true, false, false] rfl rfl (by kernel_rfl) (fun _ _ _ h => h) (Or.inl ⟨by rfl, ?_⟩) ?_ ?_
    rotate_left
    ·intro w'
     go_simp
     with_reducible rfl
    rotate_left
    ·simp only [Act.put, List.setIfInBounds_toArray, List.set_cons_zero, List.set_cons_succ, i64_w, i32_w]
     rfl
    refine take_ (i := 3) (N := some 19) (v := .agg x.arr) (a' := ?_) #[true, true, true, true, true, true, true, false, false] rfl rfl (by kernel_rfl) (fun _ _ _ h => h) ?_ hHeld ?_ ?_
    ·exact yS (by rfl) rfl x b (o + k * 33) rfl (fun W h => h.1)
    rotate_left
    ·simp only [Act.put, List.setIfInBounds_toArray, List.set_cons_zero, List.set_cons_succ, i64_w, i32_w]
     rfl
    refine take_ (i := 7) (N := some 23) (v := .agg y.arr) (a' := ?_) #[true, true, true, true, true, true, true, true, false] rfl rfl (by kernel_rfl) (fun _ _ _ h => h) ?_ hHeld ?_ ?_
    ·exact yS (by rfl) rfl y b' (o' + k * 33) rfl (fun W h => h.2.1)
    rotate_left
    ·simp only [Act.put, List.setIfInBounds_toArray, List.set_cons_zero, List.set_cons_succ, i64_w, i32_w]
     rfl
    refine pure_ (i := 8) (N := some 24) (v := ?_) (a' := ?_) #[true, true, true, true, true, true, true, true, true] rfl rfl (by kernel_rfl) (fun _ _ _ h => h) (Or.inl ⟨by rfl, ?_⟩) ?_ ?_
    rotate_left
    ·intro w'
     go_simp
     with_reducible rfl
    rotate_left
    ·simp only [Act.put, List.setIfInBounds_toArray, List.set_cons_zero, List.set_cons_succ, i64_w, i32_w]
     rfl
    refine done_ (by kernel_rfl) ?_
    have HN := Lib.hid (And.intro H.out.1 hHeld.2.2)
    clear H HD hHeld q0' q1' q0 q1
    clear hnq
    cases z
    ·have HE : Hid (x = y) := Lib.hid (by have := HZ.out; simpa using this)
     go_wp2
     go_roundw
     case rel => exact ⟨k + 1, by omega, by go_num, Lib.hid ⟨fun j h1 h2 hj => by
      by_cases hjk : j = k
      ·subst hjk; rw [← HXY.out.1, ← HXY.out.2]; exact HE.out
      ·exact HN.out.1 j h1 h2 (by omega), HN.out.2⟩⟩
     case measure => simp [intOf]; omega
    ·have hxy : ¬ x = y := by have := HZ.out; simpa using this
     have hres : r = false := by
      rw [HR.out]
      unfold sameL
      rw [decide_eq_false_iff_not]
      intro he
      apply hxy
      rw [HXY.out.1, HXY.out.2]
      subst he
      rfl
     subst hres
     clear hxy
     go_wp2
     go_ret
     exact ⟨rfl, HN.out.2⟩
   ·have hkn : k = l.length := by omega
    have hd2 : decide ((k : Int) < (l.length : Int)) = false := decide_eq_false (by omega)
    have hd3 : decide (k < l.length) = false := decide_eq_false hlt
    have hd1 := eq_false (show ¬ (k : Int) < (l.length : Int) by omega)
    have hres : r = true := by
     rw [HR.out]
     unfold sameL
     rw [decide_eq_true_iff]
     exact List.ext_getElem HL.out (fun j h1 h2 => H.out.1 j h1 h2 (by omega))
    subst hres
    go_wp2
    go_ret
    exact ⟨rfl, H.out.2⟩
 ·have hres : r = false := by
   rw [HR.out]
   unfold sameL
   rw [decide_eq_false_iff_not]
   intro he
   exact hlen (by rw [he])
  subst hres
  have e1 : ((l.length : Int) != (l'.length : Int)) = true := by simp; omega
  have e2 : ((l.length : Int) == (l'.length : Int)) = false := by simp; omega
  have e3 : (l.length != l'.length) = true := by simpa using hlen
  have e4 : (l.length == l'.length) = false := by simpa using hlen
  go_enter Try.func33, Try.ntmps33
  go_wp2
  go_ret
  exact ⟨rfl, Gw.refl _⟩

end Go.Proofs.Ytdioagebkfdkhaa.Ad
end

namespace Go.Proofs.Ytdioagebkfdkhaa.Itv

abbrev R := Int × Int
def mem (l : List R) (n : Int) : Prop := ∃ r, r ∈ l ∧ r.1 ≤ n ∧ n ≤ r.2
/-- Rising, each with at least one number, with gaps between. -/
def Canon : List R → Prop
 | [] => True
 | r :: l => r.1 ≤ r.2 ∧ (∀ s, s ∈ l → r.2 + 1 < s.1) ∧ Canon l

theorem mem_nil (n : Int) : ¬ mem [] n := by rintro ⟨r, h, _⟩; cases h
theorem mem_cons (r : R) (l : List R) (n : Int) : mem (r :: l) n ↔ (r.1 ≤ n ∧ n ≤ r.2) ∨ mem l n := by
 constructor
 ·rintro ⟨s, hs, h⟩
  rcases List.mem_cons.1 hs with rfl | hs
  ·exact .inl h
  ·exact .inr ⟨s, hs, h⟩
 ·rintro (h | ⟨s, hs, h⟩)
  ·exact ⟨r, List.mem_cons_self, h⟩
  ·exact ⟨s, List.mem_cons_of_mem _ hs, h⟩
theorem mem_append (a b : List R) (n : Int) : mem (a ++ b) n ↔ mem a n ∨ mem b n := by
 constructor
 ·rintro ⟨s, hs, h⟩
  rcases List.mem_append.1 hs with hs | hs
  ·exact .inl ⟨s, hs, h⟩
  ·exact .inr ⟨s, hs, h⟩
 ·rintro (⟨s, hs, h⟩ | ⟨s, hs, h⟩)
  ·exact ⟨s, List.mem_append_left _ hs, h⟩
  ·exact ⟨s, List.mem_append_right _ hs, h⟩
theorem mem_perm {a b : List R} (h : a.Perm b) (n : Int) : mem a n ↔ mem b n :=
 ⟨fun ⟨r, hr, k⟩ => ⟨r, h.mem_iff.1 hr, k⟩, fun ⟨r, hr, k⟩ => ⟨r, h.mem_iff.2 hr, k⟩⟩

theorem canon_ge {r : R} {l : List R} (h : Canon (r :: l)) {n : Int} (hn : mem (r :: l) n) : r.1 ≤ n := by
 rcases (mem_cons r l n).1 hn with h1 | ⟨s, hs, h1⟩
 ·exact h1.1
 ·have := h.2.1 s hs
  have := h.1
  omega
theorem canon_gap {r : R} {l : List R} (h : Canon (r :: l)) : ¬ mem (r :: l) (r.2 + 1) := by
 intro hn
 rcases (mem_cons r l _).1 hn with h1 | ⟨s, hs, h1⟩
 ·omega
 ·have := h.2.1 s hs
  omega
theorem canon_tail {r : R} {l : List R} (h : Canon (r :: l)) (n : Int) : mem l n ↔ mem (r :: l) n ∧ r.2 < n := by
 constructor
 ·rintro ⟨s, hs, h1⟩
  exact ⟨⟨s, List.mem_cons_of_mem _ hs, h1⟩, by have := h.2.1 s hs; omega⟩
 ·rintro ⟨hn, h1⟩
  rcases (mem_cons r l n).1 hn with h2 | h2
  ·omega
  ·exact h2
/-- There is one such list of a set of numbers. -/
theorem canon_unique : ∀ (a b : List R), Canon a → Canon b → (∀ n, mem a n ↔ mem b n) → a = b
 | [], [], _, _, _ => rfl
 | [], s :: b, _, hb, h => absurd ((h s.1).2 ⟨s, List.mem_cons_self, Int.le_refl _, hb.1⟩) (mem_nil _)
 | r :: a, [], ha, _, h => absurd ((h r.1).1 ⟨r, List.mem_cons_self, Int.le_refl _, ha.1⟩) (mem_nil _)
 | r :: a, s :: b, ha, hb, h => by
  have h1 : s.1 ≤ r.1 := canon_ge hb ((h r.1).1 ⟨r, List.mem_cons_self, Int.le_refl _, ha.1⟩)
  have h2 : r.1 ≤ s.1 := canon_ge ha ((h s.1).2 ⟨s, List.mem_cons_self, Int.le_refl _, hb.1⟩)
  have h3 : ¬ r.2 < s.2 := fun hlt => canon_gap ha ((h _).2 ⟨s, List.mem_cons_self, by have := ha.1; omega, by omega⟩)
  have h4 : ¬ s.2 < r.2 := fun hlt => canon_gap hb ((h _).1 ⟨r, List.mem_cons_self, by have := hb.1; omega, by omega⟩)
  have e : r = s := Prod.ext (by omega) (by omega)
  subst e
  have := canon_unique a b ha.2.2 hb.2.2 (fun n => by rw [canon_tail ha n, canon_tail hb n, h n])
  rw [this]
theorem canon_snoc (l : List R) (r : R) : Canon (l ++ [r]) ↔ Canon l ∧ r.1 ≤ r.2 ∧ ∀ s, s ∈ l → s.2 + 1 < r.1 := by
 induction l with
 | nil => simp [Canon]
 | cons a l ih =>
  simp only [List.cons_append, Canon, ih, List.mem_append, List.mem_cons, List.not_mem_nil, or_false]
  constructor
  ·rintro ⟨h1, h2, h3, h4, h5⟩
   exact ⟨⟨h1, fun s hs => h2 s (.inl hs), h3⟩, h4, fun s hs => hs.elim (fun e => e ▸ h2 r (.inr rfl)) (h5 s)⟩
  ·rintro ⟨⟨h1, h2, h3⟩, h4, h5⟩
   exact ⟨h1, fun s hs => hs.elim (h2 s) (fun e => e ▸ h5 a (.inl rfl)), h3, h4, fun s hs => h5 s (.inr hs)⟩
def M : Int := 2 ^ 160
def Okk (l : List R) : Prop := ∀ r, r ∈ l → 0 ≤ r.1 ∧ r.1 ≤ M ∧ 0 ≤ r.2 ∧ r.2 ≤ M
def lastR (out : List R) : R := out.getD (out.length - 1) (0, 0)
def step (out : List R) (r : R) : List R :=
 if r.2 < r.1 then out
 else if 0 < out.length ∧ r.1 ≤ (lastR out).2 + 1 then out.set (out.length - 1) ((lastR out).1, max (lastR out).2 r.2)
 else out ++ [r]
theorem snoc_of {out : List R} (h : 0 < out.length) : ∃ init, out = init ++ [lastR out] := by
 refine ⟨out.take (out.length - 1), ?_⟩
 have e : out.drop (out.length - 1) = [lastR out] := by
  rw [List.drop_eq_getElem_cons (by omega), List.drop_of_length_le (by omega)]
  simp [lastR, List.getD_eq_getElem?_getD, List.getElem?_eq_getElem (show out.length - 1 < out.length by omega)]
 rw [← e]
 exact (List.take_append_drop _ _).symm
theorem set_last (init : List R) (a b : R) : (init ++ [a]).set ((init ++ [a]).length - 1) b = init ++ [b] := by
 rw [List.length_append, List.length_singleton, Nat.add_sub_cancel, List.set_append_right _ _ (Nat.le_refl _), Nat.sub_self]
 rfl
theorem step_inv {out : List R} {r : R} (hc : Canon out) (hle : ∀ s, s ∈ out → s.1 ≤ r.1) (hok : Okk out) (hr : 0 ≤ r.1 ∧ r.1 ≤ M ∧ 0 ≤ r.2 ∧ r.2 ≤ M) :
 Canon (step out r) ∧ (∀ n, mem (step out r) n ↔ mem out n ∨ (r.1 ≤ n ∧ n ≤ r.2)) ∧ (∀ s, s ∈ step out r → s.1 ≤ r.1) ∧ Okk (step out r) := by
 unfold step
 by_cases h1 : r.2 < r.1
 ·rw [if_pos h1]
  exact ⟨hc, fun n => ⟨.inl, fun h => h.elim id (fun h => by omega)⟩, hle, hok⟩
 rw [if_neg h1]
 by_cases h2 : 0 < out.length ∧ r.1 ≤ (lastR out).2 + 1
 ·rw [if_pos h2]
  obtain ⟨init, he⟩ := snoc_of h2.1
  generalize lastR out = z at *
  subst he
  rw [set_last]
  have hz := hle z (by simp)
  have hzo := hok z (by simp)
  have hc2 := (canon_snoc _ _).1 hc
  refine ⟨(canon_snoc _ _).2 ⟨hc2.1, ?_, hc2.2.2⟩, fun n => ?_, fun s hs => ?_, fun s hs => ?_⟩
  ·have := hc2.2.1
   show z.1 ≤ max z.2 r.2
   omega
  ·rw [mem_append, mem_append, or_assoc]
   refine or_congr Iff.rfl ?_
   rw [mem_cons, mem_cons]
   have e : ¬ mem [] n := mem_nil n
   simp only [e, or_false]
   have := hc2.2.1
   constructor
   ·intro h
    have h3 : z.1 ≤ n := h.1
    have h4 : n ≤ max z.2 r.2 := h.2
    have h5 := h2.2
    omega
   ·intro h
    show z.1 ≤ n ∧ n ≤ max z.2 r.2
    omega
  ·rcases List.mem_append.1 hs with hs | hs
   ·exact hle s (List.mem_append_left _ hs)
   ·simp at hs
    subst hs
    exact hz
  ·rcases List.mem_append.1 hs with hs | hs
   ·exact hok s (List.mem_append_left _ hs)
   ·simp at hs
    subst hs
    show 0 ≤ z.1 ∧ z.1 ≤ M ∧ 0 ≤ max z.2 r.2 ∧ max z.2 r.2 ≤ M
    omega
 ·rw [if_neg h2]
  refine ⟨(canon_snoc _ _).2 ⟨hc, by omega, fun s hs => ?_⟩, fun n => ?_, fun s hs => ?_, fun s hs => ?_⟩
  ·have hpos : 0 < out.length := List.length_pos_of_mem hs
   obtain ⟨init, he⟩ := snoc_of hpos
   have h3 : (lastR out).2 + 1 < r.1 := by
    have : ¬ r.1 ≤ (lastR out).2 + 1 := fun h => h2 ⟨hpos, h⟩
    omega
   generalize lastR out = z at *
   subst he
   have hc2 := (canon_snoc _ _).1 hc
   rcases List.mem_append.1 hs with hs | hs
   ·have := hc2.2.2 s hs
    have := hc2.2.1
    omega
   ·simp at hs
    subst hs
    exact h3
  ·rw [mem_append, mem_cons]
   have e : ¬ mem [] n := mem_nil n
   simp only [e, or_false]
  ·rcases List.mem_append.1 hs with hs | hs
   ·exact hle s hs
   ·simp at hs
    subst hs
    exact Int.le_refl _
  ·rcases List.mem_append.1 hs with hs | hs
   ·exact hok s hs
   ·simp at hs
    subst hs
    exact hr
def Rising : List R → Prop := List.Pairwise (fun a b => a.1 ≤ b.1)
theorem fold_inv : ∀ (l out : List R), Canon out → Okk out → Okk l → Rising l → (∀ s r, s ∈ out → r ∈ l → s.1 ≤ r.1) →
 Canon (l.foldl step out) ∧ (∀ n, mem (l.foldl step out) n ↔ mem out n ∨ mem l n) ∧ Okk (l.foldl step out)
 | [], out, hc, ho, _, _, _ => ⟨hc, fun n => ⟨.inl, fun h => h.elim id (fun h => absurd h (mem_nil n))⟩, ho⟩
 | r :: l, out, hc, ho, hl, hs, hle => by
  obtain ⟨h1, h2, h3, h4⟩ := step_inv hc (fun s h => hle s r h List.mem_cons_self) ho (hl r List.mem_cons_self)
  have hs2 := List.pairwise_cons.1 hs
  obtain ⟨k1, k2, k3⟩ := fold_inv l (step out r) h1 h4 (fun s h => hl s (List.mem_cons_of_mem _ h)) hs2.2 (fun s t h ht => Int.le_trans (h3 s h) (hs2.1 t ht))
  refine ⟨k1, fun n => ?_, k3⟩
  rw [List.foldl_cons, k2 n, h2 n, mem_cons, or_assoc]
def le1 (a b : R) : Bool := decide (a.1 ≤ b.1)
def join (l : List R) : List R := (l.mergeSort le1).foldl step []
theorem fold_canon {l : List R} (hl : Okk l) (hs : Rising l) : Canon (l.foldl step []) ∧ (∀ n, mem (l.foldl step []) n ↔ mem l n) ∧ Okk (l.foldl step []) := by
 obtain ⟨h1, h2, h3⟩ := fold_inv l [] trivial (fun r h => by cases h) hl hs (fun s r h => by cases h)
 exact ⟨h1, fun n => by rw [h2 n]; exact ⟨fun h => h.elim (fun h => absurd h (mem_nil n)) id, .inr⟩, h3⟩
theorem rising_sort (l : List R) : Rising (l.mergeSort le1) := by
 have := List.pairwise_mergeSort (le := le1) (fun a b c h1 h2 => by simp [le1] at *; omega) (fun a b => by simp [le1]; omega) l
 exact this.imp (fun h => by simpa [le1] using h)
theorem okk_perm {a b : List R} (h : a.Perm b) (ha : Okk a) : Okk b := fun r hr => ha r (h.mem_iff.2 hr)
theorem join_canon {l : List R} (hl : Okk l) : Canon (join l) ∧ (∀ n, mem (join l) n ↔ mem l n) ∧ Okk (join l) := by
 have hp := List.mergeSort_perm l le1
 obtain ⟨h1, h2, h3⟩ := fold_canon (okk_perm hp.symm hl) (rising_sort l)
 exact ⟨h1, fun n => by rw [show join l = (l.mergeSort le1).foldl step [] from rfl, h2 n]; exact mem_perm hp n, h3⟩
/-- Whichever way it is sorted. -/
theorem join_any {l d : List R} (hl : Okk l) (hp : d.Perm l) (hs : Rising d) : d.foldl step [] = join l := by
 obtain ⟨h1, h2, _⟩ := fold_canon (okk_perm hp.symm hl) hs
 obtain ⟨k1, k2, _⟩ := join_canon hl
 exact canon_unique _ _ h1 k1 (fun n => by rw [h2 n, k2 n]; exact mem_perm hp n)
theorem join_of {l j : List R} (hl : Okk l) (hj : Canon j) (hm : ∀ n, mem j n ↔ mem l n) : j = join l := by
 obtain ⟨k1, k2, _⟩ := join_canon hl
 exact canon_unique _ _ hj k1 (fun n => by rw [hm n, k2 n])
end Go.Proofs.Ytdioagebkfdkhaa.Itv


namespace Go.Proofs.Ytdioagebkfdkhaa.Ad
open Go.Proofs.Ytdioagebkfdkhaa

def iv (s : Spn) : Itv.R := (key s.v6 s.lo, key s.v6 s.hi)
theorem right_of {s : Spn} (h : rightS s = true) : lexC s.lo.l s.hi.l ≤ 0 ∧ nought s.v6 s.lo = true ∧ nought s.v6 s.hi = true := by
 unfold rightS at h
 simp only [Bool.and_eq_true, decide_eq_true_iff] at h
 exact ⟨h.1.1, h.1.2, h.2⟩
theorem iv_le {s : Spn} (h : rightS s = true) : (iv s).1 ≤ (iv s).2 := by
 obtain ⟨h1, h2, h3⟩ := right_of h
 exact (key_le h2 h3).2 h1
theorem right_iv {s : Spn} (h2 : nought s.v6 s.lo = true) (h3 : nought s.v6 s.hi = true) (h : (iv s).1 ≤ (iv s).2) : rightS s = true := by
 unfold rightS
 simp only [Bool.and_eq_true, decide_eq_true_iff]
 exact ⟨⟨(key_le h2 h3).1 h, h2⟩, h3⟩
theorem iv_inj {s t : Spn} (hs : rightS s = true) (ht : rightS t = true) (h : iv s = iv t) : s = t := by
 obtain ⟨_, h2, h3⟩ := right_of hs
 obtain ⟨_, k2, k3⟩ := right_of ht
 obtain ⟨e1, e2⟩ := Prod.mk.inj h
 obtain ⟨f1, f2⟩ := key_inj h2 k2 e1
 obtain ⟨_, f3⟩ := key_inj h3 k3 e2
 cases s; cases t
 simp_all
theorem key_b (v6 : Bool) (a : A16) : 0 ≤ key v6 a ∧ key v6 a < 2 ^ 140 ∧ (v6 = false → key v6 a < 2 ^ 32) ∧ (v6 = true → 2 ^ 40 ≤ key v6 a) := by
 have h1 := num_b 4 a
 have h2 := num_b 16 a
 unfold key
 cases v6
 ·exact ⟨h1.1, by show num 4 a < 2 ^ 140; omega, fun _ => by show num 4 a < 2 ^ 32; omega, fun h => by cases h⟩
 ·exact ⟨by show 0 ≤ 2 ^ 40 + num 16 a; omega, by show 2 ^ 40 + num 16 a < 2 ^ 140; omega, fun h => (by cases h), fun _ => by show 2 ^ 40 ≤ 2 ^ 40 + num 16 a; omega⟩
theorem iv_ok (l : List Spn) : Itv.Okk (l.map iv) := fun r hr => by
 obtain ⟨s, _, rfl⟩ := List.mem_map.1 hr
 have h1 := key_b s.v6 s.lo
 have h2 := key_b s.v6 s.hi
 unfold Itv.M iv
 dsimp only
 omega
theorem num_key {s t : Spn} (hs : rightS s = true) (ht : rightS t = true) : numS s ≤ numS t ↔ (iv s).1 ≤ (iv t).1 := by
 obtain ⟨_, h2, _⟩ := right_of hs
 obtain ⟨_, k2, _⟩ := right_of ht
 have a1 := num_b 16 s.lo
 have a2 := num_b 16 t.lo
 have b1 := key_b s.v6 s.lo
 have b2 := key_b t.v6 t.lo
 unfold numS iv
 dsimp only
 cases hv : s.v6 <;> cases hw : t.v6
 ·rw [hv] at h2; rw [hw] at k2
  unfold key
  rw [num_four s.lo (nought_iff.1 h2 rfl), num_four t.lo (nought_iff.1 k2 rfl)]
  simp only [Bool.false_eq_true, if_false]
  omega
 ·have c1 := b1.2.2.1 hv
  have c2 := b2.2.2.2 hw
  rw [hv] at c1; rw [hw] at c2
  simp only [Bool.false_eq_true, if_false, if_true]
  constructor
  ·intro _; omega
  ·intro _; omega
 ·have c1 := b1.2.2.2 hv
  have c2 := b2.2.2.1 hw
  rw [hv] at c1; rw [hw] at c2
  simp only [Bool.false_eq_true, if_false, if_true]
  constructor
  ·intro _; omega
  ·intro _; omega
 ·unfold key
  simp only [if_true]
  omega
theorem touch_iv {s t : Spn} (hs : rightS s = true) (ht : rightS t = true) (hst : numS s ≤ numS t) : touchS s t = true ↔ (iv t).1 ≤ (iv s).2 + 1 := by
 obtain ⟨_, h2, h3⟩ := right_of hs
 obtain ⟨_, k2, k3⟩ := right_of ht
 have b1 := key_b s.v6 s.hi
 have b2 := key_b t.v6 t.lo
 have b3 := key_b s.v6 s.lo
 have hk := (num_key hs ht).1 hst
 unfold touchS
 rw [Bool.and_eq_true, decide_eq_true_iff, Bool.or_eq_true, Bool.not_eq_true', decide_eq_true_iff]
 by_cases e : s.v6 = t.v6
 ·simp only [e, true_and]
  rw [← e] at k2 k3 b2 ⊢
  have hn := next_key (v6 := s.v6) (a := s.hi)
  have hnn := next_nought h3
  unfold iv
  dsimp only
  rw [← e]
  cases hb : (nextP s.v6 s.hi).2
  ·have := hn.2 hb
   have hm := num_b 16 t.lo
   have hm4 := num_b 4 t.lo
   have : key s.v6 t.lo ≤ key s.v6 s.hi := by
    rw [this]
    unfold key
    cases s.v6
    ·simp only [Bool.false_eq_true, if_false]; omega
    ·simp only [if_true]; omega
   constructor
   ·intro _; omega
   ·intro _; exact .inl rfl
  ·have := hn.1 hb
   rw [← key_le k2 hnn, this]
   simp
 ·constructor
  ·rintro ⟨h, _⟩; exact absurd h e
  ·intro h
   exfalso
   unfold iv at h hk
   dsimp only at h hk
   cases hv : s.v6 <;> cases hw : t.v6
   ·rw [hv, hw] at e; exact e rfl
   ·have c1 := b1.2.2.1 hv
    have c2 := b2.2.2.2 hw
    omega
   ·have c1 := b3.2.2.2 hv
    have c2 := b2.2.2.1 hw
    omega
   ·rw [hv, hw] at e; exact e rfl
theorem lastS_mem {out : List Spn} (h : 0 < out.length) : lastS out ∈ out := by
 unfold lastS
 rw [List.getD_eq_getElem?_getD, List.getElem?_eq_getElem (by omega)]
 exact List.getElem_mem _
theorem lastR_iv {out : List Spn} (h : 0 < out.length) : Itv.lastR (out.map iv) = iv (lastS out) := by
 unfold Itv.lastR lastS
 rw [List.getD_eq_getElem?_getD, List.getD_eq_getElem?_getD, List.length_map, List.getElem?_map, List.getElem?_eq_getElem (by omega)]
 rfl
theorem step_iv {out : List Spn} {s : Spn} (hr : ∀ z ∈ out, rightS z = true) (hs : rightS s = true) (hle : ∀ z ∈ out, numS z ≤ numS s) :
 (stepS out s).map iv = Itv.step (out.map iv) (iv s) ∧ (∀ z ∈ stepS out s, rightS z = true) ∧ (∀ z ∈ stepS out s, numS z ≤ numS s) := by
 have hsl := iv_le hs
 unfold stepS Itv.step
 rw [if_neg (show ¬ (iv s).2 < (iv s).1 by omega), List.length_map]
 by_cases h0 : out.length = 0
 ·rw [if_pos h0, if_neg (by omega)]
  have e : out = [] := List.eq_nil_of_length_eq_zero h0
  subst e
  exact ⟨rfl, fun z hz => by simp at hz; subst hz; exact hs, fun z hz => by simp at hz; subst hz; exact Int.le_refl _⟩
 ·have hp : 0 < out.length := by omega
  rw [if_neg h0, lastR_iv hp]
  have hm := lastS_mem hp
  have hz := hr _ hm
  have hzs := hle _ hm
  have ht := touch_iv hz hs hzs
  have hset : (out.map iv).set (out.length - 1) (iv (lastS out)) = out.map iv := by
   have e : iv (lastS out) = (out.map iv)[out.length - 1]'(by rw [List.length_map]; omega) := by
    rw [List.getElem_map, lastS, List.getD_eq_getElem?_getD, List.getElem?_eq_getElem (by omega)]
    rfl
   rw [e, List.set_getElem_self]
  generalize lastS out = z at hm hz hzs ht hset ⊢
  by_cases htt : touchS z s = true
  ·have hc : 0 < out.length ∧ (iv s).1 ≤ (iv z).2 + 1 := ⟨hp, ht.1 htt⟩
   rw [if_pos htt, if_pos hc]
   have hv : z.v6 = s.v6 := by unfold touchS at htt; simp only [Bool.and_eq_true, decide_eq_true_iff] at htt; exact htt.1
   obtain ⟨_, n2, n3⟩ := right_of hz
   obtain ⟨_, m2, m3⟩ := right_of hs
   have hlt := key_lt (v6 := s.v6) (a := z.hi) (b := s.hi) (by rw [← hv]; exact n3) m3
   have hneg := lexC_neg z.hi.l s.hi.l
   by_cases h1 : 0 < lexC s.hi.l z.hi.l
   ·rw [if_pos h1]
    have hlt' : (iv z).2 < (iv s).2 := by unfold iv; dsimp only; rw [hv]; exact hlt.2 (by omega)
    have hzl := iv_le hz
    have e1 : iv ⟨z.v6, z.lo, s.hi⟩ = ((iv z).1, max (iv z).2 (iv s).2) := by
     rw [Int.max_eq_right (by omega)]
     unfold iv
     dsimp only
     rw [hv]
    have hnew : rightS ⟨z.v6, z.lo, s.hi⟩ = true := right_iv n2 (by show nought z.v6 s.hi = true; rw [hv]; exact m3) (by rw [e1]; show (iv z).1 ≤ max _ _; omega)
    refine ⟨by rw [List.map_set, e1], fun y hy => ?_, fun y hy => ?_⟩
    ·rcases List.mem_or_eq_of_mem_set hy with hy | rfl
     ·exact hr y hy
     ·exact hnew
    ·rcases List.mem_or_eq_of_mem_set hy with hy | rfl
     ·exact hle y hy
     ·exact hzs
   ·rw [if_neg h1]
    have hge : (iv s).2 ≤ (iv z).2 := by
     have := mt hlt.1 (by omega)
     unfold iv
     dsimp only
     rw [hv]
     omega
    refine ⟨?_, hr, hle⟩
    rw [Int.max_eq_left hge]
    exact hset.symm
  ·have hc : ¬ (0 < out.length ∧ (iv s).1 ≤ (iv z).2 + 1) := fun h => htt (ht.2 h.2)
   rw [if_neg htt, if_neg hc]
   refine ⟨by rw [List.map_append]; rfl, fun y hy => ?_, fun y hy => ?_⟩
   ·rcases List.mem_append.1 hy with hy | hy
    ·exact hr y hy
    ·simp at hy; subst hy; exact hs
   ·rcases List.mem_append.1 hy with hy | hy
    ·exact hle y hy
    ·simp at hy; subst hy; exact Int.le_refl _
theorem fold_iv : ∀ (d out : List Spn), (∀ z ∈ out, rightS z = true) → (∀ z ∈ d, rightS z = true) → d.Pairwise (fun a b => numS a ≤ numS b) → (∀ z ∈ out, ∀ s ∈ d, numS z ≤ numS s) →
 (d.foldl stepS out).map iv = (d.map iv).foldl Itv.step (out.map iv) ∧ (∀ z ∈ d.foldl stepS out, rightS z = true)
 | [], out, h, _, _, _ => ⟨rfl, h⟩
 | s :: d, out, h, hd, hp, hle => by
  have hs := hd s List.mem_cons_self
  obtain ⟨h1, h2, h3⟩ := step_iv h hs (fun z hz => hle z hz s List.mem_cons_self)
  have hp2 := List.pairwise_cons.1 hp
  have := fold_iv d (stepS out s) h2 (fun z hz => hd z (List.mem_cons_of_mem _ hz)) hp2.2 (fun z hz t ht => Int.le_trans (h3 z hz) (hp2.1 t ht))
  simp only [List.foldl_cons, List.map_cons]
  rw [← h1]
  exact this
/-- The joined list. -/
def joinS (l : List Spn) : List Spn := ((l.filter rightS).mergeSort (fun a b => decide (numS a ≤ numS b))).foldl stepS []
theorem map_iv_inj : ∀ {a b : List Spn}, (∀ z ∈ a, rightS z = true) → (∀ z ∈ b, rightS z = true) → a.map iv = b.map iv → a = b
 | [], [], _, _, _ => rfl
 | [], _ :: _, _, _, h => by simp at h
 | _ :: _, [], _, _, h => by simp at h
 | x :: a, y :: b, ha, hb, h => by
  simp only [List.map_cons, List.cons.injEq] at h
  rw [iv_inj (ha x List.mem_cons_self) (hb y List.mem_cons_self) h.1, map_iv_inj (fun z hz => ha z (List.mem_cons_of_mem _ hz)) (fun z hz => hb z (List.mem_cons_of_mem _ hz)) h.2]
theorem fold_any {l d : List Spn} (hp : d.Perm (l.filter rightS)) (hs : d.Pairwise (fun a b => numS a ≤ numS b)) :
 (d.foldl stepS []).map iv = Itv.join ((l.filter rightS).map iv) ∧ (∀ z ∈ d.foldl stepS [], rightS z = true) := by
 have hr : ∀ z ∈ d, rightS z = true := fun z hz => (List.mem_filter.1 (hp.mem_iff.1 hz)).2
 obtain ⟨h1, h2⟩ := fold_iv d [] (fun z hz => by cases hz) hr hs (fun z hz => by cases hz)
 refine ⟨?_, h2⟩
 rw [h1]
 refine Itv.join_any (iv_ok _) (hp.map iv) ?_
 show (d.map iv).Pairwise _
 rw [List.pairwise_map]
 exact hs.imp_of_mem (fun {a b} ha hb h => (num_key (hr a ha) (hr b hb)).1 h)
theorem join_iv (l : List Spn) : (joinS l).map iv = Itv.join ((l.filter rightS).map iv) ∧ (∀ z ∈ joinS l, rightS z = true) := by
 refine fold_any (List.mergeSort_perm _ _) ?_
 have := List.pairwise_mergeSort (le := fun a b : Spn => decide (numS a ≤ numS b)) (fun a b c h1 h2 => by simp at *; omega) (fun a b => by simp; omega) (l.filter rightS)
 exact this.imp (fun h => by simpa using h)
/-- Whichever way it is sorted. -/
theorem fold_join {l d : List Spn} (hp : d.Perm (l.filter rightS)) (hs : d.Pairwise (fun a b => numS a ≤ numS b)) : d.foldl stepS [] = joinS l :=
 map_iv_inj (fold_any hp hs).2 (join_iv l).2 ((fold_any hp hs).1.trans (join_iv l).1.symm)
/-- An address's number is one of a list's. -/
def memS (l : List Spn) (n : Int) : Prop := Itv.mem ((l.filter rightS).map iv) n
theorem filter_all {l : List Spn} (h : ∀ z ∈ l, rightS z = true) : l.filter rightS = l := List.filter_eq_self.2 h
theorem join_canon (l : List Spn) : Itv.Canon ((joinS l).map iv) ∧ (∀ n, Itv.mem ((joinS l).map iv) n ↔ memS l n) ∧ (∀ z ∈ joinS l, rightS z = true) := by
 obtain ⟨h1, h2⟩ := join_iv l
 obtain ⟨k1, k2, _⟩ := Itv.join_canon (iv_ok (l.filter rightS))
 rw [h1]
 exact ⟨k1, k2, h2⟩
theorem join_mem (l : List Spn) (n : Int) : memS (joinS l) n ↔ memS l n := by
 obtain ⟨_, h2, h3⟩ := join_canon l
 unfold memS
 rw [filter_all h3, h2]
 rfl
/-- A list that has gaps between its spans, and just these numbers, is the joined one. -/
theorem join_of {l j : List Spn} (hr : ∀ z ∈ j, rightS z = true) (hc : Itv.Canon (j.map iv)) (hm : ∀ n, memS j n ↔ memS l n) : j = joinS l := by
 obtain ⟨k1, k2, k3⟩ := join_canon l
 refine map_iv_inj hr k3 (Itv.canon_unique _ _ hc k1 (fun n => ?_))
 rw [k2, ← hm n]
 unfold memS
 rw [filter_all hr]
theorem join_eq {a b : List Spn} : joinS a = joinS b ↔ ∀ n, memS a n ↔ memS b n := by
 constructor
 ·intro h n
  rw [← join_mem a, h, join_mem b]
 ·intro h
  obtain ⟨k1, k2, k3⟩ := join_canon a
  exact join_of k3 k1 (fun n => (join_mem a n).trans (h n))
theorem joinS_len (l : List Spn) : (joinS l).length ≤ l.length := by
 have h1 := foldS_len ((l.filter rightS).mergeSort (fun a b => decide (numS a ≤ numS b))) []
 rw [List.length_mergeSort] at h1
 have h2 := List.length_filter_le rightS l
 unfold joinS
 simp at h1
 omega
end Go.Proofs.Ytdioagebkfdkhaa.Ad


namespace Go.Proofs.Ytdioagebkfdkhaa.Ad
open Go.Proofs.Ytdioagebkfdkhaa

def inS (s : Spn) (n : Int) : Prop := (iv s).1 ≤ n ∧ n ≤ (iv s).2
theorem memS_iff {l : List Spn} {n : Int} : memS l n ↔ ∃ s, s ∈ l ∧ rightS s = true ∧ inS s n := by
 unfold memS Itv.mem
 constructor
 ·rintro ⟨r, hr, h1, h2⟩
  obtain ⟨s, hs, rfl⟩ := List.mem_map.1 hr
  obtain ⟨h3, h4⟩ := List.mem_filter.1 hs
  exact ⟨s, h3, h4, h1, h2⟩
 ·rintro ⟨s, h3, h4, h1, h2⟩
  exact ⟨iv s, List.mem_map.2 ⟨s, List.mem_filter.2 ⟨h3, h4⟩, rfl⟩, h1, h2⟩
def loS (s t : Spn) : A16 := if 0 < lexC t.lo.l s.lo.l then t.lo else s.lo
def hiS (s t : Spn) : A16 := if lexC t.hi.l s.hi.l < 0 then t.hi else s.hi
def cut2 (s t : Spn) : Spn := ⟨s.v6, loS s t, hiS s t⟩
/-- Two that may be, of one family: what they have in common, if anything. -/
theorem cut2_iv {s t : Spn} (hs : rightS s = true) (ht : rightS t = true) (hv : s.v6 = t.v6) :
 iv (cut2 s t) = (max (iv s).1 (iv t).1, min (iv s).2 (iv t).2) ∧ nought s.v6 (loS s t) = true ∧ nought s.v6 (hiS s t) = true := by
 obtain ⟨_, h2, h3⟩ := right_of hs
 obtain ⟨_, k2, k3⟩ := right_of ht
 rw [← hv] at k2 k3
 have e1 := key_lt h2 k2
 have e2 := key_lt k3 h3
 have n1 := lexC_neg s.lo.l t.lo.l
 refine ⟨Prod.ext ?_ ?_, ?_, ?_⟩
 ·unfold cut2 iv loS
  dsimp only
  rw [← hv]
  split
  ·rw [Int.max_eq_right (Int.le_of_lt (e1.2 (by omega)))]
  ·rw [Int.max_eq_left (by have := mt e1.1 (by omega); omega)]
 ·unfold cut2 iv hiS
  dsimp only
  rw [← hv]
  split
  ·rename_i h
   rw [Int.min_eq_right (Int.le_of_lt (e2.2 h))]
  ·rename_i h
   rw [Int.min_eq_left (by have := mt e2.1 h; omega)]
 ·unfold loS; split
  ·exact k2
  ·exact h2
 ·unfold hiS; split
  ·exact k3
  ·exact h3
theorem cut2_right {s t : Spn} (hs : rightS s = true) (ht : rightS t = true) (hv : s.v6 = t.v6) : rightS (cut2 s t) = decide (lexC (loS s t).l (hiS s t).l ≤ 0) := by
 obtain ⟨_, h2, h3⟩ := cut2_iv hs ht hv
 unfold rightS
 show (decide (lexC (loS s t).l (hiS s t).l ≤ 0) && nought s.v6 (loS s t) && nought s.v6 (hiS s t)) = _
 rw [h2, h3]
 simp
theorem in_cut2 {s t : Spn} (hs : rightS s = true) (ht : rightS t = true) (hv : s.v6 = t.v6) (n : Int) : (rightS (cut2 s t) = true ∧ inS (cut2 s t) n) ↔ inS s n ∧ inS t n := by
 obtain ⟨h1, h2, h3⟩ := cut2_iv hs ht hv
 unfold inS
 rw [h1]
 dsimp only
 constructor
 ·rintro ⟨_, h4, h5⟩; omega
 ·rintro ⟨⟨a1, a2⟩, b1, b2⟩
  refine ⟨right_iv h2 h3 (by rw [h1]; show max _ _ ≤ min _ _; omega), by omega, by omega⟩
theorem family {s t : Spn} {n : Int} (h1 : inS s n) (h2 : inS t n) : s.v6 = t.v6 := by
 have a1 := key_b s.v6 s.lo
 have a2 := key_b s.v6 s.hi
 have b1 := key_b t.v6 t.lo
 have b2 := key_b t.v6 t.hi
 unfold inS iv at h1 h2
 dsimp only at h1 h2
 cases hv : s.v6 <;> cases hw : t.v6
 ·rfl
 ·have := a2.2.2.1 hv
  have := b1.2.2.2 hw
  omega
 ·have := a1.2.2.2 hv
  have := b2.2.2.1 hw
  omega
 ·rfl
/-- The document's: of each of the one's and each of the other one's. -/
def pairs (a b : List Spn) : List Spn := a.flatMap fun s => b.flatMap fun t => if rightS s && rightS t && decide (s.v6 = t.v6) then [cut2 s t] else []
theorem pairs_mem (a b : List Spn) (n : Int) : memS (pairs a b) n ↔ memS a n ∧ memS b n := by
 rw [memS_iff, memS_iff, memS_iff]
 unfold pairs
 constructor
 ·rintro ⟨x, hx, hr, hi⟩
  obtain ⟨s, hs, hx⟩ := List.mem_flatMap.1 hx
  obtain ⟨t, ht, hx⟩ := List.mem_flatMap.1 hx
  split at hx
  ·rename_i h
   simp only [Bool.and_eq_true, decide_eq_true_iff] at h
   simp at hx
   subst hx
   have := (in_cut2 h.1.1 h.1.2 h.2 n).1 ⟨hr, hi⟩
   exact ⟨⟨s, hs, h.1.1, this.1⟩, t, ht, h.1.2, this.2⟩
  ·cases hx
 ·rintro ⟨⟨s, hs, h1, h2⟩, t, ht, h3, h4⟩
  have hv := family h2 h4
  have := (in_cut2 h1 h3 hv n).2 ⟨h2, h4⟩
  refine ⟨cut2 s t, List.mem_flatMap.2 ⟨s, hs, List.mem_flatMap.2 ⟨t, ht, ?_⟩⟩, this⟩
  rw [if_pos (by simp [h1, h3, hv])]
  simp
/-- What both have, joined. -/
def bothS (a b : List Spn) : List Spn := joinS (pairs a b)
def withinS (a b : List Spn) : Bool := decide (bothS a b = joinS a)
def dropA (s t : Spn) : Bool := (!s.v6 && t.v6) || (decide (s.v6 = t.v6) && decide (lexC s.hi.l t.hi.l ≤ 0))
theorem dropA_iff {s t : Spn} (hs : rightS s = true) (ht : rightS t = true) : dropA s t = true ↔ (iv s).2 ≤ (iv t).2 := by
 obtain ⟨_, _, h3⟩ := right_of hs
 obtain ⟨_, _, k3⟩ := right_of ht
 have a2 := key_b s.v6 s.hi
 have b2 := key_b t.v6 t.hi
 unfold dropA iv
 dsimp only
 cases hv : s.v6 <;> cases hw : t.v6
 ·rw [hv] at h3; rw [hw] at k3
  simpa using (key_le h3 k3).symm
 ·have := a2.2.2.1 hv
  have := b2.2.2.2 hw
  rw [hv] at *; rw [hw] at *
  simp
  omega
 ·have := a2.2.2.2 hv
  have := b2.2.2.1 hw
  rw [hv] at *; rw [hw] at *
  simp
  omega
 ·rw [hv] at h3; rw [hw] at k3
  simpa using (key_le h3 k3).symm
def common (s t : Spn) : List Spn := if s.v6 = t.v6 ∧ lexC (loS s t).l (hiS s t).l ≤ 0 then [cut2 s t] else []
theorem common_mem {s t : Spn} (hs : rightS s = true) (ht : rightS t = true) (n : Int) : memS (common s t) n ↔ inS s n ∧ inS t n := by
 rw [memS_iff]
 unfold common
 constructor
 ·rintro ⟨x, hx, hr, hi⟩
  split at hx
  ·rename_i h
   simp at hx
   subst hx
   exact (in_cut2 hs ht h.1 n).1 ⟨hr, hi⟩
  ·cases hx
 ·rintro ⟨h1, h2⟩
  have hv := family h1 h2
  have := (in_cut2 hs ht hv n).2 ⟨h1, h2⟩
  have hr := this.1
  rw [cut2_right hs ht hv, decide_eq_true_iff] at hr
  rw [if_pos ⟨hv, hr⟩]
  exact ⟨_, by simp, this⟩
/-- The program's way, so many steps of it. -/
def both2 : Nat → List Spn → List Spn → List Spn
 | 0, _, _ => []
 | _ + 1, [], _ => []
 | _ + 1, _ :: _, [] => []
 | k + 1, s :: a, t :: b => common s t ++ (if dropA s t then both2 k a (t :: b) else both2 k (s :: a) b)
theorem memS_append (a b : List Spn) (n : Int) : memS (a ++ b) n ↔ memS a n ∨ memS b n := by
 unfold memS
 rw [List.filter_append, List.map_append, Itv.mem_append]
theorem memS_cons {s : Spn} (hs : rightS s = true) (a : List Spn) (n : Int) : memS (s :: a) n ↔ inS s n ∨ memS a n := by
 unfold memS
 rw [List.filter_cons, if_pos hs, List.map_cons, Itv.mem_cons]
 rfl
theorem memS_nil (n : Int) : ¬ memS [] n := Itv.mem_nil n
theorem canon_after {s : Spn} {a : List Spn} (h : Itv.Canon ((s :: a).map iv)) {n : Int} (hn : memS a n) : (iv s).2 < n := by
 obtain ⟨x, hx, _, hi⟩ := memS_iff.1 hn
 have := h.2.1 (iv x) (List.mem_map.2 ⟨x, hx, rfl⟩)
 unfold inS at hi
 omega
theorem both2_mem : ∀ (k : Nat) (a b : List Spn), a.length + b.length ≤ k → (∀ z ∈ a, rightS z = true) → (∀ z ∈ b, rightS z = true) → Itv.Canon (a.map iv) → Itv.Canon (b.map iv) →
 ∀ n, memS (both2 k a b) n ↔ memS a n ∧ memS b n
 | 0, a, b, hk, _, _, _, _, n => by
  have e1 : a = [] := List.eq_nil_of_length_eq_zero (by omega)
  have e2 : b = [] := List.eq_nil_of_length_eq_zero (by omega)
  subst e1 e2
  simp [both2, memS_nil]
 | _ + 1, [], b, _, _, _, _, _, n => by simp [both2, memS_nil]
 | _ + 1, s :: a, [], _, _, _, _, _, n => by simp [both2, memS_nil]
 | k + 1, s :: a, t :: b, hk, ha, hb, ca, cb, n => by
  have hs := ha s List.mem_cons_self
  have ht := hb t List.mem_cons_self
  show memS (common s t ++ _) n ↔ _
  rw [memS_append, common_mem hs ht, memS_cons hs, memS_cons ht]
  by_cases hd : dropA s t = true
  ·rw [if_pos hd, both2_mem k a (t :: b) (by simp at hk ⊢; omega) (fun z hz => ha z (List.mem_cons_of_mem _ hz)) hb ca.2.2 cb n, memS_cons ht]
   have hle := (dropA_iff hs ht).1 hd
   constructor
   ·rintro (⟨h1, h2⟩ | ⟨h1, h2⟩)
    ·exact ⟨.inl h1, .inl h2⟩
    ·exact ⟨.inr h1, h2⟩
   ·rintro ⟨h1 | h1, h2 | h2⟩
    ·exact .inl ⟨h1, h2⟩
    ·have := canon_after cb h2
     unfold inS at h1
     omega
    ·exact .inr ⟨h1, .inl h2⟩
    ·exact .inr ⟨h1, .inr h2⟩
  ·rw [if_neg hd, both2_mem k (s :: a) b (by simp at hk ⊢; omega) ha (fun z hz => hb z (List.mem_cons_of_mem _ hz)) ca cb.2.2 n, memS_cons hs]
   have hle := mt (dropA_iff hs ht).2 hd
   constructor
   ·rintro (⟨h1, h2⟩ | ⟨h1, h2⟩)
    ·exact ⟨.inl h1, .inl h2⟩
    ·exact ⟨h1, .inr h2⟩
   ·rintro ⟨h1 | h1, h2 | h2⟩
    ·exact .inl ⟨h1, h2⟩
    ·exact .inr ⟨.inl h1, h2⟩
    ·have := canon_after ca h1
     unfold inS at h2
     omega
    ·exact .inr ⟨.inr h1, h2⟩
/-- The program's answer is the document's. -/
theorem both2_join (a b : List Spn) (k : Nat) (hk : (joinS a).length + (joinS b).length ≤ k) : joinS (both2 k (joinS a) (joinS b)) = bothS a b := by
 obtain ⟨c1, m1, r1⟩ := join_canon a
 obtain ⟨c2, m2, r2⟩ := join_canon b
 refine join_eq.2 (fun n => ?_)
 rw [both2_mem k _ _ hk r1 r2 c1 c2, join_mem, join_mem, pairs_mem]

end Go.Proofs.Ytdioagebkfdkhaa.Ad


section
set_option linter.unusedVariables false
set_option linter.unusedSimpArgs false
namespace Go.Proofs.Ytdioagebkfdkhaa.Ad
open Go.RowKit Go.Proofs.YtdioagebkfdkhaaW.PrintWords Go.Proofs.YtdioagebkfdkhaaW.PrintLast Go.Proofs.YtdioagebkfdkhaaW.PrintMore Go.Proofs.Ytdioagebkfdkhaa.PT

/-- What a function leaves that hands back a new list. -/
def NewS (w : World) (l : List Spn) (e : Ending) (w' : World) : Prop :=
 ∃ v, e = .returned v ∧ kS.R 30 w' w.heap.size (fun _ => True) v l ∧ Below w.heap.size w w'
theorem joinS_walk (A : Option Addr) (c : Nat) (l : List Spn) (w : World) (h : kS.C w A l.length l) (hl : l.length ≤ 1000000) :
 Calls Try.prog 9 #[.slice A l.length c] w fun e w' => NewS w (joinS l) e w' :=
 (join_walk A c l w h hl).mono fun _ _ ⟨v, d, h1, h2, h3, h4, h5⟩ => ⟨v, h1, by rwa [fold_join h2 h3] at h4, h5⟩
/-- What is asked of a Both: lists of at most so many. -/
def BothC (f : FuncId) (N : Nat) : Prop := ∀ (A : Option Addr) (c : Nat) (a : List Spn) (B : Option Addr) (d : Nat) (b : List Spn) (w : World), kS.C w A a.length a → a.length ≤ c → kS.C w B b.length b → b.length ≤ d → a.length ≤ N → b.length ≤ N →
 Calls Try.prog f #[.slice A a.length c, .slice B b.length d] w fun e w' => NewS w (bothS a b) e w'

set_option maxHeartbeats 1000000 in
set_option maxRecDepth 100000 in
theorem within_of (hB : BothC 11 10000) (A : Option Addr) (c : Nat) (a : List Spn) (B : Option Addr) (d : Nat) (b : List Spn) (w : World) (hA : kS.C w A a.length a) (hac : a.length ≤ c) (hBb : kS.C w B b.length b) (hbd : b.length ≤ d) (hal : a.length ≤ 10000) (hbl : b.length ≤ 10000) (hpl : (bothS a b).length ≤ 1000000000) :
 Calls Try.prog 13 #[.slice A a.length c, .slice B b.length d] w fun e w' => e = .returned (.bool (withinS a b)) ∧ Below w.heap.size w w' := by
 have hb1 := hB A c a B d b w hA hac hBb hbd hal hbl
 have HA := Lib.hid hA
 clear hB hBb hA
 obtain ⟨r, hr⟩ : ∃ r, r = withinS a b := ⟨_, rfl⟩
 rw [← hr]
 have HR := Lib.hid hr
 clear hr
 go_enter Try.func13, Try.ntmps13
 go_wp2_with fail
 refine hb1.mono ?_
 rintro e w1 ⟨v1, rfl, hR1, hB1⟩
 obtain ⟨A1, c1, e1, hc1, hC1⟩ := Kd.R_reads hR1
 subst e1
 have HB1 := Lib.hid hB1
 have HC1 := Lib.hid hC1
 clear hb1 hR1 hB1 hC1 hc1
 go_wp2_with fail
 refine (joinS_walk A c a w1 (Kd.C_below HA.out HB1.out) (by omega)).mono ?_
 rintro e w2 ⟨v2, rfl, hR2, hB2⟩
 obtain ⟨A2, c2, e2, hc2, hC2⟩ := Kd.R_reads hR2
 subst e2
 have HB2 := Lib.hid (HB1.out.trans (hB2.mono HB1.out.size))
 have HC2 := Lib.hid (And.intro (Kd.C_below HC1.out hB2) hC2)
 have hjl := joinS_len a
 clear hR2 hB2 hC2 hc2 HC1 HB1
 go_wp2_with fail
 refine (equalS_walk A1 c1 (bothS a b) A2 c2 (joinS a) w2 HC2.out.1 HC2.out.2 (by omega) (by omega)).mono ?_
 rintro e w3 ⟨rfl, hG⟩
 rw [show sameL (bothS a b) (joinS a) = r from HR.out.symm]
 go_wp2
 go_ret
 exact ⟨rfl, HB2.out.trans (hG.below.mono HB2.out.size)⟩

/-- What is asked of a Join: lists of at most so many. -/
def JoinC (f : FuncId) (N : Nat) : Prop := ∀ (A : Option Addr) (c : Nat) (a : List Spn) (w : World), kS.C w A a.length a → a.length ≤ N → Calls Try.prog f #[.slice A a.length c] w fun e w' => NewS w (joinS a) e w'
set_option maxHeartbeats 1000000 in
set_option maxRecDepth 100000 in
theorem refWithin_of (hB : BothC 12 10000) (hJ : JoinC 10 10000) (A : Option Addr) (c : Nat) (a : List Spn) (B : Option Addr) (d : Nat) (b : List Spn) (w : World) (hA : kS.C w A a.length a) (hac : a.length ≤ c) (hBb : kS.C w B b.length b) (hbd : b.length ≤ d) (hal : a.length ≤ 10000) (hbl : b.length ≤ 10000) (hpl : (bothS a b).length ≤ 1000000000) :
 Calls Try.prog 14 #[.slice A a.length c, .slice B b.length d] w fun e w' => e = .returned (.bool (withinS a b)) ∧ Below w.heap.size w w' := by
 have hb1 := hB A c a B d b w hA hac hBb hbd hal hbl
 have HA := Lib.hid hA
 clear hB hBb hA
 have HJ := Lib.hid hJ
 clear hJ
 obtain ⟨r, hr⟩ : ∃ r, r = withinS a b := ⟨_, rfl⟩
 rw [← hr]
 have HR := Lib.hid hr
 clear hr
 go_enter Try.func14, Try.ntmps14
 go_wp2_with fail
 refine hb1.mono ?_
 rintro e w1 ⟨v1, rfl, hR1, hB1⟩
 obtain ⟨A1, c1, e1, hc1, hC1⟩ := Kd.R_reads hR1
 subst e1
 have HB1 := Lib.hid hB1
 have HC1 := Lib.hid hC1
 clear hb1 hR1 hB1 hC1 hc1
 go_wp2_with fail
 refine (HJ.out A c a w1 (Kd.C_below HA.out HB1.out) hal).mono ?_
 rintro e w2 ⟨v2, rfl, hR2, hB2⟩
 obtain ⟨A2, c2, e2, hc2, hC2⟩ := Kd.R_reads hR2
 subst e2
 have HB2 := Lib.hid (HB1.out.trans (hB2.mono HB1.out.size))
 have HC2 := Lib.hid (And.intro (Kd.C_below HC1.out hB2) hC2)
 have hjl := joinS_len a
 clear hR2 hB2 hC2 hc2 HC1 HB1
 go_wp2_with fail
 refine (sameS_walk A1 c1 (bothS a b) A2 c2 (joinS a) w2 HC2.out.1 HC2.out.2 (by omega) (by omega)).mono ?_
 rintro e w3 ⟨rfl, hG⟩
 rw [show sameL (bothS a b) (joinS a) = r from HR.out.symm]
 go_wp2
 go_ret
 exact ⟨rfl, HB2.out.trans (hG.below.mono HB2.out.size)⟩

def fourA (n : Nat) (h : n < 256) : A16 := ⟨[10, 0, 0, n, 0, 0, 0, 0, 0, 0, 0, 0, 0, 0, 0, 0], rfl, by
 intro x hx
 simp at hx
 omega⟩
def fourS (lo hi : Nat) (h1 : lo < 256) (h2 : hi < 256) : Spn := ⟨false, fourA lo h1, fourA hi h2⟩
set_option maxHeartbeats 1000000 in
set_option maxRecDepth 100000 in
theorem four_walk (lo hi : Nat) (h1 : lo < 256) (h2 : hi < 256) (w : World) : Calls Try.prog 22 #[.int .u8 lo, .int .u8 hi] w fun e w' => e = .returned (.agg (fourS lo hi h1 h2).arr) ∧ Below w.heap.size w w' := by
 go_enter Try.func22, Try.ntmps22
 go_upto_region 1 with (fail)
 change Code.wp _ _ _ _ (w.alloc (.cells zS.arr 30))
 have h0 := Has.new w zS.arr 30
 have hB : Below w.heap.size w (w.alloc (.cells zS.arr 30)) := (Below.refl _ _).alloc (Nat.le_refl _) _
 generalize w.alloc (.cells zS.arr 30) = W at h0 hB ⊢
 refine wp_region_lit ?_
 refine valN rfl (v := .int .u8 lo) (w1 := W) (by go_simp; try rfl) ?_
 refine valN rfl (v := .agg (fourA lo h1).arr) (w1 := W) (by kernel_rfl) ?_
 refine valN rfl (v := .int .u8 hi) (w1 := W) (by go_simp; try rfl) ?_
 refine valN rfl (v := .agg (fourA hi h2).arr) (w1 := W) (by kernel_rfl) ?_
 refine valN rfl (v := .agg (fourS lo hi h1 h2).arr) (w1 := W) (by kernel_rfl) ?_
 refine wpList_store_row rfl 30 (.tmp 4) (.tmp 9) rfl w.heap.size (fourS lo hi h1 h2).arr rfl rfl 30 zS.arr h0 (by rw [Spn.arr_size]; exact infoS) (by rw [Spn.arr_size, Spn.arr_size]) (Spn.arr_one _) ?_
 have v0 : Has (W.setRow w.heap.size (fourS lo hi h1 h2).arr) w.heap.size (fourS lo hi h1 h2).arr 30 := setRow_heap W _ _ _ _ _ h0
 have v3 := below_setRow hB (g := w.heap.size) (Nat.le_refl _) (fourS lo hi h1 h2).arr
 generalize W.setRow w.heap.size (fourS lo hi h1 h2).arr = wc at v0 v3 ⊢
 refine wpList_nil ?_
 go_wp2
 refine bodyPost_ret (v := .agg (fourS lo hi h1 h2).arr) ?_ rfl ⟨rfl, v3⟩
 exact results_cell_row (P := Try.prog) (p := 4) (ty := 30) Try.results22 _ _ w.heap.size 30 (fourS lo hi h1 h2).arr (0, 0) _ rfl v0 Try.underlying30 rfl (by rw [Spn.arr_size]; exact infoS)

end Go.Proofs.Ytdioagebkfdkhaa.Ad
end

section
set_option linter.unusedVariables false
set_option linter.unusedSimpArgs false
namespace Go.Proofs.Ytdioagebkfdkhaa.Ad
open Go.RowKit Go.Proofs.YtdioagebkfdkhaaW.PrintWords Go.Proofs.YtdioagebkfdkhaaW.PrintLast Go.Proofs.YtdioagebkfdkhaaW.PrintMore Go.Proofs.Ytdioagebkfdkhaa.PT

theorem tailC (b o c : Nat) (s : Spn) (xs : List Spn) (hc : xs.length + 1 ≤ c) (W : World) (h : kS.C W (some ⟨b, o, none⟩) (xs.length + 1) (s :: xs)) : kS.C W (if c = 1 then some ⟨b, o, none⟩ else some ⟨b, o + 33, none⟩) xs.length xs := by
 have h1 := Kd.C_drop (m := 1) (c := c) h (by simp) hc
 have e : (⟨b, o, none⟩ : Addr).add (1 * kS.sz) = ⟨b, o + 33, none⟩ := by rw [Addr.add_mid]; rfl
 rw [Option.map_some, e] at h1
 simpa using h1
theorem RowAt.new {W : World} {base g : Nat} {s : Spn} (h : Has W g s.arr 30) (hb : base ≤ g) : RowAt W base g 1 [s] :=
 ⟨hb, ⟨s.arr, h, by rw [s.arr_size]⟩, by simp, by decide, fun i hi => by
  have : i = 0 := by simp at hi; exact hi
  subst this
  exact h.rs⟩
theorem RowAt.one {W : World} {base g cap : Nat} {s : Spn} (h : RowAt W base g cap [s]) : W.rangeAt g 0 s.cells := by
 have := h.hr 0 (by simp)
 simpa using this
theorem RowAt.setLo {W : World} {base g : Nat} {s : Spn} (h : RowAt W base g 1 [s]) (a : A16) : RowAt (W.setCells g 1 a.cells) base g 1 [⟨s.v6, a, s.hi⟩] := by
 refine ⟨h.hb, ?_, by simp, h.hm, fun j hj => ?_⟩
 ·obtain ⟨cur, hc, hs⟩ := h.hcell
  obtain ⟨c, h1, h2⟩ := setCells_row g _ a.cells 1 W cur hc
  exact ⟨c, h1, h2.trans hs⟩
 ·have hj0 : j = 0 := by simp at hj; exact hj
  subst hj0
  intro k u hu
  rw [Nat.zero_mul]
  have hk : k < 33 := by have := (List.getElem?_eq_some_iff.1 hu).1; rwa [List.getElem_cons_zero, Spn.cells_len] at this
  have hsame := World.rangeAt_setCells_same W g 1 a.cells (h.there (by rw [a.cells_len]; omega))
  have hone := h.one
  rw [List.getElem_cons_zero] at hu
  have hu : (Value.bool s.v6 :: (a.cells ++ s.hi.cells))[k]? = some u := hu
  cases k with
  | zero =>
   have hp : W.rangeAt g 0 [.bool s.v6] := fun k' u' hu' => by
    cases k' with
    | zero => exact hone 0 u' (by rw [← hu']; rfl)
    | succ k' => simp at hu'
   exact World.rangeAt_setCells_apart hp g 1 a.cells (.inr (.inl (by simp))) 0 u (by rw [← hu]; rfl)
  | succ k =>
   rw [List.getElem?_cons_succ] at hu
   by_cases h16 : k < 16
   ·rw [List.getElem?_append_left (by rw [a.cells_len]; exact h16)] at hu
    have := hsame k u hu
    rwa [show 1 + k = 0 + (k + 1) by omega] at this
   ·rw [List.getElem?_append_right (by rw [a.cells_len]; omega), a.cells_len] at hu
    have hp := World.rangeAt_setCells_apart (rhi_of_s hone) g 1 a.cells (.inr (.inr (by rw [a.cells_len]; omega)))
    have := hp (k - 16) u hu
    rwa [show 0 + 17 + (k - 16) = 0 + (k + 1) by omega] at this
theorem RowAt.setHi1 {W : World} {base g : Nat} {s : Spn} (h : RowAt W base g 1 [s]) (a : A16) : RowAt (W.setCells g 17 a.cells) base g 1 [⟨s.v6, s.lo, a⟩] := by
 have := h.setHi (i := 0) (by simp) a
 simpa using this
/-- What holds in a round of Both once the common span lies in block g8. -/
def T6 (wr : World) (s t : Spn) (g1 g2 g8 : Nat) (x : Spn) (W : World) : Prop :=
 Has W g1 s.arr 30 ∧ Has W g2 t.arr 30 ∧ Below wr.heap.size wr W ∧ RowAt W wr.heap.size g8 1 [x] ∧ g1 ≠ g8 ∧ g2 ≠ g8
theorem T6.step {wr W W1 : World} {s t x : Spn} {g1 g2 g8 : Nat} (h : T6 wr s t g1 g2 g8 x W) (hB : Below W.heap.size W W1) : T6 wr s t g1 g2 g8 x W1 :=
 ⟨h.1.below hB, h.2.1.below hB, h.2.2.1.trans (hB.mono h.2.2.1.size), h.2.2.2.1.below hB, h.2.2.2.2⟩
theorem T6.lo {wr W : World} {s t x : Spn} {g1 g2 g8 : Nat} (h : T6 wr s t g1 g2 g8 x W) (a : A16) : T6 wr s t g1 g2 g8 ⟨x.v6, a, x.hi⟩ (W.setCells g8 1 a.cells) :=
 ⟨(setCells_other g8 g1 h.2.2.2.2.1 a.cells 1 W).trans h.1, (setCells_other g8 g2 h.2.2.2.2.2 a.cells 1 W).trans h.2.1, setCells_below _ g8 wr h.2.2.2.1.hb _ _ _ h.2.2.1, h.2.2.2.1.setLo a, h.2.2.2.2⟩
theorem T6.hi {wr W : World} {s t x : Spn} {g1 g2 g8 : Nat} (h : T6 wr s t g1 g2 g8 x W) (a : A16) : T6 wr s t g1 g2 g8 ⟨x.v6, x.lo, a⟩ (W.setCells g8 17 a.cells) :=
 ⟨(setCells_other g8 g1 h.2.2.2.2.1 a.cells 17 W).trans h.1, (setCells_other g8 g2 h.2.2.2.2.2 a.cells 17 W).trans h.2.1, setCells_below _ g8 wr h.2.2.2.1.hb _ _ _ h.2.2.1, h.2.2.2.1.setHi1 a, h.2.2.2.2⟩

theorem R_own {W : World} {t : TypeId} {base : Nat} {P : Nat → Prop} {v : Value} {xs : List Spn} (h : kS.R t W base P v xs) : ∀ b, v.ownBlock = some b → b < W.heap.size := by
 obtain ⟨_, inner, ⟨_, h1⟩, _⟩ := h
 rcases h1 with h1 | ⟨b, o, x, e, hb, hx, _⟩
 ·intro b hb
  simp_all [Value.ownBlock]
 ·intro b' hb'
  subst e
  simp only [Value.ownBlock, Option.some.injEq] at hb'
  subst hb'
  exact (Array.getElem?_eq_some_iff.1 hx).1
theorem both2_nil1 (k : Nat) (b : List Spn) : both2 k [] b = [] := by cases k <;> rfl
theorem both2_nil2 (k : Nat) (a : List Spn) : both2 k a [] = [] := by
 cases k with
 | zero => rfl
 | succ k => cases a <;> rfl

end Go.Proofs.Ytdioagebkfdkhaa.Ad
end
