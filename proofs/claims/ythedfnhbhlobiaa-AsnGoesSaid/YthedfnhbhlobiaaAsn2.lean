/- slices.Clone at ranges, walked. -/
import Derived.Test.YthedfnhbhlobiaaAsn1
import Derived.WalkSpells
set_option linter.unusedVariables false
namespace Go.Proofs.Ythedfnhbhlobiaa.Asn
open Go.RowKit Go.Proofs.YthedfnhbhlobiaaW.PrintWords Go.Proofs.YthedfnhbhlobiaaW.PrintLast Go.Proofs.YthedfnhbhlobiaaW.PrintMore Go.Proofs.Ythedfnhbhlobiaa.PAsn
attribute [local go_sem] max2_int min2_int max_two min_two

theorem at_dst (n : Tmp) {P : Program} {ops : Array Oper} {Q : Exit → Act → World → Prop} {rest : List Oper} {a : Act} {w : World} {op : Op} {ty : TypeId} {pos : String} {af : Array Edge} {g : Option (Nat × Bool)}
    (h : wpList P ops Q (⟨some n, op, ty, pos, af, g⟩ :: rest) a w) : wpList P ops Q (⟨some n, op, ty, pos, af, g⟩ :: rest) a w := h
theorem own0 (W : World) (base : Nat) (hb : base ≤ W.heap.size) :
    Kd.R k27 27 (W.alloc (.cells #[] 27)) base (fun _ => True) (.slice (some ⟨W.heap.size, 0, none⟩) 0 0) [] :=
  ⟨fun _ _ => trivial, [], ⟨rfl, .inr ⟨W.heap.size, 0, _, rfl, hb, heap_alloc_new W _, Nat.le_refl _, by decide, rfl, rfl⟩⟩, Reps.none _ _⟩

set_option maxHeartbeats 1000000 in
set_option maxRecDepth 100000 in
theorem clone_walk (A : Option Addr) (c : Nat) (l : List S27) (w : World) (hr : Kd.C k27 w A l.length l) (hc : l.length ≤ c) (hl : l.length ≤ 1000000000) :
    Calls Try.prog 17 #[.slice A l.length c] w fun e w' => ∃ v, e = .returned v ∧ Kd.R k27 27 w' w.heap.size (fun _ => True) v l ∧ Below w.heap.size w w' := by
  have q22 : ∀ (w : World) (a : Option Addr) (n c n' c' : Nat), (binOp .eql 22 (.slice a n c) (.slice none n' c')).run Try.prog w = .ok (.bool a.isNone) w := fun w a n c n' c' => Lib.run_eql_slice_nil w _ _ a n c n' c' Try.underlying22
  cases A with
  | none =>
    have h0 : l = [] := by
      rcases Nat.eq_zero_or_pos l.length with h | h
      · exact List.eq_nil_of_length_eq_zero h
      · obtain ⟨ad, e, _⟩ := hr.2.2 h
        cases e
    subst h0
    clear hr
    go_enter Try.func17, Try.ntmps17
    go_wp2
    go_ret
    exact ⟨_, rfl, Kd.R_nil _ _ _ _ _, Below.refl _ _⟩
  | some ad =>
    have HR := Aside0.mk hr
    clear hr
    go_enter Try.func17, Try.ntmps17
    go_wp2_with ((with_reducible refine at_dst 7 ?_); go_must (refine Kd.R_append_rows k27 (w0 := w) w.heap.size rfl (.tmp 5) (.tmp 6) 22 27 (.agg #[.int .u32 0, .int .u32 0]) 8 rfl Try.underlying22 info27 rfl (by decide) (by omega) _ [] l _ _ _ (fun _ => True) (fun _ => False) rfl rfl (by exact own0 w _ (Nat.le_refl _)) (by exact Kd.C_below HR.out ((Below.refl _ _).alloc (Nat.le_refl _) _)) (fun x cs h => by have := k27_open h; subst this; exact k27_mkM _ _ _ x) (fun _ h => h.elim) (fun _ _ => trivial) (by exact (Below.refl _ _).alloc (Nat.le_refl _) _) (by simp) (by simp; omega) ?_); intro v2 w2 ho2 hb2 _ _; have HO2 := Aside0.mk ho2; have HB2 := Aside0.mk hb2; clear ho2 hb2)
    go_ret
    exact ⟨_, rfl, by simpa using HO2.out, HB2.out⟩

end Go.Proofs.Ythedfnhbhlobiaa.Asn
