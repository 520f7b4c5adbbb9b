/- Merged by a program of this session (wip/tools/pack.py). -/
import Derived.Test.YtmbgjhkemlliaaaKSpkiSeals5
import Derived.Deep.Slices
import Derived.Deep.Fields
import Derived.ChangeSame
import Derived.OpenShut
/- Arguments opened: slices of bytes, elements (api.Node). -/
section
set_option linter.unusedVariables false
set_option linter.unusedSimpArgs false
namespace Go.Proofs.Ytmbgjhkemlliaaa.Tlv
open Go.ChangeShapes Go.WideShapes Go.Deep Go.RowKit Go.Proofs.YtmbgjhkemlliaaaW.PrintWords Go.Proofs.YtmbgjhkemlliaaaW.PrintLast Go.Proofs.YtmbgjhkemlliaaaW.PrintMore Go.Proofs.Ytmbgjhkemlliaaa.PT

theorem listed {α : Type} {Q : Nat → α → Prop} : ∀ (n : Nat), (∀ i, i < n → ∃ x, Q i x) → ∃ l : List α, l.length = n ∧ ∀ i x, l[i]? = some x → Q i x
 | 0, _ => ⟨[], rfl, fun i x h => by simp at h⟩
 | n + 1, h => by
  obtain ⟨l, hl, hq⟩ := listed n (fun i hi => h i (by omega))
  obtain ⟨x, hx⟩ := h n (by omega)
  refine ⟨l ++ [x], by simp [hl], fun i y hy => ?_⟩
  by_cases hi : i < n
  ·rw [List.getElem?_append_left (by omega)] at hy
   exact hq i y hy
  ·rw [List.getElem?_append_right (by omega)] at hy
   have : i - l.length = 0 := by
    by_cases h0 : i - l.length = 0
    ·exact h0
    ·rw [List.getElem?_eq_none (by simp; omega)] at hy
     cases hy
   rw [this] at hy
   simp at hy
   subst hy
   rw [show i = n by omega]
   exact hx
section
variable {H : Type} {enc : TypeId × Value → H} {w : World} {base : Nat} {held : Bool}
theorem openB_f {fuel : Nat} {cs : List Value} {x : DataW H × List MemPlace} (h : DataW.trod enc Try.prog w base (fun _ => true) held fuel 22 cs = some x) :
 ∃ (A : Option Addr) (c : Nat) (l : List Int), cs = [.slice A l.length c] ∧ (Kd.int .u8).C w A l.length l ∧ l.length ≤ c ∧ ∀ v ∈ l, 0 ≤ v ∧ v < 256 := by
 have hz : ∃ (a : Option Addr) (len cap : Nat) (zs : List Int), cs = [.slice a len cap] ∧ ((a = none ∧ len = 0 ∧ cap = 0 ∧ zs = []) ∨ ∃ x, a = some x ∧ len ≤ cap ∧ cap ≤ maxLen ∧ zs.length = cap ∧ (∀ i, i < zs.length → w.cell? (x.add i) = some (.int .u8 (zs.getD i 0))) ∧ ∀ n ∈ zs, (Lit.int .u8 n).wf = true) := by
  rcases open_ints Try.underlying22 Try.underlying5 (by kernel_rfl) h with ⟨hcs, _⟩ | ⟨x, l, c, zs, hcs, _, hl, hm, hz, _, hcell, hwz⟩
  ·exact ⟨none, 0, 0, [], hcs, .inl ⟨rfl, rfl, rfl, rfl⟩⟩
  ·exact ⟨some x, l, c, zs, hcs, .inr ⟨_, rfl, hl, hm, by simpa using hz, hcell, hwz⟩⟩
 obtain ⟨a, len, cap, zs, rfl, w0⟩ := hz
 obtain ⟨l0, rfl, hr0, hm0, hw0, hc0⟩ := ReadsInt.ofRowC w0
 refine ⟨a, cap, l0, rfl, C_of_reads hr0 rfl, hc0, fun v hv => ?_⟩
 have := hw0 v hv
 simp [Lit.wf, IntKind.min, IntKind.max, IntKind.signed, IntKind.bits] at this
 omega
theorem openN_f : ∀ (fuel : Nat) (cs : List Value) (x : DataW H × List MemPlace), DataW.trod enc Try.prog w base (fun _ => true) held fuel 25 cs = some x →
 ∃ (n : T) (A1 : Option Addr) (c1 : Nat) (A2 : Option Addr) (c2 : Nat), cs = [.int .i64 n.f0, .slice A1 n.f1.length c1, .slice A2 n.f2.length c2] ∧ NodeAt w n A1 c1 A2 c2 ∧ byT n := by
 intro fuel
 induction fuel using Nat.strongRecOn with
 | _ fuel ih =>
 intro cs x h
 obtain ⟨xs, n, hn, _, hl, hlen, hf⟩ := DataW.trod_struct Try.underlying25 h
 have hl : cs.length = 3 := hl
 match cs, hl with
 | [v0, v1, v2], _ =>
 match xs, hlen with
 | [y0, y1, y2], _ =>
 have h0 := hf 0 _ rfl
 have h1 := hf 1 _ rfl
 have h2 := hf 2 _ rfl
 replace h0 : DataW.trod enc Try.prog w base (fun _ => true) held n 3 [v0] = some y0 := h0
 replace h1 : DataW.trod enc Try.prog w base (fun _ => true) held n 22 [v1] = some y1 := h1
 replace h2 : DataW.trod enc Try.prog w base (fun _ => true) held n 23 [v2] = some y2 := h2
 obtain ⟨m0, e0, _, b0⟩ := DataW.trod_int Try.underlying3 h0
 obtain ⟨A1, c1, l1, e1, k1, g1, hb1⟩ := openB_f h1
 injection e0 with e0
 injection e1 with e1
 subst e0 e1
 rcases DataW.trod_slice Try.underlying23 h2 with ⟨hcs, _⟩ | ⟨a, len, cap, elems, rest, n2, hn2, hcs, _, _, hle, hm, hel, hget, _, _⟩
 ·injection hcs with hcs
  subst hcs
  exact ⟨⟨m0, l1, []⟩, A1, c1, none, 0, rfl, ⟨k1, g1, C_nil _ _ _, Nat.le_refl _⟩, byT_mk hb1 trivial⟩
 ·injection hcs with hcs
  subst hcs
  obtain ⟨ls, hls, hq⟩ := listed (Q := fun i (s : T) => ∃ (cs' : List Value) (B1 : Option Addr) (d1 : Nat) (B2 : Option Addr) (d2 : Nat), w.cells? base (a.add (i * Try.prog.cellsOf 25)) (Try.prog.cellsOf 25) = some cs' ∧ cs' = [.int .i64 s.f0, .slice B1 s.f1.length d1, .slice B2 s.f2.length d2] ∧ NodeAt w s B1 d1 B2 d2 ∧ byT s) len (fun i hil => by
   have hi := hget i hil
   rw [List.getElem?_eq_getElem (by omega)] at hi
   obtain ⟨cs', g1, g2⟩ := Option.bind_eq_some_iff.1 hi
   obtain ⟨s, B1, d1, B2, d2, e, hn, hb⟩ := ih n2 (by omega) cs' _ g2
   exact ⟨s, cs', B1, d1, B2, d2, g1, e, hn, hb⟩)
  subst hls
  refine ⟨⟨m0, l1, ls⟩, A1, c1, some a, cap, rfl, ⟨k1, g1, ⟨rfl, (by have h9 : maxLen ≤ 9223372036854775807 := (by decide); show ls.length ≤ 9223372036854775807; omega), fun _ => ⟨a, rfl, fun j s hj => ?_⟩⟩, hle⟩, byT_mk hb1 (byL_of fun s hs => ?_)⟩
  ·obtain ⟨cs', B1, d1, B2, d2, q1, q2, q3, q4⟩ := hq j s hj
   subst q2
   obtain ⟨_, _, hat⟩ := World.cells?_some q1
   have hC : Try.prog.cellsOf 25 = 3 := by kernel_rfl
   refine ⟨[.int .i64 s.f0, .slice B1 s.f1.length d1, .slice B2 s.f2.length d2], rfl, NodeAt.K q3, fun i u hu => ?_⟩
   have hi : i < 3 := by
    by_cases h : i < 3
    ·exact h
    ·rw [List.getElem?_eq_none (by simp; omega)] at hu; cases hu
   have := hat i (by rw [hC]; exact hi)
   rw [hC] at this
   rw [Go.Deep.add_add] at this
   exact this.trans hu
  ·obtain ⟨j, hj⟩ := List.mem_iff_getElem?.1 hs
   obtain ⟨_, _, _, _, _, _, _, _, b⟩ := hq j s hj
   exact b
/-- An element that came in. -/
theorem openN {r : Reach} {b0 : Nat} {v : Value} {d : DataW H} {p : List MemPlace} (hv : Value.okWide Try.prog w r b0 25 v) (h : DataW.Trod enc Try.prog w base (fun _ => true) held 25 v d p) :
 ∃ (n : T) (A1 : Option Addr) (c1 : Nat) (A2 : Option Addr) (c2 : Nat), v = .agg #[.int .i64 n.f0, .slice A1 n.f1.length c1, .slice A2 n.f2.length c2] ∧ NodeAt w n A1 c1 A2 c2 ∧ byT n := by
 obtain ⟨cs, rfl, hsz⟩ := okWide_struct Try.underlying25 hv
 obtain ⟨fuel, hf⟩ := h
 obtain ⟨n, A1, c1, A2, c2, e, hn, hb⟩ := openN_f fuel _ _ hf
 refine ⟨n, A1, c1, A2, c2, ?_, hn, hb⟩
 obtain ⟨l⟩ := cs
 have e : l = [.int .i64 n.f0, .slice A1 n.f1.length c1, .slice A2 n.f2.length c2] := e
 rw [e]
/-- Bytes that came in. -/
theorem openB {r : Reach} {b0 : Nat} {v : Value} {d : DataW H} {p : List MemPlace} (hv : Value.okWide Try.prog w r b0 22 v) (h : DataW.Trod enc Try.prog w base (fun _ => true) held 22 v d p) :
 ∃ (A : Option Addr) (c : Nat) (l : List Int), v = .slice A l.length c ∧ (Kd.int .u8).C w A l.length l ∧ l.length ≤ c ∧ ∀ v ∈ l, 0 ≤ v ∧ v < 256 := by
 obtain ⟨a, len, cap, rfl⟩ := okWide_slice Try.underlying22 hv
 obtain ⟨fuel, hf⟩ := h
 obtain ⟨A, c, l, e, hk, hc, hb⟩ := openB_f hf
 simp [Value.cells] at e
 obtain ⟨rfl, rfl, rfl⟩ := e
 exact ⟨_, _, l, rfl, hk, hc, hb⟩
end

end Go.Proofs.Ytmbgjhkemlliaaa.Tlv
end
