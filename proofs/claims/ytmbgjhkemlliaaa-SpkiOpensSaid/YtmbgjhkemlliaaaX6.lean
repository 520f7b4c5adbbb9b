/- Merged by wip/tools/merge.py: YtmbgjhkemlliaaaOpen, YtmbgjhkemlliaaaSpki, YtmbgjhkemlliaaaAwake. -/
import Derived.Test.YtmbgjhkemlliaaaX5
/- spki.Open, walked. -/
set_option linter.unusedVariables false
set_option linter.unusedSimpArgs false
namespace Go.Proofs.Ytmbgjhkemlliaaa.Tlv
open Go.RowKit Go.Proofs.YtmbgjhkemlliaaaW.PrintWords Go.Proofs.YtmbgjhkemlliaaaW.PrintLast Go.Proofs.YtmbgjhkemlliaaaW.PrintMore Go.Proofs.Ytmbgjhkemlliaaa.PTlv

def saidP (a : T) : List Int := match writeP a with
  | .ok l => l
  | .err _ => []
def openP (b : List Int) : Res (T × List Int × List Int) := match readP b with
  | .err e => .err e
  | .ok x => match openSig x with
    | none => .err 2
    | some (a, t) => .ok (a, saidP a, t)
def OpenPost (w : World) (b : List Int) (e : Ending) (w' : World) : Prop := match openP b with
  | .err x => e = .returned (.tuple #[.agg #[.int .i64 0, .slice none 0 0, .slice none 0 0], .slice none 0 0, .slice none 0 0, .int .i64 x]) ∧ Below w.heap.size w w'
  | .ok (a, s, t) => ∃ A1 c1 A2 c2 S cs G cg, e = .returned (.tuple #[.agg #[.int .i64 a.f0, .slice A1 a.f1.length c1, .slice A2 a.f2.length c2], .slice S s.length cs, .slice G t.length cg, .int .i64 0]) ∧ NodeAt w' a A1 c1 A2 c2 ∧ ReadsInt w' .u8 S s.length s ∧ s.length ≤ cs ∧ ReadsInt w' .u8 G t.length t ∧ t.length ≤ cg ∧ Below w.heap.size w w'

theorem readP_ok {b : List Int} {x : T} (hb : ∀ v ∈ b, 0 ≤ v ∧ v < 256) (h : readP b = .ok x) : b = encT x ∧ rightT x = true ∧ sizeT x = (b.length : Int) ∧ deepT x ≤ 32 ∧ b.length ≤ 20000 := by
  unfold readP at h
  split at h
  · cases h
  · cases he : elemP (b.length + 1) 0 3 b with
    | err e => rw [he] at h; cases h
    | ok p =>
      obtain ⟨t, r⟩ := p
      rw [he] at h
      simp only at h
      split at h
      · injection h with h
        subst h
        rename_i hr
        obtain ⟨e1, e2, e3, e4⟩ := elemP_ok _ _ _ _ _ _ hb he
        rw [hr, List.append_nil] at e1
        exact ⟨e1, e2, by rw [e3, ← e1], by omega, by omega⟩
      · cases h
/-- A part's own bytes are among those of the whole. -/
theorem body_in (z : T) (hr : rightT z = true) : ∀ v ∈ z.f1, v ∈ encT z := by
  obtain ⟨tag, body, kids⟩ := z
  intro v hv
  dsimp only at hv
  rw [rightT, Bool.and_eq_true, Bool.and_eq_true] at hr
  rw [encT]
  by_cases hH : holdsB tag = true
  · rw [if_pos hH] at hr
    have := of_decide_eq_true hr.1.2
    rw [this] at hv
    cases hv
  · rw [if_neg hH]
    exact List.mem_append_right _ hv
theorem kid_in : ∀ (l : List T) (t : T), t ∈ l → ∀ v ∈ encT t, v ∈ encL l
  | [], _, h => by cases h
  | u :: l, t, h => by
    intro v hv
    rw [encL]
    rcases List.mem_cons.1 h with rfl | h
    · exact List.mem_append_left _ hv
    · exact List.mem_append_right _ (kid_in l t h v hv)
theorem kid_size : ∀ (l : List T) (t : T), t ∈ l → sizeT t ≤ sizeL l
  | [], _, h => by cases h
  | u :: l, t, h => by
    rw [sizeL]
    have h1 := manyL_le l
    have h2 := many_le u
    rcases List.mem_cons.1 h with rfl | h
    · omega
    · have := kid_size l t h; omega
theorem kid_deep : ∀ (l : List T) (t : T), t ∈ l → deepT t ≤ deepL l
  | [], _, h => by cases h
  | u :: l, t, h => by
    rw [deepL]
    rcases List.mem_cons.1 h with rfl | h
    · omega
    · have := kid_deep l t h; omega
theorem kids_parts (x : T) (h : rightT x = true) (t : T) (ht : t ∈ x.f2) : rightT t = true ∧ sizeT t ≤ sizeT x ∧ (∀ v ∈ encT t, v ∈ encT x) ∧ deepT t ≤ deepT x := by
  obtain ⟨tag, body, kids⟩ := x
  dsimp only at ht
  rw [rightT, Bool.and_eq_true, Bool.and_eq_true] at h
  have hr := (rightL_all kids).1 h.2 t ht
  by_cases hH : holdsB tag = true
  · have h1 := kid_size kids t ht
    have h2 := headLen_pos (sizeL kids)
    refine ⟨hr, ?_, ?_, ?_⟩
    · rw [sizeT, if_pos hH]; omega
    · intro v hv; rw [encT, if_pos hH]; exact List.mem_append_right _ (kid_in kids t ht v hv)
    · rw [deepT, if_pos hH]; have := kid_deep kids t ht; omega
  · rw [if_neg hH] at h
    have := of_decide_eq_true h.1.2
    rw [this] at ht
    cases ht

theorem lenP_rest {short : Int} {b r : List Int} {m : Int} (h : lenP short b = .ok (m, r)) : r.length + 1 ≤ b.length := by
  cases b with
  | nil => simp [lenP] at h
  | cons x b =>
    unfold lenP at h
    simp only at h
    split at h
    · cases b with
      | nil => cases h
      | cons y b =>
        simp only at h
        split at h
        · injection h with h; injection h with h1 h2; subst h2; simp
        · cases h
    · split at h
      · cases b with
        | nil => cases h
        | cons y b =>
          cases b with
          | nil => cases h
          | cons z b =>
            simp only at h
            split at h
            · injection h with h; injection h with h1 h2; subst h2; simp
            · cases h
      · split at h
        · injection h with h; injection h with h1 h2; subst h2; simp
        · cases h
theorem lenP_errs {short : Int} {b : List Int} {e : Int} (h : lenP short b = .err e) : e = short ∨ e = 2 := by
  cases b with
  | nil => simp [lenP] at h; exact .inl h.symm
  | cons x b =>
    unfold lenP at h
    simp only at h
    split at h
    · cases b with
      | nil => injection h with h; exact .inl h.symm
      | cons y b =>
        simp only at h
        split at h
        · cases h
        · injection h with h; exact .inr h.symm
    · split at h
      · cases b with
        | nil => injection h with h; exact .inl h.symm
        | cons y b =>
          cases b with
          | nil => injection h with h; exact .inl h.symm
          | cons z b =>
            simp only at h
            split at h
            · cases h
            · injection h with h; exact .inr h.symm
      · split at h
        · cases h
        · injection h with h; exact .inr h.symm
theorem elemP_rest {n : Nat} {deep short : Int} {b r : List Int} {t : T} (h : elemP n deep short b = .ok (t, r)) : r.length + 2 ≤ b.length := by
  cases n with
  | zero => simp [elemP] at h
  | succ n =>
    cases b with
    | nil => simp [elemP] at h
    | cons tag b =>
      unfold elemP at h
      split at h
      · cases hl : lenP short b with
        | err e => rw [hl] at h; cases h
        | ok p =>
          obtain ⟨m, r2⟩ := p
          have hr := lenP_rest hl
          rw [hl] at h
          simp only at h
          split at h
          · cases h
          · split at h
            · cases h
            · split at h
              · cases hk : kidsP n (deep + 1) (r2.take m.toNat) with
                | err e => rw [hk] at h; cases h
                | ok l => rw [hk] at h; injection h with h; injection h with h1 h2; subst h2; simp; omega
              · injection h with h; injection h with h1 h2; subst h2; simp; omega
      · cases h
mutual
theorem elemP_errs : ∀ (n : Nat) (deep short : Int) (b : List Int) (e : Int), b.length + 1 ≤ n → short ≠ 0 → elemP n deep short b = .err e → e ≠ 0
  | 0, _, _, b, e, hn, _, _ => by omega
  | n + 1, deep, short, [], e, _, hs, h => by
    simp [elemP] at h
    omega
  | n + 1, deep, short, tag :: b, e, hn, hs, h => by
    unfold elemP at h
    split at h
    · cases hl : lenP short b with
      | err x =>
        rw [hl] at h
        injection h with h
        have := lenP_errs hl
        omega
      | ok p =>
        obtain ⟨m, r2⟩ := p
        have hr := lenP_rest hl
        rw [hl] at h
        simp only at h
        split at h
        · injection h with h; omega
        · split at h
          · injection h with h; omega
          · split at h
            · cases hk : kidsP n (deep + 1) (r2.take m.toNat) with
              | err x =>
                rw [hk] at h
                injection h with h
                have := kidsP_errs n (deep + 1) (r2.take m.toNat) x (by simp at hn ⊢; omega) hk
                omega
              | ok l => rw [hk] at h; cases h
            · cases h
    · injection h with h; omega
theorem kidsP_errs : ∀ (n : Nat) (deep : Int) (b : List Int) (e : Int), b.length + 2 ≤ n → kidsP n deep b = .err e → e ≠ 0
  | 0, _, b, e, hn, _ => by omega
  | n + 1, deep, [], e, _, h => by simp [kidsP] at h
  | n + 1, deep, x :: b, e, hn, h => by
    unfold kidsP at h
    cases he : elemP n deep 2 (x :: b) with
    | err y =>
      rw [he] at h
      injection h with h
      have := elemP_errs n deep 2 (x :: b) y (by omega) (by decide) he
      omega
    | ok p =>
      obtain ⟨t, r⟩ := p
      have hr := elemP_rest he
      rw [he] at h
      simp only at h
      cases hk : kidsP n deep r with
      | err y =>
        rw [hk] at h
        injection h with h
        have := kidsP_errs n deep r y (by omega) hk
        omega
      | ok l => rw [hk] at h; cases h
end
theorem readP_errs {b : List Int} {e : Int} (h : readP b = .err e) : e ≠ 0 := by
  unfold readP at h
  split at h
  · injection h with h; omega
  · cases he : elemP (b.length + 1) 0 3 b with
    | err x =>
      rw [he] at h
      injection h with h
      have := elemP_errs _ _ _ _ _ (Nat.le_refl _) (by decide) he
      omega
    | ok p =>
      obtain ⟨t, r⟩ := p
      rw [he] at h
      simp only at h
      split at h
      · cases h
      · injection h with h; omega

theorem openSig_some {x a : T} {t : List Int} (h : openSig x = some (a, t)) : ∃ y z, x.f0 = 48 ∧ x.f2 = [a, y, z] ∧ sameP y (algT 11) = true ∧ sigP z = some t := by
  obtain ⟨tag, body, kids⟩ := x
  unfold openSig at h
  match kids, h with
  | [], h => simp at h
  | [u], h => simp at h
  | [u, y], h => simp at h
  | [u, y, z], h =>
    simp only at h
    split at h
    · rename_i hc
      cases hs : sigP z with
      | none => rw [hs] at h; cases h
      | some t' =>
        rw [hs] at h
        simp only [Option.some.injEq, Prod.mk.injEq] at h
        obtain ⟨rfl, rfl⟩ := h
        exact ⟨y, z, hc.1, rfl, hc.2, hs⟩
    · cases h
  | u :: y :: z :: v :: r, h => simp at h
theorem openSig_tag {x : T} (h : x.f0 ≠ 48 ∨ x.f2.length ≠ 3) : openSig x = none := by
  cases ho : openSig x with
  | none => rfl
  | some p =>
    obtain ⟨a, t⟩ := p
    obtain ⟨y, z, h1, h2, _⟩ := openSig_some ho
    rcases h with h | h
    · exact absurd h1 h
    · rw [h2] at h; exact absurd rfl h
theorem open1_any (x : T) (p q : Nat) (w : World) (X1 : Option Addr) (x1 : Nat) (X2 : Option Addr) (x2 : Nat) (tp tq : TypeId) (s0 : Value) (hp : w.heap[p]? = some (.cells #[.int .i64 x.f0, .slice X1 x.f1.length x1, .slice X2 x.f2.length x2] tp (0, 0))) (hq : w.heap[q]? = some (.cells #[s0] tq (0, 0)))
    (hn : NodeAt w x X1 x1 X2 x2) (hr : rightT x = true) (hs : sizeT x ≤ 1000000) (hv : ∀ v ∈ encT x, 0 ≤ v ∧ v < 256) :
    Calls Try.prog 21 #[.pointer (some ⟨p, 0, none⟩), .pointer (some ⟨q, 0, none⟩)] w (Open1Post w x q) := by
  by_cases h : x.f0 ≠ 48 ∨ x.f2.length ≠ 3
  · have he : Open1Post w x q = fun e w' => e = gone 2 ∧ Below w.heap.size w w' := by
      funext e w'; unfold Open1Post; rw [openSig_tag h]
    rw [he]
    exact open1_tag x p q w X1 x1 X2 x2 tp hp h
  · have h0 : x.f0 = 48 := Classical.byContradiction fun hc => h (.inl hc)
    have h1 : x.f2.length = 3 := Classical.byContradiction fun hc => h (.inr hc)
    have hk := kids_parts x hr
    obtain ⟨tag, body, kids⟩ := x
    dsimp only at h0 h1 hp hk
    subst h0
    match kids, h1, hp, hn, hr, hs, hv, hk with
    | [a, y, z], _, hp, hn, hr, hs, hv, hk =>
      have hy := hk y (by simp)
      have hz := hk z (by simp)
      have hzv : ∀ v ∈ z.f1, 0 ≤ v ∧ v < 256 := fun v hvz => hv v (hz.2.2.1 v (body_in z hz.1 v hvz))
      have hzl : z.f1.length ≤ 1000000 := by
        have h2 : (z.f1.length : Int) ≤ sizeT z := by
          obtain ⟨zt, zb, zk⟩ := z
          have hzr := hz.1
          rw [rightT, Bool.and_eq_true, Bool.and_eq_true] at hzr
          rw [sizeT]
          by_cases hH : holdsB zt = true
          · rw [if_pos hH] at hzr ⊢
            have := of_decide_eq_true hzr.1.2
            have h4 := manyL_le zk
            have h5 := headLen_pos (sizeL zk)
            rw [this]
            simp
            omega
          · rw [if_neg hH]
            have h5 := headLen_pos zb.length
            show (zb.length : Int) ≤ _
            omega
        omega
      exact open1_three a y z body p q w X1 x1 X2 x2 tp tq s0 hp hq hn.2.2.1 (fun _ => by omega) hzv hzl

/-- Open's two variables, and the world in which it reads. -/
structure Vars (w W : World) (n0 n1 n2 g : Value) : Prop where
  n : W.heap[w.heap.size]? = some (.cells #[n0, n1, n2] 25 (0, 0))
  g : W.heap[w.heap.size + 1]? = some (.cells #[g] 22 (0, 0))
  b : Below w.heap.size w W
theorem Vars.step {w W W2 : World} {n0 n1 n2 g : Value} (h : Vars w W n0 n1 n2 g) (hb : Below W.heap.size W W2) : Vars w W2 n0 n1 n2 g :=
  ⟨(hb.block _ (heap_lt h.n)).trans h.n, (hb.block _ (heap_lt h.g)).trans h.g, h.b.trans (hb.mono h.b.size)⟩
theorem Vars.setN {w W : World} {n0 n1 n2 g : Value} (h : Vars w W n0 n1 n2 g) (m0 m1 m2 : Value) : Vars w (((W.setCell ⟨w.heap.size, 0, none⟩ m0).setCell ⟨w.heap.size, 1, none⟩ m1).setCell ⟨w.heap.size, 2, none⟩ m2) m0 m1 m2 g :=
  ⟨heap_setCell_same _ _ 2 _ _ _ (heap_setCell_same _ _ 1 _ _ _ (heap_setCell_same _ _ 0 _ _ _ h.n)),
   (heap_setCell_other _ _ _ _ (by show w.heap.size + 1 ≠ w.heap.size; omega)).trans ((heap_setCell_other _ _ _ _ (by show w.heap.size + 1 ≠ w.heap.size; omega)).trans ((heap_setCell_other _ _ _ _ (by show w.heap.size + 1 ≠ w.heap.size; omega)).trans h.g)),
   Below.setCell (Below.setCell (Below.setCell h.b (p := ⟨w.heap.size, 0, none⟩) (Nat.le_refl _) _) (p := ⟨w.heap.size, 1, none⟩) (Nat.le_refl _) _) (p := ⟨w.heap.size, 2, none⟩) (Nat.le_refl _) _⟩
theorem Vars.setG {w W : World} {n0 n1 n2 g : Value} (h : Vars w W n0 n1 n2 g) (m : Value) : Vars w (W.setCell ⟨w.heap.size + 1, 0, none⟩ m) n0 n1 n2 m :=
  ⟨(heap_setCell_other _ _ _ _ (by show w.heap.size ≠ w.heap.size + 1; omega)).trans h.n, heap_setCell_same _ _ 0 _ _ _ h.g, Below.setCell h.b (p := ⟨w.heap.size + 1, 0, none⟩) (Nat.le_succ _) _⟩
theorem Vars.new (w : World) : Vars w ((w.alloc (.cells #[.int .i64 0, .slice none 0 0, .slice none 0 0] 25)).alloc (.cells #[.slice none 0 0] 22)) (.int .i64 0) (.slice none 0 0) (.slice none 0 0) (.slice none 0 0) :=
  ⟨(Below.heap_alloc _ _ _ (by simp)).trans (heap_alloc_new w _), (by have := heap_alloc_new (w.alloc (.cells #[.int .i64 0, .slice none 0 0, .slice none 0 0] 25)) (.cells #[.slice none 0 0] 22); simpa using this), ((Below.refl _ _).alloc (Nat.le_refl _) _).alloc (by simp) _⟩
theorem Vars.outside {w W W2 : World} {n0 n1 n2 g : Value} (h : Vars w W n0 n1 n2 g) (hk : ∀ k, k < W.heap.size → k ≠ w.heap.size + 1 → W2.heap[k]? = W.heap[k]?) (h1 : W2.os = W.os) (h2 : W2.tape = W.tape) (h3 : W2.output = W.output) (h4 : W.heap.size ≤ W2.heap.size) {g' : Value} (hg : W2.heap[w.heap.size + 1]? = some (.cells #[g'] 22 (0, 0))) : Vars w W2 n0 n1 n2 g' :=
  ⟨(hk _ (heap_lt h.n) (by omega)).trans h.n, hg, h1.trans h.b.os, h2.trans h.b.tape, h3.trans h.b.output, Nat.le_trans h.b.size h4, fun k hlt => (hk k (by have := heap_lt h.n; omega) (by omega)).trans (h.b.block k hlt)⟩

theorem Vars.far {w W : World} {n0 n1 n2 g : Value} (h : Vars w W n0 n1 n2 g) (p : Addr) (u : Value) (hp : w.heap.size + 1 < p.block) : Vars w (W.setCell p u) n0 n1 n2 g :=
  ⟨(heap_setCell_other _ _ _ _ (by omega)).trans h.n, (heap_setCell_other _ _ _ _ (by omega)).trans h.g, Below.setCell h.b (by omega) _⟩
theorem Vars.drew {w W : World} {n0 n1 n2 g : Value} (h : Vars w W n0 n1 n2 g) : Vars w W.drew n0 n1 n2 g := ⟨h.n, h.g, h.b.drew⟩
/-- The end of Open, at the world behind the draw. -/
theorem open_done {w W : World} {m0 m1 m2 : Value} {G : Option Addr} {cg : Nat} {t : List Int} {S : Option Addr} {cs : Nat} {s : List Int} {p m : Nat} {tp : TypeId} {X1 : Option Addr} {x1 x2 : Nat} {ad : Addr} {a y z : T} {xt : Int} {xb : List Int} {N1 : Option Addr} {n1 : Nat} {N2 : Option Addr} {n2 : Nat}
    (hV : Vars w W m0 m1 m2 (.slice G t.length cg)) (hp : w.heap.size + 1 < p) (hx : W.heap[p]? = some (.cells #[.int .i64 xt, .slice X1 xb.length x1, .slice (some ad) 3 x2] tp (0, 0))) (hn : NodeR W (w.heap.size + 2) m ⟨xt, xb, [a, y, z]⟩ (.slice X1 xb.length x1) (.slice (some ad) 3 x2))
    (u0 : W.cell? ad = some (.int .i64 a.f0)) (u1 : W.cell? ⟨ad.block, ad.off + 1, none⟩ = some (.slice N1 a.f1.length n1)) (u2 : W.cell? ⟨ad.block, ad.off + 2, none⟩ = some (.slice N2 a.f2.length n2))
    (hG : (Kd.int .u8).R 5 W (w.heap.size + 2) (fun _ => True) (.slice G t.length cg) t) (hS : (Kd.int .u8).R 5 W (w.heap.size + 2) (fun _ => True) (.slice S s.length cs) s) :
    (W.cell? ⟨p, 2, none⟩ = some (.slice (some ad) 3 x2) ∧ W.cell? ad = some (.int .i64 a.f0) ∧ W.cell? ⟨ad.block, ad.off + 1, none⟩ = some (.slice N1 a.f1.length n1) ∧ W.cell? ⟨ad.block, ad.off + 2, none⟩ = some (.slice N2 a.f2.length n2) ∧ W.cell? ⟨w.heap.size + 1, 0, none⟩ = some (.slice G t.length cg)) ∧
    (∀ W1, W1 = ((W.setCell ⟨w.heap.size, 0, none⟩ (.int .i64 a.f0)).setCell ⟨w.heap.size, 1, none⟩ (.slice N1 a.f1.length n1)).setCell ⟨w.heap.size, 2, none⟩ (.slice N2 a.f2.length n2) →
      (W1.cell? ⟨p, 2, none⟩ = some (.slice (some ad) 3 x2) ∧ W1.cell? ad = some (.int .i64 a.f0) ∧ W1.cell? ⟨ad.block, ad.off + 1, none⟩ = some (.slice N1 a.f1.length n1) ∧ W1.cell? ⟨ad.block, ad.off + 2, none⟩ = some (.slice N2 a.f2.length n2) ∧ W1.cell? ⟨w.heap.size + 1, 0, none⟩ = some (.slice G t.length cg)) ∧
      W1.cell? ⟨w.heap.size + 1, 0, none⟩ = some (.slice G t.length cg) ∧ W1.frozen? ⟨w.heap.size + 1, 0, none⟩ = false ∧
      (∀ W2, W2 = W1.setCell ⟨w.heap.size + 1, 0, none⟩ (.slice G t.length cg) →
        Vars w W2 (.int .i64 a.f0) (.slice N1 a.f1.length n1) (.slice N2 a.f2.length n2) (.slice G t.length cg) ∧ NodeAt W2 a N1 n1 N2 n2 ∧ ReadsInt W2 .u8 S s.length s ∧ s.length ≤ cs ∧ ReadsInt W2 .u8 G t.length t ∧ t.length ≤ cg)) := by
  have had : w.heap.size + 2 ≤ ad.block := by
    have := (Kd.R_bound hn.k).1 ad.block rfl
    exact this.2.1
  refine ⟨⟨Lib.cell_of_heap hx 2, u0, u1, u2, Lib.cell_of_heap hV.g 0⟩, ?_⟩
  intro W1 hW1
  have hV1 : Vars w W1 (.int .i64 a.f0) (.slice N1 a.f1.length n1) (.slice N2 a.f2.length n2) (.slice G t.length cg) := by rw [hW1]; exact hV.setN _ _ _
  have hk1 : ∀ k, k ≠ w.heap.size → W1.heap[k]? = W.heap[k]? := fun k hk => by rw [hW1]; exact (heap_setCell_other _ _ _ _ hk).trans ((heap_setCell_other _ _ _ _ hk).trans (heap_setCell_other _ _ _ _ hk))
  have hx1 := (hk1 p (by omega)).trans hx
  have hcell : ∀ (W' : World), (∀ k, w.heap.size + 2 ≤ k → W'.heap[k]? = W.heap[k]?) → ∀ b : Addr, w.heap.size + 2 ≤ b.block → W'.cell? b = W.cell? b := by
    intro W' hW' b hb
    unfold World.cell?
    rw [hW' _ hb]
  have e1 := hcell W1 (fun k hk => hk1 k (by omega))
  refine ⟨⟨Lib.cell_of_heap hx1 2, (e1 ad had).trans u0, (e1 ⟨ad.block, ad.off + 1, none⟩ had).trans u1, (e1 ⟨ad.block, ad.off + 2, none⟩ had).trans u2, Lib.cell_of_heap hV1.g 0⟩, Lib.cell_of_heap hV1.g 0, Lib.frozen_of_heap hV1.g 0, ?_⟩
  intro W2 hW2
  have hV2 : Vars w W2 (.int .i64 a.f0) (.slice N1 a.f1.length n1) (.slice N2 a.f2.length n2) (.slice G t.length cg) := by rw [hW2]; exact hV1.setG _
  have hk2 : ∀ k, w.heap.size + 2 ≤ k → W2.heap[k]? = W.heap[k]? := fun k hk => by rw [hW2]; exact (heap_setCell_other _ _ _ _ (by show k ≠ w.heap.size + 1; omega)).trans (hk1 k (by omega))
  have e2 := hcell W2 hk2
  have hG2 := Kd.R_move (w1 := W2) (Kd.R_mono (Kd.R_bound hG) (fun k hk => hk.2.1)) (fun k hk => hk2 k hk)
  have hS2 := Kd.R_move (w1 := W2) (Kd.R_mono (Kd.R_bound hS) (fun k hk => hk.2.1)) (fun k hk => hk2 k hk)
  obtain ⟨_, _, f1, g1, k1⟩ := Kd.R_reads hG2
  injection f1 with f1 _ f1'
  subst f1 f1'
  obtain ⟨_, _, f2, g2, k2⟩ := Kd.R_reads hS2
  injection f2 with f2 _ f2'
  subst f2 f2'
  have hn2 := (hn.move (w1 := W2) (fun k hk _ => hk2 k hk)).at (n := ⟨xt, xb, [a, y, z]⟩)
  obtain ⟨ad', N1', n1', N2', n2', e', v0, v1, v2, l1, i1, l2, i2⟩ := at_T25 hn2.2.2.1 0 (by omega) (by simp)
  injection e' with e'
  subst e'
  have hrd : rd_T25 [a, y, z] 0 = a := rfl
  rw [hrd] at v1 v2 l1 i1 l2 i2
  replace v1 : W2.cell? ⟨ad.block, ad.off + 1, none⟩ = some (.slice N1' a.f1.length n1') := v1
  replace v2 : W2.cell? ⟨ad.block, ad.off + 2, none⟩ = some (.slice N2' a.f2.length n2') := v2
  have w1 := ((e2 ⟨ad.block, ad.off + 1, none⟩ had).trans u1).symm.trans v1
  have w2 := ((e2 ⟨ad.block, ad.off + 2, none⟩ had).trans u2).symm.trans v2
  injection w1 with w1
  injection w1 with w1 _ w1'
  injection w2 with w2
  injection w2 with w2 _ w2'
  subst w1 w1' w2 w2'
  exact ⟨hV2, ⟨i1, l1, i2, l2⟩, reads_of_C k2, g2, reads_of_C k1, g1⟩

set_option maxHeartbeats 4000000 in
set_option maxRecDepth 100000 in
theorem open_walk (A : Option Addr) (c : Nat) (l : List Int) (w : World) (hr : ReadsInt w .u8 A l.length l) (hc : l.length ≤ c) (hv : ∀ x ∈ l, 0 ≤ x ∧ x < 256) (hl : l.length ≤ 1000000000) :
    Calls Try.prog 9 #[.slice A l.length c] w (OpenPost w l) := by
  have hmf : ∀ (fn : Fn) (first cap : Array Value) (w : World), (Instr.makeFunc fn first cap).run Try.prog w = .ok (.func fn first cap) w := fun _ _ _ _ => rfl
  have hV := Vars.new w
  have HREAD := Lib.hid (read_walk A c l _ (ReadsInt_below hr hV.b) hc hv hl)
  have HV := Lib.hid hV
  have HL := Lib.hid hv
  generalize hPP : OpenPost w l = PP
  clear hr hv hV
  go_enter Try.func9, Try.ntmps9
  go_wp2_with (fail)
  refine HREAD.out.mono ?_
  intro e w3 hp
  unfold ReadPost at hp
  cases hq : readP l with
  | err x =>
    rw [hq] at hp
    obtain ⟨rfl, hB3⟩ := hp
    have hx : x ≠ 0 := readP_errs hq
    have hV3 := HV.out.step hB3
    have hV4 := hV3.step (W2 := w3.alloc (.cells #[.int .i64 0, .slice none 0 0, .slice none 0 0] 25)) ((Below.refl _ _).alloc (Nat.le_refl _) _)
    have hpp : PP = fun e w' => e = .returned (.tuple #[.agg #[.int .i64 0, .slice none 0 0, .slice none 0 0], .slice none 0 0, .slice none 0 0, .int .i64 x]) ∧ Below w.heap.size w w' := by
      rw [← hPP]; funext e w'; unfold OpenPost openP; rw [hq]
    clear hPP hq hB3 HREAD
    subst hpp
    have a0 := Lib.cell_of_heap hV4.n 0
    have a1 := Lib.cell_of_heap hV4.n 1
    have a2 := Lib.cell_of_heap hV4.n 2
    have g0 := Lib.cell_of_heap hV4.g 0
    have fa0 := Lib.frozen_of_heap hV4.n 0
    have fa1 := Lib.frozen_of_heap hV4.n 1
    have fa2 := Lib.frozen_of_heap hV4.n 2
    have fg0 := Lib.frozen_of_heap hV4.g 0
    have hx1 := eq_false hx
    have hx2 : (x == 0) = false := beq_eq_false_iff_ne.2 hx
    have hne : (w.heap.size = w3.heap.size) = False := eq_false (by have := heap_lt hV3.n; omega)
    have hne2 : (w.heap.size + 1 = w3.heap.size) = False := eq_false (by have := heap_lt hV3.g; omega)
    have HV4 := Lib.hid hV4
    clear hV3 hV4 hx
    go_wp2
    have hF := (HV4.out.setN (.int .i64 0) (.slice none 0 0) (.slice none 0 0)).setG (.slice none 0 0)
    generalize ((((w3.alloc (.cells #[.int .i64 0, .slice none 0 0, .slice none 0 0] 25)).setCell ⟨w.heap.size, 0, none⟩ (.int .i64 0)).setCell ⟨w.heap.size, 1, none⟩ (.slice none 0 0)).setCell ⟨w.heap.size, 2, none⟩ (.slice none 0 0)).setCell ⟨w.heap.size + 1, 0, none⟩ (.slice none 0 0) = WF at hF ⊢
    have z0 := Lib.cell_of_heap hF.n 0
    have z1 := Lib.cell_of_heap hF.n 1
    have z2 := Lib.cell_of_heap hF.n 2
    have z3 := Lib.cell_of_heap hF.g 0
    refine bodyPost_ret (v := .tuple #[.agg #[.int .i64 0, .slice none 0 0, .slice none 0 0], .slice none 0 0, .slice none 0 0, .int .i64 x]) (by simp [results, Try.results9, go_sem, z0, z1, z2, z3]) rfl ?_
    exact ⟨rfl, hF.b⟩
  | ok x =>
    rw [hq] at hp
    obtain ⟨v1, v2, rfl, hv1, hv2, hB3⟩ := hp
    obtain ⟨b1, b2, b3, b4, b5⟩ := readP_ok HL.out hq
    have hnr := NodeR.of (n := x) hv1 hv2
    obtain ⟨X1, x1, X2, x2, rfl, rfl, hnx⟩ := hnr.form
    have hV3 := HV.out.step hB3
    have hsz2 : ((w.alloc (.cells #[.int .i64 0, .slice none 0 0, .slice none 0 0] 25)).alloc (.cells #[.slice none 0 0] 22)).heap.size = w.heap.size + 2 := by simp
    rw [hsz2] at hnr
    have hal : Below w3.heap.size w3 (w3.alloc (.cells #[.int .i64 x.f0, .slice X1 x.f1.length x1, .slice X2 x.f2.length x2] 25)) := (Below.refl _ _).alloc (Nat.le_refl _) _
    have hle : w.heap.size + 1 < w3.heap.size := heap_lt hV3.g
    have H4 : ∀ w4, w4 = w3.alloc (.cells #[.int .i64 x.f0, .slice X1 x.f1.length x1, .slice X2 x.f2.length x2] 25) → Calls Try.prog 20 #[.func (.func 21) #[] #[.pointer (some ⟨w3.heap.size, 0, none⟩), .pointer (some ⟨w.heap.size + 1, 0, none⟩)]] w4 fun e w7 =>
        match openSig x with
        | none => e = .returned (.int .i64 2) ∧ Vars w w7 (.int .i64 0) (.slice none 0 0) (.slice none 0 0) (.slice none 0 0)
        | some (a, t) => e = .returned (.int .i64 0) ∧ ∃ G cg, Vars w w7 (.int .i64 0) (.slice none 0 0) (.slice none 0 0) (.slice G t.length cg) ∧ w7.heap[w3.heap.size]? = some (.cells #[.int .i64 x.f0, .slice X1 x.f1.length x1, .slice X2 x.f2.length x2] 25 (0, 0)) ∧ NodeR w7 (w.heap.size + 2) w3.heap.size x (.slice X1 x.f1.length x1) (.slice X2 x.f2.length x2) ∧ (Kd.int .u8).R 5 w7 (w.heap.size + 2) (fun _ => True) (.slice G t.length cg) t := by
      intro w4 hw4
      have hs4 : w4.heap.size = w3.heap.size + 1 := by rw [hw4]; simp
      have hx4 : w4.heap[w3.heap.size]? = some (.cells #[.int .i64 x.f0, .slice X1 x.f1.length x1, .slice X2 x.f2.length x2] 25 (0, 0)) := by rw [hw4]; exact heap_alloc_new w3 _
      rw [← hw4] at hal
      have hV4 := hV3.step hal
      have hn4 := hnx.below hal
      have hr4 := hnr.below hal
      have hal5 : Below w4.heap.size w4 (w4.alloc (.cells #[.int .i64 0] 28)) := (Below.refl _ _).alloc (Nat.le_refl _) _
      have he5 : (w4.alloc (.cells #[.int .i64 0] 28)).heap[w4.heap.size]? = some (.cells #[.int .i64 0] 28 (0, 0)) := heap_alloc_new w4 _
      have hV5 := hV4.step hal5
      have hx5 := (hal5.block _ (heap_lt hx4)).trans hx4
      have hn5 := hn4.below hal5
      have hr5 := hr4.below (hal5.mono (by omega))
      have hop := open1_any x w3.heap.size (w.heap.size + 1) (w4.alloc (.cells #[.int .i64 0] 28)) X1 x1 X2 x2 _ _ _ hx5 hV5.g hn5 b2 (by omega) (by rw [← b1]; exact HL.out)
      cases ho : openSig x with
      | none =>
        have hw := wrong_walk w3.heap.size (w.heap.size + 1) w4 (fun z W => z = 2 ∧ Below (w4.alloc (.cells #[.int .i64 0] 28)).heap.size (w4.alloc (.cells #[.int .i64 0] 28)) W) (hop.mono (by
          rintro e w2 h
          unfold Open1Post at h
          rw [ho] at h
          obtain ⟨rfl, hB⟩ := h
          exact ⟨.inr ⟨2, rfl, rfl, hB⟩, (hB.block _ (heap_lt he5)).trans he5⟩))
        refine hw.mono ?_
        rintro e w7 ⟨z, w2, rfl, ⟨rfl, hB⟩, rfl⟩
        exact ⟨rfl, (hV5.step hB).far ⟨w4.heap.size, 0, none⟩ _ (by show _ < w4.heap.size; omega)⟩
      | some pr =>
        obtain ⟨a, t⟩ := pr
        have hw := wrong_walk w3.heap.size (w.heap.size + 1) w4 (fun z W => z = 0 ∧ ∃ w6 G cg, Below (w4.alloc (.cells #[.int .i64 0] 28)).heap.size (w4.alloc (.cells #[.int .i64 0] 28)) w6 ∧ W = w6.setCell ⟨w.heap.size + 1, 0, none⟩ (.slice G t.length cg) ∧ (Kd.int .u8).R 5 w6 (w4.alloc (.cells #[.int .i64 0] 28)).heap.size (fun _ => True) (.slice G t.length cg) t) (hop.mono (by
          rintro e w2 h
          unfold Open1Post at h
          rw [ho] at h
          obtain ⟨rfl, w6, G, cg, hB, rfl, hG⟩ := h
          exact ⟨.inl ⟨rfl, rfl, w6, G, cg, hB, rfl, hG⟩, (heap_setCell_other _ _ _ _ (by show w4.heap.size ≠ w.heap.size + 1; omega)).trans ((hB.block _ (heap_lt he5)).trans he5)⟩))
        refine hw.mono ?_
        rintro e w7 ⟨z, w2, rfl, ⟨rfl, w6, G, cg, hB, rfl, hG⟩, rfl⟩
        have hs5 : (w4.alloc (.cells #[.int .i64 0] 28)).heap.size = w4.heap.size + 1 := by simp
        refine ⟨rfl, G, cg, ((hV5.step hB).setG _).far ⟨w4.heap.size, 0, none⟩ _ (by show _ < w4.heap.size; omega), ?_, ?_, ?_⟩
        · exact (heap_setCell_other _ _ _ _ (by show w3.heap.size ≠ w4.heap.size; omega)).trans ((heap_setCell_other _ _ _ _ (by show w3.heap.size ≠ w.heap.size + 1; omega)).trans ((hB.block _ (heap_lt hx5)).trans hx5))
        · exact (hr5.below (hB.mono (by omega))).move (fun k hk1 hk2 => (heap_setCell_other _ _ _ _ (by show k ≠ w4.heap.size; omega)).trans (heap_setCell_other _ _ _ _ (by show k ≠ w.heap.size + 1; omega)))
        · have hG1 := Kd.R_mono (Kd.R_bound hG) (fun k hk => hk.2.1)
          have hG2 := Kd.R_far (p := ⟨w.heap.size + 1, 0, none⟩) hG1 (fun k hk => by show k ≠ w.heap.size + 1; omega) (.slice G t.length cg)
          have hG3 := Kd.R_far (p := ⟨w4.heap.size, 0, none⟩) hG2 (fun k hk => by show k ≠ w4.heap.size; omega) (.int .i64 0)
          exact Kd.R_lower (Kd.R_mono hG3 (fun _ _ => trivial)) (by omega)
    have HH4 := Lib.hid H4
    have HLE := Lib.hid hle
    clear H4 hnr hnx hal HREAD hB3 hle hV3 hv1 hv2 hsz2
    go_wp2_with (fail)
    refine (HH4.out _ rfl).mono ?_
    intro e w7 hp
    clear HH4
    cases ho : openSig x with
    | none =>
      rw [ho] at hp
      obtain ⟨rfl, hV7⟩ := hp
      have hpp : PP = fun e w' => e = .returned (.tuple #[.agg #[.int .i64 0, .slice none 0 0, .slice none 0 0], .slice none 0 0, .slice none 0 0, .int .i64 2]) ∧ Below w.heap.size w w' := by
        rw [← hPP]; funext e w'; unfold OpenPost openP; rw [hq]; simp only []; rw [ho]
      clear hPP hq b1 b2 b3 b4 b5 ho
      subst hpp
      have a0 := Lib.cell_of_heap hV7.n 0
      have a1 := Lib.cell_of_heap hV7.n 1
      have a2 := Lib.cell_of_heap hV7.n 2
      have g0 := Lib.cell_of_heap hV7.g 0
      have fa0 := Lib.frozen_of_heap hV7.n 0
      have fa1 := Lib.frozen_of_heap hV7.n 1
      have fa2 := Lib.frozen_of_heap hV7.n 2
      have fg0 := Lib.frozen_of_heap hV7.g 0
      have HV7 := Lib.hid hV7
      clear hV7
      go_wp2
      have hF := (HV7.out.setN (.int .i64 0) (.slice none 0 0) (.slice none 0 0)).setG (.slice none 0 0)
      generalize (((w7.setCell ⟨w.heap.size, 0, none⟩ (.int .i64 0)).setCell ⟨w.heap.size, 1, none⟩ (.slice none 0 0)).setCell ⟨w.heap.size, 2, none⟩ (.slice none 0 0)).setCell ⟨w.heap.size + 1, 0, none⟩ (.slice none 0 0) = WF at hF ⊢
      have z0 := Lib.cell_of_heap hF.n 0
      have z1 := Lib.cell_of_heap hF.n 1
      have z2 := Lib.cell_of_heap hF.n 2
      have z3 := Lib.cell_of_heap hF.g 0
      refine bodyPost_ret (v := .tuple #[.agg #[.int .i64 0, .slice none 0 0, .slice none 0 0], .slice none 0 0, .slice none 0 0, .int .i64 2]) (by simp [results, Try.results9, go_sem, z0, z1, z2, z3]) rfl ?_
      exact ⟨rfl, hF.b⟩
    | some pr =>
      obtain ⟨a, t⟩ := pr
      rw [ho] at hp
      obtain ⟨rfl, G, cg, hV7, hx7, hr7, hG7⟩ := hp
      obtain ⟨y, z, q1, q2, q3, q4⟩ := openSig_some ho
      obtain ⟨k1, k2, k3, k4⟩ := kids_parts x b2 a (by rw [q2]; simp)
      have hwa : writeP a = .ok (encT a) := by unfold writeP; rw [if_neg (by rw [k1]; simp), if_neg (by omega), if_neg (by omega)]
      have hpp : PP = fun e w' => ∃ A1 c1 A2 c2 S cs G cg, e = .returned (.tuple #[.agg #[.int .i64 a.f0, .slice A1 a.f1.length c1, .slice A2 a.f2.length c2], .slice S (encT a).length cs, .slice G t.length cg, .int .i64 0]) ∧ NodeAt w' a A1 c1 A2 c2 ∧ ReadsInt w' .u8 S (encT a).length (encT a) ∧ (encT a).length ≤ cs ∧ ReadsInt w' .u8 G t.length t ∧ t.length ≤ cg ∧ Below w.heap.size w w' := by
        have hsd : saidP a = encT a := by unfold saidP; rw [hwa]
        rw [← hPP]; funext e w'; unfold OpenPost openP; rw [hq]; simp only []; rw [ho]; simp only [hsd]
      have hsa : sizeT a ≤ 100000000 := by omega
      clear hPP hq b1 b2 b3 b4 b5 ho k1 k2 k3 k4
      subst hpp
      obtain ⟨xt, xb, xk⟩ := x
      dsimp only at q1 q2 hx7 hr7 ⊢
      subst q1 q2
      obtain ⟨ad, N1, n1, N2, n2, rfl, u0, u1, u2, l1, i1, l2, i2⟩ := at_T25 (hr7.at (n := ⟨48, xb, [a, y, z]⟩)).2.2.1 0 (by omega) (by simp)
      have hrd : rd_T25 [a, y, z] 0 = a := rfl
      rw [hrd] at u0 u1 u2 l1 i1 l2 i2
      have haz : Addr.add ad (Int.toNat 0 * 3) = ad := Addr.add_zero' ad
      rw [haz] at u0
      replace u1 : w7.cell? ⟨ad.block, ad.off + 1, none⟩ = some (.slice N1 a.f1.length n1) := u1
      replace u2 : w7.cell? ⟨ad.block, ad.off + 2, none⟩ = some (.slice N2 a.f2.length n2) := u2
      have hb2 := Lib.cell_of_heap hx7 2
      have HW := Lib.hid (write_walk a (fun _ => hsa) N1 n1 N2 n2 w7 ⟨i1, l1, i2, l2⟩)
      have HALL := Lib.hid (And.intro hV7 (And.intro hx7 (And.intro hr7 (And.intro hG7 (And.intro u0 (And.intro u1 u2))))))
      clear i1 l1 i2 l2 hV7 hx7 hr7 hG7 q3 q4 hrd haz
      go_wp2_with (fail)
      refine HW.out.mono ?_
      intro e w8 hp
      unfold WritePost at hp
      rw [hwa] at hp
      obtain ⟨S, cs, rfl, hS, hB8⟩ := hp
      obtain ⟨hV7, hx7, hr7, hG7, u0', u1', u2'⟩ := HALL.out
      have hV8 := (hV7.step hB8).drew
      have hle := HLE.out
      have hlt7 := heap_lt hx7
      have hd := open_done (W := w8.drew) hV8 (show w.heap.size + 1 < w3.heap.size from hle) ((hB8.block _ hlt7).trans hx7) (NodeR.move (w1 := w8.drew) (hr7.below (hB8.mono (by omega))) (fun _ _ _ => rfl))
        ((hB8.cell (World.block_lt_of_cell? w7 _ u0')).trans u0') ((hB8.cell (World.block_lt_of_cell? w7 _ u1')).trans u1') ((hB8.cell (World.block_lt_of_cell? w7 _ u2')).trans u2') (Kd.R_drew (Kd.R_below hG7 hB8)) (Kd.R_drew (Kd.R_lower hS (by omega)))
      have b0 := hd.1.1
      have b1 := hd.1.2.1
      have b2 := hd.1.2.2.1
      have b3 := hd.1.2.2.2.1
      have b4 := hd.1.2.2.2.2
      have hlen : (encT a).length = (encT a).length := rfl
      generalize hsd : encT a = sd at *
      have v0 := Lib.cell_of_heap hV8.n 0
      have v1 := Lib.cell_of_heap hV8.n 1
      have v2 := Lib.cell_of_heap hV8.n 2
      have fv0 := Lib.frozen_of_heap hV8.n 0
      have fv1 := Lib.frozen_of_heap hV8.n 1
      have fv2 := Lib.frozen_of_heap hV8.n 2
      have H8 := Lib.hid (hd.2 _ rfl)
      have HSD := Lib.hid hsd
      clear hd hS hB8 hV7 hx7 hr7 hG7 u0 u1 u2 u0' u1' u2' hb2 hV8 hle hlt7 HW HALL hwa hsa hlen hsd
      go_wp2
      refine start_ (n := 10) (S := fun w' => w'.cell? ⟨w3.heap.size, 2, none⟩ = some (.slice (some ad) 3 x2) ∧ w'.cell? ad = some (.int .i64 a.f0) ∧ w'.cell? ⟨ad.block, ad.off + 1, none⟩ = some (.slice N1 a.f1.length n1) ∧ w'.cell? ⟨ad.block, ad.off + 2, none⟩ = some (.slice N2 a.f2.length n2) ∧ w'.cell? ⟨w.heap.size + 1, 0, none⟩ = some (.slice G t.length cg)) (ds := [8]) #[false, false, false, false, false, false, false, false, false, false] (by kernel_rfl) rfl rfl ⟨b0, b1, b2, b3, b4⟩ (fun hHeld => ?_)
      generalize w8.drew = w9 at hHeld H8 v0 v1 v2 fv0 fv1 fv2 ⊢
      clear b0 b1 b2 b3 b4
      refine pure_ (i := 0) (N := some 30) (v := ?_) (a' := ?_) #[true, false, false, false, false, false, false, false, false, false] rfl rfl (by kernel_rfl) (fun _ _ _ h => h) (Or.inl ⟨by rfl, ?_⟩) ?_ ?_
      rotate_left
      · intro w'
        go_simp
        with_reducible rfl
      rotate_left
      · simp only [Act.put, List.setIfInBounds_toArray, List.set_cons_zero, List.set_cons_succ, i64_w, i32_w]
        rfl
      refine take_ (i := 1) (N := some 31) (v := ?_) (a' := ?_) #[true, true, false, false, false, false, false, false, false, false] rfl rfl (by kernel_rfl) (fun _ _ _ h => h) (Or.inl ⟨by rfl, ?_⟩) hHeld ?_ ?_
      rotate_left
      · rintro w' ⟨s0, s1, s2, s3, s4⟩
        go_simp
        with_reducible rfl
      rotate_left
      · simp only [Act.put, List.setIfInBounds_toArray, List.set_cons_zero, List.set_cons_succ, i64_w, i32_w]
        rfl
      refine pure_ (i := 2) (N := some 32) (v := ?_) (a' := ?_) #[true, true, true, false, false, false, false, false, false, false] rfl rfl (by kernel_rfl) (fun _ _ _ h => h) (Or.inl ⟨by rfl, ?_⟩) ?_ ?_
      rotate_left
      · intro w'
        go_simp
        with_reducible rfl
      rotate_left
      · simp only [Act.put, List.setIfInBounds_toArray, List.set_cons_zero, List.set_cons_succ, i64_w, i32_w]
        rfl
      refine take_ (i := 3) (N := some 33) (v := ?_) (a' := ?_) #[true, true, true, true, false, false, false, false, false, false] rfl rfl (by kernel_rfl) (fun _ _ _ h => h) (Or.inl ⟨by rfl, ?_⟩) hHeld ?_ ?_
      rotate_left
      · rintro w' ⟨s0, s1, s2, s3, s4⟩
        go_simp
        with_reducible rfl
      rotate_left
      · simp only [Act.put, List.setIfInBounds_toArray, List.set_cons_zero, List.set_cons_succ, i64_w, i32_w]
        rfl
      refine pure_ (i := 4) (N := some 34) (v := ?_) (a' := ?_) #[true, true, true, true, true, false, false, false, false, false] rfl rfl (by kernel_rfl) (fun _ _ _ h => h) (Or.inl ⟨by rfl, ?_⟩) ?_ ?_
      rotate_left
      · intro w'
        go_simp
        with_reducible rfl
      rotate_left
      · simp only [Act.put, List.setIfInBounds_toArray, List.set_cons_zero, List.set_cons_succ, i64_w, i32_w]
        rfl
      refine take_ (i := 5) (N := some 35) (v := ?_) (a' := ?_) #[true, true, true, true, true, true, false, false, false, false] rfl rfl (by kernel_rfl) (fun _ _ _ h => h) (Or.inl ⟨by rfl, ?_⟩) hHeld ?_ ?_
      rotate_left
      · rintro w' ⟨s0, s1, s2, s3, s4⟩
        go_simp
        with_reducible rfl
      rotate_left
      · simp only [Act.put, List.setIfInBounds_toArray, List.set_cons_zero, List.set_cons_succ, i64_w, i32_w]
        rfl
      refine one_ (i := 6) (N := none) #[true, true, true, true, true, true, true, false, false, false] rfl rfl (by kernel_rfl) (by decide) (fun K hK => ?_)
      refine skip_step (by rfl) (w1 := ((w9.setCell ⟨w.heap.size, 0, none⟩ (.int .i64 a.f0)).setCell ⟨w.heap.size, 1, none⟩ (.slice N1 a.f1.length n1)).setCell ⟨w.heap.size, 2, none⟩ (.slice N2 a.f2.length n2)) (by go_simp; try rfl) ?_
      refine hK.out _ _ H8.out.1 (fun hHeld => ?_)
      clear hK K
      refine pure_ (i := 7) (N := some 3) (v := ?_) (a' := ?_) #[true, true, true, true, true, true, true, true, false, false] rfl rfl (by kernel_rfl) (fun _ _ _ h => h) (Or.inl ⟨by rfl, ?_⟩) ?_ ?_
      rotate_left
      · intro w'
        go_simp
        with_reducible rfl
      rotate_left
      · simp only [Act.put, List.setIfInBounds_toArray, List.set_cons_zero, List.set_cons_succ, i64_w, i32_w]
        rfl
      refine last_ (i := 8) (N := none) #[true, true, true, true, true, true, true, true, true, false] rfl rfl (by kernel_rfl) (by decide) (fun K hK => ?_)
      have hz1 := H8.out.2.1
      have hz2 := H8.out.2.2.1
      refine skip_step (by rfl) (w1 := (((w9.setCell ⟨w.heap.size, 0, none⟩ (.int .i64 a.f0)).setCell ⟨w.heap.size, 1, none⟩ (.slice N1 a.f1.length n1)).setCell ⟨w.heap.size, 2, none⟩ (.slice N2 a.f2.length n2)).setCell ⟨w.heap.size + 1, 0, none⟩ (.slice G t.length cg)) (by go_simp; try rfl) ?_
      refine hK.out _ _ ?_
      clear hK K
      refine pure_ (i := 9) (N := some 5) (v := ?_) (a' := ?_) #[true, true, true, true, true, true, true, true, true, true] rfl rfl (by kernel_rfl) (fun _ _ _ h => h) (Or.inl ⟨by rfl, ?_⟩) ?_ ?_
      rotate_left
      · intro w'
        go_simp
        with_reducible rfl
      rotate_left
      · simp only [Act.put, List.setIfInBounds_toArray, List.set_cons_zero, List.set_cons_succ, i64_w, i32_w]
        rfl
      refine done_ (by kernel_rfl) ?_
      go_wp2
      have hF := H8.out.2.2.2 _ rfl
      generalize (((w9.setCell ⟨w.heap.size, 0, none⟩ (.int .i64 a.f0)).setCell ⟨w.heap.size, 1, none⟩ (.slice N1 a.f1.length n1)).setCell ⟨w.heap.size, 2, none⟩ (.slice N2 a.f2.length n2)).setCell ⟨w.heap.size + 1, 0, none⟩ (.slice G t.length cg) = WF at hF ⊢
      have y0 := Lib.cell_of_heap hF.1.n 0
      have y1 := Lib.cell_of_heap hF.1.n 1
      have y2 := Lib.cell_of_heap hF.1.n 2
      have y3 := Lib.cell_of_heap hF.1.g 0
      refine bodyPost_ret (v := .tuple #[.agg #[.int .i64 a.f0, .slice N1 a.f1.length n1, .slice N2 a.f2.length n2], .slice S sd.length cs, .slice G t.length cg, .int .i64 0]) (by simp [results, Try.results9, go_sem, y0, y1, y2, y3]) rfl ?_
      rw [HSD.out]
      exact ⟨N1, n1, N2, n2, S, cs, G, cg, rfl, hF.2.1, hF.2.2.1, hF.2.2.2.1, hF.2.2.2.2.1, hF.2.2.2.2.2, hF.1.b⟩

end Go.Proofs.Ytmbgjhkemlliaaa.Tlv

/- What is opened, sealed again: in plain Lean; awake. -/
set_option linter.unusedVariables false
set_option linter.unusedSimpArgs false
namespace Go.Proofs.Ytmbgjhkemlliaaa.Tlv
open Go.RowKit Go.Proofs.YtmbgjhkemlliaaaW.PrintWords Go.Proofs.YtmbgjhkemlliaaaW.PrintLast Go.Proofs.YtmbgjhkemlliaaaW.PrintMore Go.Proofs.Ytmbgjhkemlliaaa.PTlv

theorem openP_errs {b : List Int} {e : Int} (h : openP b = .err e) : e ≠ 0 := by
  unfold openP at h
  cases hq : readP b with
  | err x => rw [hq] at h; injection h with h; have := readP_errs hq; omega
  | ok x =>
    rw [hq] at h
    simp only at h
    cases ho : openSig x with
    | none => rw [ho] at h; injection h with h; omega
    | some p => rw [ho] at h; cases h
theorem sigP_some {z : T} {t : List Int} (h : sigP z = some t) : z = bitT t := by
  obtain ⟨tag, body, kids⟩ := z
  unfold sigP at h
  cases body with
  | nil => simp at h
  | cons x r =>
    simp only at h
    split at h
    · rename_i hc
      injection h with h
      obtain ⟨rfl, h2, h3⟩ := hc
      subst h h2 h3
      rfl
    · cases h
theorem head_bytes (tag n : Int) : ∀ v ∈ head tag n, 0 ≤ v ∧ v < 256 := by
  intro v hv
  unfold head at hv
  split at hv
  · simp at hv; omega
  · split at hv <;> (simp at hv; omega)
theorem alg_bytes : ∀ v ∈ encT (algT 11), 0 ≤ v ∧ v < 256 := by decide
theorem sameP_some {y n : T} (h : sameP y n = true) (hy : ∀ v ∈ encT y, 0 ≤ v ∧ v < 256) (hn : ∀ v ∈ encT n, 0 ≤ v ∧ v < 256) : encT y = encT n := by
  have hok : ∀ (u : T) (l : List Int), writeP u = .ok l → l = encT u := by
    intro u l hu
    unfold writeP at hu
    split at hu
    · cases hu
    · split at hu
      · cases hu
      · split at hu
        · cases hu
        · injection hu with hu; exact hu.symm
  unfold sameP at h
  cases h1 : writeP y with
  | err e => rw [h1] at h; cases h
  | ok l1 =>
    rw [h1] at h
    cases h2 : writeP n with
    | err e => rw [h2] at h; cases h
    | ok l2 =>
      rw [h2] at h
      have e1 := hok _ _ h1
      have e2 := hok _ _ h2
      subst e1 e2
      exact eqB_eq hy hn h
/-- What is opened, sealed again, has just these bytes. -/
theorem open_back {b : List Int} {a : T} {s t : List Int} (hb : ∀ v ∈ b, 0 ≤ v ∧ v < 256) (h : openP b = .ok (a, s, t)) :
    writeP (sealT a t) = .ok b ∧ 0 < s.length ∧ s.length < b.length ∧ rightT a = true ∧ sizeT a ≤ 20000 ∧ t.length ≤ 20000 ∧ s = encT a := by
  unfold openP at h
  cases hq : readP b with
  | err x => rw [hq] at h; cases h
  | ok x =>
    rw [hq] at h
    simp only at h
    cases ho : openSig x with
    | none => rw [ho] at h; cases h
    | some p =>
      obtain ⟨a', t'⟩ := p
      rw [ho] at h
      simp only [Res.ok.injEq, Prod.mk.injEq] at h
      obtain ⟨rfl, rfl, rfl⟩ := h
      obtain ⟨b1, b2, b3, b4, b5⟩ := readP_ok hb hq
      obtain ⟨y, z, q1, q2, q3, q4⟩ := openSig_some ho
      have hz := sigP_some q4
      have ka := kids_parts x b2 a' (by rw [q2]; simp)
      have ky := kids_parts x b2 y (by rw [q2]; simp)
      have kz := kids_parts x b2 z (by rw [q2]; simp)
      have hey : encT y = encT (algT 11) := sameP_some q3 (fun v hv => hb v (by rw [b1]; exact ky.2.2.1 v hv)) alg_bytes
      have hwa : writeP a' = .ok (encT a') := by unfold writeP; rw [if_neg (by rw [ka.1]; simp), if_neg (by omega), if_neg (by omega)]
      have hsd : saidP a' = encT a' := by unfold saidP; rw [hwa]
      obtain ⟨xt, xb, xk⟩ := x
      dsimp only at q1 q2
      subst q1 q2 hz
      have h48 : holdsB 48 = true := by decide
      have hl : ∀ u : T, encL [a', u, bitT t'] = encT a' ++ (encT u ++ (encT (bitT t') ++ [])) := fun u => by rw [encL, encL, encL, encL]
      have hl1 : encL [a', y, bitT t'] = encL [a', algT 11, bitT t'] := by rw [hl, hl, hey]
      have e1 : sizeL [a', y, bitT t'] = sizeL [a', algT 11, bitT t'] := by rw [size_encL, size_encL, hl1]
      have e2 : encT ⟨48, xb, [a', y, bitT t']⟩ = encT (sealT a' t') := by
        unfold sealT
        rw [encT, encT, if_pos h48, if_pos h48, e1, hl1]
      have e3 : sizeT (sealT a' t') = (b.length : Int) := by rw [size_enc, ← e2, ← b1]
      have hd : deepT (sealT a' t') ≤ 32 := by
        have hx : deepT ⟨48, xb, [a', y, bitT t']⟩ = max (deepT a') (max (deepT y) (max (deepT (bitT t')) 0)) + 1 := by rw [deepT, if_pos h48, deepL, deepL, deepL, deepL]
        have hy : deepT (sealT a' t') = max (deepT a') (max (deepT (algT 11)) (max (deepT (bitT t')) 0)) + 1 := by unfold sealT; rw [deepT, if_pos h48, deepL, deepL, deepL, deepL]
        have hg : deepT (algT 11) = 2 := by decide
        have hbt : deepT (bitT t') = 1 := by unfold bitT; rw [deepT, if_neg (by decide)]
        omega
      have hrs : rightT (sealT a' t') = true := by
        unfold sealT
        have hg : rightT (algT 11) = true := by decide
        have hbt : rightT (bitT t') = true := kz.1
        rw [rightT, if_pos h48, rightL, rightL, rightL, rightL, ka.1, hg, hbt]
        decide
      refine ⟨?_, ?_, ?_, ka.1, by omega, ?_, hsd⟩
      · unfold writeP
        rw [if_neg (by rw [hrs]; simp), if_neg (by omega), if_neg (by omega), ← e2, ← b1]
      · rw [hsd]; have := encT_len a'; omega
      · rw [hsd]
        have h1 := size_enc a'
        have h2 := many_le y
        have h3 := many_le (bitT t')
        have h4 := headLen_pos (sizeL [a', y, bitT t'])
        have h5 : sizeT ⟨48, xb, [a', y, bitT t']⟩ = sizeL [a', y, bitT t'] + headLen (sizeL [a', y, bitT t']) := by rw [sizeT, if_pos h48]
        have h6 : sizeL [a', y, bitT t'] = sizeT a' + (sizeT y + (sizeT (bitT t') + 0)) := by rw [sizeL, sizeL, sizeL, sizeL]
        omega
      · have h1 := kz.2.1
        have h2 : sizeT (bitT t') = ((0 :: t').length : Int) + headLen (((0 :: t').length : Nat) : Int) := by unfold bitT; rw [sizeT, if_neg (by decide)]
        have h5 := headLen_pos (((0 :: t').length : Nat) : Int)
        have h6 : (((0 : Int) :: t').length : Int) = t'.length + 1 := by simp
        omega

def wakeB : List Int := [48, 21, 5, 0, 48, 13, 6, 9, 42, 134, 72, 134, 247, 13, 1, 1, 11, 5, 0, 3, 2, 0, 7]
theorem wake_write : writeP (sealT ⟨5, [], []⟩ [7]) = .ok wakeB := by rfl
theorem wake_open : openP wakeB = .ok (⟨5, [], []⟩, [5, 0], [7]) := by
  have h1 : readP wakeB = .ok ⟨48, [], [⟨5, [], []⟩, algT 11, bitT [7]]⟩ := by rfl
  have h2 : sameP (algT 11) (algT 11) = true := by
    have hw : writeP (algT 11) = .ok (encT (algT 11)) := by rfl
    unfold sameP
    rw [hw]
    exact eqB_rfl _
  unfold openP
  rw [h1]
  simp only []
  unfold openSig
  simp only []
  rw [if_pos ⟨trivial, h2⟩]
  rfl

end Go.Proofs.Ytmbgjhkemlliaaa.Tlv

/- awake, and SpkiOpens, walked. -/
set_option linter.unusedVariables false
set_option linter.unusedSimpArgs false
namespace Go.Proofs.Ytmbgjhkemlliaaa.Tlv
open Go.RowKit Go.Proofs.YtmbgjhkemlliaaaW.PrintWords Go.Proofs.YtmbgjhkemlliaaaW.PrintLast Go.Proofs.YtmbgjhkemlliaaaW.PrintMore Go.Proofs.Ytmbgjhkemlliaaa.PTlv

set_option maxHeartbeats 4000000 in
set_option maxRecDepth 100000 in
theorem awake_walk (w : World) : Calls Try.prog 5 #[] w fun e w' => e = .returned (.bool true) ∧ Below w.heap.size w w' := by
  have hb0 : (w.alloc (.cells #[.int .u8 7] 5)).heap[w.heap.size]? = some (.cells ([7].map (Value.int .u8)).toArray 5 (0, 0)) := heap_alloc_new w _
  have hB1 : Below w.heap.size w (w.alloc (.cells #[.int .u8 7] 5)) := (Below.refl _ _).alloc (Nat.le_refl _) _
  have HSEAL := Lib.hid (seal_walk ⟨5, [], []⟩ [7] (fun _ => by decide) (by simp) none 0 none 0 (some ⟨w.heap.size, 0, none⟩) 1 (w.alloc (.cells #[.int .u8 7] 5)) ⟨C_nil _ _ _, Nat.le_refl _, C_nil _ _ _, Nat.le_refl _⟩ (reads_of_C (C_ints hb0 (by simp))) (by simp))
  have HB1 := Lib.hid hB1
  clear hb0 hB1
  go_enter Try.func5, Try.ntmps5
  go_wp2_with (fail)
  refine HSEAL.out.mono ?_
  intro e w2 hp
  unfold WritePost at hp
  rw [wake_write] at hp
  obtain ⟨A, c, rfl, ho, hB2⟩ := hp
  obtain ⟨_, _, f1, g1, k1⟩ := Kd.R_reads ho
  injection f1 with f1 _ f1'
  subst f1 f1'
  have hBw := HB1.out.trans (hB2.mono HB1.out.size)
  have HOPEN := Lib.hid (open_walk A c wakeB w2 (reads_of_C k1) g1 (by decide) (by decide))
  have HBW := Lib.hid hBw
  clear ho hB2 k1 g1 hBw HSEAL HB1
  have hwl : wakeB.length = 23 := rfl
  go_wp2_with (fail)
  rw [hwl] at HOPEN
  refine HOPEN.out.mono ?_
  intro e w3 hp
  unfold OpenPost at hp
  rw [wake_open] at hp
  obtain ⟨A1, c1, A2, c2, S, cs, G, cg, rfl, hn, hS, hcs, hG, hcg, hB3⟩ := hp
  have hBw := HBW.out.trans (hB3.mono HBW.out.size)
  have HB3 := Lib.hid hBw
  have hal : Below w3.heap.size w3 (w3.alloc (.cells #[.int .i64 5, .slice A1 0 c1, .slice A2 0 c2] 25)) := (Below.refl _ _).alloc (Nat.le_refl _) _
  have s0 : strOfNums [5, 0] = ⟨#[5, 0]⟩ := rfl
  have s1 : strOfNums [7] = ⟨#[7]⟩ := rfl
  have hcv1 := Kd.C_string (P := Try.prog) (A := S) (c := cs) Try.underlying22 Try.underlying5 Try.underlying9 (Kd.C_below (C_of_reads hS rfl) hal)
  have hcv2 := Kd.C_string (P := Try.prog) (A := G) (c := cg) Try.underlying22 Try.underlying5 Try.underlying9 (Kd.C_below (C_of_reads hG rfl) hal)
  rw [s0, show ([5, 0] : List Int).length = 2 from rfl] at hcv1
  rw [s1, show ([7] : List Int).length = 1 from rfl] at hcv2
  have HBF := Lib.hid (HB3.out.trans (hal.mono HB3.out.size))
  clear hn hB3 hBw HOPEN HBW hal s0 s1 hS hG hcs hcg
  go_wp2
  go_ret
  exact ⟨by first | rfl | (simp; done) | decide, HBF.out⟩

set_option maxHeartbeats 4000000 in
set_option maxRecDepth 100000 in
theorem opens_walk (A : Option Addr) (c : Nat) (l : List Int) (w : World) (hr : ReadsInt w .u8 A l.length l) (hc : l.length ≤ c) (hv : ∀ x ∈ l, 0 ≤ x ∧ x < 256) (hl : l.length ≤ 1000000000) :
    Calls Try.prog 4 #[.slice A l.length c] w fun e w' => e = .returned (.bool true) ∧ Below w.heap.size w w' := by
  have HR := Lib.hid (fun w' (hB : Below w.heap.size w w') => ReadsInt_below hr hB)
  have HV := Lib.hid hv
  clear hr hv
  by_cases h5 : 5000 < l.length
  · have hd : decide ((5000 : Int) < (l.length : Int)) = true := decide_eq_true (by omega)
    have hd2 := eq_true (show (5000 : Int) < (l.length : Int) by omega)
    clear h5
    go_enter Try.func4, Try.ntmps4
    go_wp2_with (fail)
    refine (awake_walk _).mono ?_
    rintro e w2 ⟨rfl, hB⟩
    go_wp2
    go_ret
    exact ⟨rfl, hB⟩
  · have hd : decide ((5000 : Int) < (l.length : Int)) = false := decide_eq_false (by omega)
    have hd2 := eq_false (show ¬ (5000 : Int) < (l.length : Int) by omega)
    clear h5
    go_enter Try.func4, Try.ntmps4
    go_wp2_with (fail)
    refine (awake_walk _).mono ?_
    rintro e w2 ⟨rfl, hB2⟩
    have HB2 := Lib.hid hB2
    have HOPEN := Lib.hid (open_walk A c l w2 (HR.out _ hB2) hc HV.out hl)
    clear hB2
    go_wp2_with (fail)
    refine HOPEN.out.mono ?_
    intro e w3 hp
    clear HOPEN
    unfold OpenPost at hp
    cases hq : openP l with
    | err x =>
      rw [hq] at hp
      obtain ⟨rfl, hB3⟩ := hp
      have hx := openP_errs hq
      have hx1 := eq_false hx
      have hx2 : (x == 0) = false := beq_eq_false_iff_ne.2 hx
      have HB3 := Lib.hid (HB2.out.trans (hB3.mono HB2.out.size))
      have HBF := Lib.hid (HB3.out.alloc HB3.out.size (.cells #[.int .i64 0, .slice none 0 0, .slice none 0 0] 25))
      clear hB3 hx hq HB2
      go_wp2
      go_ret
      exact ⟨by first | rfl | (simp; done) | decide, HBF.out⟩
    | ok pr =>
      obtain ⟨a, s, t⟩ := pr
      rw [hq] at hp
      obtain ⟨A1, c1, A2, c2, S, cs, G, cg, rfl, hn, hS, hcs, hG, hcg, hB3⟩ := hp
      obtain ⟨k1, k2, k3, k4, k5, k6, k7⟩ := open_back HV.out hq
      have hal : Below w3.heap.size w3 (w3.alloc (.cells #[.int .i64 a.f0, .slice A1 a.f1.length c1, .slice A2 a.f2.length c2] 25)) := (Below.refl _ _).alloc (Nat.le_refl _) _
      have HSEAL := Lib.hid (seal_walk a t (fun _ => by omega) (by omega) A1 c1 A2 c2 G cg _ (hn.below hal) (ReadsInt_below hG hal) hcg)
      have HB3 := Lib.hid (HB2.out.trans ((hB3.mono HB2.out.size).trans (hal.mono (Nat.le_trans HB2.out.size hB3.size))))
      have HK := Lib.hid k1
      have HRB := Lib.hid (fun w' (hB : Below w.heap.size w w') => HR.out w' hB)
      have hs1 := eq_true (show 0 < (s.length : Int) by omega)
      have hs2 := eq_true (show (s.length : Int) < (l.length : Int) by omega)
      have hs3 : decide (0 < (s.length : Int)) = true := decide_eq_true (by omega)
      have hs4 : decide ((s.length : Int) < (l.length : Int)) = true := decide_eq_true (by omega)
      have hs5 := eq_true k2
      have hs6 := eq_true k3
      have hs7 : s ≠ [] := by intro h; rw [h] at k2; simp at k2
      clear hn hS hcs hG hcg hB3 k1 k2 k3 k4 k5 k6 k7 hq hal HB2
      go_wp2_with (fail)
      refine HSEAL.out.mono ?_
      intro e w4 hp
      unfold WritePost at hp
      rw [HK.out] at hp
      obtain ⟨X, cx, rfl, ho, hB4⟩ := hp
      have HB4 := Lib.hid (HB3.out.trans (hB4.mono HB3.out.size))
      obtain ⟨_, _, f1, g1, q1⟩ := Kd.R_reads ho
      injection f1 with f1 _ f1'
      subst f1 f1'
      have hcv1 := Kd.C_string (P := Try.prog) (A := X) (c := cx) Try.underlying22 Try.underlying5 Try.underlying9 q1
      have hcv2 := Kd.C_string (P := Try.prog) (A := A) (c := c) Try.underlying22 Try.underlying5 Try.underlying9 (C_of_reads (HR.out _ HB4.out) rfl)
      clear ho hB4 q1 HSEAL HB3
      go_wp2
      go_ret
      exact ⟨by first | rfl | (simp; done) | decide, HB4.out⟩

/-- The same for a row of any length: Read looks at no more than its length if it is too long. -/
theorem opens_any (A : Option Addr) (c : Nat) (l : List Int) (w : World) (hr : ReadsInt w .u8 A l.length l) (hc : l.length ≤ c) (hv : ∀ x ∈ l, 0 ≤ x ∧ x < 256) :
    Calls Try.prog 4 #[.slice A l.length c] w fun e w' => e = .returned (.bool true) ∧ Below w.heap.size w w' := by
  by_cases h5 : 5000 < l.length
  · have hd : decide ((5000 : Int) < (l.length : Int)) = true := decide_eq_true (by omega)
    have hd2 := eq_true (show (5000 : Int) < (l.length : Int) by omega)
    clear h5 hr hv
    go_enter Try.func4, Try.ntmps4
    go_wp2_with (fail)
    refine (awake_walk _).mono ?_
    rintro e w2 ⟨rfl, hB⟩
    go_wp2
    go_ret
    exact ⟨rfl, hB⟩
  · exact opens_walk A c l w hr hc hv (by omega)

end Go.Proofs.Ytmbgjhkemlliaaa.Tlv
