/- Merged by a program of this session (wip/tools/pack.py). -/
import Derived.Test.YtmbgjhkemlliaaaDoorKSpkiBack3
import Derived.Deep.Slices
import Derived.Deep.Fields
import Derived.ChangeSame
import Derived.OpenShut
/- spki.Read's closure, walked. -/
section
set_option linter.unusedVariables false
set_option linter.unusedSimpArgs false
namespace Go.Proofs.YtmbgjhkemlliaaaDoor.Tlv
open Go.RowKit Go.Proofs.YtmbgjhkemlliaaaDoorW.PrintWords Go.Proofs.YtmbgjhkemlliaaaDoorW.PrintLast Go.Proofs.YtmbgjhkemlliaaaDoorW.PrintMore Go.Proofs.YtmbgjhkemlliaaaDoor.PT

theorem keyP_len {n : T} (h : n.f2.length ≠ 2) : keyP n = none := by
 obtain ⟨a, b, c⟩ := n
 unfold keyP
 match c, h with
 | [], _ => rfl
 | [_], _ => rfl
 | [_, _], h => exact absurd rfl h
 | _ :: _ :: _ :: _, _ => rfl
theorem keyX_len {x n : T} (h : x.f2.length ≠ 2) : keyX x n = none := by
 obtain ⟨a, b, c⟩ := x
 unfold keyX
 match c, h with
 | [], _ => rfl
 | [_], _ => rfl
 | [_, _], h => exact absurd rfl h
 | _ :: _ :: _ :: _, _ => rfl
theorem keyP_two (tag : Int) (body : List Int) (z y : T) : keyP ⟨tag, body, [z, y]⟩ = match ofP y with
 | none => none
 | some b => match readP b with
  | .err _ => none
  | .ok x => keyX x ⟨tag, body, [z, y]⟩ := rfl
theorem keyX_two (tag : Int) (body : List Int) (a c n : T) : keyX ⟨tag, body, [a, c]⟩ n = match greatP a with
 | none => none
 | some l => match uintP c with
  | none => none
  | some u => if u < 4294967296 ∧ rightK l u = true ∧ sameP (nodeT l u) n = true then some (l, u) else none := rfl
theorem kids_in (x : T) (hr : rightT x = true) (hby : byT x) (hs : sizeT x ≤ 20000) (t : T) (ht : t ∈ x.f2) : (∀ v ∈ t.f1, 0 ≤ v ∧ v < 256) ∧ t.f1.length ≤ 20000 := by
 have h1 := kids_parts x hr t ht
 have h2 := wT_size t h1.1
 refine ⟨byT_f1 (byL_mem (byT_f2 hby) t ht), ?_⟩
 obtain ⟨a, b, c⟩ := t
 rw [wT] at h2
 have := wL_pos c
 dsimp only
 omega
theorem wT_f1 (t : T) : (t.f1.length : Int) ≤ wT t := by
 obtain ⟨a, b, c⟩ := t
 rw [wT]
 have := wL_pos c
 dsimp only
 omega
theorem wT_kid {n t : T} (h : t ∈ n.f2) : wT t ≤ wT n := by
 obtain ⟨a, b, c⟩ := n
 have := wL_mem c t h
 rw [wT]
 omega
theorem greatP_mem {n : T} {l : List Int} (h : greatP n = some l) : l = stripZ n.f1 := by
 unfold greatP at h
 by_cases c : n.f2 = [] ∧ sameB (bigT n.f1) n = true
 ·rw [if_pos c] at h; injection h with h; exact h.symm
 ·rw [if_neg c] at h; cases h
theorem wT_node (l : List Int) (E : Int) : wT (nodeT l E) ≤ 21000 := by
 unfold nodeT
 have h1 : wT (algT 1) = 12 := by decide
 have h2 : wT (bitT (ownB l E)) = 1 + ((0 :: ownB l E).length : Int) + 0 := by unfold bitT; rw [wT, wL]
 have h3 := ownB_len l E
 rw [wT, wL, wL, wL, h1, h2]
 simp only [List.length_cons, List.length_nil]
 omega

set_option maxHeartbeats 8000000 in
set_option maxRecDepth 100000 in
theorem rdk_walk (n : T) (hby : byT n) (hw : wT n ≤ 500000) (X1 : Option Addr) (x1 : Nat) (X2 : Option Addr) (x2 : Nat) (w0 w : World) (p q : Nat) (tp : TypeId) (hn : NodeAt w0 n X1 x1 X2 x2) (hB0 : Below w0.heap.size w0 w) (hq0 : w0.heap.size ≤ q)
 (hp : w.heap[p]? = some (.cells #[.int .i64 n.f0, .slice X1 n.f1.length x1, .slice X2 n.f2.length x2] tp (0, 0))) (hpq : p ≠ q) (hq : w.heap[q]? = some (.cells #[.slice none 0 0, .int .u32 0] 25 (0, 0))) :
 Calls Tryd.prog 21 #[.pointer (some ⟨p, 0, none⟩), .pointer (some ⟨q, 0, none⟩)] w (RdKPost w0 w q n) := by
 have K0 := Lib.hid (show KS w0 w w q (.slice none 0 0) (.int .u32 0) from ⟨hB0, fun _ _ _ => rfl, hq, Nat.le_refl _⟩)
 have HN := Lib.hid (fun W (hB : Below w0.heap.size w0 W) => hn.below hB)
 have HQ0 := Lib.hid hq0
 have HP := Lib.hid (fun W v0 v1 (K : KS w0 w W q v0 v1) => (K.o p (heap_lt hp) hpq).trans hp)
 have HBY := Lib.hid (And.intro hby hw)
 have HPQ := Lib.hid (And.intro (heap_lt hp) (heap_lt hq))
 have p2 := Lib.cell_of_heap hp 2
 generalize hPP : RdKPost w0 w q n = PP
 have HPP := Lib.hid hPP
 clear hby hw hn hB0 hq0 hp hq hPP hpq
 by_cases h2 : n.f2.length = 2
 ·obtain ⟨tag, body, kids⟩ := n
  obtain ⟨z, y, rfl⟩ : ∃ z y, kids = [z, y] := by
   match kids, h2 with
   | [z, y], _ => exact ⟨z, y, rfl⟩
  clear h2
  have e2 : ([z, y] : List S28).length = 2 := rfl
  dsimp only at HN HP HBY HPP p2
  obtain ⟨ad, Y1, y1, Y2, y2, hX2, u0, u1, u2, hny⟩ := kid_at (HN.out w K0.out.b).2.2.1 1 y rfl
  subst hX2
  replace u0 : w.cell? ⟨ad.block, ad.off + 3, none⟩ = some (.int .i64 y.f0) := u0
  replace u1 : w.cell? ⟨ad.block, ad.off + 3 + 1, none⟩ = some (.slice Y1 y.f1.length y1) := u1
  replace u2 : w.cell? ⟨ad.block, ad.off + 3 + 2, none⟩ = some (.slice Y2 y.f2.length y2) := u2
  have hyb : ∀ v ∈ y.f1, 0 ≤ v ∧ v < 256 := byT_f1 (byL_mem (byT_f2 HBY.out.1) y (by simp))
  have hyw : wT y ≤ 500000 := Int.le_trans (wT_kid (n := ⟨tag, body, [z, y]⟩) (t := y) (by simp)) HBY.out.2
  have hyl := wT_f1 y
  have HOF := Lib.hid (of_uni y hyb (by omega) Y1 y1 Y2 y2 w hny)
  have HYB := Lib.hid (And.intro hyb (show y.f1.length ≤ 500000 by omega))
  rw [e2] at p2
  clear hny hyb hyw hyl e2
  go_enter Tryd.func21, Tryd.ntmps21
  go_wp2_with (fail)
  refine (must2_yes _).mono ?_
  rintro e w2 ⟨rfl, rfl⟩
  go_wp2_with (fail)
  refine HOF.out.mono ?_
  rintro e w3 ⟨B, b, cb, m, f, rfl, hof, hR3, hB3⟩
  have K3 := Lib.hid (K0.out.step hB3)
  clear HOF u0 u1 u2 p2 hB3 K0
  rcases hof with ⟨hf, hof⟩ | ⟨rfl, hof⟩
  ·have HK : Hid (keyP ⟨tag, body, [z, y]⟩ = none) := Lib.hid (by rw [keyP_two, hof])
   have hf1 := eq_false hf
   clear hof hR3
   go_wp2_with (fail)
   refine (must2_no f true (.inl hf) _).mono ?_
   rintro e w4 ⟨rfl, rfl⟩
   have hPP := HPP.out
   subst hPP
   exact ⟨rfl, _, _, K3.out, .inl ⟨HK.out, rfl⟩⟩
  ·have HOFP := Lib.hid hof
   obtain ⟨h0, hyt⟩ := ofP_mem hof
   have hbb : ∀ v ∈ b, 0 ≤ v ∧ v < 256 := fun v hv => HYB.out.1 v (by rw [hyt]; exact List.mem_cons_of_mem _ hv)
   have hbl : b.length ≤ 500000 := by have := HYB.out.2; rw [hyt] at this; simp at this; omega
   obtain ⟨_, _, f1, g1, k1⟩ := Kd.R_reads hR3
   injection f1 with f1 _ f1'
   subst f1 f1'
   have HREAD := Lib.hid (read_walk B cb b w3 (reads_of_C k1) g1 hbb (by omega))
   have HBB := Lib.hid hbb
   clear hof hR3 hyt hbb hbl g1 k1 HYB
   go_wp2_with (fail)
   refine (must2_yes _).mono ?_
   rintro e w4 ⟨rfl, rfl⟩
   go_wp2_with (fail)
   refine HREAD.out.mono ?_
   intro e w5 hp5
   unfold ReadPost at hp5
   clear HREAD
   cases hrd : readP b with
   | err ex =>
    rw [hrd] at hp5
    obtain ⟨rfl, hB5⟩ := hp5
    have hne := readP_errs hrd
    have HK : Hid (keyP ⟨tag, body, [z, y]⟩ = none) := Lib.hid (by rw [keyP_two, HOFP.out]; simp only; rw [hrd])
    have K5 := Lib.hid ((K3.out.step hB5).step (W2 := w5.alloc (.cells #[.int .i64 0, .slice none 0 0, .slice none 0 0] 28)) ((Below.refl _ _).alloc (Nat.le_refl _) _))
    have hne1 := eq_false hne
    clear hB5 hrd hne1
    go_wp2_with (fail)
    refine (must2_no ex false (.inl hne) _).mono ?_
    rintro e w6 ⟨rfl, rfl⟩
    have hPP := HPP.out
    subst hPP
    exact ⟨rfl, _, _, K5.out, .inl ⟨HK.out, rfl⟩⟩
   | ok x =>
    rw [hrd] at hp5
    obtain ⟨v1, v2, rfl, hv1, hv2, hB5⟩ := hp5
    obtain ⟨b1, b2, b3, b4, b5⟩ := readP_ok HBB.out hrd
    have hbx := by_enc x b2 (fun v hv => HBB.out v (by rw [b1]; exact hv))
    have hin := kids_in x b2 hbx (by omega)
    have hnr := NodeR.of (n := x) hv1 hv2
    obtain ⟨Z1, z1, Z2, z2, rfl, rfl, hnx⟩ := hnr.form
    have hal : Below w5.heap.size w5 (w5.alloc (.cells #[.int .i64 x.f0, .slice Z1 x.f1.length z1, .slice Z2 x.f2.length z2] 28)) := (Below.refl _ _).alloc (Nat.le_refl _) _
    have hg6 : (w5.alloc (.cells #[.int .i64 x.f0, .slice Z1 x.f1.length z1, .slice Z2 x.f2.length z2] 28)).heap[w5.heap.size]? = some (.cells #[.int .i64 x.f0, .slice Z1 x.f1.length z1, .slice Z2 x.f2.length z2] 28 (0, 0)) := heap_alloc_new w5 _
    have hs6 : (w5.alloc (.cells #[.int .i64 x.f0, .slice Z1 x.f1.length z1, .slice Z2 x.f2.length z2] 28)).heap.size = w5.heap.size + 1 := by simp
    have HREADP := Lib.hid hrd
    have HSZ := Lib.hid (And.intro K3.out.s (And.intro hB5.size HPQ.out.2))
    by_cases h2 : x.f2.length = 2
    ·obtain ⟨xt, xb, xk⟩ := x
     obtain ⟨a, c, rfl⟩ : ∃ a c, xk = [a, c] := by
      match xk, h2 with
      | [a, c], _ => exact ⟨a, c, rfl⟩
     clear h2
     have e2 : ([a, c] : List S28).length = 2 := rfl
     dsimp only at hal hg6 hs6 hnr hnx hin ⊢
     rw [e2] at hal hg6 hs6 ⊢
     have hina := hin a (by simp)
     have hinc := hin c (by simp)
     have K6 := (K3.out.step hB5).step hal
     have hn6 := hnr.below hal
     generalize hw6 : w5.alloc (.cells #[.int .i64 xt, .slice Z1 xb.length z1, .slice Z2 2 z2] 28) = w6 at hal hg6 hs6 K6 hn6
     obtain ⟨ae, A1, a1, A2, a2, hZ2, s0, s1, s2, hna⟩ := kid_at (hn6.at (n := ⟨xt, xb, [a, c]⟩)).2.2.1 0 a rfl
     subst hZ2
     replace s0 : w6.cell? ae = some (.int .i64 a.f0) := s0
     replace s1 : w6.cell? ⟨ae.block, ae.off + 1, none⟩ = some (.slice A1 a.f1.length a1) := s1
     replace s2 : w6.cell? ⟨ae.block, ae.off + 2, none⟩ = some (.slice A2 a.f2.length a2) := s2
     have g2 := Lib.cell_of_heap hg6 2
     have HKEEP : Hid (∀ W, (∀ k, w4.heap.size ≤ k → k < w6.heap.size → W.heap[k]? = w6.heap[k]?) → W.cell? ⟨w5.heap.size, 2, none⟩ = some (.slice (some ae) 2 z2) ∧ ∃ C1 c1 C2 c2, W.cell? ⟨ae.block, ae.off + 3, none⟩ = some (.int .i64 c.f0) ∧ W.cell? ⟨ae.block, ae.off + 3 + 1, none⟩ = some (.slice C1 c.f1.length c1) ∧ W.cell? ⟨ae.block, ae.off + 3 + 2, none⟩ = some (.slice C2 c.f2.length c2) ∧ NodeAt W c C1 c1 C2 c2) := by
      refine Lib.hid (fun W hW => ?_)
      have h35 := hB5.size
      have hgW := (hW w5.heap.size h35 (by omega)).trans hg6
      have hnW : NodeR W w4.heap.size w5.heap.size ⟨xt, xb, [a, c]⟩ (.slice Z1 xb.length z1) (.slice (some ae) 2 z2) := hn6.move (fun k hk1 hk2 => hW k hk1 (by omega))
      obtain ⟨ae', C1, c1, C2, c2, e', t0, t1, t2, hnc⟩ := kid_at (hnW.at (n := ⟨xt, xb, [a, c]⟩)).2.2.1 1 c rfl
      injection e' with e'
      subst e'
      exact ⟨Lib.cell_of_heap hgW 2, C1, c1, C2, c2, t0, t1, t2, hnc⟩
     have HGREAT := Lib.hid (great_walk a hina.1 (by omega) A1 a1 A2 a2 w6 hna)
     have K6 := Lib.hid K6
     have HINC := Lib.hid (And.intro hina hinc)
     have HS6 := Lib.hid (And.intro hal.size (And.intro hB5.size hs6))
     subst hw6
     clear hal hg6 hs6 hn6 hna hina hinc hin hnr hnx hv1 hv2 hB5 b1 b2 b3 b4 b5 hbx hrd e2 K3
     go_wp2_with (fail)
     refine (must2_yes _).mono ?_
     rintro e w6' ⟨rfl, rfl⟩
     go_wp2_with (fail)
     refine HGREAT.out.mono ?_
     rintro e w7 ⟨N, l, cn, ex, rfl, hg, hRN, hB7⟩
     have K7 := K6.out.step hB7
     have q0 := Lib.cell_of_heap K7.h 0
     have q1 := Lib.cell_of_heap K7.h 1
     have f0 := Lib.frozen_of_heap K7.h 0
     have K8 := K7.set0 HQ0.out (.slice N l.length cn)
     have hqb := HSZ.out.2.2
     have hs6 := HS6.out
     have hC8 : ∀ k, w4.heap.size ≤ k → k < (w5.alloc (.cells #[.int .i64 xt, .slice Z1 xb.length z1, .slice (some ae) 2 z2] 28)).heap.size → (w7.setCell ⟨q, 0, none⟩ (.slice N l.length cn)).heap[k]? = (w5.alloc (.cells #[.int .i64 xt, .slice Z1 xb.length z1, .slice (some ae) 2 z2] 28)).heap[k]? := fun k hk1 hk2 =>
      (heap_setCell_other _ _ _ _ (by show k ≠ q; have := HSZ.out.1; omega)).trans (hB7.block k hk2)
     have hR8 : (Kd.int .u8).R 5 (w7.setCell ⟨q, 0, none⟩ (.slice N l.length cn)) (w5.alloc (.cells #[.int .i64 xt, .slice Z1 xb.length z1, .slice (some ae) 2 z2] 28)).heap.size (fun k => q < k) (.slice N l.length cn) l :=
      Kd.R_move (Kd.R_mono (Kd.R_bound hRN) (fun k hk => by have := hk.2.1; have := HSZ.out.1; have := HS6.out.1; have := HS6.out.2.1; omega)) (fun k hk => heap_setCell_other _ _ _ _ (by show k ≠ q; omega))
     have K8 := Lib.hid K8
     have HR8 := Lib.hid hR8
     have HC8 := Lib.hid hC8
     have HG := Lib.hid hg
     have HS8 : Hid ((w5.alloc (.cells #[.int .i64 xt, .slice Z1 xb.length z1, .slice (some ae) 2 z2] 28)).heap.size ≤ (w7.setCell ⟨q, 0, none⟩ (.slice N l.length cn)).heap.size) := Lib.hid (by simpa using hB7.size)
     clear K7 hC8 hR8 hRN hB7 hg HGREAT K6 s0 s1 s2 g2 hqb hs6
     have HKE := HG.out
     rcases HKE with ⟨rfl, hgp⟩ | ⟨rfl, hgp, rfl⟩
     ·have HGP := Lib.hid hgp
      clear hgp HG
      go_wp2_with (fail)
      refine (must2_yes _).mono ?_
      rintro e w8' ⟨rfl, rfl⟩
      obtain ⟨t2, C1, c1, C2, c2, r0, r1, r2, hnc⟩ := HKEEP.out _ HC8.out
      have HUINT := Lib.hid (uint_walk c HINC.out.2.1 (by have := HINC.out.2.2; omega) C1 c1 C2 c2 _ hnc)
      clear hnc q0 q1 f0
      generalize w7.setCell ⟨q, 0, none⟩ (.slice N l.length cn) = w8 at K8 HR8 HC8 HS8 t2 r0 r1 r2 HUINT ⊢
      go_wp2_with (fail)
      refine HUINT.out.mono ?_
      rintro e w9 ⟨he, hB9⟩
      have K9 := Lib.hid (K8.out.step hB9)
      have HR9 := Lib.hid (Kd.R_below HR8.out hB9)
      clear HUINT t2 r0 r1 r2 hB9 HR8 HC8
      cases hu : uintP c with
      | none =>
       rw [hu] at he
       subst he
       have HK : Hid (keyP ⟨tag, body, [z, y]⟩ = none) := Lib.hid (by rw [keyP_two, HOFP.out]; simp only; rw [HREADP.out]; simp only; rw [keyX_two, HGP.out]; simp only; rw [hu])
       clear hu
       go_wp2_with (fail)
       refine (must2_no 2 true (.inl (by decide)) _).mono ?_
       rintro e w10 ⟨rfl, rfl⟩
       have hPP := HPP.out
       subst hPP
       exact ⟨rfl, _, _, K9.out, .inl ⟨HK.out, rfl⟩⟩
      | some u =>
       rw [hu] at he
       subst he
       have hur : 0 ≤ u ∧ u < 18446744073709551616 := by
        unfold uintP at hu
        cases hq : numP c.f1 with
        | none => rw [hq] at hu; cases hu
        | some x =>
         rw [hq] at hu
         simp only at hu
         by_cases hs : sameB (intT x) c = true
         ·rw [if_pos hs] at hu; injection hu with hu; subst hu; exact numP_range c.f1 x HINC.out.2.1 hq
         ·rw [if_neg hs] at hu; cases hu
       have HU := Lib.hid hu
       clear hu
       by_cases h32 : u < 4294967296
       ·have hd : u / 4294967296 = 0 := by omega
        have hd1 : (u / 4294967296 == 0) = true := beq_iff_eq.2 hd
        have hd2 : decide (u / 4294967296 = 0) = true := decide_eq_true hd
        have hwu : IntKind.u32.wrap u = u := by rw [IntKind.wrap_u32]; omega
        have hmu : u % 4294967296 = u := by omega
        have hu0 := hur.1
        have hu1 := hur.2
        have HUR := Lib.hid (And.intro hur.1 h32)
        have hl := greatP_mem HGP.out
        have hlv : ∀ v ∈ l, 0 ≤ v ∧ v < 256 := by rw [hl]; exact fun v hv => HINC.out.1.1 v (stripZ_mem a.f1 v hv)
        have hll : l.length ≤ 100000 := by rw [hl]; have := stripZ_len a.f1; have := HINC.out.1.2; omega
        have hR10 : (Kd.int .u8).R 5 (w9.setCell ⟨q, 1, none⟩ (.int .u32 u)) _ (fun k => q < k) (.slice N l.length cn) l := Kd.R_move HR9.out (fun k hk => heap_setCell_other _ _ _ _ (by show k ≠ q; omega))
        have K10 := Lib.hid (K9.out.set1 HQ0.out (.int .u32 u))
        obtain ⟨_, _, f1', g1, k1⟩ := Kd.R_reads hR10
        injection f1' with f1' _ f2'
        subst f1' f2'
        have HNODE := Lib.hid (node_walk l u hll hlv hu0 h32 N cn _ k1 g1)
        have HR10 := Lib.hid hR10
        have q0 := Lib.cell_of_heap K9.out.h 0
        have q1 := Lib.cell_of_heap K9.out.h 1
        have f0 := Lib.frozen_of_heap K9.out.h 0
        have f1 := Lib.frozen_of_heap K9.out.h 1
        clear hl hlv hll hR10 g1 k1 hur h32
        go_wp2_with (fail)
        refine (must2_yes _).mono ?_
        rintro e w10' ⟨rfl, rfl⟩
        go_wp2_with (fail)
        refine HNODE.out.mono ?_
        rintro e w11 ⟨v1, v2, n', x', rfl, hN', hcase, hB11⟩
        obtain ⟨M1, m1, M2, m2, rfl, rfl, hnn⟩ := hN'.form
        have K11 := K10.out.step hB11
        have hal : Below w11.heap.size w11 (w11.alloc (.cells #[.int .i64 n'.f0, .slice M1 n'.f1.length m1, .slice M2 n'.f2.length m2] 28)) := (Below.refl _ _).alloc (Nat.le_refl _) _
        have hm12 : (w11.alloc (.cells #[.int .i64 n'.f0, .slice M1 n'.f1.length m1, .slice M2 n'.f2.length m2] 28)).heap[w11.heap.size]? = some (.cells #[.int .i64 n'.f0, .slice M1 n'.f1.length m1, .slice M2 n'.f2.length m2] 28 (0, 0)) := heap_alloc_new w11 _
        have K12 := Lib.hid (K11.step hal)
        have hp12 := HP.out _ _ _ K12.out
        have hwn : wT n' ≤ 21000 := by
         rcases hcase with ⟨_, _, rfl⟩ | ⟨_, _, rfl⟩
         ·exact wT_node l u
         ·decide
        have HSAME := Lib.hid (same_walk n' ⟨tag, body, [z, y]⟩ (fun _ => by have := size_wT n'; omega) (fun _ => by have := size_wT ⟨tag, body, [z, y]⟩; have := HBY.out.2; omega) M1 m1 M2 m2 X1 x1 (some ad) x2 _ (hnn.below hal) (HN.out _ K12.out.b))
        have HR12 := Lib.hid (Kd.R_below (Kd.R_below HR10.out hB11) hal)
        have HCASE := Lib.hid hcase
        have m0 := Lib.cell_of_heap hm12 0
        have m1' := Lib.cell_of_heap hm12 1
        have m2' := Lib.cell_of_heap hm12 2
        have p0 := Lib.cell_of_heap hp12 0
        have p1 := Lib.cell_of_heap hp12 1
        have p2 := Lib.cell_of_heap hp12 2
        have e2 : ([z, y] : List S28).length = 2 := rfl
        rw [e2] at p2
        dsimp only at HSAME
        rw [e2] at HSAME
        clear hN' hnn K11 hal hm12 hp12 hwn hcase HNODE q0 q1 f0 f1 hB11 K10 HR10 K9 HR9 e2
        go_wp2_with (fail)
        refine HSAME.out.mono ?_
        rintro e w13 ⟨rfl, hB13⟩
        have K13 := Lib.hid (K12.out.step hB13)
        have HR13 := Lib.hid (Kd.R_below HR12.out hB13)
        clear HSAME m0 m1' m2' p0 p1 p2 hB13 HR12 K12
        have hcase := HCASE.out
        rcases hcase with ⟨rfl, hrk, rfl⟩ | ⟨rfl, hrk, rfl⟩
        ·have HRK := Lib.hid hrk
         have HKX : Hid (keyP ⟨tag, body, [z, y]⟩ = if u < 4294967296 ∧ rightK l u = true ∧ sameP (nodeT l u) ⟨tag, body, [z, y]⟩ = true then some (l, u) else none) := Lib.hid (by rw [keyP_two, HOFP.out]; simp only; rw [HREADP.out]; simp only; rw [keyX_two, HGP.out]; simp only; rw [HU.out])
         clear hrk HCASE
         cases hs : sameP (nodeT l u) ⟨tag, body, [z, y]⟩ with
         | true =>
          have HS := Lib.hid hs
          clear hs
          go_wp2_with (fail)
          refine (must2_yes _).mono ?_
          rintro e w14 ⟨rfl, rfl⟩
          go_wp2
          go_end0
          have hPP := HPP.out
          subst hPP
          exact ⟨_, _, K13.out, .inr ⟨l, u, N, cn, by rw [HKX.out, if_pos ⟨HUR.out.2, HRK.out, HS.out⟩], rfl, rfl, rfl, Kd.R_lower (Kd.R_mono HR13.out (fun _ _ => trivial)) (by have := HSZ.out.1; have := HS6.out.1; have := HS6.out.2.1; omega)⟩⟩
         | false =>
          have HK : Hid (keyP ⟨tag, body, [z, y]⟩ = none) := Lib.hid (by rw [HKX.out, if_neg (fun h => by rw [hs] at h; cases h.2.2)])
          clear hs
          go_wp2_with (fail)
          refine (must2_no 0 false (.inr rfl) _).mono ?_
          rintro e w14 ⟨rfl, rfl⟩
          have hPP := HPP.out
          subst hPP
          exact ⟨rfl, _, _, K13.out, .inl ⟨HK.out, rfl⟩⟩
        ·have HK : Hid (keyP ⟨tag, body, [z, y]⟩ = none) := Lib.hid (by rw [keyP_two, HOFP.out]; simp only; rw [HREADP.out]; simp only; rw [keyX_two, HGP.out]; simp only; rw [HU.out]; simp only; rw [if_neg (fun h => by rw [hrk] at h; cases h.2.1)])
         clear hrk HCASE
         go_wp2_with (fail)
         refine (must2_no 1 _ (.inl (by decide)) _).mono ?_
         rintro e w14 ⟨rfl, rfl⟩
         have hPP := HPP.out
         subst hPP
         exact ⟨rfl, _, _, K13.out, .inl ⟨HK.out, rfl⟩⟩
       ·have hd : u / 4294967296 ≠ 0 := by omega
        have hd1 := eq_false hd
        have hd2 : (u / 4294967296 == 0) = false := beq_eq_false_iff_ne.2 hd
        have hd3 : decide (u / 4294967296 = 0) = false := decide_eq_false hd
        have HK : Hid (keyP ⟨tag, body, [z, y]⟩ = none) := Lib.hid (by rw [keyP_two, HOFP.out]; simp only; rw [HREADP.out]; simp only; rw [keyX_two, HGP.out]; simp only; rw [HU.out]; simp only; rw [if_neg (fun h => h32 h.1)])
        have hu0 := hur.1
        have hu1 := hur.2
        clear hd h32 hur
        go_wp2_with (fail)
        refine (must2_no 0 false (.inr rfl) _).mono ?_
        rintro e w10 ⟨rfl, rfl⟩
        have hPP := HPP.out
        subst hPP
        exact ⟨rfl, _, _, K9.out, .inl ⟨HK.out, rfl⟩⟩
     ·have HK : Hid (keyP ⟨tag, body, [z, y]⟩ = none) := Lib.hid (by rw [keyP_two, HOFP.out]; simp only; rw [HREADP.out]; simp only; rw [keyX_two, hgp])
      have el : ([] : List Int).length = 0 := rfl
      clear hgp HG
      go_wp2_with (fail)
      refine (must2_no 2 true (.inl (by decide)) _).mono ?_
      rintro e w8' ⟨rfl, rfl⟩
      have hPP := HPP.out
      subst hPP
      exact ⟨rfl, _, _, K8.out, .inl ⟨HK.out, rfl⟩⟩
    ·have hl1 : ((x.f2.length : Int) == 2) = false := beq_eq_false_iff_ne.2 (by omega)
     have HK : Hid (keyP ⟨tag, body, [z, y]⟩ = none) := Lib.hid (by rw [keyP_two, HOFP.out]; simp only; rw [HREADP.out]; simp only; rw [keyX_len h2])
     have K6 := Lib.hid ((K3.out.step hB5).step hal)
     clear hal hg6 hs6 hnr hnx hv1 hv2 hB5 b1 b2 b3 b4 b5 hbx hrd h2 hin
     go_wp2_with (fail)
     refine (must2_no 0 false (.inr rfl) _).mono ?_
     rintro e w7 ⟨rfl, rfl⟩
     have hPP := HPP.out
     subst hPP
     exact ⟨rfl, _, _, K6.out, .inl ⟨HK.out, rfl⟩⟩
 ·have hl1 : ((n.f2.length : Int) == 2) = false := beq_eq_false_iff_ne.2 (by omega)
  have HK := Lib.hid (keyP_len h2)
  clear h2
  go_enter Tryd.func21, Tryd.ntmps21
  go_wp2_with (fail)
  refine (must2_no 0 false (.inr rfl) _).mono ?_
  rintro e w2 ⟨rfl, rfl⟩
  have hPP := HPP.out
  subst hPP
  exact ⟨rfl, _, _, K0.out, .inl ⟨HK.out, rfl⟩⟩

end Go.Proofs.YtmbgjhkemlliaaaDoor.Tlv
end

/- A key and its element, there and back, in plain Lean. -/
section
set_option linter.unusedVariables false
set_option linter.unusedSimpArgs false
namespace Go.Proofs.YtmbgjhkemlliaaaDoor.Tlv
open Go.RowKit Go.Proofs.YtmbgjhkemlliaaaDoorW.PrintWords Go.Proofs.YtmbgjhkemlliaaaDoorW.PrintLast Go.Proofs.YtmbgjhkemlliaaaDoorW.PrintMore Go.Proofs.YtmbgjhkemlliaaaDoor.PT

theorem writeP_of {t : T} (h1 : rightT t = true) (h2 : deepT t ≤ 32) (h3 : sizeT t ≤ 20000) : writeP t = .ok (encT t) := by
 unfold writeP
 rw [if_neg (by rw [h1]; simp), if_neg (by omega), if_neg (by omega)]
theorem sameB_rfl {n : T} (h : n.f2 = []) : sameB n n = true := by
 unfold sameB
 rw [h, eqB_rfl]
 simp [wrap64]
theorem strip_big (s : List Int) (h : stripZ s = s) : stripZ (bigB s) = s := by
 cases s with
 | nil => rfl
 | cons x l =>
  have hx := stripZ_head h
  unfold bigB
  simp only
  split
  ·rw [stripZ, if_pos rfl]; exact h
  ·exact h
theorem bigT_big (l : List Int) : bigT (bigT l).f1 = bigT l := by
 show bigT (bigB (stripZ l)) = bigT l
 unfold bigT
 rw [strip_big _ (stripZ_twice l)]
theorem numF_strip : ∀ l : List Int, numF (stripZ l) = numF l
 | [] => rfl
 | x :: l => by
  by_cases h : x = 0
  ·rw [stripZ, if_pos h, numF_strip l, h]; unfold numF; rfl
  ·rw [stripZ_nz h]
theorem numF_big (l : List Int) : numF (bigB l) = numF l := by
 cases l with
 | nil => rfl
 | cons x l =>
  unfold bigB
  simp only
  split
  ·unfold numF; rfl
  ·rfl
theorem rightK_strip {l : List Int} {E : Int} (hl : l.length ≤ 100000) (h : rightK l E = true) : stripZ l = l := by
 have hf := right_f l E hl
 rw [h] at hf
 unfold rsa_Right.f at hf
 by_cases c1 : (l.length : Int) ≥ 62
 ·have hw : wrap64 ((l.length : Int) - 1) = (l.length : Int) - 1 := by unfold wrap64; omega
  rw [if_pos c1, hw] at hf
  by_cases c2 : (l.length : Int) ≤ 512
  ·rw [if_pos c2, if_pos (by omega)] at hf
   by_cases c3 : rd l 0 = 0
   ·rw [if_pos c3] at hf; simp at hf
   ·cases l with
    | nil => simp at c1
    | cons x l => exact stripZ_nz c3
  ·rw [if_neg c2] at hf; simp at hf
 ·rw [if_neg c1] at hf; simp at hf
theorem greatP_big {l : List Int} (h : stripZ l = l) : greatP (bigT l) = some l := by
 unfold greatP
 rw [bigT_big, if_pos ⟨rfl, sameB_rfl rfl⟩]
 show some (stripZ (bigB (stripZ l))) = some l
 rw [strip_big _ (stripZ_twice l), h]
theorem uintP_int {E : Int} (h0 : 0 ≤ E) (h1 : E < 4294967296) : uintP (intT E) = some E := by
 obtain ⟨m, m1, m2, hm, hp⟩ := least_p E h0 (by omega)
 have hb := bE_byte m E
 have hlen : (leastP E).length ≤ 4 := by
  have : leastP E = bE 1 E ∨ leastP E = bE 2 E ∨ leastP E = bE 3 E ∨ leastP E = bE 4 E := by
   unfold leastP
   by_cases c1 : E / 256 = 0
   ·exact .inl (by rw [if_pos c1])
   rw [if_neg c1]
   by_cases c2 : E / 65536 = 0
   ·exact .inr (.inl (by rw [if_pos c2]))
   rw [if_neg c2]
   by_cases c3 : E / 16777216 = 0
   ·exact .inr (.inr (.inl (by rw [if_pos c3])))
   rw [if_neg c3]
   exact .inr (.inr (.inr (by rw [if_pos (by omega)])))
  rcases this with h | h | h | h <;> rw [h, (bE_byte _ _).2] <;> decide
 have e : numP (intT E).f1 = some E := by
  show numP (bigB (stripZ (leastP E))) = some E
  have g1 := bigB_len (stripZ (leastP E))
  have g2 := stripZ_len (leastP E)
  rw [numP_small (by omega), numF_big, numF_strip, hm, numF_bE m E h0 hp]
 unfold uintP
 rw [e]
 simp only
 rw [if_pos (sameB_rfl rfl)]
theorem ofP_bit {b : List Int} (hb : b.length ≤ 1000000) : ofP (bitT b) = some b := by
 show ofL (bitT b) (0 :: b) = some b
 show (scalar_Bits.f b (wrap64 (wrap64 (8 * (b.length : Int)) - 0))).bind (ofC (bitT b) b) = some b
 rw [bits_zero b hb]
 show ofC (bitT b) b (3, 0 :: b, [], 0) = some b
 unfold ofC
 rw [if_pos ⟨rfl, by exact sameB_rfl rfl⟩]
theorem bigB_by {l : List Int} (h : ∀ v ∈ l, 0 ≤ v ∧ v < 256) : ∀ v ∈ bigB (stripZ l), 0 ≤ v ∧ v < 256 := by
 have h2 : ∀ v ∈ stripZ l, 0 ≤ v ∧ v < 256 := fun v hv => h v (stripZ_mem l v hv)
 generalize stripZ l = s at h2 ⊢
 intro v hv
 cases s with
 | nil => unfold bigB at hv; simp at hv; omega
 | cons x m =>
  unfold bigB at hv
  simp only at hv
  split at hv
  ·rcases List.mem_cons.1 hv with rfl | hv
   ·omega
   ·exact h2 v hv
  ·exact h2 v hv
theorem bigT_by {l : List Int} (h : ∀ v ∈ l, 0 ≤ v ∧ v < 256) : byT (bigT l) := byT_mk (bigB_by h) trivial
theorem own_by {l : List Int} {E : Int} (h : ∀ v ∈ l, 0 ≤ v ∧ v < 256) (h0 : 0 ≤ E) (h1 : E < 4294967296) : byT (ownT l E) :=
 byT_mk (fun v hv => by cases hv) ⟨bigT_by h, bigT_by (leastP_len E h0 (by omega)).2, trivial⟩
theorem own_ok (l : List Int) (E : Int) (hl : l.length ≤ 140) (hv : ∀ v ∈ l, 0 ≤ v ∧ v < 256) (h0 : 0 ≤ E) (h1 : E < 4294967296) : writeP (ownT l E) = .ok (ownB l E) ∧ (ownB l E).length ≤ 2000 := by
 have hlE := (leastP_len E h0 (by omega)).1
 have g1 := bigB_len (stripZ (leastP E))
 have g2 := stripZ_len (leastP E)
 have g3 := bigB_len (stripZ l)
 have g4 := stripZ_len l
 have e48 : holdsB 48 = true := by decide
 have e2 : holdsB 2 = false := by decide
 have n2 : ¬ (false = true) := by decide
 have i48 : isTagB 48 = true := by decide
 have i2 : isTagB 2 = true := by decide
 have hr : rightT (ownT l E) = true := by
  unfold ownT intT bigT
  rw [rightT, rightL, rightL, rightL, rightT, rightT, rightL, e48, e2, i48, i2]
  rfl
 have hd : deepT (ownT l E) ≤ 32 := by
  unfold ownT intT bigT
  rw [deepT, deepL, deepL, deepL, deepT, deepT, e48, e2, if_pos rfl, if_neg n2]
  decide
 have hs : sizeT (ownT l E) ≤ 1000 := by
  unfold ownT intT bigT
  rw [sizeT, sizeL, sizeL, sizeL, sizeT, sizeT, e48, e2, if_pos rfl, if_neg n2, if_neg n2]
  have k1 := headLen_pos (bigB (stripZ l)).length
  have k2 := headLen_pos (bigB (stripZ (leastP E))).length
  have k3 := headLen_pos ((((bigB (stripZ l)).length : Int) + headLen ((bigB (stripZ l)).length)) + (((bigB (stripZ (leastP E))).length : Int) + headLen ((bigB (stripZ (leastP E))).length) + 0))
  omega
 have hw := writeP_of hr hd (by omega)
 have ho : ownB l E = encT (ownT l E) := by unfold ownB; rw [hw]; rfl
 refine ⟨by rw [ho]; exact hw, ?_⟩
 have hq := readP_write hw
 have := (readP_ok (enc_by _ (own_by hv h0 h1)) hq).2.2.1
 rw [ho]
 omega
theorem node_ok (l : List Int) (E : Int) (hl : l.length ≤ 140) (hv : ∀ v ∈ l, 0 ≤ v ∧ v < 256) (h0 : 0 ≤ E) (h1 : E < 4294967296) : writeP (nodeT l E) = .ok (encT (nodeT l E)) := by
 have hb := (own_ok l E hl hv h0 h1).2
 have e48 : holdsB 48 = true := by decide
 have e3 : holdsB 3 = false := by decide
 have n2 : ¬ (false = true) := by decide
 have i48 : isTagB 48 = true := by decide
 have i3 : isTagB 3 = true := by decide
 have a1 : rightT (algT 1) = true := by decide
 have a2 : deepT (algT 1) ≤ 3 := by decide
 have a3 : sizeT (algT 1) ≤ 30 := by decide
 refine writeP_of ?_ ?_ ?_
 ·unfold nodeT bitT
  rw [rightT, rightL, rightL, rightL, rightT, rightL, e48, e3, i48, i3, a1]
  rfl
 ·unfold nodeT bitT
  rw [deepT, deepL, deepL, deepL, deepT, e48, e3, if_pos rfl, if_neg n2]
  omega
 ·unfold nodeT bitT
  rw [sizeT, sizeL, sizeL, sizeL, sizeT, e48, e3, if_pos rfl, if_neg n2, List.length_cons]
  have k1 := headLen_pos ((ownB l E).length + 1 : Nat)
  have k3 := headLen_pos (sizeT (algT 1) + ((((ownB l E).length + 1 : Nat) : Int) + headLen (((ownB l E).length + 1 : Nat)) + 0))
  omega
/-- A key that may be comes back of its element. -/
theorem key_back {l : List Int} {E : Int} (hl : l.length ≤ 140) (hv : ∀ v ∈ l, 0 ≤ v ∧ v < 256) (h0 : 0 ≤ E) (h1 : E < 4294967296) (hr : rightK l E = true) : keyP (nodeT l E) = some (l, E) := by
 have ho := own_ok l E hl hv h0 h1
 have hn := node_ok l E hl hv h0 h1
 have hs := rightK_strip (by omega) hr
 unfold nodeT
 rw [keyP_two, ofP_bit (by omega)]
 simp only
 rw [readP_write ho.1]
 simp only
 unfold ownT
 rw [keyX_two, greatP_big hs]
 simp only
 rw [uintP_int h0 h1]
 simp only
 have hsm : sameP (nodeT l E) (nodeT l E) = true := by
  unfold sameP
  rw [hn]
  exact eqB_rfl _
 unfold nodeT at hsm
 rw [if_pos ⟨h1, hr, hsm⟩]
theorem ownB_by {m : List Int} {v : Int} (hm : ∀ x ∈ m, 0 ≤ x ∧ x < 256) (h0 : 0 ≤ v) (h1 : v < 4294967296) : ∀ x ∈ ownB m v, 0 ≤ x ∧ x < 256 := by
 unfold ownB
 cases hw2 : writeP (ownT m v) with
 | err e => intro x hx; cases hx
 | ok o =>
  have := (writeP_ok hw2).1
  intro x hx
  refine enc_by _ (own_by hm h0 h1) x ?_
  rw [← this]
  exact hx
theorem node_by {m : List Int} {v : Int} (hm : ∀ x ∈ m, 0 ≤ x ∧ x < 256) (h0 : 0 ≤ v) (h1 : v < 4294967296) : byT (nodeT m v) := byT_mk (fun v hv => by cases hv) ⟨by_enc (algT 1) (by decide) (by decide), byT_mk (fun x hx => by rcases List.mem_cons.1 hx with rfl | hx; omega; exact ownB_by hm h0 h1 x hx) trivial, trivial⟩
/-- What is read is a key that may be, and has just that element. -/
theorem key_some {n : T} (hby : byT n) (hw : wT n ≤ 500000) {l : List Int} {u : Int} (h : keyP n = some (l, u)) : (∀ v ∈ l, 0 ≤ v ∧ v < 256) ∧ l.length ≤ 20000 ∧ 0 ≤ u ∧ u < 4294967296 ∧ rightK l u = true ∧ nodeT l u = n := by
 obtain ⟨tag, body, kids⟩ := n
 match kids, h with
 | [z, y], h =>
  rw [keyP_two] at h
  cases ho : ofP y with
  | none => rw [ho] at h; cases h
  | some b =>
   rw [ho] at h
   simp only at h
   obtain ⟨h0, hb⟩ := ofP_mem ho
   have hyb : byT y := (byT_f2 hby).2.1
   have hbb : ∀ v ∈ b, 0 ≤ v ∧ v < 256 := fun v hv => byT_f1 hyb v (by rw [hb]; exact List.mem_cons_of_mem _ hv)
   cases hq : readP b with
   | err e => rw [hq] at h; cases h
   | ok x =>
    rw [hq] at h
    simp only at h
    obtain ⟨r1, r2, r3, r4, r5⟩ := readP_ok hbb hq
    have hxb : byT x := by_enc x r2 (fun v hv => hbb v (by rw [r1]; exact hv))
    have hk := kids_in x r2 hxb (by omega)
    obtain ⟨xt, xb, xk⟩ := x
    match xk, h, hk with
    | [a, c], h, hk =>
     rw [keyX_two] at h
     cases hg : greatP a with
     | none => rw [hg] at h; cases h
     | some m =>
      rw [hg] at h
      simp only at h
      cases hu : uintP c with
      | none => rw [hu] at h; cases h
      | some v =>
       rw [hu] at h
       simp only at h
       have hr : 0 ≤ v ∧ v < 18446744073709551616 := by
        unfold uintP at hu
        cases hn : numP c.f1 with
        | none => rw [hn] at hu; cases hu
        | some j =>
         rw [hn] at hu
         simp only at hu
         split at hu
         ·injection hu with hu
          subst hu
          exact numP_range c.f1 j (hk c (by simp)).1 hn
         ·cases hu
       split at h
       ·rename_i hc
        injection h with h
        injection h with e1 e2
        subst e1 e2
        have em := greatP_mem hg
        have hm : ∀ v ∈ m, 0 ≤ v ∧ v < 256 := fun v hv => (hk a (by simp)).1 v (stripZ_mem _ v (by rw [← em]; exact hv))
        have hml : m.length ≤ 20000 := by
         have := stripZ_len a.f1
         have := (hk a (by simp)).2
         rw [em]; omega
        refine ⟨hm, hml, hr.1, hc.1, hc.2.1, ?_⟩
        have hs := hc.2.2
        unfold sameP at hs
        cases h1 : writeP (nodeT m v) with
        | err e => rw [h1] at hs; cases hs
        | ok p =>
         rw [h1] at hs
         simp only at hs
         cases h2 : writeP ⟨tag, body, [z, y]⟩ with
         | err e => rw [h2] at hs; cases hs
         | ok q =>
          rw [h2] at hs
          simp only at hs
          have b1 := node_by hm hr.1 hc.1
          have e3 := eqB_eq (by rw [(writeP_ok h1).1]; exact enc_by _ b1) (by rw [(writeP_ok h2).1]; exact enc_by _ hby) hs
          subst e3
          exact writeP_inj h1 h2
       ·cases h
    | [], h, _ => rw [keyX_len (by simp)] at h; cases h
    | [_], h, _ => rw [keyX_len (by simp)] at h; cases h
    | _ :: _ :: _ :: _, h, _ => rw [keyX_len (by simp)] at h; cases h
 | [], h => rw [keyP_len (by simp)] at h; cases h
 | [_], h => rw [keyP_len (by simp)] at h; cases h
 | _ :: _ :: _ :: _, h => rw [keyP_len (by simp)] at h; cases h
/-- What was signed is opened as it was. -/
theorem seal_back {n : T} {s b : List Int} (hn : byT n) (hs : ∀ v ∈ s, 0 ≤ v ∧ v < 256) (h : writeP (sealT n s) = .ok b) : openP b = .ok (n, encT n, s) ∧ (∀ v ∈ b, 0 ≤ v ∧ v < 256) ∧ b.length ≤ 20000 := by
 have hb : ∀ v ∈ b, 0 ≤ v ∧ v < 256 := by rw [(writeP_ok h).1]; exact enc_by _ (sealT_by hn hs)
 have hq := readP_write h
 have hv := openP_via hb hq s (fun a y z t h1 h2 => by
  unfold sealT at h1
  injection h1 with _ h1
  injection h1 with _ h1
  injection h1 with h1 _
  rw [← h1] at h2
  unfold bitT at h2
  injection h2 with _ h2 _
  injection h2)
 exact ⟨((hv.2 n (algT 11) (bitT s) rfl).1 h).1, hb, (readP_ok hb hq).2.2.2.2⟩

end Go.Proofs.YtmbgjhkemlliaaaDoor.Tlv
end

/- spki.Read, walked. -/
section
set_option linter.unusedVariables false
set_option linter.unusedSimpArgs false
namespace Go.Proofs.YtmbgjhkemlliaaaDoor.Tlv
open Go.RowKit Go.Proofs.YtmbgjhkemlliaaaDoorW.PrintWords Go.Proofs.YtmbgjhkemlliaaaDoorW.PrintLast Go.Proofs.YtmbgjhkemlliaaaDoorW.PrintMore Go.Proofs.YtmbgjhkemlliaaaDoor.PT

set_option maxHeartbeats 4000000 in
set_option maxRecDepth 100000 in
theorem wrongK_walk (p q : Nat) (w : World) (R : Int → World → Prop)
 (H : Calls Tryd.prog 21 #[.pointer (some ⟨p, 0, none⟩), .pointer (some ⟨q, 0, none⟩)] (w.alloc (.cells #[.int .i64 0] 32)) fun e w2 => ((e = .returned (.tuple #[]) ∧ R 0 w2) ∨ (∃ x, e = gone x ∧ R x w2)) ∧ w2.heap[w.heap.size]? = some (.cells #[.int .i64 0] 32 (0, 0))) :
 Calls Tryd.prog 20 #[.func (.func 21) #[] #[.pointer (some ⟨p, 0, none⟩), .pointer (some ⟨q, 0, none⟩)]] w fun e w' => ∃ x w2, e = .returned (.int .i64 x) ∧ R x w2 ∧ w' = w2.setCell ⟨w.heap.size, 0, none⟩ (.int .i64 x) := by
 have hmf : ∀ (fn : Fn) (first cap : Array Value) (w : World), (Instr.makeFunc fn first cap).run Tryd.prog w = .ok (.func fn first cap) w := fun _ _ _ _ => rfl
 have HH := Lib.hid H
 clear H
 go_enter_defers Tryd.func20, Tryd.ntmps20
 go_wp2_with (fail)
 refine HH.out.mono ?_
 rintro e w2 ⟨hq, h2⟩
 rcases hq with ⟨rfl, hR⟩ | ⟨x, rfl, hR⟩
 ·have a0 := Lib.cell_of_heap h2 0
  have f0 := Lib.frozen_of_heap h2 0
  have H2 := Lib.hid h2
  have HR := Lib.hid hR
  clear h2 hR HH
  go_wp2
  exact wdoor_ret w w2 R HR.out _ _ H2.out rfl
 ·exact wdoor x w w2 R hR _ _ h2 rfl

def KeyPost (w : World) (n : T) (e : Ending) (w' : World) : Prop := ∃ A l c u x, e = .returned (.tuple #[.agg #[.slice A (List.length l) c, .int .u32 u], .int .i64 x]) ∧ ((x = 2 ∧ keyP n = none ∧ l = [] ∧ u = 0) ∨ (x = 0 ∧ keyP n = some (l, u))) ∧ (Kd.int .u8).C w' A l.length l ∧ l.length ≤ c ∧ Below w.heap.size w w'

set_option maxHeartbeats 4000000 in
set_option maxRecDepth 100000 in
theorem readK_walk (n : T) (hby : byT n) (hw : wT n ≤ 500000) (X1 : Option Addr) (x1 : Nat) (X2 : Option Addr) (x2 : Nat) (w : World) (hn : NodeAt w n X1 x1 X2 x2) :
 Calls Tryd.prog 9 #[.agg #[.int .i64 n.f0, .slice X1 n.f1.length x1, .slice X2 n.f2.length x2]] w (KeyPost w n) := by
 have hmf : ∀ (fn : Fn) (first cap : Array Value) (w : World), (Instr.makeFunc fn first cap).run Tryd.prog w = .ok (.func fn first cap) w := fun _ _ _ _ => rfl
 -- the world ahead of wrong: the element's box, the result, the key
 have h3 : ∀ w3, w3 = ((w.alloc (.cells #[.int .i64 n.f0, .slice X1 n.f1.length x1, .slice X2 n.f2.length x2] 28)).alloc (.cells #[.slice none 0 0, .int .u32 0] 25)).alloc (.cells #[.slice none 0 0, .int .u32 0] 25) →
  Calls Tryd.prog 20 #[.func (.func 21) #[] #[.pointer (some ⟨w.heap.size, 0, none⟩), .pointer (some ⟨w.heap.size + 2, 0, none⟩)]] w3 fun e w' => ∃ v0 v1 x, e = .returned (.int .i64 x) ∧ Below w.heap.size w w' ∧ w'.heap[w.heap.size + 1]? = some (.cells #[.slice none 0 0, .int .u32 0] 25 (0, 0)) ∧ w'.heap[w.heap.size + 2]? = some (.cells #[v0, v1] 25 (0, 0)) ∧
   ((x = 2 ∧ keyP n = none) ∨ (∃ l u A c, x = 0 ∧ keyP n = some (l, u) ∧ v0 = .slice A (List.length l) c ∧ v1 = .int .u32 u ∧ (Kd.int .u8).R 5 w' (w.heap.size + 3) (fun _ => True) (.slice A l.length c) l ∧ l.length ≤ c)) := by
  intro w3 hw3
  have hs3 : w3.heap.size = w.heap.size + 3 := by rw [hw3]; simp
  have hB3 : Below w.heap.size w w3 := by rw [hw3]; exact (((Below.refl _ _).alloc (Nat.le_refl _) _).alloc (by simp) _).alloc (by simp; omega) _
  have hx3 : w3.heap[w.heap.size]? = some (.cells #[.int .i64 n.f0, .slice X1 n.f1.length x1, .slice X2 n.f2.length x2] 28 (0, 0)) := by
   rw [hw3]
   exact (Below.heap_alloc _ _ _ (by simp; omega)).trans ((Below.heap_alloc _ _ _ (by simp)).trans (heap_alloc_new w _))
  have hr3 : w3.heap[w.heap.size + 1]? = some (.cells #[.slice none 0 0, .int .u32 0] 25 (0, 0)) := by
   rw [hw3]
   have := heap_alloc_new (w.alloc (.cells #[.int .i64 n.f0, .slice X1 n.f1.length x1, .slice X2 n.f2.length x2] 28)) (.cells #[.slice none 0 0, .int .u32 0] 25)
   exact (Below.heap_alloc _ _ _ (by simp)).trans (by simpa using this)
  have hq3 : w3.heap[w.heap.size + 2]? = some (.cells #[.slice none 0 0, .int .u32 0] 25 (0, 0)) := by
   rw [hw3]
   have := heap_alloc_new ((w.alloc (.cells #[.int .i64 n.f0, .slice X1 n.f1.length x1, .slice X2 n.f2.length x2] 28)).alloc (.cells #[.slice none 0 0, .int .u32 0] 25)) (.cells #[.slice none 0 0, .int .u32 0] 25)
   simpa using this
  have hal : Below w3.heap.size w3 (w3.alloc (.cells #[.int .i64 0] 32)) := (Below.refl _ _).alloc (Nat.le_refl _) _
  have hs4 : (w3.alloc (.cells #[.int .i64 0] 32)).heap.size = w.heap.size + 4 := by simp [hs3]
  have he4 : (w3.alloc (.cells #[.int .i64 0] 32)).heap[w3.heap.size]? = some (.cells #[.int .i64 0] 32 (0, 0)) := heap_alloc_new w3 _
  have hr4 := (hal.block _ (heap_lt hr3)).trans hr3
  have hrd := rdk_walk n hby hw X1 x1 X2 x2 w (w3.alloc (.cells #[.int .i64 0] 32)) w.heap.size (w.heap.size + 2) _ hn (hB3.trans (hal.mono hB3.size)) (by omega) ((hal.block _ (heap_lt hx3)).trans hx3) (by omega) ((hal.block _ (heap_lt hq3)).trans hq3)
  have hwr := wrongK_walk w.heap.size (w.heap.size + 2) w3 (fun x W => ∃ v0 v1, KS w (w3.alloc (.cells #[.int .i64 0] 32)) W (w.heap.size + 2) v0 v1 ∧ ((x = 2 ∧ keyP n = none) ∨ (∃ l u A c, x = 0 ∧ keyP n = some (l, u) ∧ v0 = .slice A (List.length l) c ∧ v1 = .int .u32 u ∧ (Kd.int .u8).R 5 W (w3.alloc (.cells #[.int .i64 0] 32)).heap.size (fun _ => True) (.slice A l.length c) l))) (hrd.mono (by
   rintro e w2 ⟨v0, v1, hK, h⟩
   refine ⟨?_, (hK.o w3.heap.size (by omega) (by omega)).trans he4⟩
   rcases h with ⟨hn, rfl⟩ | ⟨l, u, A, c, hk, rfl, h0, h1, hR⟩
   ·exact .inr ⟨2, rfl, v0, v1, hK, .inl ⟨rfl, hn⟩⟩
   ·exact .inl ⟨rfl, v0, v1, hK, .inr ⟨l, u, A, c, rfl, hk, h0, h1, hR⟩⟩))
  refine hwr.mono ?_
  rintro e w' ⟨x, w2, rfl, ⟨v0, v1, hK, h⟩, rfl⟩
  refine ⟨v0, v1, x, rfl, Below.setCell hK.b (p := ⟨w3.heap.size, 0, none⟩) (by show w.heap.size ≤ w3.heap.size; omega) _, (heap_setCell_other _ _ _ _ (by show w.heap.size + 1 ≠ w3.heap.size; omega)).trans ((hK.o _ (by omega) (by omega)).trans hr4), (heap_setCell_other _ _ _ _ (by show w.heap.size + 2 ≠ w3.heap.size; omega)).trans hK.h, ?_⟩
  rcases h with ⟨hx, hn⟩ | ⟨l, u, A, c, hx, hk, h0, h1, hR⟩
  ·exact .inl ⟨hx, hn⟩
  ·refine .inr ⟨l, u, A, c, hx, hk, h0, h1, ?_, ?_⟩
   ·have hm := Kd.R_mono (Kd.R_bound hR) (fun k hk => hk.2.1)
    exact Kd.R_lower (Kd.R_mono (Kd.R_move (w1 := w2.setCell ⟨w3.heap.size, 0, none⟩ (.int .i64 x)) hm (fun k hk => heap_setCell_other _ _ _ _ (by show k ≠ w3.heap.size; omega))) (fun _ _ => trivial)) (by omega)
   ·obtain ⟨_, _, f1, g1, _⟩ := Kd.R_reads hR
    injection f1 with f1 _ f2
    subst f2
    exact g1
 have H3 := Lib.hid h3
 generalize hPP : KeyPost w n = PP
 have HPP := Lib.hid hPP
 clear h3 hby hw hn hPP
 go_enter Tryd.func9, Tryd.ntmps9
 go_wp2_with (fail)
 refine (H3.out _ rfl).mono ?_
 rintro e w7 ⟨v0, v1, x, rfl, hB7, hr7, hq7, hcase⟩
 clear H3
 have a0 := Lib.cell_of_heap hr7 0
 have a1 := Lib.cell_of_heap hr7 1
 have f0 := Lib.frozen_of_heap hr7 0
 have f1 := Lib.frozen_of_heap hr7 1
 have b0 := Lib.cell_of_heap hq7 0
 have b1 := Lib.cell_of_heap hq7 1
 have HB7 := Lib.hid hB7
 have HR7 := Lib.hid hr7
 clear hB7 hr7 hq7
 rcases hcase with ⟨rfl, hk⟩ | ⟨l, u, A, c, rfl, hk, rfl, rfl, hR, hlc⟩
 ·have HK := Lib.hid hk
  clear hk
  go_wp2
  have hz := heap_setCell_same _ (w.heap.size + 1) 1 _ _ (.int .u32 0) (heap_setCell_same _ (w.heap.size + 1) 0 _ _ (.slice none 0 0) HR7.out)
  have hB := Below.setCell (Below.setCell HB7.out (p := ⟨w.heap.size + 1, 0, none⟩) (by show w.heap.size ≤ w.heap.size + 1; omega) (.slice none 0 0)) (p := ⟨w.heap.size + 1, 1, none⟩) (by show w.heap.size ≤ w.heap.size + 1; omega) (.int .u32 0)
  generalize (w7.setCell ⟨w.heap.size + 1, 0, none⟩ (.slice none 0 0)).setCell ⟨w.heap.size + 1, 1, none⟩ (.int .u32 0) = WF at hz hB ⊢
  have z0 := Lib.cell_of_heap hz 0
  have z1 := Lib.cell_of_heap hz 1
  refine bodyPost_ret (v := .tuple #[.agg #[.slice none 0 0, .int .u32 0], .int .i64 2]) (by simp at z0 z1; simp [results, Tryd.results9, go_sem, z0, z1]) rfl ?_
  have hPP := HPP.out
  subst hPP
  exact ⟨none, [], 0, 0, 2, rfl, .inl ⟨rfl, HK.out, rfl, rfl⟩, C_nil _ _ _, Nat.le_refl _, hB⟩
 ·have HK := Lib.hid hk
  have HRR := Lib.hid (And.intro hR hlc)
  clear hk hR hlc
  go_wp2
  have hz := heap_setCell_same _ (w.heap.size + 1) 1 _ _ (.int .u32 u) (heap_setCell_same _ (w.heap.size + 1) 0 _ _ (.slice A l.length c) HR7.out)
  have hB := Below.setCell (Below.setCell HB7.out (p := ⟨w.heap.size + 1, 0, none⟩) (by show w.heap.size ≤ w.heap.size + 1; omega) (.slice A l.length c)) (p := ⟨w.heap.size + 1, 1, none⟩) (by show w.heap.size ≤ w.heap.size + 1; omega) (.int .u32 u)
  have hne : ∀ k, k ≠ w.heap.size + 1 → ((w7.setCell ⟨w.heap.size + 1, 0, none⟩ (.slice A l.length c)).setCell ⟨w.heap.size + 1, 1, none⟩ (.int .u32 u)).heap[k]? = w7.heap[k]? := fun k hk => (heap_setCell_other _ _ _ _ hk).trans (heap_setCell_other _ _ _ _ hk)
  generalize (w7.setCell ⟨w.heap.size + 1, 0, none⟩ (.slice A l.length c)).setCell ⟨w.heap.size + 1, 1, none⟩ (.int .u32 u) = WF at hz hB hne ⊢
  have z0 := Lib.cell_of_heap hz 0
  have z1 := Lib.cell_of_heap hz 1
  refine bodyPost_ret (v := .tuple #[.agg #[.slice A l.length c, .int .u32 u], .int .i64 0]) (by simp at z0 z1; simp [results, Tryd.results9, go_sem, z0, z1]) rfl ?_
  have hPP := HPP.out
  subst hPP
  have hm := Kd.R_mono (Kd.R_bound HRR.out.1) (fun k hk => hk.2.1)
  obtain ⟨_, _, f1, g1, k1⟩ := Kd.R_reads (Kd.R_move (w1 := WF) hm (fun k hk => hne k (by omega)))
  injection f1 with f1 _ f2
  subst f1 f2
  exact ⟨_, l, _, u, 0, rfl, .inr ⟨rfl, HK.out⟩, k1, HRR.out.2, hB⟩

end Go.Proofs.YtmbgjhkemlliaaaDoor.Tlv
end

/- awake, walked. -/
section
set_option linter.unusedVariables false
set_option linter.unusedSimpArgs false
namespace Go.Proofs.YtmbgjhkemlliaaaDoor.Tlv
open Go.RowKit Go.Proofs.YtmbgjhkemlliaaaDoorW.PrintWords Go.Proofs.YtmbgjhkemlliaaaDoorW.PrintLast Go.Proofs.YtmbgjhkemlliaaaDoorW.PrintMore Go.Proofs.YtmbgjhkemlliaaaDoor.PT

set_option maxHeartbeats 4000000 in
set_option maxRecDepth 100000 in
theorem awake_walk (w : World) : Calls Tryd.prog 5 #[] w fun e w' => e = .returned (.bool true) ∧ Below w.heap.size w w' := by
 have hb0 : (w.alloc (.cells #[.int .u8 7] 5)).heap[w.heap.size]? = some (.cells ([7].map (Value.int .u8)).toArray 5 (0, 0)) := heap_alloc_new w _
 have hB1 : Below w.heap.size w (w.alloc (.cells #[.int .u8 7] 5)) := (Below.refl _ _).alloc (Nat.le_refl _) _
 have HSEAL := Lib.hid (seal_walk ⟨5, [], []⟩ [7] (fun _ => by decide) (by simp) none 0 none 0 (some ⟨w.heap.size, 0, none⟩) 1 (w.alloc (.cells #[.int .u8 7] 5)) ⟨C_nil _ _ _, Nat.le_refl _, C_nil _ _ _, Nat.le_refl _⟩ (reads_of_C (C_ints hb0 (by simp))) (by simp))
 have HB1 := Lib.hid hB1
 clear hb0 hB1
 go_enter Tryd.func5, Tryd.ntmps5
 go_wp2_with (fail)
 refine HSEAL.out.mono ?_
 intro e w2 hp
 unfold WritePost at hp
 rw [wake_write] at hp
 obtain ⟨A, c, rfl, ho, hB2⟩ := hp
 obtain ⟨_, _, f1, g1, k1⟩ := Kd.R_reads ho
 injection f1 with f1 _ f1'
 subst f1 f1'
 have hBw := HB1.out.trans (hB2.mono HB1.out.size)
 have HOPEN := Lib.hid (open_walk A c wakeB w2 (reads_of_C k1) g1 (by decide) (by decide))
 have HBW := Lib.hid hBw
 clear ho hB2 k1 g1 hBw HSEAL HB1
 have hwl : wakeB.length = 23 := rfl
 go_wp2_with (fail)
 rw [hwl] at HOPEN
 refine HOPEN.out.mono ?_
 intro e w3 hp
 unfold OpenPost at hp
 rw [wake_open] at hp
 obtain ⟨A1, c1, A2, c2, S, cs, G, cg, rfl, hn, hS, hcs, hG, hcg, hB3⟩ := hp
 have hBw := HBW.out.trans (hB3.mono HBW.out.size)
 have HB3 := Lib.hid hBw
 have hal : Below w3.heap.size w3 (w3.alloc (.cells #[.int .i64 5, .slice A1 0 c1, .slice A2 0 c2] 28)) := (Below.refl _ _).alloc (Nat.le_refl _) _
 have s0 : strOfNums [5, 0] = ⟨#[5, 0]⟩ := rfl
 have s1 : strOfNums [7] = ⟨#[7]⟩ := rfl
 have hcv1 := Kd.C_string (P := Tryd.prog) (A := S) (c := cs) Tryd.underlying22 Tryd.underlying5 Tryd.underlying9 (Kd.C_below (C_of_reads hS rfl) hal)
 have hcv2 := Kd.C_string (P := Tryd.prog) (A := G) (c := cg) Tryd.underlying22 Tryd.underlying5 Tryd.underlying9 (Kd.C_below (C_of_reads hG rfl) hal)
 rw [s0, show ([5, 0] : List Int).length = 2 from rfl] at hcv1
 rw [s1, show ([7] : List Int).length = 1 from rfl] at hcv2
 have HBF := Lib.hid (HB3.out.trans (hal.mono HB3.out.size))
 clear hn hB3 hBw HOPEN HBW hal s0 s1 hS hG hcs hcg
 go_wp2
 go_ret
 exact ⟨by first | rfl | (simp; done) | decide, HBF.out⟩

end Go.Proofs.YtmbgjhkemlliaaaDoor.Tlv
end

/- The machine side: functions as plain Lean functions, and that the calls come to what these say; written by a program of this session (wip/tools/inc.py over the kit's printer). -/
section
namespace Go.Proofs.YtmbgjhkemlliaaaDoor.PT
open Go.RowKit Go.Proofs.YtmbgjhkemlliaaaDoorW.PrintWords Go.Proofs.YtmbgjhkemlliaaaDoorW.PrintLast Go.Proofs.YtmbgjhkemlliaaaDoorW.PrintMore
attribute [local go_sem] max2_int min2_int max_two min_two max_three min_three max_four min_four   -- for this text's walks alone
set_option linter.unusedVariables false
set_option linter.unusedSimpArgs false

/-! ### lanyardref04_weigh: function 15 -/
mutual
def lanyardref04_weigh.l0 : Nat → Int → Int → Int → Int → List Int → List (S28) → Option (Int)
 | 0, _, _, _, _, _, _ => none
 | k + 1, x1, x5, x6, x105000, x105001, x105002 => if x6 < (x105002.length : Int) then (if x5 < 30000 then (if 0 ≤ x6 then ((lanyardref04_weigh.f k ((rd_T28 x105002 x6).f0) ((rd_T28 x105002 x6).f1) ((rd_T28 x105002 x6).f2) (wrap64 (x1 + 1))).bind fun t106 => (lanyardref04_weigh.l0 k x1 (wrap64 (x5 + t106)) (wrap64 (x6 + 1)) x105000 x105001 x105002)) else (none)) else (some x5)) else (some x5)
def lanyardref04_weigh.f : Nat → Int → List Int → List (S28) → Int → Option (Int)
 | 0, _, _, _, _ => none
 | k + 1, a0_0, l0_1, l0_2, a1 => if a1 > 60 then (some 30000) else (lanyardref04_weigh.l0 k a1 (1 + (mn (l0_1.length : Int) 30000)) 0 a0_0 l0_1 l0_2)
end
theorem lanyardref04_weigh.mono_l : ∀ k, (∀ y0 y1 y2 y3, LeO (lanyardref04_weigh.f k y0 y1 y2 y3) (lanyardref04_weigh.f (k + 1) y0 y1 y2 y3)) ∧ (∀ y0 y1 y2 y3 y4 y5, LeO (lanyardref04_weigh.l0 k y0 y1 y2 y3 y4 y5) (lanyardref04_weigh.l0 (k + 1) y0 y1 y2 y3 y4 y5))
 | 0 => ⟨fun _ _ _ _ r h => by simp [lanyardref04_weigh.f] at h, fun _ _ _ _ _ _ r h => by simp [lanyardref04_weigh.l0] at h⟩
 | k + 1 => by
  obtain ⟨ih0, ih1⟩ := lanyardref04_weigh.mono_l k
  refine ⟨?_, ?_⟩
  ·intro y0 y1 y2 y3
   unfold lanyardref04_weigh.f
   repeat' first
   | (with_reducible exact ih0 _ _ _ _)
   | (with_reducible exact ih1 _ _ _ _ _ _)
   | (with_reducible exact LeO.refl _)
   | (with_reducible exact LeO.none _)
   | (with_reducible refine LeO.ite ?_ ?_)
   | (with_reducible refine LeO.bind ?_ (fun _ => ?_))
   | exact ih0 _ _ _ _
   | exact ih1 _ _ _ _ _ _
   | exact LeO.none _
   | refine LeO.ite ?_ ?_
   | refine LeO.bind ?_ (fun _ => ?_)
  ·intro y0 y1 y2 y3 y4 y5
   unfold lanyardref04_weigh.l0
   repeat' first
   | (with_reducible exact ih0 _ _ _ _)
   | (with_reducible exact ih1 _ _ _ _ _ _)
   | (with_reducible exact LeO.refl _)
   | (with_reducible exact LeO.none _)
   | (with_reducible refine LeO.ite ?_ ?_)
   | (with_reducible refine LeO.bind ?_ (fun _ => ?_))
   | exact ih0 _ _ _ _
   | exact ih1 _ _ _ _ _ _
   | exact LeO.none _
   | refine LeO.ite ?_ ?_
   | refine LeO.bind ?_ (fun _ => ?_)
theorem lanyardref04_weigh.mono : ∀ a0 a1 a2 a3 k, LeO (lanyardref04_weigh.f k a0 a1 a2 a3) (lanyardref04_weigh.f (k + 1) a0 a1 a2 a3) := by
 intro a0 a1 a2 a3 k
 obtain ⟨ih0, ih1⟩ := lanyardref04_weigh.mono_l k
 exact ih0 a0 a1 a2 a3
set_option maxHeartbeats 8000000 in
set_option maxRecDepth 100000 in
theorem lanyardref04_weigh.calls (k : Nat) : ∀ (a0_0 : Int) (A0_1 : Option Addr) (c0_1 : Nat) (l0_1 : List Int) (A0_2 : Option Addr) (c0_2 : Nat) (l0_2 : List (S28)) (a1 : Int) (r : Int) (w : World) (hr0_1 : Kd.C (Kd.int .u8) w A0_1 l0_1.length l0_1) (hc0_1 : l0_1.length ≤ c0_1) (hr0_2 : Kd.C k28 w A0_2 l0_2.length l0_2) (hc0_2 : l0_2.length ≤ c0_2) (h : lanyardref04_weigh.f k a0_0 l0_1 l0_2 a1 = some r),
 Calls Tryd.prog 15 #[.agg #[.int .i64 a0_0, .slice A0_1 l0_1.length c0_1, .slice A0_2 l0_2.length c0_2], .int .i64 a1] w fun e w' => e = .returned (.int .i64 r) ∧ Below w.heap.size w w' := by
 induction k using Nat.strongRecOn with
 | _ k ih =>
 intro a0_0 A0_1 c0_1 l0_1 A0_2 c0_2 l0_2 a1 r w hr0_1 hc0_1 hr0_2 hc0_2 h
 cases k with
 | zero => exact absurd h (by simp [lanyardref04_weigh.f])
 | succ k =>
 simp only [lanyardref04_weigh.f] at h
 have hu28 := Tryd.underlying28
 have HR0_1 := Aside0.mk hr0_1
 have HC0_1 := Aside0.mk hc0_1
 clear hr0_1 hc0_1
 have HR0_2 := Aside0.mk hr0_2
 have HC0_2 := Aside0.mk hc0_2
 clear hr0_2 hc0_2
 have HB := Aside0.mk (Below.refl w.heap.size w)
 have H : (if a1 > 60 then (some 30000) else (lanyardref04_weigh.l0 k a1 (1 + (mn (l0_1.length : Int) 30000)) 0 a0_0 l0_1 l0_2)) = some r := h
 clear h
 by_cases c3 : a1 > 60
 ·rw [if_pos c3] at H
  have c3b0 : decide (60 < a1) = true := decide_eq_true c3
  clear c3
  obtain rfl := Option.some.inj H
  go_enter Tryd.func15, Tryd.ntmps15
  go_wp2_with (first | ((with_reducible refine gate_dst (N := 2) rfl ?_); refine box_event ?hg (N := 2) ?hd (cs := #[.int .i64 a0_0, .slice A0_1 l0_1.length c0_1, .slice A0_2 l0_2.length c0_2]) (t := 28) ?hr ?_; (case hd => rfl); (case hg => rfl); (case hr => first | (go_simp; done) | (go_simp; rfl)); intro gb104 hg w4 hbox hb; have n0_ := Aside0.mk (below_step (by repeat (first | (with_reducible first | exact HB.out | apply below_alloc | apply pw_below_drewN | apply below_drew1) | exact HB.out)) hb); have n1_ := Aside0.mk (hbox); have n2_ := Aside0.mk ((by rw [hg]; exact (below_size (by repeat (first | (with_reducible first | exact HB.out | apply below_alloc | apply pw_below_drewN | apply below_drew1) | exact HB.out))) : w.heap.size ≤ gb104)); have n3_ := Aside0.mk ((by rw [hg]; exact (below_size (by repeat (first | (with_reducible first | exact HB.out | apply below_alloc | apply pw_below_drewN | apply below_drew1) | exact HB.out))) : w.heap.size ≤ gb104)); clear HB; have HB := n0_; have BK104 := n1_; have GW104 := n2_; have GE104 := n3_; clear n0_ n1_ n2_ n3_; clear hb hbox hg))
  go_ret
  exact ⟨by first | rfl | (simp [errW_none, errW_some] <;> rfl) | (simp [*, errW_none, errW_some] <;> rfl), by repeat (first | (with_reducible first | exact HB.out | apply below_alloc | apply pw_below_drewN | apply below_drew1 | refine below_set ?_ GE104.out) | exact HB.out)⟩
 ·rw [if_neg c3] at H
  have c3b0 : decide (60 < a1) = false := decide_eq_false c3
  clear c3
  obtain ⟨ji5, hji5⟩ : ∃ j_ : Int, (mn (l0_1.length : Int) 30000) = j_ := ⟨_, rfl⟩
  replace H : (lanyardref04_weigh.l0 k a1 (1 + (ji5)) 0 a0_0 l0_1 l0_2) = some r := by first | (rw [hji5] at H; exact H) | (simp only [hji5] at H ⊢; exact H)
  (try (have hji5h : ji5 ≤ 30000 := by (rw [← hji5]; unfold mn; (repeat' split) <;> omega)))
  (try (have hji5g : ji5 ≤ 64 := by omega))
  (try (have hji5l : 0 ≤ ji5 := by (rw [← hji5]; unfold mn; (repeat' split) <;> omega)))
  (try (have hji5m : 0 ≤ ji5 := by omega))
  have hji5_ : (if 30000 < (l0_1.length : Int) then 30000 else (l0_1.length : Int)) = ji5 := hji5
  have H' := Aside0.mk H
  clear H
  go_enter Tryd.func15, Tryd.ntmps15
  go_wp2_with (first | ((with_reducible refine gate_dst (N := 2) rfl ?_); refine box_event ?hg (N := 2) ?hd (cs := #[.int .i64 a0_0, .slice A0_1 l0_1.length c0_1, .slice A0_2 l0_2.length c0_2]) (t := 28) ?hr ?_; (case hd => rfl); (case hg => rfl); (case hr => first | (go_simp; done) | (go_simp; rfl)); intro gb104 hg w6 hbox hb; have n0_ := Aside0.mk (below_step (by repeat (first | (with_reducible first | exact HB.out | apply below_alloc | apply pw_below_drewN | apply below_drew1) | exact HB.out)) hb); have n1_ := Aside0.mk (hbox); have n2_ := Aside0.mk ((by rw [hg]; exact (below_size (by repeat (first | (with_reducible first | exact HB.out | apply below_alloc | apply pw_below_drewN | apply below_drew1) | exact HB.out))) : w.heap.size ≤ gb104)); have n3_ := Aside0.mk ((by rw [hg]; exact (below_size (by repeat (first | (with_reducible first | exact HB.out | apply below_alloc | apply pw_below_drewN | apply below_drew1) | exact HB.out))) : w.heap.size ≤ gb104)); clear HB; have HB := n0_; have BK104 := n1_; have GW104 := n2_; have GE104 := n3_; clear n0_ n1_ n2_ n3_; clear hb hbox hg; have hcz7_0 : w6.cell? ⟨gb104, 0, none⟩ = some (.int .i64 a0_0) := (blk_cell BK104.out 0).trans rfl; have hcz7_1 : w6.cell? ⟨gb104, 1, none⟩ = some (.slice A0_1 l0_1.length c0_1) := (blk_cell BK104.out 1).trans rfl; have hcz7_2 : w6.cell? ⟨gb104, 2, none⟩ = some (.slice A0_2 l0_2.length c0_2) := (blk_cell BK104.out 2).trans rfl; have hfz7_0 := blk_frozen BK104.out 0; have hfz7_1 := blk_frozen BK104.out 1; have hfz7_2 := blk_frozen BK104.out 2))
  go_loopg [5, 6] k (fun kq v5 v6 w' => ∃ (x5_1 : Int) (x6_1 : Int), v5 = .int .i64 x5_1 ∧ v6 = .int .i64 x6_1 ∧ Aside0 (lanyardref04_weigh.l0 kq a1 x5_1 x6_1 a0_0 l0_1 l0_2 = some r) ∧ Aside0 (kq ≤ k) ∧ Aside0 (w'.heap[gb104]? = some (.cells #[.int .i64 a0_0, (.slice A0_1 l0_1.length c0_1), (.slice A0_2 l0_2.length c0_2)] 28 (0, 0))) ∧ Aside0 (Below w.heap.size w w'))
  case atStart => exact ⟨(1 + (ji5)), (0), (by first | rfl | (simp; done) | (simp only [← hji5] <;> (first | rfl | simp)) | (simp [*]; done)), (by first | rfl | (simp; done) | (simp [*]; done)), H', ⟨Nat.le_refl _⟩, ⟨by (with_reducible repeat (first | refine blk_drewN ?_ _ | refine blk_drew ?_ | refine blk_alloc ?_ _)); exact BK104.out⟩, ⟨by repeat (first | (with_reducible first | exact HB.out | apply below_alloc | apply pw_below_drewN | apply below_drew1 | refine below_set ?_ GE104.out) | exact HB.out)⟩⟩
  case round =>
   clear H'
   try clear c1
   try clear p2
   try clear c3
   try clear c3b0
   try clear hcz7_0
   try clear hcz7_1
   try clear hcz7_2
   try clear hfz7_0
   try clear hfz7_1
   try clear hfz7_2
   obtain ⟨x5_1, x6_1, rfl, rfl, HA, HK1, BK104, HB⟩ := hrel
   cases gk with
   | zero => exact absurd HA.out (by simp [lanyardref04_weigh.l0])
   | succ k1 =>
    have H := HA.out
    clear HA
    simp only [lanyardref04_weigh.l0] at H
    by_cases c8 : x6_1 < (l0_2.length : Int)
    ·rw [if_pos c8] at H
     have c8b0 : decide (x6_1 < (l0_2.length : Int)) = true := decide_eq_true c8
     clear c8
     by_cases c9 : x5_1 < 30000
     ·rw [if_pos c9] at H
      have c9b0 : decide (x5_1 < 30000) = true := decide_eq_true c9
      clear c9
      by_cases c10 : 0 ≤ x6_1
      ·rw [if_pos c10] at H
       have c10b0 : decide (0 ≤ x6_1) = true := decide_eq_true c10
       clear c10
       replace H := Option.bind_eq_some_iff.mp H
       obtain ⟨t106, A110, H⟩ := H
       replace H : (lanyardref04_weigh.l0 k1 a1 (wrap64 (x5_1 + t106)) (wrap64 (x6_1 + 1)) a0_0 l0_1 l0_2) = some r := H
       have A11 := Aside0.mk A110
       clear A110
       have H' := Aside0.mk H
       clear H
       have hcz12_0 : wr.cell? ⟨gb104, 0, none⟩ = some (.int .i64 a0_0) := (blk_cell BK104.out 0).trans rfl
       have hcz12_1 : wr.cell? ⟨gb104, 1, none⟩ = some (.slice A0_1 l0_1.length c0_1) := (blk_cell BK104.out 1).trans rfl
       have hcz12_2 : wr.cell? ⟨gb104, 2, none⟩ = some (.slice A0_2 l0_2.length c0_2) := (blk_cell BK104.out 2).trans rfl
       have hfz12_0 := blk_frozen BK104.out 0
       have hfz12_1 := blk_frozen BK104.out 1
       have hfz12_2 := blk_frozen BK104.out 2
       have p105 : 0 ≤ (x6_1 : Int) := of_decide_eq_true (by first | (with_reducible assumption) | assumption)
       have q105 : x6_1 < (l0_2.length : Int) := of_decide_eq_true (by first | (with_reducible assumption) | assumption)
       obtain ⟨ad105, A105_1, c105_1, A105_2, c105_2, e105, hx105_0, hx105_1, hx105_2, hl105_1, hi105_1, hl105_2, hi105_2⟩ := at_T28 HR0_2.out x6_1 p105 q105
       cases e105
       replace hx105_0 := (HB.out.cell (World.block_lt_of_cell? w _ hx105_0)).trans hx105_0
       replace hx105_1 := (HB.out.cell (World.block_lt_of_cell? w _ hx105_1)).trans hx105_1
       replace hx105_2 := (HB.out.cell (World.block_lt_of_cell? w _ hx105_2)).trans hx105_2
       have HR105_1 := Aside0.mk hi105_1
       have HC105_1 := Aside0.mk hl105_1
       clear hi105_1 hl105_1
       have HR105_2 := Aside0.mk hi105_2
       have HC105_2 := Aside0.mk hl105_2
       clear hi105_2 hl105_2
       replace p105 := eq_true p105
       replace q105 := eq_true q105
       go_wp2_with (first | ((with_reducible refine gate_callee (f := 15) rfl ?_); refine goesL_ (some 33) rfl rfl Tryd.func15 (by kernel_rfl) rfl #[.agg #[.int .i64 ((rd_T28 l0_2 x6_1).f0), .slice A105_1 ((rd_T28 l0_2 x6_1).f1).length c105_1, .slice A105_2 ((rd_T28 l0_2 x6_1).f2).length c105_2], .int .i64 (wrap64 (a1 + 1))] rfl (by (try simp only [List.map_toArray, List.map_cons, List.map_nil]); first | done | rfl | (simp only [List.length_drop, List.length_take]; rfl)) ?_; (with_reducible refine (ih k1 (by have := HK1.out; omega) ((rd_T28 l0_2 x6_1).f0) _ _ ((rd_T28 l0_2 x6_1).f1) _ _ ((rd_T28 l0_2 x6_1).f2) (wrap64 (a1 + 1)) t106 _ ?side1 ?side2 ?side3 ?side4 A11.out).mono ?_); (case side1 => repeat (first | exact (Kd.C_below HR105_1.out HB.out) | (with_reducible refine Kd.C_alloc ?_ _) | (with_reducible refine Kd.C_drewN ?_ _) | (with_reducible refine Kd.C_drew ?_))); (case side2 => exact HC105_1.out); (case side3 => repeat (first | exact (Kd.C_below HR105_2.out HB.out) | (with_reducible refine Kd.C_alloc ?_ _) | (with_reducible refine Kd.C_drewN ?_ _) | (with_reducible refine Kd.C_drew ?_))); (case side4 => exact HC105_2.out); rintro e w13 ⟨rfl, hb⟩; refine ⟨_, rfl, ?_⟩; have n0_ := Aside0.mk (blk_below (g := gb104) (o := .cells #[.int .i64 a0_0, .slice A0_1 l0_1.length c0_1, .slice (some ad105) l0_2.length c0_2] 28 (0, 0)) (by (with_reducible repeat (first | refine blk_drewN ?_ _ | refine blk_drew ?_ | refine blk_alloc ?_ _)); exact BK104.out) hb); have n1_ := Aside0.mk (below_step (by repeat (first | (with_reducible first | exact HB.out | apply below_alloc | apply pw_below_drewN | apply below_drew1 | refine below_set ?_ GE104.out) | exact HB.out)) hb); clear BK104; clear HB; have BK104 := n0_; have HB := n1_; clear n0_ n1_; (try clear hb); (try clear hb2); (try clear hk); (try clear hi)))
       go_roundg k1
       case measure => have := HK1.out; omega
       case rel => exact ⟨(wrap64 (x5_1 + t106)), (wrap64 (x6_1 + 1)), (by first | rfl | (simp; done) | (simp [*]; done)), (by first | rfl | (simp; done) | (simp [*]; done)), H', ⟨by have := HK1.out; omega⟩, ⟨by (with_reducible repeat (first | refine blk_drewN ?_ _ | refine blk_drew ?_ | refine blk_alloc ?_ _)); exact BK104.out⟩, ⟨by repeat (first | (with_reducible first | exact HB.out | apply below_alloc | apply pw_below_drewN | apply below_drew1 | refine below_set ?_ GE104.out) | exact HB.out)⟩⟩
      ·rw [if_neg c10] at H
       exact absurd H (by simp)
     ·rw [if_neg c9] at H
      have c9b0 : decide (x5_1 < 30000) = false := decide_eq_false c9
      clear c9
      obtain rfl := Option.some.inj H
      have hcz14_0 : wr.cell? ⟨gb104, 0, none⟩ = some (.int .i64 a0_0) := (blk_cell BK104.out 0).trans rfl
      have hcz14_1 : wr.cell? ⟨gb104, 1, none⟩ = some (.slice A0_1 l0_1.length c0_1) := (blk_cell BK104.out 1).trans rfl
      have hcz14_2 : wr.cell? ⟨gb104, 2, none⟩ = some (.slice A0_2 l0_2.length c0_2) := (blk_cell BK104.out 2).trans rfl
      have hfz14_0 := blk_frozen BK104.out 0
      have hfz14_1 := blk_frozen BK104.out 1
      have hfz14_2 := blk_frozen BK104.out 2
      go_wp2
      go_ret
      exact ⟨by first | rfl | (simp [errW_none, errW_some] <;> rfl) | (simp only [← hji5]; first | rfl | (simp [errW_none, errW_some] <;> rfl)) | (simp [*, errW_none, errW_some] <;> rfl), by repeat (first | (with_reducible first | exact HB.out | apply below_alloc | apply pw_below_drewN | apply below_drew1 | refine below_set ?_ GE104.out) | exact HB.out)⟩
    ·rw [if_neg c8] at H
     have c8b0 : decide (x6_1 < (l0_2.length : Int)) = false := decide_eq_false c8
     clear c8
     obtain rfl := Option.some.inj H
     have hcz15_0 : wr.cell? ⟨gb104, 0, none⟩ = some (.int .i64 a0_0) := (blk_cell BK104.out 0).trans rfl
     have hcz15_1 : wr.cell? ⟨gb104, 1, none⟩ = some (.slice A0_1 l0_1.length c0_1) := (blk_cell BK104.out 1).trans rfl
     have hcz15_2 : wr.cell? ⟨gb104, 2, none⟩ = some (.slice A0_2 l0_2.length c0_2) := (blk_cell BK104.out 2).trans rfl
     have hfz15_0 := blk_frozen BK104.out 0
     have hfz15_1 := blk_frozen BK104.out 1
     have hfz15_2 := blk_frozen BK104.out 2
     go_wp2
     go_ret
     exact ⟨by first | rfl | (simp [errW_none, errW_some] <;> rfl) | (simp only [← hji5]; first | rfl | (simp [errW_none, errW_some] <;> rfl)) | (simp [*, errW_none, errW_some] <;> rfl), by repeat (first | (with_reducible first | exact HB.out | apply below_alloc | apply pw_below_drewN | apply below_drew1 | refine below_set ?_ GE104.out) | exact HB.out)⟩

end Go.Proofs.YtmbgjhkemlliaaaDoor.PT
end

/- The machine side: functions as plain Lean functions, and that the calls come to what these say; written by a program of this session (wip/tools/inc.py over the kit's printer). -/
section
namespace Go.Proofs.YtmbgjhkemlliaaaDoor.PT
open Go.RowKit Go.Proofs.YtmbgjhkemlliaaaDoorW.PrintWords Go.Proofs.YtmbgjhkemlliaaaDoorW.PrintLast Go.Proofs.YtmbgjhkemlliaaaDoorW.PrintMore
attribute [local go_sem] max2_int min2_int max_two min_two max_three min_three max_four min_four   -- for this text's walks alone
set_option linter.unusedVariables false
set_option linter.unusedSimpArgs false

/-! ### lanyardref04_Light: function 7 -/
def lanyardref04_Light.f (k : Nat) (a0_0 : Int) (l0_1 : List Int) (l0_2 : List (S28)) : Option (Bool) := (lanyardref04_weigh.f k a0_0 l0_1 l0_2 0).bind fun t108 => (some (decide (t108 < 30000)))
theorem lanyardref04_Light.mono : ∀ a0 a1 a2 k, LeO (lanyardref04_Light.f k a0 a1 a2) (lanyardref04_Light.f (k + 1) a0 a1 a2) := by
 intro a0 a1 a2 k
 unfold lanyardref04_Light.f
 repeat' first
  | (with_reducible exact lanyardref04_weigh.mono _ _ _ _ _)
  | (with_reducible exact LeO.refl _)
  | (with_reducible exact LeO.none _)
  | (with_reducible refine LeO.ite ?_ ?_)
  | (with_reducible refine LeO.bind ?_ (fun _ => ?_))
  | exact lanyardref04_weigh.mono _ _ _ _ _
  | exact LeO.none _
  | refine LeO.ite ?_ ?_
  | refine LeO.bind ?_ (fun _ => ?_)
set_option maxHeartbeats 8000000 in
set_option maxRecDepth 100000 in
theorem lanyardref04_Light.calls (k : Nat) (a0_0 : Int) (A0_1 : Option Addr) (c0_1 : Nat) (l0_1 : List Int) (A0_2 : Option Addr) (c0_2 : Nat) (l0_2 : List (S28)) (r : Bool) (w : World) (hr0_1 : Kd.C (Kd.int .u8) w A0_1 l0_1.length l0_1) (hc0_1 : l0_1.length ≤ c0_1) (hr0_2 : Kd.C k28 w A0_2 l0_2.length l0_2) (hc0_2 : l0_2.length ≤ c0_2) (h : lanyardref04_Light.f k a0_0 l0_1 l0_2 = some r) :
 Calls Tryd.prog 7 #[.agg #[.int .i64 a0_0, .slice A0_1 l0_1.length c0_1, .slice A0_2 l0_2.length c0_2]] w fun e w' => e = .returned (.bool r) ∧ Below w.heap.size w w' := by
 have hu28 := Tryd.underlying28
 have HR0_1 := Aside0.mk hr0_1
 have HC0_1 := Aside0.mk hc0_1
 clear hr0_1 hc0_1
 have HR0_2 := Aside0.mk hr0_2
 have HC0_2 := Aside0.mk hc0_2
 clear hr0_2 hc0_2
 have HB := Aside0.mk (Below.refl w.heap.size w)
 have H : ((lanyardref04_weigh.f k a0_0 l0_1 l0_2 0).bind fun t108 => (some (decide (t108 < 30000)))) = some r := h
 clear h
 replace H := Option.bind_eq_some_iff.mp H
 obtain ⟨t108, A20, H⟩ := H
 replace H : (some (decide (t108 < 30000))) = some r := H
 have A2 := Aside0.mk A20
 clear A20
 obtain rfl := Option.some.inj H
 go_enter Tryd.func7, Tryd.ntmps7
 go_wp2_with (first | ((with_reducible refine gate_dst (N := 1) rfl ?_); refine box_event ?hg (N := 1) ?hd (cs := #[.int .i64 a0_0, .slice A0_1 l0_1.length c0_1, .slice A0_2 l0_2.length c0_2]) (t := 28) ?hr ?_; (case hd => rfl); (case hg => rfl); (case hr => first | (go_simp; done) | (go_simp; rfl)); intro gb107 hg w3 hbox hb; have n0_ := Aside0.mk (below_step (by repeat (first | (with_reducible first | exact HB.out | apply below_alloc | apply pw_below_drewN | apply below_drew1) | exact HB.out)) hb); have n1_ := Aside0.mk (hbox); have n2_ := Aside0.mk ((by rw [hg]; exact (below_size (by repeat (first | (with_reducible first | exact HB.out | apply below_alloc | apply pw_below_drewN | apply below_drew1) | exact HB.out))) : w.heap.size ≤ gb107)); have n3_ := Aside0.mk ((by rw [hg]; exact (below_size (by repeat (first | (with_reducible first | exact HB.out | apply below_alloc | apply pw_below_drewN | apply below_drew1) | exact HB.out))) : w.heap.size ≤ gb107)); clear HB; have HB := n0_; have BK107 := n1_; have GW107 := n2_; have GE107 := n3_; clear n0_ n1_ n2_ n3_; clear hb hbox hg; have hcz4_0 : w3.cell? ⟨gb107, 0, none⟩ = some (.int .i64 a0_0) := (blk_cell BK107.out 0).trans rfl; have hcz4_1 : w3.cell? ⟨gb107, 1, none⟩ = some (.slice A0_1 l0_1.length c0_1) := (blk_cell BK107.out 1).trans rfl; have hcz4_2 : w3.cell? ⟨gb107, 2, none⟩ = some (.slice A0_2 l0_2.length c0_2) := (blk_cell BK107.out 2).trans rfl; have hfz4_0 := blk_frozen BK107.out 0; have hfz4_1 := blk_frozen BK107.out 1; have hfz4_2 := blk_frozen BK107.out 2) | ((with_reducible refine gate_callee (f := 15) rfl ?_); refine goesL_ (some 4) rfl rfl Tryd.func15 (by kernel_rfl) rfl #[.agg #[.int .i64 a0_0, .slice A0_1 l0_1.length c0_1, .slice A0_2 l0_2.length c0_2], .int .i64 0] rfl (by (try simp only [List.map_toArray, List.map_cons, List.map_nil]); first | done | rfl | (simp only [List.length_drop, List.length_take]; rfl)) ?_; (with_reducible refine (lanyardref04_weigh.calls k a0_0 _ _ l0_1 _ _ l0_2 0 t108 _ ?side1 ?side2 ?side3 ?side4 A2.out).mono ?_); (case side1 => repeat (first | exact (Kd.C_below HR0_1.out HB.out) | (with_reducible refine Kd.C_alloc ?_ _) | (with_reducible refine Kd.C_drewN ?_ _) | (with_reducible refine Kd.C_drew ?_))); (case side2 => exact HC0_1.out); (case side3 => repeat (first | exact (Kd.C_below HR0_2.out HB.out) | (with_reducible refine Kd.C_alloc ?_ _) | (with_reducible refine Kd.C_drewN ?_ _) | (with_reducible refine Kd.C_drew ?_))); (case side4 => exact HC0_2.out); rintro e w5 ⟨rfl, hb⟩; refine ⟨_, rfl, ?_⟩; have n0_ := Aside0.mk (blk_below (g := gb107) (o := .cells #[.int .i64 a0_0, .slice A0_1 l0_1.length c0_1, .slice A0_2 l0_2.length c0_2] 28 (0, 0)) (by (with_reducible repeat (first | refine blk_drewN ?_ _ | refine blk_drew ?_ | refine blk_alloc ?_ _)); exact BK107.out) hb); have n1_ := Aside0.mk (below_step (by repeat (first | (with_reducible first | exact HB.out | apply below_alloc | apply pw_below_drewN | apply below_drew1 | refine below_set ?_ GE107.out) | exact HB.out)) hb); clear BK107; clear HB; have BK107 := n0_; have HB := n1_; clear n0_ n1_; (try clear hb); (try clear hb2); (try clear hk); (try clear hi)))
 go_ret
 exact ⟨by first | rfl | (simp [errW_none, errW_some] <;> rfl) | (simp [*, errW_none, errW_some] <;> rfl), by repeat (first | (with_reducible first | exact HB.out | apply below_alloc | apply pw_below_drewN | apply below_drew1 | refine below_set ?_ GE107.out) | exact HB.out)⟩

end Go.Proofs.YtmbgjhkemlliaaaDoor.PT
end

/- The reference's Light: what is light has a small weight. -/
section
set_option linter.unusedVariables false
set_option linter.unusedSimpArgs false
namespace Go.Proofs.YtmbgjhkemlliaaaDoor.Tlv
open Go.RowKit Go.Proofs.YtmbgjhkemlliaaaDoorW.PrintWords Go.Proofs.YtmbgjhkemlliaaaDoorW.PrintLast Go.Proofs.YtmbgjhkemlliaaaDoorW.PrintMore Go.Proofs.YtmbgjhkemlliaaaDoor.PT

theorem wg_up {a : Int} {b : List Int} {c : List T} {d r : Int} {k : Nat} (h : lanyardref04_weigh.f k a b c d = some r) : ∀ j, lanyardref04_weigh.f (k + j) a b c d = some r
 | 0 => h
 | j + 1 => lanyardref04_weigh.mono a b c d (k + j) r (wg_up h j)
theorem wgl_up {d x i a : Int} {b : List Int} {c : List T} {r : Int} {k : Nat} (h : lanyardref04_weigh.l0 k d x i a b c = some r) : ∀ j, lanyardref04_weigh.l0 (k + j) d x i a b c = some r
 | 0 => h
 | j + 1 => (lanyardref04_weigh.mono_l (k + j)).2 d x i a b c r (wgl_up h j)
def WeighC (t : T) : Prop := ∀ d : Int, 0 ≤ d → d ≤ 61 → ∃ (k : Nat) (r : Int), lanyardref04_weigh.f k t.f0 t.f1 t.f2 d = some r ∧ 1 ≤ r ∧ r ≤ 60002 * (62 - d) ∧ (r < 30000 → r = wT t)
theorem wg_loop (a : Int) (b : List Int) (kids : List T) (d : Int) (hd : 0 ≤ d) (hd2 : d ≤ 60) : ∀ (l pre : List T), kids = pre ++ l → (∀ t, t ∈ l → WeighC t) → ∀ c : Int, (pre.length : Int) + 1 ≤ c → c ≤ 30001 + 60002 * (61 - d) → (c < 30000 → c = 1 + (b.length : Int) + wL pre) →
 ∃ (k : Nat) (r : Int), lanyardref04_weigh.l0 k d c (pre.length : Int) a b kids = some r ∧ 1 ≤ r ∧ r ≤ 30001 + 60002 * (61 - d) ∧ (r < 30000 → r = 1 + (b.length : Int) + wL kids)
 | [], pre, e, _, c, h1, h2, h3 => by
  rw [List.append_nil] at e
  subst e
  exact ⟨1, c, by rw [lanyardref04_weigh.l0, if_neg (by omega)], by omega, h2, h3⟩
 | t :: l, pre, e, ih, c, h1, h2, h3 => by
  have hlen : (pre.length : Int) < kids.length := by rw [e]; simp; omega
  have hrd : rd_T28 kids (pre.length : Int) = t := by simp [rd_T28, e]
  by_cases hc : c < 30000
  ·obtain ⟨k1, r1, g1, g2, g3, g4⟩ := ih t List.mem_cons_self (d + 1) (by omega) (by omega)
   have h3' := h3 hc
   have hw := wL_app pre [t]
   have hw1 : wL [t] = wT t := by rw [wL, wL]; omega
   rw [hw1] at hw
   obtain ⟨k2, r, q1, q2, q3, q4⟩ := wg_loop a b kids d hd hd2 l (pre ++ [t]) (by rw [e]; simp) (fun u hu => ih u (List.mem_cons_of_mem _ hu)) (c + r1) (by simp; omega) (by omega) (fun hcc => by rw [hw, ← g4 (by omega)]; omega)
   refine ⟨(k1 + k2) + 1, r, ?_, q2, q3, q4⟩
   have j2 := wgl_up q1 k1
   rw [Nat.add_comm k2 k1, show ((pre ++ [t]).length : Int) = (pre.length : Int) + 1 by simp] at j2
   rw [lanyardref04_weigh.l0, if_pos hlen, if_pos hc, if_pos (by omega), hrd, wrap64_in _ (by omega), wg_up g1 k2, Option.bind_some, wrap64_in _ (by omega), wrap64_in _ (by omega)]
   exact j2
  ·exact ⟨1, c, by rw [lanyardref04_weigh.l0, if_pos hlen, if_neg hc], by omega, h2, fun h => absurd h hc⟩
theorem wg_step (n : T) (ih : ∀ t, t ∈ n.f2 → WeighC t) : WeighC n := by
 obtain ⟨tag, body, kids⟩ := n
 intro d h0 h1
 dsimp only at ih ⊢
 by_cases hd : d > 60
 ·exact ⟨1, 30000, by rw [lanyardref04_weigh.f, if_pos hd], by omega, by omega, fun h => by omega⟩
 ·have hmn : mn (body.length : Int) 30000 = min (body.length : Int) 30000 := by unfold mn; split <;> omega
  obtain ⟨k, r, q1, q2, q3, q4⟩ := wg_loop tag body kids d h0 (by omega) kids [] rfl ih (1 + min (body.length : Int) 30000) (by simp; omega) (by omega) (fun hc => by rw [wL]; omega)
  refine ⟨k + 1, r, ?_, q2, by omega, fun h => by rw [wT]; exact q4 h⟩
  rw [lanyardref04_weigh.f, if_neg hd, hmn]
  exact q1
theorem wg_le : ∀ (m : Nat) (n : T), SizeOf.sizeOf n ≤ m → WeighC n
 | 0, ⟨a, b, c⟩, h => by simp at h
 | m + 1, ⟨a, b, c⟩, h => wg_step _ fun t ht => wg_le m t (by
  have := List.sizeOf_lt_of_mem ht
  simp at h this
  omega)
theorem light_f (n : T) : ∃ (k : Nat) (b : Bool), lanyardref04_Light.f k n.f0 n.f1 n.f2 = some b ∧ (b = true → wT n < 30000) := by
 obtain ⟨k, r, h1, h2, h3, h4⟩ := wg_le _ n (Nat.le_refl _) 0 (by omega) (by omega)
 refine ⟨k, decide (r < 30000), by rw [lanyardref04_Light.f, h1]; rfl, fun h => ?_⟩
 have := of_decide_eq_true h
 rw [← h4 this]
 exact this
/-- Light, as it is called. -/
theorem light_walk (n : T) (A1 : Option Addr) (c1 : Nat) (A2 : Option Addr) (c2 : Nat) (w : World) (hn : NodeAt w n A1 c1 A2 c2) :
 ∃ b : Bool, (b = true → wT n < 30000) ∧ Calls Tryd.prog 7 #[.agg #[.int .i64 n.f0, .slice A1 n.f1.length c1, .slice A2 n.f2.length c2]] w fun e w' => e = .returned (.bool b) ∧ Below w.heap.size w w' := by
 obtain ⟨k, b, h1, h2⟩ := light_f n
 exact ⟨b, h2, lanyardref04_Light.calls k _ _ _ _ _ _ _ _ w hn.1 hn.2.1 hn.2.2.1 hn.2.2.2 h1⟩

end Go.Proofs.YtmbgjhkemlliaaaDoor.Tlv
end

/- The machine side: functions as plain Lean functions, and that the calls come to what these say; written by a program of this session (wip/tools/inc.py over the kit's printer). -/
section
namespace Go.Proofs.YtmbgjhkemlliaaaDoor.PT
open Go.RowKit Go.Proofs.YtmbgjhkemlliaaaDoorW.PrintWords Go.Proofs.YtmbgjhkemlliaaaDoorW.PrintLast Go.Proofs.YtmbgjhkemlliaaaDoorW.PrintMore
attribute [local go_sem] max2_int min2_int max_two min_two max_three min_three max_four min_four   -- for this text's walks alone
set_option linter.unusedVariables false
set_option linter.unusedSimpArgs false

/-! ### lanyardref14_Same: function 10 -/
def lanyardref14_Same.f (l0_0 : List Int) (a0_1 : Int) (l1_0 : List Int) (a1_1 : Int) : Option (Bool) := if (strOfNums l0_0).toList = (strOfNums l1_0).toList then (some (a0_1 == a1_1)) else (some false)
set_option maxHeartbeats 8000000 in
set_option maxRecDepth 100000 in
theorem lanyardref14_Same.calls (A0_0 : Option Addr) (c0_0 : Nat) (l0_0 : List Int) (a0_1 : Int) (A1_0 : Option Addr) (c1_0 : Nat) (l1_0 : List Int) (a1_1 : Int) (r : Bool) (w : World) (hr0_0 : Kd.C (Kd.int .u8) w A0_0 l0_0.length l0_0) (hc0_0 : l0_0.length ≤ c0_0) (hr1_0 : Kd.C (Kd.int .u8) w A1_0 l1_0.length l1_0) (hc1_0 : l1_0.length ≤ c1_0) (h : lanyardref14_Same.f l0_0 a0_1 l1_0 a1_1 = some r) :
 Calls Tryd.prog 10 #[.agg #[.slice A0_0 l0_0.length c0_0, .int .u32 a0_1], .agg #[.slice A1_0 l1_0.length c1_0, .int .u32 a1_1]] w fun e w' => e = .returned (.bool r) ∧ Below w.heap.size w w' := by
 have hu25 := Tryd.underlying25
 have HR0_0 := Aside0.mk hr0_0
 have HC0_0 := Aside0.mk hc0_0
 clear hr0_0 hc0_0
 have HR1_0 := Aside0.mk hr1_0
 have HC1_0 := Aside0.mk hc1_0
 clear hr1_0 hc1_0
 have HB := Aside0.mk (Below.refl w.heap.size w)
 have H : (if (strOfNums l0_0).toList = (strOfNums l1_0).toList then (some (a0_1 == a1_1)) else (some false)) = some r := h
 clear h
 by_cases c3 : (strOfNums l0_0).toList = (strOfNums l1_0).toList
 ·rw [if_pos c3] at H
  have c3b0 : ((strOfNums l0_0).toList == (strOfNums l1_0).toList) = true := beq_iff_eq.mpr c3
  have c3b1 : ((strOfNums l0_0).toList != (strOfNums l1_0).toList) = false := bne_eq_false_iff_eq.mpr c3
  clear c3
  obtain rfl := Option.some.inj H
  go_enter Tryd.func10, Tryd.ntmps10
  go_wp2_with (first | ((with_reducible refine gate_dst (N := 2) rfl ?_); refine box_event ?hg (N := 2) ?hd (cs := #[.slice A0_0 l0_0.length c0_0, .int .u32 a0_1]) (t := 25) ?hr ?_; (case hd => rfl); (case hg => rfl); (case hr => first | (go_simp; done) | (go_simp; rfl)); intro gb101 hg w4 hbox hb; have n0_ := Aside0.mk (below_step (by repeat (first | (with_reducible first | exact HB.out | apply below_alloc | apply pw_below_drewN | apply below_drew1) | exact HB.out)) hb); have n1_ := Aside0.mk (hbox); have n2_ := Aside0.mk ((by rw [hg]; exact (below_size (by repeat (first | (with_reducible first | exact HB.out | apply below_alloc | apply pw_below_drewN | apply below_drew1) | exact HB.out))) : w.heap.size ≤ gb101)); have n3_ := Aside0.mk ((by rw [hg]; exact (below_size (by repeat (first | (with_reducible first | exact HB.out | apply below_alloc | apply pw_below_drewN | apply below_drew1) | exact HB.out))) : w.heap.size ≤ gb101)); clear HB; have HB := n0_; have BK101 := n1_; have GW101 := n2_; have GE101 := n3_; clear n0_ n1_ n2_ n3_; clear hb hbox hg) | ((with_reducible refine gate_dst (N := 3) rfl ?_); refine box_event ?hg (N := 3) ?hd (cs := #[.slice A1_0 l1_0.length c1_0, .int .u32 a1_1]) (t := 25) ?hr ?_; (case hd => rfl); (case hg => rfl); (case hr => first | (go_simp; done) | (go_simp; rfl)); intro gb102 hg w5 hbox hb; have n0_ := Aside0.mk (blk_below (g := gb101) (o := .cells #[.slice A0_0 l0_0.length c0_0, .int .u32 a0_1] 25 (0, 0)) (by (with_reducible repeat (first | refine blk_drewN ?_ _ | refine blk_drew ?_ | refine blk_alloc ?_ _)); exact BK101.out) hb); have n1_ := Aside0.mk (below_step (by repeat (first | (with_reducible first | exact HB.out | apply below_alloc | apply pw_below_drewN | apply below_drew1 | refine below_set ?_ GE101.out) | exact HB.out)) hb); have n2_ := Aside0.mk (hbox); have n3_ := Aside0.mk ((by rw [hg]; exact (below_size (by repeat (first | (with_reducible first | exact HB.out | apply below_alloc | apply pw_below_drewN | apply below_drew1 | refine below_set ?_ GE101.out) | exact HB.out))) : w.heap.size ≤ gb102)); have n4_ := Aside0.mk ((by rw [hg]; exact (below_size (by repeat (first | (with_reducible first | exact HB.out | apply below_alloc | apply pw_below_drewN | apply below_drew1 | refine below_set ?_ GE101.out) | exact HB.out))) : w.heap.size ≤ gb102)); have n5_ := Aside0.mk ((by rw [hg]; exact Nat.ne_of_lt (blk_lt (g := gb101) (o := .cells #[.slice A0_0 l0_0.length c0_0, .int .u32 a0_1] 25 (0, 0)) (by (with_reducible repeat (first | refine blk_drewN ?_ _ | refine blk_drew ?_ | refine blk_alloc ?_ _)); exact BK101.out)) : gb101 ≠ gb102)); have n6_ := Aside0.mk ((by rw [hg]; exact Nat.ne_of_gt (blk_lt (g := gb101) (o := .cells #[.slice A0_0 l0_0.length c0_0, .int .u32 a0_1] 25 (0, 0)) (by (with_reducible repeat (first | refine blk_drewN ?_ _ | refine blk_drew ?_ | refine blk_alloc ?_ _)); exact BK101.out)) : gb102 ≠ gb101)); clear BK101; clear HB; have BK101 := n0_; have HB := n1_; have BK102 := n2_; have GW102 := n3_; have GE102 := n4_; have NB101_102 := n5_; have NB102_101 := n6_; clear n0_ n1_ n2_ n3_ n4_ n5_ n6_; clear hb hbox hg; have hnb6 := NB101_102.out; have hnc6 := NB102_101.out; have hcz7_0 : w5.cell? ⟨gb101, 0, none⟩ = some (.slice A0_0 l0_0.length c0_0) := (blk_cell BK101.out 0).trans rfl; have hcz7_1 : w5.cell? ⟨gb101, 1, none⟩ = some (.int .u32 a0_1) := (blk_cell BK101.out 1).trans rfl; have hfz7_0 := blk_frozen BK101.out 0; have hfz7_1 := blk_frozen BK101.out 1; have hcv8 := Kd.C_string (P := Tryd.prog) (A := A0_0) (c := c0_0) Tryd.underlying22 Tryd.underlying5 Tryd.underlying9 (Kd.C_below HR0_0.out HB.out); have hcz9_0 : w5.cell? ⟨gb102, 0, none⟩ = some (.slice A1_0 l1_0.length c1_0) := (blk_cell BK102.out 0).trans rfl; have hcz9_1 : w5.cell? ⟨gb102, 1, none⟩ = some (.int .u32 a1_1) := (blk_cell BK102.out 1).trans rfl; have hfz9_0 := blk_frozen BK102.out 0; have hfz9_1 := blk_frozen BK102.out 1; have hcv10 := Kd.C_string (P := Tryd.prog) (A := A1_0) (c := c1_0) Tryd.underlying22 Tryd.underlying5 Tryd.underlying9 (Kd.C_below HR1_0.out HB.out)))
  go_ret
  exact ⟨by first | rfl | (simp [errW_none, errW_some] <;> rfl) | (simp [*, errW_none, errW_some] <;> rfl), by repeat (first | (with_reducible first | exact HB.out | apply below_alloc | apply pw_below_drewN | apply below_drew1 | refine below_set ?_ GE101.out | refine below_set ?_ GE102.out) | exact HB.out)⟩
 ·rw [if_neg c3] at H
  have c3b0 : ((strOfNums l0_0).toList == (strOfNums l1_0).toList) = false := beq_eq_false_iff_ne.mpr c3
  have c3b1 : ((strOfNums l0_0).toList != (strOfNums l1_0).toList) = true := bne_iff_ne.mpr c3
  obtain rfl := Option.some.inj H
  go_enter Tryd.func10, Tryd.ntmps10
  go_wp2_with (first | ((with_reducible refine gate_dst (N := 2) rfl ?_); refine box_event ?hg (N := 2) ?hd (cs := #[.slice A0_0 l0_0.length c0_0, .int .u32 a0_1]) (t := 25) ?hr ?_; (case hd => rfl); (case hg => rfl); (case hr => first | (go_simp; done) | (go_simp; rfl)); intro gb101 hg w11 hbox hb; have n0_ := Aside0.mk (below_step (by repeat (first | (with_reducible first | exact HB.out | apply below_alloc | apply pw_below_drewN | apply below_drew1) | exact HB.out)) hb); have n1_ := Aside0.mk (hbox); have n2_ := Aside0.mk ((by rw [hg]; exact (below_size (by repeat (first | (with_reducible first | exact HB.out | apply below_alloc | apply pw_below_drewN | apply below_drew1) | exact HB.out))) : w.heap.size ≤ gb101)); have n3_ := Aside0.mk ((by rw [hg]; exact (below_size (by repeat (first | (with_reducible first | exact HB.out | apply below_alloc | apply pw_below_drewN | apply below_drew1) | exact HB.out))) : w.heap.size ≤ gb101)); clear HB; have HB := n0_; have BK101 := n1_; have GW101 := n2_; have GE101 := n3_; clear n0_ n1_ n2_ n3_; clear hb hbox hg) | ((with_reducible refine gate_dst (N := 3) rfl ?_); refine box_event ?hg (N := 3) ?hd (cs := #[.slice A1_0 l1_0.length c1_0, .int .u32 a1_1]) (t := 25) ?hr ?_; (case hd => rfl); (case hg => rfl); (case hr => first | (go_simp; done) | (go_simp; rfl)); intro gb102 hg w12 hbox hb; have n0_ := Aside0.mk (blk_below (g := gb101) (o := .cells #[.slice A0_0 l0_0.length c0_0, .int .u32 a0_1] 25 (0, 0)) (by (with_reducible repeat (first | refine blk_drewN ?_ _ | refine blk_drew ?_ | refine blk_alloc ?_ _)); exact BK101.out) hb); have n1_ := Aside0.mk (below_step (by repeat (first | (with_reducible first | exact HB.out | apply below_alloc | apply pw_below_drewN | apply below_drew1 | refine below_set ?_ GE101.out) | exact HB.out)) hb); have n2_ := Aside0.mk (hbox); have n3_ := Aside0.mk ((by rw [hg]; exact (below_size (by repeat (first | (with_reducible first | exact HB.out | apply below_alloc | apply pw_below_drewN | apply below_drew1 | refine below_set ?_ GE101.out) | exact HB.out))) : w.heap.size ≤ gb102)); have n4_ := Aside0.mk ((by rw [hg]; exact (below_size (by repeat (first | (with_reducible first | exact HB.out | apply below_alloc | apply pw_below_drewN | apply below_drew1 | refine below_set ?_ GE101.out) | exact HB.out))) : w.heap.size ≤ gb102)); have n5_ := Aside0.mk ((by rw [hg]; exact Nat.ne_of_lt (blk_lt (g := gb101) (o := .cells #[.slice A0_0 l0_0.length c0_0, .int .u32 a0_1] 25 (0, 0)) (by (with_reducible repeat (first | refine blk_drewN ?_ _ | refine blk_drew ?_ | refine blk_alloc ?_ _)); exact BK101.out)) : gb101 ≠ gb102)); have n6_ := Aside0.mk ((by rw [hg]; exact Nat.ne_of_gt (blk_lt (g := gb101) (o := .cells #[.slice A0_0 l0_0.length c0_0, .int .u32 a0_1] 25 (0, 0)) (by (with_reducible repeat (first | refine blk_drewN ?_ _ | refine blk_drew ?_ | refine blk_alloc ?_ _)); exact BK101.out)) : gb102 ≠ gb101)); clear BK101; clear HB; have BK101 := n0_; have HB := n1_; have BK102 := n2_; have GW102 := n3_; have GE102 := n4_; have NB101_102 := n5_; have NB102_101 := n6_; clear n0_ n1_ n2_ n3_ n4_ n5_ n6_; clear hb hbox hg; have hnb13 := NB101_102.out; have hnc13 := NB102_101.out; have hcz14_0 : w12.cell? ⟨gb101, 0, none⟩ = some (.slice A0_0 l0_0.length c0_0) := (blk_cell BK101.out 0).trans rfl; have hcz14_1 : w12.cell? ⟨gb101, 1, none⟩ = some (.int .u32 a0_1) := (blk_cell BK101.out 1).trans rfl; have hfz14_0 := blk_frozen BK101.out 0; have hfz14_1 := blk_frozen BK101.out 1; have hcv15 := Kd.C_string (P := Tryd.prog) (A := A0_0) (c := c0_0) Tryd.underlying22 Tryd.underlying5 Tryd.underlying9 (Kd.C_below HR0_0.out HB.out); have hcz16_0 : w12.cell? ⟨gb102, 0, none⟩ = some (.slice A1_0 l1_0.length c1_0) := (blk_cell BK102.out 0).trans rfl; have hcz16_1 : w12.cell? ⟨gb102, 1, none⟩ = some (.int .u32 a1_1) := (blk_cell BK102.out 1).trans rfl; have hfz16_0 := blk_frozen BK102.out 0; have hfz16_1 := blk_frozen BK102.out 1; have hcv17 := Kd.C_string (P := Tryd.prog) (A := A1_0) (c := c1_0) Tryd.underlying22 Tryd.underlying5 Tryd.underlying9 (Kd.C_below HR1_0.out HB.out)))
  go_ret
  exact ⟨by first | rfl | (simp [errW_none, errW_some] <;> rfl) | (simp [*, errW_none, errW_some] <;> rfl), by repeat (first | (with_reducible first | exact HB.out | apply below_alloc | apply pw_below_drewN | apply below_drew1 | refine below_set ?_ GE101.out | refine below_set ?_ GE102.out) | exact HB.out)⟩

end Go.Proofs.YtmbgjhkemlliaaaDoor.PT
end

/- The machine side: functions as plain Lean functions, and that the calls come to what these say; written by a program of this session (wip/tools/inc.py over the kit's printer). -/
section
namespace Go.Proofs.YtmbgjhkemlliaaaDoor.PT
open Go.RowKit Go.Proofs.YtmbgjhkemlliaaaDoorW.PrintWords Go.Proofs.YtmbgjhkemlliaaaDoorW.PrintLast Go.Proofs.YtmbgjhkemlliaaaDoorW.PrintMore
attribute [local go_sem] max2_int min2_int max_two min_two max_three min_three max_four min_four   -- for this text's walks alone
set_option linter.unusedVariables false
set_option linter.unusedSimpArgs false

/-! ### lanyardref09_LightKey: function 6 -/
def lanyardref09_LightKey.f (l0_0 : List Int) (a0_1 : Int) : Option (Bool) := some (decide ((l0_0.length : Int) ≤ 140))
set_option maxHeartbeats 8000000 in
set_option maxRecDepth 100000 in
theorem lanyardref09_LightKey.calls (A0_0 : Option Addr) (c0_0 : Nat) (l0_0 : List Int) (a0_1 : Int) (r : Bool) (w : World) (hr0_0 : Kd.C (Kd.int .u8) w A0_0 l0_0.length l0_0) (hc0_0 : l0_0.length ≤ c0_0) (h : lanyardref09_LightKey.f l0_0 a0_1 = some r) :
 Calls Tryd.prog 6 #[.agg #[.slice A0_0 l0_0.length c0_0, .int .u32 a0_1]] w fun e w' => e = .returned (.bool r) ∧ Below w.heap.size w w' := by
 have hu25 := Tryd.underlying25
 have HR0_0 := Aside0.mk hr0_0
 have HC0_0 := Aside0.mk hc0_0
 clear hr0_0 hc0_0
 have HB := Aside0.mk (Below.refl w.heap.size w)
 have H : (some (decide ((l0_0.length : Int) ≤ 140))) = some r := h
 clear h
 obtain rfl := Option.some.inj H
 go_enter Tryd.func6, Tryd.ntmps6
 go_wp2_with (first | ((with_reducible refine gate_dst (N := 1) rfl ?_); refine box_event ?hg (N := 1) ?hd (cs := #[.slice A0_0 l0_0.length c0_0, .int .u32 a0_1]) (t := 25) ?hr ?_; (case hd => rfl); (case hg => rfl); (case hr => first | (go_simp; done) | (go_simp; rfl)); intro gb103 hg w2 hbox hb; have n0_ := Aside0.mk (below_step (by repeat (first | (with_reducible first | exact HB.out | apply below_alloc | apply pw_below_drewN | apply below_drew1) | exact HB.out)) hb); have n1_ := Aside0.mk (hbox); have n2_ := Aside0.mk ((by rw [hg]; exact (below_size (by repeat (first | (with_reducible first | exact HB.out | apply below_alloc | apply pw_below_drewN | apply below_drew1) | exact HB.out))) : w.heap.size ≤ gb103)); have n3_ := Aside0.mk ((by rw [hg]; exact (below_size (by repeat (first | (with_reducible first | exact HB.out | apply below_alloc | apply pw_below_drewN | apply below_drew1) | exact HB.out))) : w.heap.size ≤ gb103)); clear HB; have HB := n0_; have BK103 := n1_; have GW103 := n2_; have GE103 := n3_; clear n0_ n1_ n2_ n3_; clear hb hbox hg; have hcz3_0 : w2.cell? ⟨gb103, 0, none⟩ = some (.slice A0_0 l0_0.length c0_0) := (blk_cell BK103.out 0).trans rfl; have hcz3_1 : w2.cell? ⟨gb103, 1, none⟩ = some (.int .u32 a0_1) := (blk_cell BK103.out 1).trans rfl; have hfz3_0 := blk_frozen BK103.out 0; have hfz3_1 := blk_frozen BK103.out 1))
 go_ret
 exact ⟨by first | rfl | (simp [errW_none, errW_some] <;> rfl) | (simp [*, errW_none, errW_some] <;> rfl), by repeat (first | (with_reducible first | exact HB.out | apply below_alloc | apply pw_below_drewN | apply below_drew1 | refine below_set ?_ GE103.out) | exact HB.out)⟩

end Go.Proofs.YtmbgjhkemlliaaaDoor.PT
end

/- SpkiBack, walked. -/
section
set_option linter.unusedVariables false
set_option linter.unusedSimpArgs false
namespace Go.Proofs.YtmbgjhkemlliaaaDoor.Tlv
open Go.RowKit Go.Proofs.YtmbgjhkemlliaaaDoorW.PrintWords Go.Proofs.YtmbgjhkemlliaaaDoorW.PrintLast Go.Proofs.YtmbgjhkemlliaaaDoorW.PrintMore Go.Proofs.YtmbgjhkemlliaaaDoor.PT

/-- The boxes of the two arguments. -/
structure BK (w W : World) (kv : Value) (E : Int) (n0 n1 n2 : Value) : Prop where
 k : W.heap[w.heap.size]? = some (.cells #[kv, .int .u32 E] 25 (0, 0))
 n : W.heap[w.heap.size + 1]? = some (.cells #[n0, n1, n2] 28 (0, 0))
 b : Below w.heap.size w W
theorem BK.step {w W W2 : World} {kv : Value} {E : Int} {n0 n1 n2 : Value} (h : BK w W kv E n0 n1 n2) (hB : Below W.heap.size W W2) : BK w W2 kv E n0 n1 n2 :=
 ⟨(hB.block _ (heap_lt h.k)).trans h.k, (hB.block _ (heap_lt h.n)).trans h.n, h.b.trans (hB.mono h.b.size)⟩
theorem BK.new (w : World) (kv : Value) (E : Int) (n0 n1 n2 : Value) : BK w ((w.alloc (.cells #[kv, .int .u32 E] 25)).alloc (.cells #[n0, n1, n2] 28)) kv E n0 n1 n2 := by
 refine ⟨(Below.heap_alloc _ _ _ (by simp)).trans (heap_alloc_new w _), ?_, ((Below.refl _ _).alloc (Nat.le_refl _) _).alloc (by simp) _⟩
 have := heap_alloc_new (w.alloc (.cells #[kv, .int .u32 E] 25)) (.cells #[n0, n1, n2] 28)
 simpa using this
theorem keySame_f (l : List Int) (E : Int) (m : List Int) (u : Int) : ∃ b, lanyardref14_Same.f l E m u = some b ∧ (m = l → u = E → b = true) := by
 unfold lanyardref14_Same.f
 split
 ·exact ⟨_, rfl, fun _ h => by rw [h]; exact beq_self_eq_true _⟩
 ·rename_i h
  exact ⟨_, rfl, fun h1 _ => absurd (by rw [h1]) h⟩
/-- What Node gives, in one form. -/
def NodeUni (w : World) (l : List Int) (E : Int) (e : Ending) (w' : World) : Prop := ∃ (X1 : Option Addr) (x1 : Nat) (X2 : Option Addr) (x2 : Nat) (n : T) (x : Int), e = .returned (.tuple #[.agg #[.int .i64 n.f0, .slice X1 n.f1.length x1, .slice X2 n.f2.length x2], .int .i64 x]) ∧ NodeAt w' n X1 x1 X2 x2 ∧ ((x = 0 ∧ rightK l E = true ∧ n = nodeT l E) ∨ (x = 1 ∧ rightK l E = false ∧ n = ⟨0, [], []⟩)) ∧ Below w.heap.size w w'
theorem NodePost.uni {w : World} {l : List Int} {E : Int} {e : Ending} {w' : World} (h : NodePost w l E e w') : NodeUni w l E e w' := by
 obtain ⟨v1, v2, n, x, rfl, hR, hc, hB⟩ := h
 obtain ⟨X1, x1, X2, x2, rfl, rfl, hn⟩ := hR.form
 exact ⟨X1, x1, X2, x2, n, x, rfl, hn, hc, hB⟩

theorem key_fact {n : T} (hby : byT n) (hw : wT n ≤ 500000) {m : List Int} {u x : Int} (h : (x = 2 ∧ keyP n = none ∧ m = [] ∧ u = 0) ∨ (x = 0 ∧ keyP n = some (m, u))) :
 ((∀ v ∈ m, 0 ≤ v ∧ v < 256) ∧ m.length ≤ 20000 ∧ 0 ≤ u ∧ u < 4294967296) ∧ (x = 0 → rightK m u = true ∧ nodeT m u = n) := by
 rcases h with ⟨rfl, _, rfl, rfl⟩ | ⟨rfl, hk⟩
 ·exact ⟨⟨(fun v hv => by cases hv), by decide, by decide, by decide⟩, fun h => by omega⟩
 ·have h := key_some hby hw hk
  exact ⟨⟨h.1, h.2.1, h.2.2.1, h.2.2.2.1⟩, fun _ => h.2.2.2.2⟩
theorem node_fact {d : T} {m : List Int} {u x : Int} (h : (x = 0 ∧ rightK m u = true ∧ d = nodeT m u) ∨ (x = 1 ∧ rightK m u = false ∧ d = ⟨0, [], []⟩)) : wT d ≤ 500000 := by
 rcases h with ⟨_, _, rfl⟩ | ⟨_, _, rfl⟩
 ·have := wT_node m u; omega
 ·decide
theorem good_fact {d n : T} {m : List Int} {u x c : Int} (hk : c = 0 → rightK m u = true ∧ nodeT m u = n) (h : (x = 0 ∧ rightK m u = true ∧ d = nodeT m u) ∨ (x = 1 ∧ rightK m u = false ∧ d = ⟨0, [], []⟩)) : (c = 0 ∧ x = 0 ∧ eqT d n = true) ∨ (c == (0 : Int)) = false := by
 by_cases h0 : c = 0
 ·obtain ⟨g1, g2⟩ := hk h0
  rcases h with ⟨h2, _, rfl⟩ | ⟨_, h2, _⟩
  ·exact .inl ⟨h0, h2, by rw [g2]; exact eqT_rfl n⟩
  ·rw [h2] at g1; cases g1
 ·exact .inr (beq_eq_false_iff_ne.2 h0)

theorem seal_fact {t : T} {b : List Int} {x : Int} (h : resW (writeP t) = (b, x)) : (x ≠ 0 ∧ b = []) ∨ (x = 0 ∧ writeP t = .ok b) := by
 cases hq : writeP t with
 | err e =>
  rw [hq] at h
  injection h with h1 h2
  exact .inl ⟨by have := writeP_err hq; omega, h1.symm⟩
 | ok l =>
  rw [hq] at h
  injection h with h1 h2
  exact .inr ⟨h2.symm, by rw [h1]⟩
theorem open_ok {w : World} {b : List Int} {e : Ending} {w' : World} {a : T} {s t : List Int} (h : OpenPost w b e w') (hq : openP b = .ok (a, s, t)) : ∃ A1 c1 A2 c2 S cs G cg, e = .returned (.tuple #[.agg #[.int .i64 a.f0, .slice A1 a.f1.length c1, .slice A2 a.f2.length c2], .slice S s.length cs, .slice G t.length cg, .int .i64 0]) ∧ NodeAt w' a A1 c1 A2 c2 ∧ ReadsInt w' .u8 S s.length s ∧ s.length ≤ cs ∧ ReadsInt w' .u8 G t.length t ∧ t.length ≤ cg ∧ Below w.heap.size w w' := by
 unfold OpenPost at h
 rw [hq] at h
 exact h

set_option maxHeartbeats 8000000 in
set_option maxRecDepth 100000 in
theorem back_any (l : List Int) (E : Int) (n : T) (sig : List Int) (hl : ∀ v ∈ l, 0 ≤ v ∧ v < 256) (h0 : 0 ≤ E) (h1 : E < 4294967296) (hby : byT n) (hs : ∀ v ∈ sig, 0 ≤ v ∧ v < 256) (A : Option Addr) (c : Nat) (A1 : Option Addr) (c1 : Nat) (A2 : Option Addr) (c2 : Nat) (As : Option Addr) (cs : Nat) (w : World) (hkr : (Kd.int .u8).C w A l.length l) (hkc : l.length ≤ c) (hn : NodeAt w n A1 c1 A2 c2) (hsr : (Kd.int .u8).C w As sig.length sig) (hsc : sig.length ≤ cs) :
 Calls Tryd.prog 3 #[.agg #[.slice A l.length c, .int .u32 E], .agg #[.int .i64 n.f0, .slice A1 n.f1.length c1, .slice A2 n.f2.length c2], .slice As sig.length cs] w fun e w' => e = .returned (.bool true) ∧ Below w.heap.size w w' := by
 have hnot : ∀ (x : Bool) (w : World), (Op.unary .not (.bool x)).run Tryd.prog w = .ok (.bool (!x)) w := fun _ _ => rfl
 have hbk := BK.new w (.slice A l.length c) E (.int .i64 n.f0) (.slice A1 n.f1.length c1) (.slice A2 n.f2.length c2)
 have HK := Lib.hid (fun w1 (hB : Below w.heap.size w w1) => Kd.C_below hkr hB)
 have HN := Lib.hid (fun w1 (hB : Below w.heap.size w w1) => hn.below hB)
 have HS := Lib.hid (fun w1 (hB : Below w.heap.size w w1) => Kd.C_below hsr hB)
 have HBY := Lib.hid (And.intro hl (And.intro hby hs))
 have HE := Lib.hid (And.intro h0 h1)
 have HKC := Lib.hid hkc
 have HSC := Lib.hid hsc
 have HBK := Lib.hid hbk
 clear hbk hn hsr hkr hs hl hby h0 h1 hkc hsc
 go_enter Tryd.func3, Tryd.ntmps3
 go_wp2_with (fail)
 refine (awake_walk _).mono ?_
 rintro e w1 ⟨rfl, hB⟩
 have hbk := HBK.out.step hB
 have k0 := Lib.cell_of_heap hbk.k 0
 have k1 := Lib.cell_of_heap hbk.k 1
 have HBK1 := Lib.hid hbk
 have HCALL := Lib.hid (lanyardref09_LightKey.calls A c l E (decide ((l.length : Int) ≤ 140)) w1 (HK.out _ hbk.b) HKC.out rfl)
 clear hB hbk HBK
 go_wp2_with (fail)
 refine HCALL.out.mono ?_
 rintro e w2 ⟨rfl, hB⟩
 have hbk := HBK1.out.step hB
 have n0 := Lib.cell_of_heap hbk.n 0
 have n1 := Lib.cell_of_heap hbk.n 1
 have n2 := Lib.cell_of_heap hbk.n 2
 obtain ⟨ok, hok, hlight⟩ := light_walk n A1 c1 A2 c2 w2 (HN.out _ hbk.b)
 have HBK2 := Lib.hid hbk
 have HOK := Lib.hid hok
 have HL := Lib.hid hlight
 clear hB hbk HBK1 HCALL k0 k1 hok hlight
 go_wp2_with (fail)
 refine HL.out.mono ?_
 rintro e w3 ⟨rfl, hB⟩
 have hbk := HBK2.out.step hB
 have HBK3 := Lib.hid hbk
 clear hB hbk HBK2 HL n0 n1 n2
 by_cases hsk : l.length ≤ 140 ∧ ok = true ∧ sig.length ≤ 500
 ·obtain ⟨hl1, hok2, hs1⟩ := hsk
  have hw := HOK.out hok2
  subst hok2
  have hd0 : decide ((l.length : Int) ≤ 140) = true := decide_eq_true (by omega)
  have hd0' := eq_true (show (l.length : Int) ≤ 140 by omega)
  have hd1 := eq_false (show ¬ ((500 : Int) < (sig.length : Int)) by omega)
  have hd3 : decide ((500 : Int) < (sig.length : Int)) = false := decide_eq_false (by omega)
  have HLN := Lib.hid (And.intro hl1 (And.intro hs1 hw))
  have k0 := Lib.cell_of_heap HBK3.out.k 0
  have k1 := Lib.cell_of_heap HBK3.out.k 1
  have HCALL := Lib.hid (node_walk l E (by omega) HBY.out.1 HE.out.1 HE.out.2 A c w3 (HK.out _ HBK3.out.b) HKC.out)
  clear hl1 hs1 hw HOK
  go_wp2_with (fail)
  refine HCALL.out.mono ?_
  intro e w4 hp
  obtain ⟨X1, x1, X2, x2, a, ea, rfl, ha, hca, hB⟩ := hp.uni
  have hal : Below w4.heap.size w4 (w4.alloc (.cells #[.int .i64 a.f0, .slice X1 a.f1.length x1, .slice X2 a.f2.length x2] 28)) := (Below.refl _ _).alloc (Nat.le_refl _) _
  have hbx : (w4.alloc (.cells #[.int .i64 a.f0, .slice X1 a.f1.length x1, .slice X2 a.f2.length x2] 28)).heap[w4.heap.size]? = some (.cells #[.int .i64 a.f0, .slice X1 a.f1.length x1, .slice X2 a.f2.length x2] 28 (0, 0)) := heap_alloc_new w4 _
  have HBK4 := Lib.hid ((HBK3.out.step hB).step hal)
  have hab : byT a ∧ wT a ≤ 500000 := by
   rcases hca with ⟨_, _, rfl⟩ | ⟨_, _, rfl⟩
   ·exact ⟨node_by HBY.out.1 HE.out.1 HE.out.2, by have := wT_node l E; omega⟩
   ·exact ⟨byT_mk (fun v hv => by cases hv) trivial, by decide⟩
  have HCALL2 := Lib.hid (readK_walk a hab.1 hab.2 X1 x1 X2 x2 _ (ha.below hal))
  have HCA := Lib.hid hca
  have b0 := Lib.cell_of_heap hbx 0
  have b1 := Lib.cell_of_heap hbx 1
  have b2 := Lib.cell_of_heap hbx 2
  clear hp hB hal hbx HCALL HBK3 k0 k1 hca ha hab
  go_wp2_with (fail)
  refine HCALL2.out.mono ?_
  intro e w5 hp
  unfold KeyPost at hp
  obtain ⟨Y, m, y, u, eb, rfl, hcb, hm, hmc, hB⟩ := hp
  have hal : Below w5.heap.size w5 (w5.alloc (.cells #[.slice Y m.length y, .int .u32 u] 25)) := (Below.refl _ _).alloc (Nat.le_refl _) _
  have hbx : (w5.alloc (.cells #[.slice Y m.length y, .int .u32 u] 25)).heap[w5.heap.size]? = some (.cells #[.slice Y m.length y, .int .u32 u] 25 (0, 0)) := heap_alloc_new w5 _
  have hbk := (HBK4.out.step hB).step hal
  have HBK5 := Lib.hid hbk
  obtain ⟨sb, hsb, hsb1⟩ := keySame_f l E m u
  have hgood : ea = 0 → eb = 0 ∧ sb = true := by
   intro h
   rcases HCA.out with ⟨_, hr, rfl⟩ | ⟨h', _, _⟩
   ·have hk := key_back (by have := HLN.out.1; omega) HBY.out.1 HE.out.1 HE.out.2 hr
    rw [hk] at hcb
    rcases hcb with ⟨_, h', _⟩ | ⟨h', h''⟩
    ·cases h'
    ·injection h'' with h''
     injection h'' with q1 q2
     exact ⟨h', hsb1 q1.symm q2.symm⟩
   ·omega
  have HGOOD := Lib.hid hgood
  have HCALL := Lib.hid (lanyardref14_Same.calls A c l E Y y m u sb _ (HK.out _ hbk.b) HKC.out (Kd.C_below hm hal) hmc hsb)
  have k0 := Lib.cell_of_heap hbk.k 0
  have k1 := Lib.cell_of_heap hbk.k 1
  have b0 := Lib.cell_of_heap hbx 0
  have b1 := Lib.cell_of_heap hbx 1
  clear hB hal hbx hbk HBK4 HCALL2 HCA hcb hm hmc hsb hsb1 hgood
  go_wp2_with (fail)
  refine HCALL.out.mono ?_
  rintro e w6 ⟨rfl, hB⟩
  have hbk := HBK5.out.step hB
  have HBK6 := Lib.hid hbk
  have n0 := Lib.cell_of_heap hbk.n 0
  have n1 := Lib.cell_of_heap hbk.n 1
  have n2 := Lib.cell_of_heap hbk.n 2
  have HCALL2 := Lib.hid (readK_walk n HBY.out.2.1 (by have := HLN.out.2.2; omega) A1 c1 A2 c2 w6 (HN.out _ hbk.b))
  clear hB hbk HBK5 HCALL k0 k1
  have hea : (ea = 0 ∧ eb = 0 ∧ sb = true) ∨ (ea == (0 : Int)) = false := by
   by_cases h : ea = 0
   ·exact .inl ⟨h, (HGOOD.out h).1, (HGOOD.out h).2⟩
   ·exact .inr (beq_eq_false_iff_ne.2 h)
  clear HGOOD
  have hR := fun (hea : (ea == (0 : Int)) = false) => (beq_eq_false_iff_ne.1 hea)
  rcases hea with ⟨rfl, rfl, rfl⟩ | hea
  all_goals try (have hea' := eq_false (hR hea))
  all_goals clear hR
  all_goals go_wp2_with (fail)
  all_goals refine HCALL2.out.mono ?_
  all_goals intro e w7 hp
  all_goals unfold KeyPost at hp
  all_goals obtain ⟨Z, m2, z, u2, ec, rfl, hcc, hm2, hmc2, hB⟩ := hp
  all_goals have hal : Below w7.heap.size w7 (w7.alloc (.cells #[.slice Z m2.length z, .int .u32 u2] 25)) := (Below.refl _ _).alloc (Nat.le_refl _) _
  all_goals have hbx : (w7.alloc (.cells #[.slice Z m2.length z, .int .u32 u2] 25)).heap[w7.heap.size]? = some (.cells #[.slice Z m2.length z, .int .u32 u2] 25 (0, 0)) := heap_alloc_new w7 _
  all_goals have hbk := (HBK6.out.step hB).step hal
  all_goals have HBK7 := Lib.hid hbk
  all_goals have hkey := key_fact HBY.out.2.1 (by have := HLN.out.2.2; omega) hcc
  all_goals have HKEY := Lib.hid hkey
  all_goals have HCALL := Lib.hid (node_walk m2 u2 (by omega) hkey.1.1 hkey.1.2.2.1 hkey.1.2.2.2 Z z _ (Kd.C_below hm2 hal) hmc2)
  all_goals have b0 := Lib.cell_of_heap hbx 0
  all_goals have b1 := Lib.cell_of_heap hbx 1
  all_goals clear hB hal hbx hbk HBK6 HCALL2 hcc hm2 hmc2 hkey n0 n1 n2
  all_goals go_wp2_with (fail)
  all_goals refine HCALL.out.mono ?_
  all_goals intro e w8 hp
  all_goals obtain ⟨V1, v1, V2, v2, d, ed, rfl, hd, hcd, hB⟩ := hp.uni
  all_goals have hal : Below w8.heap.size w8 (w8.alloc (.cells #[.int .i64 d.f0, .slice V1 d.f1.length v1, .slice V2 d.f2.length v2] 28)) := (Below.refl _ _).alloc (Nat.le_refl _) _
  all_goals have hbx : (w8.alloc (.cells #[.int .i64 d.f0, .slice V1 d.f1.length v1, .slice V2 d.f2.length v2] 28)).heap[w8.heap.size]? = some (.cells #[.int .i64 d.f0, .slice V1 d.f1.length v1, .slice V2 d.f2.length v2] 28 (0, 0)) := heap_alloc_new w8 _
  all_goals have hbk := (HBK7.out.step hB).step hal
  all_goals have HBK8 := Lib.hid hbk
  all_goals have hdw := node_fact hcd
  all_goals obtain ⟨ks, hks⟩ := sm_any d (by omega) n
  all_goals have hn1 := hd.below hal
  all_goals have hn2 := HN.out _ hbk.b
  all_goals have HCALL2 := Lib.hid (lanyardref04_Same.calls ks d.f0 V1 v1 d.f1 V2 v2 d.f2 n.f0 A1 c1 n.f1 A2 c2 n.f2 (eqT d n) _ hn1.1 hn1.2.1 hn1.2.2.1 hn1.2.2.2 hn2.1 hn2.2.1 hn2.2.2.1 hn2.2.2.2 hks)
  all_goals have hgood := good_fact HKEY.out.2 hcd
  all_goals have HGOOD := Lib.hid hgood
  all_goals have n0 := Lib.cell_of_heap hbk.n 0
  all_goals have n1 := Lib.cell_of_heap hbk.n 1
  all_goals have n2 := Lib.cell_of_heap hbk.n 2
  all_goals have b0 := Lib.cell_of_heap hbx 0
  all_goals have b1 := Lib.cell_of_heap hbx 1
  all_goals have b2 := Lib.cell_of_heap hbx 2
  all_goals clear hp hB hal hbx hbk HBK7 HCALL hcd hd hdw hks hn1 hn2 hgood HKEY
  all_goals go_wp2_with (fail)
  all_goals refine HCALL2.out.mono ?_
  all_goals rintro e w9 ⟨rfl, hB⟩
  all_goals have hbk := HBK8.out.step hB
  all_goals have HBK9 := Lib.hid hbk
  all_goals have n0 := Lib.cell_of_heap hbk.n 0
  all_goals have n1 := Lib.cell_of_heap hbk.n 1
  all_goals have n2 := Lib.cell_of_heap hbk.n 2
  all_goals have HCALL := Lib.hid (seal_walk n sig (fun _ => by have := HLN.out.2.2; have := size_wT n; omega) (by have := HLN.out.2.1; omega) A1 c1 A2 c2 As cs w9 (HN.out _ hbk.b) (reads_of_C (HS.out _ hbk.b)) HSC.out)
  all_goals clear hB hbk HBK8 HCALL2
  all_goals (obtain ⟨yb, hyb⟩ : ∃ yb, yb = eqT d n := ⟨_, rfl⟩)
  all_goals have HG2 := HGOOD.out
  all_goals rw [← hyb] at HG2 ⊢
  all_goals clear HGOOD hyb
  all_goals (obtain ⟨rfl, rfl, rfl⟩ | hec := HG2)
  all_goals try (have hec' := eq_false (beq_eq_false_iff_ne.1 hec))
  all_goals go_wp2_with (fail)
  all_goals refine HCALL.out.mono ?_
  all_goals intro e w10 hp
  all_goals (obtain ⟨X, lx, cx, ex, rfl, hres, hX, hB⟩ := hp.R)
  all_goals have hbk := HBK9.out.step hB
  all_goals have HBK10 := Lib.hid hbk
  all_goals have HXR := Lib.hid hX
  all_goals have hfact := seal_fact hres
  all_goals clear hp hX hres hbk HCALL HBK9 n0 n1 n2 hB
  all_goals
   rcases hfact with ⟨hex, rfl⟩ | ⟨rfl, hseal⟩
   ·have hex1 := eq_false hex
    have hex2 : (ex == (0 : Int)) = false := beq_eq_false_iff_ne.2 hex
    go_wp2
    go_ret
    exact ⟨rfl, HBK10.out.b⟩
   ·obtain ⟨_, _, f1, g1, k1⟩ := Kd.R_reads HXR.out
    injection f1 with f1 _ f1'
    subst f1 f1'
    obtain ⟨o1, o2, o3⟩ := seal_back HBY.out.2.1 HBY.out.2.2 hseal
    have HCALL := Lib.hid (open_walk X cx lx w10 (reads_of_C k1) g1 o2 (by omega))
    have HO := Lib.hid o1
    clear g1 k1 o1 o2 o3 hseal HXR
    go_wp2_with (fail)
    refine HCALL.out.mono ?_
    intro e w11 hp
    obtain ⟨N1, q1, N2, q2, S, ds, G, dg, rfl, hna, hS, hsd, hG, htd, hB⟩ := open_ok hp HO.out
    have hal : Below w11.heap.size w11 (w11.alloc (.cells #[.int .i64 n.f0, .slice N1 n.f1.length q1, .slice N2 n.f2.length q2] 28)) := (Below.refl _ _).alloc (Nat.le_refl _) _
    have hbx : (w11.alloc (.cells #[.int .i64 n.f0, .slice N1 n.f1.length q1, .slice N2 n.f2.length q2] 28)).heap[w11.heap.size]? = some (.cells #[.int .i64 n.f0, .slice N1 n.f1.length q1, .slice N2 n.f2.length q2] 28 (0, 0)) := heap_alloc_new w11 _
    have hbk := (HBK10.out.step hB).step hal
    have HBK11 := Lib.hid hbk
    obtain ⟨ks, hks⟩ := sm_any n (by have := HLN.out.2.2; omega) n
    rw [eqT_rfl] at hks
    have hn1 := hna.below hal
    have hn2 := HN.out _ hbk.b
    have HCALL2 := Lib.hid (lanyardref04_Same.calls ks n.f0 N1 q1 n.f1 N2 q2 n.f2 n.f0 A1 c1 n.f1 A2 c2 n.f2 true _ hn1.1 hn1.2.1 hn1.2.2.1 hn1.2.2.2 hn2.1 hn2.2.1 hn2.2.2.1 hn2.2.2.2 hks)
    have HSG := Lib.hid (ReadsInt_below hG hal)
    have n0 := Lib.cell_of_heap hbk.n 0
    have n1 := Lib.cell_of_heap hbk.n 1
    have n2 := Lib.cell_of_heap hbk.n 2
    have b0 := Lib.cell_of_heap hbx 0
    have b1 := Lib.cell_of_heap hbx 1
    have b2 := Lib.cell_of_heap hbx 2
    clear hp hna hS hsd hG htd hB hal hbx hbk hks hn1 hn2 HCALL HO HBK10
    go_wp2_with (fail)
    refine HCALL2.out.mono ?_
    rintro e w12 ⟨rfl, hB⟩
    have hbf := (HBK11.out.step hB).b
    have hcv1 := Kd.C_string (P := Tryd.prog) (A := G) (c := dg) Tryd.underlying22 Tryd.underlying5 Tryd.underlying9 (C_of_reads (ReadsInt_below HSG.out hB) rfl)
    have hcv2 := Kd.C_string (P := Tryd.prog) (A := As) (c := cs) Tryd.underlying22 Tryd.underlying5 Tryd.underlying9 (HS.out _ hbf)
    have HBF := Lib.hid hbf
    clear hB hbf HCALL2 HSG HBK11 n0 n1 n2 b0 b1 b2
    go_wp2
    go_ret
    exact ⟨by first | rfl | (simp; done) | decide, HBF.out⟩
 ·have hskip : (decide ((l.length : Int) ≤ 140) = false) ∨ (decide ((l.length : Int) ≤ 140) = true ∧ ok = false) ∨ (decide ((l.length : Int) ≤ 140) = true ∧ ok = true ∧ (500 : Int) < (sig.length : Int)) := by
   by_cases c1 : l.length ≤ 140
   ·have := decide_eq_true (show (l.length : Int) ≤ 140 by omega)
    cases ok with
    | false => exact .inr (.inl ⟨this, rfl⟩)
    | true =>
     by_cases c2 : sig.length ≤ 500
     ·exact absurd ⟨c1, rfl, c2⟩ hsk
     ·exact .inr (.inr ⟨this, rfl, by omega⟩)
   ·exact .inl (decide_eq_false (by omega))
  clear hsk HOK
  generalize decide ((l.length : Int) ≤ 140) = one at hskip ⊢
  rcases hskip with rfl | ⟨rfl, rfl⟩ | ⟨rfl, rfl, hd⟩
  ·go_wp2
   go_ret
   exact ⟨rfl, HBK3.out.b⟩
  ·go_wp2
   go_ret
   exact ⟨rfl, HBK3.out.b⟩
  ·have hd1 := eq_true hd
   have hd2 := decide_eq_true hd
   go_wp2
   go_ret
   exact ⟨rfl, HBK3.out.b⟩

end Go.Proofs.YtmbgjhkemlliaaaDoor.Tlv
end

/- Arguments opened: slices of bytes, elements (api.Node). -/
section
set_option linter.unusedVariables false
set_option linter.unusedSimpArgs false
namespace Go.Proofs.YtmbgjhkemlliaaaDoor.Tlv
open Go.ChangeShapes Go.WideShapes Go.Deep Go.RowKit Go.Proofs.YtmbgjhkemlliaaaDoorW.PrintWords Go.Proofs.YtmbgjhkemlliaaaDoorW.PrintLast Go.Proofs.YtmbgjhkemlliaaaDoorW.PrintMore Go.Proofs.YtmbgjhkemlliaaaDoor.PT

theorem listed {α : Type} {Q : Nat → α → Prop} : ∀ (n : Nat), (∀ i, i < n → ∃ x, Q i x) → ∃ l : List α, l.length = n ∧ ∀ i x, l[i]? = some x → Q i x
 | 0, _ => ⟨[], rfl, fun i x h => by simp at h⟩
 | n + 1, h => by
  obtain ⟨l, hl, hq⟩ := listed n (fun i hi => h i (by omega))
  obtain ⟨x, hx⟩ := h n (by omega)
  refine ⟨l ++ [x], by simp [hl], fun i y hy => ?_⟩
  by_cases hi : i < n
  ·rw [List.getElem?_append_left (by omega)] at hy
   exact hq i y hy
  ·rw [List.getElem?_append_right (by omega)] at hy
   have : i - l.length = 0 := by
    by_cases h0 : i - l.length = 0
    ·exact h0
    ·rw [List.getElem?_eq_none (by simp; omega)] at hy
     cases hy
   rw [this] at hy
   simp at hy
   subst hy
   rw [show i = n by omega]
   exact hx
section
variable {H : Type} {enc : TypeId × Value → H} {w : World} {base : Nat} {held : Bool}
set_option maxRecDepth 100000 in
theorem openB_f {fuel : Nat} {cs : List Value} {x : DataW H × List MemPlace} (h : DataW.trod enc Tryd.prog w base (fun _ => true) held fuel 22 cs = some x) :
 ∃ (A : Option Addr) (c : Nat) (l : List Int), cs = [.slice A l.length c] ∧ (Kd.int .u8).C w A l.length l ∧ l.length ≤ c ∧ ∀ v ∈ l, 0 ≤ v ∧ v < 256 := by
 have hz : ∃ (a : Option Addr) (len cap : Nat) (zs : List Int), cs = [.slice a len cap] ∧ ((a = none ∧ len = 0 ∧ cap = 0 ∧ zs = []) ∨ ∃ x, a = some x ∧ len ≤ cap ∧ cap ≤ maxLen ∧ zs.length = cap ∧ (∀ i, i < zs.length → w.cell? (x.add i) = some (.int .u8 (zs.getD i 0))) ∧ ∀ n ∈ zs, (Lit.int .u8 n).wf = true) := by
  rcases open_ints Tryd.underlying22 Tryd.underlying5 (by kernel_rfl) h with ⟨hcs, _⟩ | ⟨x, l, c, zs, hcs, _, hl, hm, hz, _, hcell, hwz⟩
  ·exact ⟨none, 0, 0, [], hcs, .inl ⟨rfl, rfl, rfl, rfl⟩⟩
  ·exact ⟨some x, l, c, zs, hcs, .inr ⟨_, rfl, hl, hm, by simpa using hz, hcell, hwz⟩⟩
 obtain ⟨a, len, cap, zs, rfl, w0⟩ := hz
 obtain ⟨l0, rfl, hr0, hm0, hw0, hc0⟩ := ReadsInt.ofRowC w0
 refine ⟨a, cap, l0, rfl, C_of_reads hr0 rfl, hc0, fun v hv => ?_⟩
 have := hw0 v hv
 simp [Lit.wf, IntKind.min, IntKind.max, IntKind.signed, IntKind.bits] at this
 omega
set_option maxRecDepth 100000 in
theorem openN_f : ∀ (fuel : Nat) (cs : List Value) (x : DataW H × List MemPlace), DataW.trod enc Tryd.prog w base (fun _ => true) held fuel 28 cs = some x →
 ∃ (n : T) (A1 : Option Addr) (c1 : Nat) (A2 : Option Addr) (c2 : Nat), cs = [.int .i64 n.f0, .slice A1 n.f1.length c1, .slice A2 n.f2.length c2] ∧ NodeAt w n A1 c1 A2 c2 ∧ byT n := by
 intro fuel
 induction fuel using Nat.strongRecOn with
 | _ fuel ih =>
 intro cs x h
 obtain ⟨xs, n, hn, _, hl, hlen, hf⟩ := DataW.trod_struct Tryd.underlying28 h
 have hl : cs.length = 3 := hl
 match cs, hl with
 | [v0, v1, v2], _ =>
 match xs, hlen with
 | [y0, y1, y2], _ =>
 have h0 := hf 0 _ rfl
 have h1 := hf 1 _ rfl
 have h2 := hf 2 _ rfl
 replace h0 : DataW.trod enc Tryd.prog w base (fun _ => true) held n 3 [v0] = some y0 := h0
 replace h1 : DataW.trod enc Tryd.prog w base (fun _ => true) held n 22 [v1] = some y1 := h1
 replace h2 : DataW.trod enc Tryd.prog w base (fun _ => true) held n 26 [v2] = some y2 := h2
 obtain ⟨m0, e0, _, b0⟩ := DataW.trod_int Tryd.underlying3 h0
 obtain ⟨A1, c1, l1, e1, k1, g1, hb1⟩ := openB_f h1
 injection e0 with e0
 injection e1 with e1
 subst e0 e1
 rcases DataW.trod_slice Tryd.underlying26 h2 with ⟨hcs, _⟩ | ⟨a, len, cap, elems, rest, n2, hn2, hcs, _, _, hle, hm, hel, hget, _, _⟩
 ·injection hcs with hcs
  subst hcs
  exact ⟨⟨m0, l1, []⟩, A1, c1, none, 0, rfl, ⟨k1, g1, C_nil _ _ _, Nat.le_refl _⟩, byT_mk hb1 trivial⟩
 ·injection hcs with hcs
  subst hcs
  obtain ⟨ls, hls, hq⟩ := listed (Q := fun i (s : T) => ∃ (cs' : List Value) (B1 : Option Addr) (d1 : Nat) (B2 : Option Addr) (d2 : Nat), w.cells? base (a.add (i * Tryd.prog.cellsOf 28)) (Tryd.prog.cellsOf 28) = some cs' ∧ cs' = [.int .i64 s.f0, .slice B1 s.f1.length d1, .slice B2 s.f2.length d2] ∧ NodeAt w s B1 d1 B2 d2 ∧ byT s) len (fun i hil => by
   have hi := hget i hil
   rw [List.getElem?_eq_getElem (by omega)] at hi
   obtain ⟨cs', g1, g2⟩ := Option.bind_eq_some_iff.1 hi
   obtain ⟨s, B1, d1, B2, d2, e, hn, hb⟩ := ih n2 (by omega) cs' _ g2
   exact ⟨s, cs', B1, d1, B2, d2, g1, e, hn, hb⟩)
  subst hls
  refine ⟨⟨m0, l1, ls⟩, A1, c1, some a, cap, rfl, ⟨k1, g1, ⟨rfl, (by have h9 : maxLen ≤ 9223372036854775807 := (by decide); show ls.length ≤ 9223372036854775807; omega), fun _ => ⟨a, rfl, fun j s hj => ?_⟩⟩, hle⟩, byT_mk hb1 (byL_of fun s hs => ?_)⟩
  ·obtain ⟨cs', B1, d1, B2, d2, q1, q2, q3, q4⟩ := hq j s hj
   subst q2
   obtain ⟨_, _, hat⟩ := World.cells?_some q1
   have hC : Tryd.prog.cellsOf 28 = 3 := by kernel_rfl
   refine ⟨[.int .i64 s.f0, .slice B1 s.f1.length d1, .slice B2 s.f2.length d2], rfl, NodeAt.K q3, fun i u hu => ?_⟩
   have hi : i < 3 := by
    by_cases h : i < 3
    ·exact h
    ·rw [List.getElem?_eq_none (by simp; omega)] at hu; cases hu
   have := hat i (by rw [hC]; exact hi)
   rw [hC] at this
   rw [Go.Deep.add_add] at this
   exact this.trans hu
  ·obtain ⟨j, hj⟩ := List.mem_iff_getElem?.1 hs
   obtain ⟨_, _, _, _, _, _, _, _, b⟩ := hq j s hj
   exact b
set_option maxRecDepth 100000 in
/-- An element that came in. -/
theorem openN {r : Reach} {b0 : Nat} {v : Value} {d : DataW H} {p : List MemPlace} (hv : Value.okWide Tryd.prog w r b0 28 v) (h : DataW.Trod enc Tryd.prog w base (fun _ => true) held 28 v d p) :
 ∃ (n : T) (A1 : Option Addr) (c1 : Nat) (A2 : Option Addr) (c2 : Nat), v = .agg #[.int .i64 n.f0, .slice A1 n.f1.length c1, .slice A2 n.f2.length c2] ∧ NodeAt w n A1 c1 A2 c2 ∧ byT n := by
 obtain ⟨cs, rfl, hsz⟩ := okWide_struct Tryd.underlying28 hv
 obtain ⟨fuel, hf⟩ := h
 obtain ⟨n, A1, c1, A2, c2, e, hn, hb⟩ := openN_f fuel _ _ hf
 refine ⟨n, A1, c1, A2, c2, ?_, hn, hb⟩
 obtain ⟨l⟩ := cs
 have e : l = [.int .i64 n.f0, .slice A1 n.f1.length c1, .slice A2 n.f2.length c2] := e
 rw [e]
set_option maxRecDepth 100000 in
/-- Bytes that came in. -/
theorem openB {r : Reach} {b0 : Nat} {v : Value} {d : DataW H} {p : List MemPlace} (hv : Value.okWide Tryd.prog w r b0 22 v) (h : DataW.Trod enc Tryd.prog w base (fun _ => true) held 22 v d p) :
 ∃ (A : Option Addr) (c : Nat) (l : List Int), v = .slice A l.length c ∧ (Kd.int .u8).C w A l.length l ∧ l.length ≤ c ∧ ∀ v ∈ l, 0 ≤ v ∧ v < 256 := by
 obtain ⟨a, len, cap, rfl⟩ := okWide_slice Tryd.underlying22 hv
 obtain ⟨fuel, hf⟩ := h
 obtain ⟨A, c, l, e, hk, hc, hb⟩ := openB_f hf
 simp [Value.cells] at e
 obtain ⟨rfl, rfl, rfl⟩ := e
 exact ⟨_, _, l, rfl, hk, hc, hb⟩
end

end Go.Proofs.YtmbgjhkemlliaaaDoor.Tlv
end

/- Arguments opened: keys (api.Key). -/
section
set_option linter.unusedVariables false
set_option linter.unusedSimpArgs false
namespace Go.Proofs.YtmbgjhkemlliaaaDoor.Tlv
open Go.ChangeShapes Go.WideShapes Go.Deep Go.RowKit Go.Proofs.YtmbgjhkemlliaaaDoorW.PrintWords Go.Proofs.YtmbgjhkemlliaaaDoorW.PrintLast Go.Proofs.YtmbgjhkemlliaaaDoorW.PrintMore Go.Proofs.YtmbgjhkemlliaaaDoor.PT

section
variable {H : Type} {enc : TypeId × Value → H} {w : World} {base : Nat} {held : Bool}
set_option maxRecDepth 100000 in
/-- A key that came in. -/
theorem openK {r : Reach} {b0 : Nat} {v : Value} {d : DataW H} {p : List MemPlace} (hv : Value.okWide Tryd.prog w r b0 25 v) (h : DataW.Trod enc Tryd.prog w base (fun _ => true) held 25 v d p) :
 ∃ (A : Option Addr) (c : Nat) (l : List Int) (E : Int), v = .agg #[.slice A l.length c, .int .u32 E] ∧ (Kd.int .u8).C w A l.length l ∧ l.length ≤ c ∧ (∀ v ∈ l, 0 ≤ v ∧ v < 256) ∧ 0 ≤ E ∧ E < 4294967296 := by
 obtain ⟨cs, rfl, hsz⟩ := okWide_struct Tryd.underlying25 hv
 obtain ⟨fuel, hf⟩ := h
 obtain ⟨cs⟩ := cs
 obtain ⟨xs, n, hn, _, hl, hlen, hf⟩ := DataW.trod_struct Tryd.underlying25 hf
 have hl : cs.length = 2 := hl
 match cs, hl with
 | [v0, v1], _ =>
 match xs, hlen with
 | [y0, y1], _ =>
 have h0 := hf 0 _ rfl
 have h1 := hf 1 _ rfl
 replace h0 : DataW.trod enc Tryd.prog w base (fun _ => true) held n 22 [v0] = some y0 := h0
 replace h1 : DataW.trod enc Tryd.prog w base (fun _ => true) held n 23 [v1] = some y1 := h1
 obtain ⟨m0, e0, _, b0⟩ := DataW.trod_int Tryd.underlying23 h1
 obtain ⟨A1, c1, l1, e1, k1, g1, hb1⟩ := openB_f h0
 injection e0 with e0
 injection e1 with e1
 subst e0 e1
 refine ⟨A1, c1, l1, m0, rfl, k1, g1, hb1, ?_⟩
 simp [Lit.wf, IntKind.min, IntKind.max, IntKind.signed, IntKind.bits] at b0
 omega
end

end Go.Proofs.YtmbgjhkemlliaaaDoor.Tlv
end
