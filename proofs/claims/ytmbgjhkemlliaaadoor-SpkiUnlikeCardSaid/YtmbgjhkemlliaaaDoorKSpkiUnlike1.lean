/- Merged by a program of this session (wip/tools/pack.py). -/
import Derived.Test.YtmbgjhkemlliaaaDoorProg
import Derived.Below
import Derived.Deep.Draws
import Derived.Deep.AppendLies
import Derived.Maps.AppendAt
import Derived.OwnWalk
import Derived.Laws.BytesArg
import Derived.Laws.MakeOwn
import Derived.Laws.OwnMore
import Derived.Deep.OwnRows
import Derived.Tactics
import Derived.Lib.ConvBytes
import Derived.Laws.Slices
import Derived.WalkKit
import Derived.KernelRfl
import Derived.RowKit3
import Derived.Deep.LoopGhost
import Derived.Deep.QuietTactic
import Derived.BigQuiet
import Derived.WideLaws
import Derived.Deep.DeepCutAuto
import Derived.Deep.CutBlock
import Derived.Deep.RegionHeld3
import Derived.Laws.Rows
import Derived.Lib.AppendStr
import Derived.ArgAppend
import Derived.Laws.IdiomCopy
import Derived.OrdersHeld
import Derived.Laws.BitsLemmas
import Derived.RowKit
import Derived.Test.YtmbgjhkemlliaaaDoorVSpkiUnlike
import Derived.Lib.Hide
import Derived.WalkSmall
import Derived.LoopTactic
import Derived.Deep.DeepMust
import Derived.ChangeAlike
import Derived.RegionTactic
import Derived.WalkMore
import Derived.Defers
import Derived.Recover
import Derived.Laws.Pointers
section
namespace Go.Proofs.YtmbgjhkemlliaaaDoor.PT
open Go.RowKit Go.Proofs.YtmbgjhkemlliaaaDoorW.PrintWords Go.Proofs.YtmbgjhkemlliaaaDoorW.PrintLast Go.Proofs.YtmbgjhkemlliaaaDoorW.PrintMore
attribute [local go_sem] max2_int min2_int max_two min_two max_three min_three max_four min_four   -- for this text's walks alone
set_option linter.unusedVariables false
set_option linter.unusedSimpArgs false



def errW : Option Int → Value
 | none => .nilIface
 | some c => .iface 0 (.int .i64 c)
theorem errW_none : errW none = .nilIface := rfl
theorem errW_some (c : Int) : errW (some c) = .iface 0 (.int .i64 c) := rfl

theorem info5 : (Tryd.prog.info? 5).map (fun i => (i.zero, i.size, i.bytes)) = some (some (.int .u8 0), 1, 1) := by kernel_rfl
theorem info23 : (Tryd.prog.info? 23).map (fun i => (i.zero, i.size, i.bytes)) = some (some (.int .u32 0), 1, 4) := by kernel_rfl
structure S28 where
 f0 : Int
 f1 : (List Int)
 f2 : (List S28)
def z28 : S28 := ⟨(0 : Int), ([] : List Int), ([] : List S28)⟩
def F28 (d : Kd S28) : Kd S28 := Kd.iso (Kd.pair (Kd.int .i64) (Kd.pair (Kd.slice 5 (Kd.int .u8)) (Kd.slice 28 d))) (fun x : S28 => (x.f0, x.f1, x.f2))
theorem mono28 : Kd.Mono F28 := Kd.mono_iso _ (Kd.mono_pair (Kd.mono_const _) (Kd.mono_pair (Kd.mono_const _) (Kd.mono_slice 28 Kd.mono_id)))
theorem sub28 : Kd.Sub F28 [5, 28] := Kd.sub_iso _ (Kd.sub_pair (Kd.sub_const _ (by decide)) (Kd.sub_pair (Kd.sub_const _ (by decide)) (Kd.sub_slice 28 (by decide) Kd.sub_id)))
theorem sz28 : ∀ n, (Kd.upto F28 3 [5, 28] n).sz = 3 := Kd.upto_sz (fun _ => rfl)
def k28 : Kd S28 := Kd.fix F28 3 [5, 28] sz28 (Kd.upto_E sub28)
theorem k28_open {w : World} {x : S28} {cs : List Value} (h : k28.K w x cs) : ∃ A1 c1 A2 c2, cs = [.int .i64 x.f0, .slice A1 x.f1.length c1, .slice A2 x.f2.length c2] ∧ x.f1.length ≤ c1 ∧ (Kd.int .u8).C w A1 x.f1.length x.f1 ∧ x.f2.length ≤ c2 ∧ k28.C w A2 x.f2.length x.f2 := by
 obtain ⟨n, h⟩ := h
 cases n with
 | zero => exact h.elim
 | succ n =>
  obtain ⟨_, _, rfl, rfl, ⟨_, _, rfl, ⟨A1, c1, rfl, l1, g1⟩, ⟨A2, c2, rfl, l2, g2⟩⟩⟩ := h
  exact ⟨A1, c1, A2, c2, rfl, l1, g1, l2, Kd.fix_C g2⟩
theorem k28_mk (w : World) (x : S28) {A1 : Option Addr} {c1 : Nat} (l1 : x.f1.length ≤ c1) (g1 : (Kd.int .u8).C w A1 x.f1.length x.f1) {A2 : Option Addr} {c2 : Nat} (l2 : x.f2.length ≤ c2) (g2 : k28.C w A2 x.f2.length x.f2) : k28.K w x [.int .i64 x.f0, .slice A1 x.f1.length c1, .slice A2 x.f2.length c2] := by
 obtain ⟨n2, q2⟩ := Kd.fix_C_back mono28 g2
 have r2 := Kd.upto_C_le mono28 sz28 (show n2 ≤ n2 by omega) q2
 exact ⟨n2 + 1, ⟨[.int .i64 x.f0], [.slice A1 x.f1.length c1, .slice A2 x.f2.length c2], rfl, rfl, ⟨[.slice A1 x.f1.length c1], [.slice A2 x.f2.length c2], rfl, ⟨A1, c1, rfl, l1, g1⟩, ⟨A2, c2, rfl, l2, r2⟩⟩⟩⟩
theorem k28_mkM (w : World) (base : Nat) (ok : Nat → Prop) (x : S28) {v1 : Value} (g1 : (Kd.int .u8).R 5 w base ok v1 x.f1) {v2 : Value} (g2 : k28.R 28 w base ok v2 x.f2) : k28.M w base ok x [.int .i64 x.f0, v1, v2] := by
 obtain ⟨n2, q2⟩ := Kd.fix_R_back mono28 g2
 have r2 := Kd.upto_R_le mono28 sz28 (show n2 ≤ n2 by omega) q2
 exact ⟨n2 + 1, ⟨[.int .i64 x.f0], [v1, v2], rfl, rfl, ⟨[v1], [v2], rfl, ⟨v1, rfl, g1⟩, ⟨v2, rfl, r2⟩⟩⟩⟩
def rd_T28 (xs : List S28) (i : Int) : S28 := xs.getD i.toNat z28
theorem at_T28 {w : World} {A : Option Addr} {n : Nat} {xs : List S28} (h : Kd.C k28 w A n xs) (i : Int) (h0 : 0 ≤ i) (h1 : i < n) : ∃ ad A1 c1 A2 c2, A = some ad ∧ w.cell? (ad.add (i.toNat * 3)) = some (.int .i64 (rd_T28 xs i).f0) ∧ w.cell? ⟨(ad.add (i.toNat * 3)).block, (ad.add (i.toNat * 3)).off + 1, none⟩ = some (.slice A1 (rd_T28 xs i).f1.length c1) ∧ w.cell? ⟨(ad.add (i.toNat * 3)).block, (ad.add (i.toNat * 3)).off + 2, none⟩ = some (.slice A2 (rd_T28 xs i).f2.length c2) ∧ (rd_T28 xs i).f1.length ≤ c1 ∧ (Kd.int .u8).C w A1 (rd_T28 xs i).f1.length (rd_T28 xs i).f1 ∧ (rd_T28 xs i).f2.length ≤ c2 ∧ k28.C w A2 (rd_T28 xs i).f2.length (rd_T28 xs i).f2 := by
 obtain ⟨ad, c, e, _, hK, hc0⟩ := Kd.C_get h z28 i h0 h1
 have hc : ∀ j u, c[j]? = some u → w.cell? (ad.add (i.toNat * 3 + j)) = some u := hc0
 obtain ⟨A1, c1, A2, c2, rfl, l1, g1, l2, g2⟩ := k28_open hK
 exact ⟨ad, A1, c1, A2, c2, e, hc 0 _ rfl, by rw [← add_field _ _ 1 (by omega)]; exact hc 1 _ rfl, by rw [← add_field _ _ 2 (by omega)]; exact hc 2 _ rfl, l1, g1, l2, g2⟩

end Go.Proofs.YtmbgjhkemlliaaaDoor.PT
end

section
set_option linter.unusedVariables false
namespace Go.Proofs.YtmbgjhkemlliaaaDoor.Tlv
open Go.Proofs.YtmbgjhkemlliaaaDoor.PT

abbrev T := S28
theorem infoNode : (Tryd.prog.info? 28).map (fun i => (i.zero, i.size, i.bytes)) = some (some (.agg #[(.int .i64 0), (.slice none 0 0), (.slice none 0 0)]), 3, 56) := by kernel_rfl
def holdsB (tag : Int) : Bool := decide (0 ≤ tag) && decide (tag / 32 % 2 = 1)
def isTagB (n : Int) : Bool := decide (0 ≤ n) && decide (n ≤ 255) && decide (n % 32 ≠ 31)
def head (tag n : Int) : List Int := if n < 128 then [tag % 256, n % 256] else if n < 256 then [tag % 256, 129, n % 256] else [tag % 256, 130, n / 256 % 256, n % 256]
def headLen (n : Int) : Int := if n < 128 then 2 else if n < 256 then 3 else 4
mutual
def sizeT : T → Int
 | ⟨tag, body, kids⟩ => if holdsB tag = true then sizeL kids + headLen (sizeL kids) else (body.length : Int) + headLen body.length
def sizeL : List T → Int
 | [] => 0
 | t :: l => sizeT t + sizeL l
end
mutual
def manyT : T → Int
 | ⟨tag, body, kids⟩ => if holdsB tag = true then manyL kids + 1 else 1
def manyL : List T → Int
 | [] => 0
 | t :: l => manyT t + manyL l
end
mutual
def deepT : T → Int
 | ⟨tag, body, kids⟩ => if holdsB tag = true then deepL kids + 1 else 1
def deepL : List T → Int
 | [] => 0
 | t :: l => max (deepT t) (deepL l)
end
mutual
def rightT : T → Bool
 | ⟨tag, body, kids⟩ => isTagB tag && (if holdsB tag = true then decide (body = []) else decide (kids = [])) && rightL kids
def rightL : List T → Bool
 | [] => true
 | t :: l => rightT t && rightL l
end
mutual
def encT : T → List Int
 | ⟨tag, body, kids⟩ => if holdsB tag = true then head tag (sizeL kids) ++ encL kids else head tag body.length ++ body
def encL : List T → List Int
 | [] => []
 | t :: l => encT t ++ encL l
end

inductive Res (α : Type) where
 | err (e : Int)
 | ok (a : α)
def lenP (short : Int) : List Int → Res (Int × List Int)
 | [] => .err short
 | x :: r => if x = 129 then (match r with
  | [] => .err short
  | y :: r => if 128 ≤ y then .ok (y, r) else .err 2)
  else if x = 130 then (match r with
   | y :: z :: r => if 256 ≤ y * 256 + z then .ok (y * 256 + z, r) else .err 2
   | _ => .err short)
  else if x < 128 then .ok (x, r) else .err 2
mutual
def elemP : Nat → Int → Int → List Int → Res (T × List Int)
 | 0, _, _, _ => .err 0
 | _ + 1, _, short, [] => .err short
 | n + 1, deep, short, tag :: r => if isTagB tag = true then (match lenP short r with
  | .err e => .err e
  | .ok (m, r2) => if (r2.length : Int) < m then .err short else if 32 ≤ deep then .err 4 else
   if holdsB tag = true then (match kidsP n (deep + 1) (r2.take m.toNat) with
    | .err e => .err e
    | .ok l => .ok (⟨tag, [], l⟩, r2.drop m.toNat))
   else .ok (⟨tag, r2.take m.toNat, []⟩, r2.drop m.toNat))
  else .err 2
def kidsP : Nat → Int → List Int → Res (List T)
 | 0, _, _ => .err 0
 | _ + 1, _, [] => .ok []
 | n + 1, deep, x :: b => match elemP n deep 2 (x :: b) with
  | .err e => .err e
  | .ok (t, r) => match kidsP n deep r with
   | .err e => .err e
   | .ok l => .ok (t :: l)
end

theorem lenP_ok {short : Int} {b r : List Int} {m : Int} (hb : ∀ x ∈ b, 0 ≤ x ∧ x < 256) (h : lenP short b = .ok (m, r)) (tag : Int) (ht : 0 ≤ tag ∧ tag < 256) :
 0 ≤ m ∧ m < 65536 ∧ tag :: b = head tag m ++ r := by
 cases b with
 | nil => simp [lenP] at h
 | cons x b =>
  have hx := hb x List.mem_cons_self
  unfold lenP at h
  dsimp only at h
  by_cases h1 : x = 129
  ·rw [if_pos h1] at h
   cases b with
   | nil => simp at h
   | cons y b =>
    have hy := hb y (by simp)
    simp only at h
    by_cases h2 : 128 ≤ y
    ·rw [if_pos h2] at h
     injection h with h
     injection h with h3 h4
     subst h3 h4
     refine ⟨by omega, by omega, ?_⟩
     unfold head
     rw [if_neg (by omega), if_pos (by omega), Int.emod_eq_of_lt ht.1 ht.2, Int.emod_eq_of_lt hy.1 hy.2, h1]
     rfl
    ·rw [if_neg h2] at h; cases h
  ·rw [if_neg h1] at h
   by_cases h2 : x = 130
   ·rw [if_pos h2] at h
    cases b with
    | nil => simp at h
    | cons y b =>
     cases b with
     | nil => simp at h
     | cons z b =>
      have hy := hb y (by simp)
      have hz := hb z (by simp)
      simp only at h
      by_cases h3 : 256 ≤ y * 256 + z
      ·rw [if_pos h3] at h
       injection h with h
       injection h with h4 h5
       subst h4 h5
       refine ⟨by omega, by omega, ?_⟩
       unfold head
       have e1 : (y * 256 + z) / 256 % 256 = y := by omega
       have e2 : (y * 256 + z) % 256 = z := by omega
       rw [if_neg (by omega), if_neg (by omega), Int.emod_eq_of_lt ht.1 ht.2, e1, e2, h2]
       rfl
      ·rw [if_neg h3] at h; cases h
   ·rw [if_neg h2] at h
    by_cases h3 : x < 128
    ·rw [if_pos h3] at h
     injection h with h
     injection h with h4 h5
     subst h4 h5
     refine ⟨by omega, by omega, ?_⟩
     unfold head
     rw [if_pos h3, Int.emod_eq_of_lt ht.1 ht.2, Int.emod_eq_of_lt hx.1 hx.2]
     rfl
    ·rw [if_neg h3] at h; cases h
theorem head_length (tag n : Int) : ((head tag n).length : Int) = headLen n := by
 unfold head headLen
 split
 ·rfl
 ·split <;> rfl
theorem isTag_range {n : Int} (h : isTagB n = true) : 0 ≤ n ∧ n < 256 := by
 unfold isTagB at h
 simp at h
 omega

mutual
/-- What is read, laid again, is what was there. -/
theorem elemP_ok : ∀ (n : Nat) (deep short : Int) (b : List Int) (t : T) (r : List Int), (∀ x ∈ b, 0 ≤ x ∧ x < 256) → elemP n deep short b = .ok (t, r) →
 b = encT t ++ r ∧ rightT t = true ∧ sizeT t = ((encT t).length : Int) ∧ deepT t ≤ 32 - deep
 | 0, _, _, _, _, _, _, h => by simp [elemP] at h
 | _ + 1, _, _, [], _, _, _, h => by simp [elemP] at h
 | n + 1, deep, short, tag :: b, t, r, hb, h => by
  unfold elemP at h
  by_cases h1 : isTagB tag = true
  ·rw [if_pos h1] at h
   have ht := isTag_range h1
   cases hl : lenP short b with
   | err e => rw [hl] at h; cases h
   | ok p =>
    obtain ⟨m, r2⟩ := p
    rw [hl] at h
    obtain ⟨m0, m1, hm⟩ := lenP_ok (fun x hx => hb x (List.mem_cons_of_mem _ hx)) hl tag ht
    simp only at h
    by_cases h2 : (r2.length : Int) < m
    ·rw [if_pos h2] at h; cases h
    ·rw [if_neg h2] at h
     by_cases h3 : 32 ≤ deep
     ·rw [if_pos h3] at h; cases h
     ·rw [if_neg h3] at h
      have hr2 : ∀ x ∈ r2, 0 ≤ x ∧ x < 256 := fun x hx => hb x (by rw [hm]; exact List.mem_append_right _ hx)
      have hln : ((r2.take m.toNat).length : Int) = m := by simp; omega
      by_cases h4 : holdsB tag = true
      ·rw [if_pos h4] at h
       cases hk : kidsP n (deep + 1) (r2.take m.toNat) with
       | err e => rw [hk] at h; cases h
       | ok l =>
        rw [hk] at h
        injection h with h
        injection h with h5 h6
        subst h5 h6
        obtain ⟨k1, k2, k3, k4⟩ := kidsP_ok n (deep + 1) (r2.take m.toNat) l (fun x hx => hr2 x (List.mem_of_mem_take hx)) hk
        have hsz : sizeL l = m := by rw [k3, ← k1, hln]
        refine ⟨?_, ?_, ?_, ?_⟩
        ·rw [encT, if_pos h4, hsz, ← k1, List.append_assoc, List.take_append_drop, hm]
        ·rw [rightT, h1, if_pos h4, k2]; rfl
        ·rw [sizeT, if_pos h4, encT, if_pos h4, List.length_append, Int.natCast_add, head_length, ← k3, Int.add_comm]
        ·rw [deepT, if_pos h4]; omega
      ·rw [if_neg h4] at h
       injection h with h
       injection h with h5 h6
       subst h5 h6
       refine ⟨?_, ?_, ?_, ?_⟩
       ·rw [encT, if_neg h4, hln, List.append_assoc, List.take_append_drop, hm]
       ·rw [rightT, h1, if_neg h4]; rfl
       ·rw [sizeT, if_neg h4, encT, if_neg h4, List.length_append, Int.natCast_add, head_length, Int.add_comm]
       ·rw [deepT, if_neg h4]; omega
  ·rw [if_neg h1] at h; cases h
theorem kidsP_ok : ∀ (n : Nat) (deep : Int) (b : List Int) (l : List T), (∀ x ∈ b, 0 ≤ x ∧ x < 256) → kidsP n deep b = .ok l →
 b = encL l ∧ rightL l = true ∧ sizeL l = ((encL l).length : Int) ∧ deepL l ≤ max 0 (32 - deep)
 | 0, _, _, _, _, h => by simp [kidsP] at h
 | _ + 1, deep, [], l, _, h => by
  simp [kidsP] at h
  subst h
  refine ⟨rfl, rfl, rfl, ?_⟩
  show (0 : Int) ≤ _
  omega
 | n + 1, deep, x :: b, l, hb, h => by
  unfold kidsP at h
  cases he : elemP n deep 2 (x :: b) with
  | err e => rw [he] at h; cases h
  | ok p =>
   obtain ⟨t, r⟩ := p
   rw [he] at h
   simp only at h
   obtain ⟨e1, e2, e3, e4⟩ := elemP_ok n deep 2 (x :: b) t r hb he
   have hr : ∀ y ∈ r, 0 ≤ y ∧ y < 256 := fun y hy => hb y (by rw [e1]; exact List.mem_append_right _ hy)
   cases hk : kidsP n deep r with
   | err e => rw [hk] at h; cases h
   | ok l2 =>
    rw [hk] at h
    injection h with h
    subst h
    obtain ⟨k1, k2, k3, k4⟩ := kidsP_ok n deep r l2 hr hk
    refine ⟨?_, ?_, ?_, ?_⟩
    ·rw [encL, ← k1, e1]
    ·rw [rightL, e2, k2]; rfl
    ·rw [sizeL, encL, List.length_append, Int.natCast_add, e3, k3]
    ·rw [deepL]; omega
end

end Go.Proofs.YtmbgjhkemlliaaaDoor.Tlv
end

section
set_option linter.unusedVariables false
namespace Go.Proofs.YtmbgjhkemlliaaaDoor.Tlv
open Go.RowKit Go.Proofs.YtmbgjhkemlliaaaDoorW.PrintWords Go.Proofs.YtmbgjhkemlliaaaDoorW.PrintLast Go.Proofs.YtmbgjhkemlliaaaDoorW.PrintMore Go.Proofs.YtmbgjhkemlliaaaDoor.PT

/-- What a panic with an error's number leaves. -/
def gone (e : Int) : Ending := .panicked [{ v := .iface 32 (.int .i64 e), recovered := false }]

theorem must_yes (e : Int) (w : World) : Calls Tryd.prog 41 #[.bool true, .int .i64 e] w fun e w' => e = .returned (.tuple #[]) ∧ w' = w := by
 have hnot : ∀ (x : Bool) (w : World), (Op.unary .not (.bool x)).run Tryd.prog w = .ok (.bool (!x)) w := fun _ _ => rfl
 go_enter Tryd.func41, Tryd.ntmps41
 go_wp2
 go_end0
 exact ⟨rfl, rfl⟩
theorem must_no (e : Int) (w : World) : Calls Tryd.prog 41 #[.bool false, .int .i64 e] w fun e' w' => e' = gone e ∧ w' = w := by
 have hnot : ∀ (x : Bool) (w : World), (Op.unary .not (.bool x)).run Tryd.prog w = .ok (.bool (!x)) w := fun _ _ => rfl
 go_enter Tryd.func41, Tryd.ntmps41
 go_wp2
 exact ⟨rfl, rfl, rfl⟩


/-- A reader: its bytes, and what it gives up for. -/
def RdAt (w : World) (g : Nat) (A : Option Addr) (n c : Nat) (sh : Int) : Prop := w.heap[g]? = some (.cells #[.slice A n c, .int .i64 sh] 71 (0, 0))
theorem RdAt.c0 {w : World} {g : Nat} {A : Option Addr} {n c : Nat} {sh : Int} (h : RdAt w g A n c sh) : w.cell? ⟨g, 0, none⟩ = some (.slice A n c) := by rw [Lib.cell_of_heap h]; rfl
theorem RdAt.c1 {w : World} {g : Nat} {A : Option Addr} {n c : Nat} {sh : Int} (h : RdAt w g A n c sh) : w.cell? ⟨g, 1, none⟩ = some (.int .i64 sh) := by rw [Lib.cell_of_heap h]; rfl
theorem RdAt.f0 {w : World} {g : Nat} {A : Option Addr} {n c : Nat} {sh : Int} (h : RdAt w g A n c sh) (j : Nat) : w.frozen? ⟨g, j, none⟩ = false := Lib.frozen_of_heap h j
theorem RdAt.set {w : World} {g : Nat} {A A2 : Option Addr} {n c n2 c2 : Nat} {sh : Int} (h : RdAt w g A n c sh) : RdAt (w.setCell ⟨g, 0, none⟩ (.slice A2 n2 c2)) g A2 n2 c2 sh := heap_setCell_same w g 0 _ _ _ h
theorem infoByte : (Tryd.prog.info? 5).map (fun i => (i.zero, i.size, i.bytes)) = some (some (.int .u8 0), 1, 1) := by kernel_rfl

set_option maxHeartbeats 1000000 in
set_option maxRecDepth 100000 in
theorem take_yes (g : Nat) (A : Option Addr) (c : Nat) (b : List Int) (sh : Int) (n : Nat) (w : World) (hg : RdAt w g A b.length c sh) (hc : b.length ≤ c) (hn : n ≤ b.length) (hb : b.length ≤ 1000000000) :
 Calls Tryd.prog 56 #[.pointer (some ⟨g, 0, none⟩), .int .i64 n] w fun e w' => ∃ A2 : Option Addr, e = .returned (.slice A n c) ∧ w' = w.setCell ⟨g, 0, none⟩ (.slice A2 (b.drop n).length (c - n)) ∧ (b.drop n).length ≤ c - n ∧ ∀ W : World, ReadsInt W .u8 A b.length b → ReadsInt W .u8 A2 (b.drop n).length (b.drop n) := by
 obtain ⟨i0, hi, hz0, hz1, hz2⟩ := info_parts infoByte
 obtain ⟨A2, hcut, hcr, hcc⟩ := print_cut_int (P := Tryd.prog) (k := .u8) 22 5 Tryd.underlying22 hi hz1 A c b (n : Int) (by omega) (by omega) hc
 simp only [Int.toNat_natCast] at hcut hcr hcc
 have c0 := hg.c0
 have c1 := hg.c1
 have f0 := hg.f0 0
 have hd : decide ((b.length : Int) < (n : Int)) = false := decide_eq_false (by omega)
 have HCR := Lib.hid hcr
 have HCC := Lib.hid hcc
 clear hcr hcc hi hz0 hz1 hz2
 go_enter Tryd.func56, Tryd.ntmps56
 go_wp2
 go_ret
 exact ⟨A2, rfl, by rw [List.length_drop], HCC.out, HCR.out⟩

set_option maxHeartbeats 1000000 in
set_option maxRecDepth 100000 in
theorem take_no (g : Nat) (A : Option Addr) (c : Nat) (b : List Int) (sh : Int) (n : Int) (w : World) (hg : RdAt w g A b.length c sh) (hn : (b.length : Int) < n) :
 Calls Tryd.prog 56 #[.pointer (some ⟨g, 0, none⟩), .int .i64 n] w fun e w' => e = gone sh ∧ w' = w := by
 have c0 := hg.c0
 have c1 := hg.c1
 have f0 := hg.f0 0
 have hd : decide ((b.length : Int) < n) = true := decide_eq_true (by omega)
 clear hn
 go_enter Tryd.func56, Tryd.ntmps56
 go_wp2
 exact ⟨rfl, rfl, rfl⟩

end Go.Proofs.YtmbgjhkemlliaaaDoor.Tlv
end

section
set_option linter.unusedVariables false
namespace Go.Proofs.YtmbgjhkemlliaaaDoor.Tlv
open Go.RowKit Go.Proofs.YtmbgjhkemlliaaaDoorW.PrintWords Go.Proofs.YtmbgjhkemlliaaaDoorW.PrintLast Go.Proofs.YtmbgjhkemlliaaaDoorW.PrintMore Go.Proofs.YtmbgjhkemlliaaaDoor.PT

theorem cellAt {w0 w : World} {A : Option Addr} {b : List Int} (h : ReadsInt w0 .u8 A b.length b) (hB : Below w0.heap.size w0 w) (i : Nat) (hi : i < b.length) : ∃ ad, A = some ad ∧ w.cell? (ad.add i) = some (.int .u8 (b.getD i 0)) := by
 obtain ⟨ad, e1, e2⟩ := h.2.2 (by omega)
 have h3 := e2 i hi
 exact ⟨ad, e1, (hB.cell (World.block_lt_of_cell? w0 _ h3)).trans h3⟩
theorem add_zero' (ad : Addr) : ad.add 0 = ad := by
 obtain ⟨bl, off, sp⟩ := ad
 unfold Addr.add
 cases sp <;> simp
theorem add_field' (ad : Addr) (j : Nat) (h : 0 < j) : (⟨ad.block, ad.off + j, none⟩ : Addr) = ad.add j := by
 obtain ⟨bl, off, sp⟩ := ad
 unfold Addr.add
 rw [if_neg (by omega)]
theorem cellAt0 {w0 w : World} {A : Option Addr} {x : Int} {b : List Int} (h : ReadsInt w0 .u8 A (x :: b).length (x :: b)) (hB : Below w0.heap.size w0 w) : ∃ ad, A = some ad ∧ w.cell? ad = some (.int .u8 x) := by
 obtain ⟨ad, e, q⟩ := cellAt h hB 0 (by simp)
 rw [add_zero'] at q
 exact ⟨ad, e, q⟩
theorem below_put {w0 w : World} {g : Nat} (hB : Below w0.heap.size w0 w) (hg : w0.heap.size ≤ g) (v : Value) : Below w0.heap.size w0 (w.setCell ⟨g, 0, none⟩ v) := Below.setCell hB (p := ⟨g, 0, none⟩) hg _
theorem grown_trans {a b c : World} {r : Option Nat} (h1 : a.grownBy b r) (h2 : b.grownBy c r) : a.grownBy c r :=
 ⟨h2.os.trans h1.os, h2.tape.trans h1.tape, h2.output.trans h1.output, Nat.le_trans h1.size h2.size, fun k hk hne => (h2.block k (Nat.lt_of_lt_of_le hk h1.size) hne).trans (h1.block k hk hne)⟩
theorem grown_put {w W : World} {g : Nat} (h : w.grownBy W (some g)) (v : Value) : w.grownBy (W.setCell ⟨g, 0, none⟩ v) (some g) :=
 grown_trans h ⟨rfl, rfl, rfl, by simp, fun k _ hne => heap_setCell_other W _ k v (fun e => hne (by rw [e]))⟩
theorem grown_refl (w : World) (g : Option Nat) : w.grownBy w g := ⟨rfl, rfl, rfl, Nat.le_refl _, fun _ _ _ => rfl⟩

/-- Where a reader stands behind some step: at r. -/
structure At (w0 w w' : World) (g : Nat) (sh : Int) (r : List Int) : Prop where
 ex : ∃ (A2 : Option Addr) (c2 : Nat), RdAt w' g A2 r.length c2 sh ∧ r.length ≤ c2 ∧ ReadsInt w0 .u8 A2 r.length r
 below : Below w0.heap.size w0 w'
 grown : w.grownBy w' (some g)
theorem grown_drew {w W : World} {r : Option Nat} (h : w.grownBy W r) : w.grownBy W.drew r := ⟨h.os, h.tape, h.output, h.size, h.block⟩
theorem At.drew {w0 w w' : World} {g : Nat} {sh : Int} {r : List Int} (h : At w0 w w' g sh r) : At w0 w w'.drew g sh r := ⟨h.ex, h.below.drew, grown_drew h.grown⟩
/-- What is left behind a panic: what was there, but for the reader. -/
def Lost (w0 w w' : World) (g : Nat) : Prop := Below w0.heap.size w0 w' ∧ w.grownBy w' (some g)
def LenPost (w0 w : World) (g : Nat) (sh : Int) (b : List Int) (e : Ending) (w' : World) : Prop :=
 match lenP sh b with
 | .err x => e = gone x ∧ Lost w0 w w' g
 | .ok (m, r) => e = .returned (.int .i64 m) ∧ At w0 w w' g sh r

theorem take_go (w0 : World) (g : Nat) (A : Option Addr) (c : Nat) (b : List Int) (sh : Int) (n : Nat) (w : World) (hg : RdAt w g A b.length c sh) (hc : b.length ≤ c) (hn : n ≤ b.length) (hb : b.length ≤ 1000000000)
 (hr : ReadsInt w0 .u8 A b.length b) (hB : Below w0.heap.size w0 w) (hgB : w0.heap.size ≤ g) :
 Calls Tryd.prog 56 #[.pointer (some ⟨g, 0, none⟩), .int .i64 n] w fun e w' => ∃ A2 : Option Addr, e = .returned (.slice A n c) ∧ RdAt w' g A2 (b.drop n).length (c - n) sh ∧ (b.drop n).length ≤ c - n ∧ ReadsInt w0 .u8 A2 (b.drop n).length (b.drop n) ∧ Below w0.heap.size w0 w' ∧ w.grownBy w' (some g) := by
 refine (take_yes g A c b sh n w hg hc hn hb).mono ?_
 rintro e w' ⟨A2, rfl, rfl, hc2, hr2⟩
 exact ⟨A2, rfl, hg.set, hc2, hr2 _ hr, below_put hB hgB _, grown_put (grown_refl w (some g)) _⟩

set_option maxHeartbeats 4000000 in
set_option maxRecDepth 100000 in
theorem length_walk (w0 : World) (g : Nat) (A : Option Addr) (c : Nat) (b : List Int) (sh : Int) (w : World) (hg : RdAt w g A b.length c sh) (hc : b.length ≤ c) (hb : b.length ≤ 1000000000)
 (hr : ReadsInt w0 .u8 A b.length b) (hB : Below w0.heap.size w0 w) (hgB : w0.heap.size ≤ g) (hv : ∀ x ∈ b, 0 ≤ x ∧ x < 256) :
 Calls Tryd.prog 58 #[.pointer (some ⟨g, 0, none⟩)] w (LenPost w0 w g sh b) := by
 cases b with
 | nil =>
  have hp : LenPost w0 w g sh [] = fun e w' => e = gone sh ∧ Lost w0 w w' g := by funext e w'; rfl
  rw [hp]
  go_enter Tryd.func58, Tryd.ntmps58
  go_wp2_with (fail)
  refine (take_no g A c [] sh 1 w hg (by simp)).mono ?_
  rintro e w' ⟨rfl, rfl⟩
  exact ⟨rfl, rfl, hB, grown_refl _ _⟩
 | cons x b =>
  have hx := hv x List.mem_cons_self
  have hbl : (x :: b).length = b.length + 1 := rfl
  have ht := take_go w0 g A c (x :: b) sh 1 w hg hc (by simp) hb hr hB hgB
  rw [List.drop_succ_cons, List.drop_zero] at ht
  have hcell : ∀ W : World, Below w0.heap.size w0 W → ∃ ad, A = some ad ∧ W.cell? ad = some (.int .u8 x) := fun W hW => cellAt0 hr hW
  have hb' : b.length ≤ 1000000000 := by omega
  have hv' : ∀ y ∈ b, 0 ≤ y ∧ y < 256 := fun y hy => hv y (List.mem_cons_of_mem _ hy)
  obtain ⟨x0, x1⟩ := hx
  clear hv hg hr hc hb hbl
  have HCELL := Lib.hid hcell
  clear hcell
  by_cases h1 : x = 129
  ·subst h1
   cases b with
   | nil =>
    have hp : LenPost w0 w g sh [129] = fun e w' => e = gone sh ∧ Lost w0 w w' g := by funext e w'; rfl
    rw [hp]
    clear hp
    go_enter Tryd.func58, Tryd.ntmps58
    go_wp2_with (fail)
    refine ht.mono ?_
    rintro e w1 ⟨A2, rfl, hg1, hc1, hr1, hB1, hG1⟩
    obtain ⟨ad, rfl, q0⟩ := HCELL.out w1 hB1
    go_wp2_with (fail)
    refine (take_no g A2 (c - 1) [] sh 1 w1 hg1 (by simp)).mono ?_
    rintro e w' ⟨rfl, rfl⟩
    exact ⟨rfl, rfl, hB1, hG1⟩
   | cons y b =>
    have hy := hv' y List.mem_cons_self
    obtain ⟨y0, y1⟩ := hy
    have hp1 : 128 ≤ y → LenPost w0 w g sh (129 :: y :: b) = fun e w' => e = .returned (.int .i64 y) ∧ At w0 w w' g sh b := by
     intro h
     funext e w'
     unfold LenPost lenP
     simp [h]
    have hp2 : ¬ 128 ≤ y → LenPost w0 w g sh (129 :: y :: b) = fun e w' => e = gone 2 ∧ Lost w0 w w' g := by
     intro h
     funext e w'
     unfold LenPost lenP
     simp [h]
    generalize LenPost w0 w g sh (129 :: y :: b) = PP at hp1 hp2 ⊢
    have HP1 := Lib.hid hp1
    have HP2 := Lib.hid hp2
    clear hp1 hp2
    clear hv'
    go_enter Tryd.func58, Tryd.ntmps58
    go_wp2_with (fail)
    refine ht.mono ?_
    rintro e w1 ⟨A2, rfl, hg1, hc1, hr1, hB1, hG1⟩
    obtain ⟨ad, rfl, q0⟩ := HCELL.out w1 hB1
    go_wp2_with (fail)
    refine (take_go w0 g A2 (c - 1) (y :: b) sh 1 w1 hg1 hc1 (by simp) hb' hr1 hB1 hgB).mono ?_
    rintro e w2 ⟨A3, rfl, hg2, hc2, hr2, hB2, hG2⟩
    rw [List.drop_succ_cons, List.drop_zero] at hg2 hc2 hr2
    obtain ⟨ad2, rfl, q1⟩ := cellAt0 hr1 hB2
    have HA : At w0 w w2 g sh b := ⟨⟨A3, _, hg2, hc2, hr2⟩, hB2, grown_trans hG1 hG2⟩
    clear hr1 hr2 hc1 hc2 hg1 hg2 hG1 hG2 ht HCELL
    by_cases h2 : 128 ≤ y
    ·have e2 : decide (y ≥ 128) = true := decide_eq_true h2
     go_wp2_with (fail)
     refine (must_yes 2 w2).mono ?_
     rintro e w3 ⟨rfl, rfl⟩
     go_wp2
     rw [HP1.out h2]
     exact ⟨rfl, HA⟩
    ·have e2 : decide (y ≥ 128) = false := decide_eq_false h2
     go_wp2_with (fail)
     refine (must_no 2 w2).mono ?_
     rintro e w3 ⟨rfl, rfl⟩
     refine ⟨rfl, ?_⟩
     rw [HP2.out h2]
     exact ⟨rfl, hB2, HA.grown⟩
  ·have n1 : (x == 129) = false := by simp [h1]
   by_cases h2 : x = 130
   ·subst h2
    have hl : b.length < 2 ∨ 2 ≤ b.length := by omega
    rcases hl with hl | hl
    ·have hp : LenPost w0 w g sh (130 :: b) = fun e w' => e = gone sh ∧ Lost w0 w w' g := by
      funext e w'
      match b, hl with
      | [], _ => rfl
      | [_], _ => rfl
     rw [hp]
     clear hp
     go_enter Tryd.func58, Tryd.ntmps58
     go_wp2_with (fail)
     refine ht.mono ?_
     rintro e w1 ⟨A2, rfl, hg1, hc1, hr1, hB1, hG1⟩
     obtain ⟨ad, rfl, q0⟩ := HCELL.out w1 hB1
     go_wp2_with (fail)
     refine (take_no g A2 (c - 1) b sh 2 w1 hg1 (by omega)).mono ?_
     rintro e w' ⟨rfl, rfl⟩
     exact ⟨rfl, rfl, hB1, hG1⟩
    ·match b, hl with
     | y :: z :: b, _ =>
      obtain ⟨y0, y1⟩ := hv' y List.mem_cons_self
      obtain ⟨z0, z1⟩ := hv' z (by simp)
      have hp1 : 256 ≤ y * 256 + z → LenPost w0 w g sh (130 :: y :: z :: b) = fun e w' => e = .returned (.int .i64 (y * 256 + z)) ∧ At w0 w w' g sh b := by
       intro h
       funext e w'
       unfold LenPost lenP
       simp [h]
      have hp2 : ¬ 256 ≤ y * 256 + z → LenPost w0 w g sh (130 :: y :: z :: b) = fun e w' => e = gone 2 ∧ Lost w0 w w' g := by
       intro h
       funext e w'
       unfold LenPost lenP
       simp [h]
      generalize LenPost w0 w g sh (130 :: y :: z :: b) = PP at hp1 hp2 ⊢
      have HP1 := Lib.hid hp1
      have HP2 := Lib.hid hp2
      clear hp1 hp2
      clear hv'
      have hq : Go.bits .or .i64 (y * 256) z = y * 256 + z := bits_join .i64 62 (by decide) (fun n h₀ h₁ => by rw [IntKind.wrap_i64]; omega) 8 (y * 256) z (by omega) (by omega) (by omega) (by omega) (by omega) (by omega)
      go_enter Tryd.func58, Tryd.ntmps58
      go_wp2_with (fail)
      refine ht.mono ?_
      rintro e w1 ⟨A2, rfl, hg1, hc1, hr1, hB1, hG1⟩
      obtain ⟨ad, rfl, q0⟩ := HCELL.out w1 hB1
      go_wp2_with (fail)
      refine (take_go w0 g A2 (c - 1) (y :: z :: b) sh 2 w1 hg1 hc1 (by simp) hb' hr1 hB1 hgB).mono ?_
      rintro e w2 ⟨A3, rfl, hg2, hc2, hr2, hB2, hG2⟩
      rw [List.drop_succ_cons, List.drop_succ_cons, List.drop_zero] at hg2 hc2 hr2
      obtain ⟨ad2, rfl, q1⟩ := cellAt0 hr1 hB2
      obtain ⟨ad3, e3, q2⟩ := cellAt hr1 hB2 1 (by simp)
      obtain rfl := Option.some.inj e3
      rw [show (y :: z :: b).getD 1 0 = z from rfl, ← add_field' ad2 1 (by omega)] at q2
      have HA : At w0 w w2 g sh b := ⟨⟨A3, _, hg2, hc2, hr2⟩, hB2, grown_trans hG1 hG2⟩
      clear hr1 hr2 hc1 hc2 hg1 hg2 hG1 hG2 ht HCELL e3
      by_cases h2 : 256 ≤ y * 256 + z
      ·have e2 : decide (y * 256 + z ≥ 256) = true := decide_eq_true h2
       go_wp2
       go_region
       go_wp2_with (fail)
       refine (must_yes 2 _).mono ?_
       rintro e w3 ⟨rfl, rfl⟩
       go_wp2
       rw [HP1.out h2]
       exact ⟨rfl, HA.drew⟩
      ·have e2 : decide (y * 256 + z ≥ 256) = false := decide_eq_false h2
       go_wp2
       go_region
       go_wp2_with (fail)
       refine (must_no 2 _).mono ?_
       rintro e w3 ⟨rfl, rfl⟩
       refine ⟨rfl, ?_⟩
       rw [HP2.out h2]
       exact ⟨rfl, hB2.drew, HA.drew.grown⟩
   ·have n2 : (x == 130) = false := by simp [h2]
    have hp1 : x < 128 → LenPost w0 w g sh (x :: b) = fun e w' => e = .returned (.int .i64 x) ∧ At w0 w w' g sh b := by
     intro h
     funext e w'
     unfold LenPost lenP
     simp [h, h1, h2]
    have hp2 : ¬ x < 128 → LenPost w0 w g sh (x :: b) = fun e w' => e = gone 2 ∧ Lost w0 w w' g := by
     intro h
     funext e w'
     unfold LenPost lenP
     simp [h, h1, h2]
    generalize LenPost w0 w g sh (x :: b) = PP at hp1 hp2 ⊢
    have HP1 := Lib.hid hp1
    have HP2 := Lib.hid hp2
    clear hp1 hp2
    clear hv' h1 h2
    go_enter Tryd.func58, Tryd.ntmps58
    go_wp2_with (fail)
    refine ht.mono ?_
    rintro e w1 ⟨A2, rfl, hg1, hc1, hr1, hB1, hG1⟩
    obtain ⟨ad, rfl, q0⟩ := HCELL.out w1 hB1
    have HA : At w0 w w1 g sh b := ⟨⟨A2, _, hg1, hc1, hr1⟩, hB1, hG1⟩
    clear hr1 hc1 hg1 hG1 ht HCELL
    by_cases h3 : x < 128
    ·have e2 : decide (x < 128) = true := decide_eq_true h3
     go_wp2_with (fail)
     refine (must_yes 2 w1).mono ?_
     rintro e w3 ⟨rfl, rfl⟩
     go_wp2
     rw [HP1.out h3]
     exact ⟨rfl, HA⟩
    ·have e2 : decide (x < 128) = false := decide_eq_false h3
     go_wp2_with (fail)
     refine (must_no 2 w1).mono ?_
     rintro e w3 ⟨rfl, rfl⟩
     refine ⟨rfl, ?_⟩
     rw [HP2.out h3]
     exact ⟨rfl, hB1, HA.grown⟩

end Go.Proofs.YtmbgjhkemlliaaaDoor.Tlv
end

section
namespace Go.Proofs.YtmbgjhkemlliaaaDoor.PT
open Go.RowKit Go.Proofs.YtmbgjhkemlliaaaDoorW.PrintWords Go.Proofs.YtmbgjhkemlliaaaDoorW.PrintLast Go.Proofs.YtmbgjhkemlliaaaDoorW.PrintMore
attribute [local go_sem] max2_int min2_int max_two min_two max_three min_three max_four min_four   -- for this text's walks alone
set_option linter.unusedVariables false
set_option linter.unusedSimpArgs false

def tlv_isTag.f (a0 : Int) : Option (Bool) := if a0 ≥ 0 then (if a0 ≤ 255 then (some ((Go.bits .and .i64 a0 31) != 31)) else (some false)) else (some false)
set_option maxHeartbeats 8000000 in
set_option maxRecDepth 100000 in
theorem tlv_isTag.calls (a0 : Int) (r : Bool) (w : World) (h : tlv_isTag.f a0 = some r) :
 Calls Tryd.prog 57 #[.int .i64 a0] w fun e w' => e = .returned (.bool r) ∧ Drawn0 w w' := by
 have H : (if a0 ≥ 0 then (if a0 ≤ 255 then (some ((Go.bits .and .i64 a0 31) != 31)) else (some false)) else (some false)) = some r := h
 clear h
 by_cases c2 : a0 ≥ 0
 ·rw [if_pos c2] at H
  have c2b0 : decide (0 ≤ a0) = true := decide_eq_true c2
  clear c2
  by_cases c3 : a0 ≤ 255
  ·rw [if_pos c3] at H
   have c3b0 : decide (a0 ≤ 255) = true := decide_eq_true c3
   clear c3
   obtain rfl := Option.some.inj H
   go_enter Tryd.func57, Tryd.ntmps57
   go_wp2
   go_ret
   exact ⟨by first | rfl | (simp; done) | (simp [*]; done), by repeat (first | exact Drawn0.refl _ | apply Drawn0.step)⟩
  ·rw [if_neg c3] at H
   have c3b0 : decide (a0 ≤ 255) = false := decide_eq_false c3
   clear c3
   obtain rfl := Option.some.inj H
   go_enter Tryd.func57, Tryd.ntmps57
   go_wp2
   go_ret
   exact ⟨by first | rfl | (simp; done) | (simp [*]; done), by repeat (first | exact Drawn0.refl _ | apply Drawn0.step)⟩
 ·rw [if_neg c2] at H
  have c2b0 : decide (0 ≤ a0) = false := decide_eq_false c2
  clear c2
  obtain rfl := Option.some.inj H
  go_enter Tryd.func57, Tryd.ntmps57
  go_wp2
  go_ret
  exact ⟨by first | rfl | (simp; done) | (simp [*]; done), by repeat (first | exact Drawn0.refl _ | apply Drawn0.step)⟩

end Go.Proofs.YtmbgjhkemlliaaaDoor.PT
end

section
namespace Go.Proofs.YtmbgjhkemlliaaaDoor.PT
open Go.RowKit Go.Proofs.YtmbgjhkemlliaaaDoorW.PrintWords Go.Proofs.YtmbgjhkemlliaaaDoorW.PrintLast Go.Proofs.YtmbgjhkemlliaaaDoorW.PrintMore
attribute [local go_sem] max2_int min2_int max_two min_two max_three min_three max_four min_four   -- for this text's walks alone
set_option linter.unusedVariables false
set_option linter.unusedSimpArgs false

def tlv_holds.f (a0 : Int) : Option (Bool) := if a0 ≥ 0 then (some ((Go.bits .and .i64 a0 32) != 0)) else (some false)
set_option maxHeartbeats 8000000 in
set_option maxRecDepth 100000 in
theorem tlv_holds.calls (a0 : Int) (r : Bool) (w : World) (h : tlv_holds.f a0 = some r) :
 Calls Tryd.prog 59 #[.int .i64 a0] w fun e w' => e = .returned (.bool r) ∧ Drawn0 w w' := by
 have H : (if a0 ≥ 0 then (some ((Go.bits .and .i64 a0 32) != 0)) else (some false)) = some r := h
 clear h
 by_cases c2 : a0 ≥ 0
 ·rw [if_pos c2] at H
  have c2b0 : decide (0 ≤ a0) = true := decide_eq_true c2
  clear c2
  obtain rfl := Option.some.inj H
  go_enter Tryd.func59, Tryd.ntmps59
  go_wp2
  go_ret
  exact ⟨by first | rfl | (simp; done) | (simp [*]; done), by repeat (first | exact Drawn0.refl _ | apply Drawn0.step)⟩
 ·rw [if_neg c2] at H
  have c2b0 : decide (0 ≤ a0) = false := decide_eq_false c2
  clear c2
  obtain rfl := Option.some.inj H
  go_enter Tryd.func59, Tryd.ntmps59
  go_wp2
  go_ret
  exact ⟨by first | rfl | (simp; done) | (simp [*]; done), by repeat (first | exact Drawn0.refl _ | apply Drawn0.step)⟩

end Go.Proofs.YtmbgjhkemlliaaaDoor.PT
end

section
set_option linter.unusedVariables false
set_option linter.unusedSimpArgs false
namespace Go.Proofs.YtmbgjhkemlliaaaDoor.Tlv
open Go.RowKit Go.Proofs.YtmbgjhkemlliaaaDoorW.PrintWords Go.Proofs.YtmbgjhkemlliaaaDoorW.PrintLast Go.Proofs.YtmbgjhkemlliaaaDoorW.PrintMore Go.Proofs.YtmbgjhkemlliaaaDoor.PT
/-- A call in a region that draws its order, that ends in a panic. -/
theorem wrap64_in (n : Int) (h : 0 ≤ n ∧ n ≤ 1000000000) : wrap64 n = n := by unfold wrap64; omega
theorem skip_step {P : Program} {ops : Array Oper} {Q : Exit → Act → World → Prop} {o : Oper} {a : Act} {Kc : Act → World → Prop} {W w1 : World} (hw : Region.wanted o (yielded ops a.tmps) = true) (hrun : (execOp a.eval o).run P W = .ok .skip w1) (h : Kc (a.put o.dst undef) w1) : if Region.wanted o (yielded ops a.tmps) = true then Oper.wp P o a W Kc Q else Kc (a.put o.dst undef) W := by
 rw [if_pos hw]
 unfold Oper.wp
 rw [hrun]
 exact h
theorem dies_ {P : Program} {ops : Array Oper} {Q : Exit → Act → World → Prop} {oi : Oper} {N : Option Tmp} {a : Act} {w : World} {K : Act → World → Prop} {f : FuncId} {fn : Func} {as1 : Array Operand} {ts : Array TypeId} (hf : P.funcs[f]? = some fn) (hname : (fn.name == "runtime.NumGoroutine") = false) (hb : fn.body.isSome = true) (args : Array Value)
 (hw : Region.wanted oi (yielded ops a.tmps) = true) (hop : oi.op = .call { callee := .value (.func f), args := as1, argTypes := ts }) (hargs : as1.map a.eval = args)
 (h : Calls P f args w fun e w' => ∃ ch, e = .panicked ch ∧ Q (.panic ch) a w') : if Region.wanted oi (yielded ops a.tmps) = true then Oper.wp P oi a w K Q else K (a.put N undef) w := by
 rw [if_pos hw]
 have he := enters_ hf hname hb args w
 have hrun : (execOp a.eval oi).run P w = .ok (.enter f args) w := by
  unfold execOp
  simp [hop, resolve, Deferred.ofValue, invoke, Act.eval, hargs, he]
 unfold Oper.wp
 rw [hrun]
 refine h.mono ?_
 rintro e w' ⟨ch, rfl, hq⟩
 exact hq
def lenV : Value → Nat
 | .slice _ n _ => n
 | _ => 0

theorem isTag_small : ∀ n : Nat, n < 256 → (Go.bits .and .i64 (n : Int) 31 != 31) = decide ((n : Int) % 32 ≠ 31) := by decide +kernel
theorem holds_small : ∀ n : Nat, n < 256 → (Go.bits .and .i64 (n : Int) 32 != 0) = holdsB (n : Int) := by decide +kernel
theorem isTag_f (n : Int) : tlv_isTag.f n = some (isTagB n) := by
 unfold tlv_isTag.f isTagB
 by_cases h0 : 0 ≤ n
 ·by_cases h1 : n ≤ 255
  ·obtain ⟨k, rfl⟩ : ∃ k : Nat, n = k := ⟨n.toNat, by omega⟩
   rw [if_pos h0, if_pos h1, isTag_small k (by omega)]
   simp [h0, h1]
  ·rw [if_pos h0, if_neg h1]
   simp [h1]
 ·rw [if_neg h0]
  simp [h0]
theorem holds_f (n : Int) (h0 : 0 ≤ n) (h1 : n < 256) : tlv_holds.f n = some (holdsB n) := by
 unfold tlv_holds.f
 obtain ⟨k, rfl⟩ : ∃ k : Nat, n = k := ⟨n.toNat, by omega⟩
 rw [if_pos h0, holds_small k (by omega)]

theorem grown_alloc {w W : World} {r : Option Nat} (h : w.grownBy W r) (o : Obj) : w.grownBy (W.alloc o) r :=
 grown_trans h ⟨rfl, rfl, rfl, by simp, fun k hk _ => Below.heap_alloc W o k hk⟩
/-- Another row than r has been written, of a block that is new. -/
theorem grown_step {w W W2 : World} {r : Option Nat} {q : Option Nat} (h : w.grownBy W r) (h2 : W.grownBy W2 q) (hq : ∀ k, q = some k → w.heap.size ≤ k) : w.grownBy W2 r :=
 ⟨h2.os.trans h.os, h2.tape.trans h.tape, h2.output.trans h.output, Nat.le_trans h.size h2.size, fun k hk hne => (h2.block k (Nat.lt_of_lt_of_le hk h.size) (fun e => by have := hq k e.symm; omega)).trans (h.block k hk hne)⟩
theorem below_grown {w0 W W2 : World} {B : Nat} {q : Option Nat} (h : Below B w0 W) (h2 : W.grownBy W2 q) (hBW : B ≤ W.heap.size) (hq : ∀ k, q = some k → B ≤ k) : Below B w0 W2 :=
 h.grown h2 hBW hq

theorem RdAt.alloc {w : World} {g : Nat} {A : Option Addr} {n c : Nat} {sh : Int} (h : RdAt w g A n c sh) (hg : g < w.heap.size) (o : Obj) : RdAt (w.alloc o) g A n c sh := (Below.heap_alloc w o g hg).trans h
theorem grown_set (W : World) (p : Addr) (v : Value) : W.grownBy (W.setCell p v) (some p.block) :=
 ⟨rfl, rfl, rfl, by simp, fun k _ hne => heap_setCell_other W p k v (fun e => hne (by rw [e]))⟩
theorem At.step {w0 w W W2 : World} {g : Nat} {sh : Int} {r : List Int} {q : Option Nat} (h : At w0 w W g sh r) (h2 : W.grownBy W2 q) (hq : ∀ k, q = some k → w.heap.size ≤ k) (hg : g < w.heap.size) (hw : w0.heap.size ≤ w.heap.size) : At w0 w W2 g sh r := by
 obtain ⟨A2, c2, e1, e2, e3⟩ := h.ex
 have hlt : g < W.heap.size := Nat.lt_of_lt_of_le hg h.grown.size
 refine ⟨⟨A2, c2, (h2.block g hlt (fun e => ?_)).trans e1, e2, e3⟩, below_grown h.below h2 (Nat.le_trans hw h.grown.size) (fun k hk => Nat.le_trans hw (hq k hk)), grown_step h.grown h2 hq⟩
 have := hq g e.symm
 omega
theorem at_dst (n : Tmp) {P : Program} {ops : Array Oper} {Q : Exit → Act → World → Prop} {rest : List Oper} {a : Act} {w : World} {op : Op} {ty : TypeId} {pos : String} {af : Array Edge} {g : Option (Nat × Bool)}
 (h : wpList P ops Q (⟨some n, op, ty, pos, af, g⟩ :: rest) a w) : wpList P ops Q (⟨some n, op, ty, pos, af, g⟩ :: rest) a w := h
theorem own0 (W : World) (base : Nat) (ok : Nat → Prop) (hk : ok W.heap.size) (hb : base ≤ W.heap.size) :
 Kd.R (Kd.int .u8) 5 (W.alloc (.cells #[] 5)) base ok (.slice (some ⟨W.heap.size, 0, none⟩) 0 0) [] :=
 ⟨fun k h => by simp [Value.ownBlock] at h; exact h ▸ hk, [], ⟨rfl, .inr ⟨W.heap.size, 0, _, rfl, hb, heap_alloc_new W _, Nat.le_refl _, by decide, rfl, rfl⟩⟩, Reps.none _ _⟩
theorem grown_undrew {w W : World} {r : Option Nat} (h : w.drew.grownBy W r) : w.grownBy W r := ⟨h.os, h.tape, h.output, h.size, h.block⟩
theorem grown_drewN {w W : World} {r : Option Nat} (h : w.grownBy W r) (n : Nat) : w.grownBy (W.drewN n) r := by
 induction n with
 | zero => exact h
 | succ n ih => exact ⟨ih.os, ih.tape, ih.output, ih.size, ih.block⟩
theorem ReadsInt_below {w0 W : World} {A : Option Addr} {b : List Int} (h : ReadsInt w0 .u8 A b.length b) (hB : Below w0.heap.size w0 W) : ReadsInt W .u8 A b.length b := by
 refine ⟨h.1, h.2.1, fun hp => ?_⟩
 obtain ⟨ad, e, q⟩ := h.2.2 hp
 exact ⟨ad, e, fun j hj => (hB.cell (World.block_lt_of_cell? w0 _ (q j hj))).trans (q j hj)⟩
theorem C_of_R {W : World} {o : Obj} {A : Option Addr} {l : List Int} {n : Nat} (h : ReadsInt W .u8 A l.length l) (hn : l.length = n) : ReadsRow ((Kd.int .u8).K (W.alloc o)) (Kd.int .u8).sz (W.alloc o) A n l := by
 subst hn
 exact Kd.C_of_reads (d := (0 : Int)) (ReadsInt_below h ((Below.refl _ _).alloc (Nat.le_refl _) _))
/-- The two blocks of an element that is being read: the result's, and the one that is filled. -/
structure Two (W : World) (B4 B5 : Nat) (tag : Int) (kv : Value) : Prop where
 a0 : W.cell? ⟨B5, 0, none⟩ = some (.int .i64 tag)
 a1 : W.cell? ⟨B5, 1, none⟩ = some (.slice none 0 0)
 a2 : W.cell? ⟨B5, 2, none⟩ = some kv
 b0 : W.cell? ⟨B4, 0, none⟩ = some (.int .i64 0)
 b1 : W.cell? ⟨B4, 1, none⟩ = some (.slice none 0 0)
 b2 : W.cell? ⟨B4, 2, none⟩ = some (.slice none 0 0)
 p0 : W.frozen? ⟨B5, 0, none⟩ = false
 p1 : W.frozen? ⟨B5, 1, none⟩ = false
 p2 : W.frozen? ⟨B5, 2, none⟩ = false
 r0 : W.frozen? ⟨B4, 0, none⟩ = false
 r1 : W.frozen? ⟨B4, 1, none⟩ = false
 r2 : W.frozen? ⟨B4, 2, none⟩ = false
theorem Two.of {W : World} {B4 B5 : Nat} {tag : Int} {kv : Value} (h4 : W.heap[B4]? = some (.cells #[.int .i64 0, .slice none 0 0, .slice none 0 0] 28 (0, 0))) (h5 : W.heap[B5]? = some (.cells #[.int .i64 tag, .slice none 0 0, kv] 28 (0, 0))) : Two W B4 B5 tag kv :=
 ⟨Lib.cell_of_heap h5 0, Lib.cell_of_heap h5 1, Lib.cell_of_heap h5 2, Lib.cell_of_heap h4 0, Lib.cell_of_heap h4 1, Lib.cell_of_heap h4 2,
  Lib.frozen_of_heap h5 0, Lib.frozen_of_heap h5 1, Lib.frozen_of_heap h5 2, Lib.frozen_of_heap h4 0, Lib.frozen_of_heap h4 1, Lib.frozen_of_heap h4 2⟩
theorem append_in {ops : Array Oper} {o : Oper} {a : Act} {Q : Exit → Act → World → Prop} {rest : List Oper} (w8 : World) (base B4 B5 : Nat) (tag : Int) (A3 : Option Addr) (c : Nat) (l : List Int) (n : Nat) (s x : Operand) (hgd : o.guard = none)
 (ho : o.op = .call { callee := .builtin .append, args := #[s, x], argTypes := #[22, 22] }) (hs : a.eval s = .slice (some ⟨w8.heap.size, 0, none⟩) 0 0) (hx : a.eval x = .slice A3 n c)
 (hr : ReadsInt w8 .u8 A3 l.length l) (hn : l.length = n) (hl : l.length ≤ 1000000000) (hb : base ≤ w8.heap.size) (h4 : w8.heap[B4]? = some (.cells #[.int .i64 0, .slice none 0 0, .slice none 0 0] 28 (0, 0))) (h5 : w8.heap[B5]? = some (.cells #[.int .i64 tag, .slice none 0 0, .slice none 0 0] 28 (0, 0)))
 (h : ∀ Av cv w1, Kd.R (Kd.int .u8) 5 w1 base (fun k => w8.heap.size ≤ k) (.slice Av n cv) l ∧ w8.grownBy w1 none ∧ Two w1 B4 B5 tag (.slice none 0 0) → wpList Tryd.prog ops Q rest (a.put o.dst (.slice Av n cv)) w1) :
 wpList Tryd.prog ops Q (o :: rest) a (w8.alloc (.cells #[] 5)) := by
 have k4 : B4 < w8.heap.size := (Array.getElem?_eq_some_iff.1 h4).1
 have k5 : B5 < w8.heap.size := (Array.getElem?_eq_some_iff.1 h5).1
 refine Kd.R_append_rows (Kd.int .u8) (w0 := w8) base hgd s x 22 5 (.int .u8 0) 1 ho Tryd.underlying22 infoByte rfl (by decide) (by omega) _ [] l A3 n c (fun k => w8.heap.size ≤ k) (fun _ => False) hs hx (own0 w8 _ _ (Nat.le_refl _) hb) (C_of_R hr hn) (fun x cs h => h) (fun _ h => h.elim) (fun k h => by simp at h; omega) ((Below.refl _ _).alloc hb _) (by simp; omega) (by simp; omega) ?_
 intro v1 w1 ho1 hb1 hg1 _
 have e : Value.ownBlock (.slice (some ⟨w8.heap.size, 0, none⟩) 0 0) = some w8.heap.size := rfl
 rw [e] at hg1
 have hg : w8.grownBy w1 none := ⟨hg1.os, hg1.tape, hg1.output, Nat.le_trans (by simp) hg1.size, fun k hk _ => (hg1.block k (by simp; omega) (fun e => by injection e with e; omega)).trans (Below.heap_alloc w8 _ k hk)⟩
 rw [List.nil_append] at ho1
 obtain ⟨Av, cv, rfl⟩ := Kd.R_slice ho1
 rw [hn] at ho1 ⊢
 exact h Av cv w1 ⟨ho1, hg, Two.of ((hg.block _ k4 (by simp)).trans h4) ((hg.block _ k5 (by simp)).trans h5)⟩
def bindK (done : List T) : Res (List T) → Res (List T)
 | .err e => .err e
 | .ok l => .ok (done ++ l)
def LoopRel (n : Nat) (w0 w w8 : World) (g B5 : Nat) (tag sh deep : Int) (rd inn : List Int) (wr : World) : Prop :=
 ∃ (done : List T) (A5 : Option Addr) (c5 m : Nat) (rest : List Int) (v : Value), RdAt wr w8.heap.size A5 rest.length c5 2 ∧ rest.length ≤ c5 ∧ Hid (ReadsInt w0 .u8 A5 rest.length rest) ∧ Hid (∀ x ∈ rest, 0 ≤ x ∧ x < 256) ∧ rest.length + 2 ≤ m ∧ m ≤ n ∧ done.length + rest.length ≤ 1000000 ∧
  Hid (wr.heap[B5]? = some (.cells #[.int .i64 tag, .slice none 0 0, v] 28 (0, 0))) ∧ Hid (wr.heap[w.heap.size]? = some (.cells #[.int .i64 0, .slice none 0 0, .slice none 0 0] 28 (0, 0))) ∧
  Hid (k28.R 28 wr (w8.heap.size + 1) (fun k => w8.heap.size + 1 ≤ k) v done) ∧ Hid (kidsP n (deep + 1) inn = bindK done (kidsP m (deep + 1) rest)) ∧ At w0 w wr g sh rd ∧ w8.heap.size < wr.heap.size
theorem encT_len (t : T) : 2 ≤ (encT t).length := by
 obtain ⟨tag, body, kids⟩ := t
 have h : ∀ a n, 2 ≤ (head a n).length := fun a n => by unfold head; split; simp; split <;> simp
 unfold encT
 split
 ·have := h tag (sizeL kids); rw [List.length_append]; omega
 ·have := h tag body.length; rw [List.length_append]; omega
theorem after_elem {n m : Nat} {w0 w w8 wo : World} {g B5 : Nat} {tag sh deep : Int} {rd inn : List Int} {done : List T} {Ak : Option Addr} {ck : Nat} {A5 : Option Addr} {c5 : Nat} {x : Int} {rest : List Int} {t : T} {r6 : List Int}
 (hg5 : RdAt wo w8.heap.size A5 (x :: rest).length c5 2) (h5 : wo.heap[B5]? = some (.cells #[.int .i64 tag, .slice none 0 0, .slice Ak done.length ck] 28 (0, 0))) (h4 : wo.heap[w.heap.size]? = some (.cells #[.int .i64 0, .slice none 0 0, .slice none 0 0] 28 (0, 0)))
 (hO : k28.R 28 wo (w8.heap.size + 1) (fun k => w8.heap.size + 1 ≤ k) (.slice Ak done.length ck) done) (hK : kidsP n (deep + 1) inn = bindK done (kidsP (m + 1) (deep + 1) (x :: rest))) (he : elemP m (deep + 1) 2 (x :: rest) = .ok (t, r6)) (hA : At w0 w wo g sh rd) (hgs : w8.heap.size < wo.heap.size)
 (hvv : ∀ y ∈ x :: rest, 0 ≤ y ∧ y < 256) (hm1 : (x :: rest).length + 2 ≤ m + 1) (hm2 : m + 1 ≤ n) (hdl : done.length + (x :: rest).length ≤ 1000000) (hw1 : w.heap.size + 1 ≤ B5) (hs8 : B5 < w8.heap.size) (hgw : g < w.heap.size) (hww : w0.heap.size ≤ w.heap.size)
 (w9 : World) (v1 v2 : Value) (hv1 : (Kd.int .u8).R 5 w9 wo.drew.heap.size (fun _ => True) v1 t.f1) (hv2 : k28.R 28 w9 wo.drew.heap.size (fun k => some k ≠ v1.ownBlock) v2 t.f2) (hA9 : At w0 wo.drew w9 w8.heap.size 2 r6) :
 w9.cell? ⟨B5, 2, none⟩ = some (.slice Ak done.length ck) ∧ k28.M w9 (w8.heap.size + 1) (fun k => wo.heap.size ≤ k) t [.int .i64 t.f0, v1, v2] ∧ (∀ k, wo.heap.size ≤ k → w8.heap.size + 1 ≤ k ∧ some k ≠ (Value.slice Ak done.length ck).ownBlock) ∧ (∀ k, w9.heap.size ≤ k → w8.heap.size + 1 ≤ k) ∧
 k28.R 28 w9 (w8.heap.size + 1) (fun k => w8.heap.size + 1 ≤ k) (.slice Ak done.length ck) done ∧ w8.heap.size + 1 ≤ w9.heap.size ∧ (done.length + 1) * 56 ≤ 140737488355328 ∧
 (∀ (w10 : World) (A9 : Option Addr) (c9 : Nat), k28.R 28 w10 (w8.heap.size + 1) (fun k => w8.heap.size + 1 ≤ k) (.slice A9 (done ++ [t]).length c9) (done ++ [t]) → w9.grownBy w10 (Value.slice Ak done.length ck).ownBlock →
  w10.cell? ⟨B5, 2, none⟩ = some (.slice Ak done.length ck) ∧ w10.frozen? ⟨B5, 2, none⟩ = false ∧ LoopRel n w0 w w8 g B5 tag sh deep rd inn (w10.setCell ⟨B5, 2, none⟩ (.slice A9 (done ++ [t]).length c9)) ∧
  lenV (((w10.setCell ⟨B5, 2, none⟩ (.slice A9 (done ++ [t]).length c9)).cell? ⟨w8.heap.size, 0, none⟩).getD .nilIface) < lenV ((wo.cell? ⟨w8.heap.size, 0, none⟩).getD .nilIface)) := by
 have hG : wo.grownBy w9 (some w8.heap.size) := ⟨hA9.grown.os, hA9.grown.tape, hA9.grown.output, hA9.grown.size, hA9.grown.block⟩
 have hsz := hG.size
 have hxl : (x :: rest).length = rest.length + 1 := rfl
 have h59 : w9.heap[B5]? = some (.cells #[.int .i64 tag, .slice none 0 0, .slice Ak done.length ck] 28 (0, 0)) := (hG.block _ (by omega) (by intro e; injection e with e; omega)).trans h5
 have h49 : w9.heap[w.heap.size]? = some (.cells #[.int .i64 0, .slice none 0 0, .slice none 0 0] 28 (0, 0)) := (hG.block _ (by omega) (by intro e; injection e with e; omega)).trans h4
 have hOb : ∀ k, (Value.slice Ak done.length ck).ownBlock = some k → w8.heap.size + 1 ≤ k ∧ k < wo.heap.size := fun k hk => by
  have h1 := (Kd.R_bound hO).1 k hk
  exact ⟨h1.2.1, h1.2.2.1⟩
 have hO9 : k28.R 28 w9 (w8.heap.size + 1) (fun k => w8.heap.size + 1 ≤ k) (.slice Ak done.length ck) done := Kd.R_grown hO hG (fun k hk e => by injection e with e; omega)
 obtain ⟨e1, e2, e3, e4⟩ := elemP_ok m (deep + 1) 2 (x :: rest) t r6 hvv he
 have hlen := congrArg List.length e1
 rw [List.length_append] at hlen
 have henc := encT_len t
 have hv6 : ∀ y ∈ r6, 0 ≤ y ∧ y < 256 := fun y hy => hvv y (by rw [e1]; exact List.mem_append_right _ hy)
 obtain ⟨A6, c6, g6, hc6, hr6⟩ := hA9.ex
 refine ⟨Lib.cell_of_heap h59 2, k28_mkM w9 _ _ t (Kd.R_lower (Kd.R_mono (Kd.R_bound hv1) (fun k h => h.2.1)) (Nat.succ_le_of_lt hgs)) (Kd.R_lower (Kd.R_mono (Kd.R_bound hv2) (fun k h => h.2.1)) (Nat.succ_le_of_lt hgs)), fun k hk => ⟨by omega, fun e => by have := hOb k e.symm; omega⟩, fun k hk => by omega, hO9, by omega, by omega, ?_⟩
 intro w10 A9 c9 hR hg10
 have hsz2 := hg10.size
 have far : ∀ k, k < w8.heap.size + 1 → some k ≠ (Value.slice Ak done.length ck).ownBlock := fun k hk e => by have := hOb k e.symm; omega
 have h510 : w10.heap[B5]? = some (.cells #[.int .i64 tag, .slice none 0 0, .slice Ak done.length ck] 28 (0, 0)) := (hg10.block _ (by omega) (far _ (by omega))).trans h59
 have h410 : w10.heap[w.heap.size]? = some (.cells #[.int .i64 0, .slice none 0 0, .slice none 0 0] 28 (0, 0)) := (hg10.block _ (by omega) (far _ (by omega))).trans h49
 have g10 : RdAt w10 w8.heap.size A6 r6.length c6 2 := (hg10.block _ (by omega) (far _ (by omega))).trans g6
 have g11 : RdAt (w10.setCell ⟨B5, 2, none⟩ (.slice A9 (done ++ [t]).length c9)) w8.heap.size A6 r6.length c6 2 := (heap_setCell_other w10 ⟨B5, 2, none⟩ _ _ (by show w8.heap.size ≠ B5; omega)).trans g10
 refine ⟨Lib.cell_of_heap h510 2, Lib.frozen_of_heap h510 2, ⟨done ++ [t], A6, c6, m, r6, .slice A9 (done ++ [t]).length c9, g11, hc6, hr6, hv6, by omega, by omega, by rw [List.length_append, List.length_singleton]; omega, heap_setCell_same w10 B5 2 _ _ _ h510, (heap_setCell_other w10 ⟨B5, 2, none⟩ _ _ (by show w.heap.size ≠ B5; omega)).trans h410, Kd.R_far hR (fun k hk => by show k ≠ B5; omega) _, ?_, ?_, by simp; omega⟩, ?_⟩
 ·show _ = _
  rw [hK, kidsP, he]
  dsimp only
  cases kidsP m (deep + 1) r6 with
  | err e => rfl
  | ok l => show Res.ok (done ++ (t :: l)) = Res.ok ((done ++ [t]) ++ l); rw [List.append_assoc]; rfl
 ·exact ((hA.step hG (fun k h => by injection h with h; omega) hgw hww).step hg10 (fun k h => by have := hOb k h; omega) hgw hww).step (grown_set _ _ _) (fun k h => by injection h with h; subst h; show w.heap.size ≤ B5; omega) hgw hww
 ·rw [g11.c0, hg5.c0]
  show r6.length < (x :: rest).length
  omega
def ElemPost (n : Nat) (w0 w : World) (g : Nat) (sh deep : Int) (b : List Int) (e : Ending) (w' : World) : Prop :=
 match elemP n deep sh b with
 | .err x => e = gone x ∧ Lost w0 w w' g
 | .ok (t, r) => ∃ v1 v2 : Value, e = .returned (.agg #[.int .i64 t.f0, v1, v2]) ∧ (Kd.int .u8).R 5 w' w.heap.size (fun _ => True) v1 t.f1 ∧ k28.R 28 w' w.heap.size (fun k => some k ≠ v1.ownBlock) v2 t.f2 ∧ At w0 w w' g sh r

def ElemC (n : Nat) : Prop := ∀ (w0 : World) (g : Nat) (A : Option Addr) (c : Nat) (b : List Int) (sh deep : Int) (w : World), b.length + 1 ≤ n → 0 ≤ deep → deep ≤ 32 → RdAt w g A b.length c sh → b.length ≤ c → b.length ≤ 1000000000 →
 ReadsInt w0 .u8 A b.length b → Below w0.heap.size w0 w → w0.heap.size ≤ g → (∀ x ∈ b, 0 ≤ x ∧ x < 256) →
 Calls Tryd.prog 40 #[.pointer (some ⟨g, 0, none⟩), .int .i64 deep] w (ElemPost n w0 w g sh deep b)

set_option maxHeartbeats 8000000 in
set_option maxRecDepth 100000 in
theorem element_step (n : Nat) (ih : ∀ m, m ≤ n → ElemC m) : ElemC (n + 1) := by
 intro w0 g A c b sh deep w hn hd0 hd1 hg hc hb hr hB hgB hv
 have hgw : g < w.heap.size := (Array.getElem?_eq_some_iff.1 hg).1
 cases b with
 | nil =>
  have hp : ElemPost (n + 1) w0 w g sh deep [] = fun e w' => e = gone sh ∧ Lost w0 w w' g := by funext e w'; rfl
  rw [hp]
  go_enter Tryd.func40, Tryd.ntmps40
  go_wp2_with (fail)
  refine (take_no g A c [] sh 1 _ (hg.alloc hgw _) (by simp)).mono ?_
  rintro e w' ⟨rfl, rfl⟩
  exact ⟨rfl, rfl, hB.alloc hB.size _, grown_alloc (grown_refl _ _) _⟩
 | cons tag b =>
  obtain ⟨t0, t1⟩ := hv tag List.mem_cons_self
  have hv' : ∀ x ∈ b, 0 ≤ x ∧ x < 256 := fun x hx => hv x (List.mem_cons_of_mem _ hx)
  have hbl : (tag :: b).length = b.length + 1 := rfl
  have HV := Lib.hid hv
  have HV' := Lib.hid hv'
  have hn' : b.length + 1 ≤ n := by omega
  clear hv hv'
  have P0 : isTagB tag = false → ElemPost (n + 1) w0 w g sh deep (tag :: b) = fun e w' => e = gone 2 ∧ Lost w0 w w' g := by
   intro h; funext e w'; unfold ElemPost elemP; simp [h]
  have P1 : ∀ x, isTagB tag = true → lenP sh b = .err x → ElemPost (n + 1) w0 w g sh deep (tag :: b) = fun e w' => e = gone x ∧ Lost w0 w w' g := by
   intro x h h2; funext e w'; unfold ElemPost elemP; simp [h, h2]
  have P2 : ∀ m r, isTagB tag = true → lenP sh b = .ok (m, r) → (r.length : Int) < m → ElemPost (n + 1) w0 w g sh deep (tag :: b) = fun e w' => e = gone sh ∧ Lost w0 w w' g := by
   intro m r h h2 h3; funext e w'; unfold ElemPost elemP; simp [h, h2, h3]
  have P3 : ∀ m r, isTagB tag = true → lenP sh b = .ok (m, r) → ¬ (r.length : Int) < m → 32 ≤ deep → ElemPost (n + 1) w0 w g sh deep (tag :: b) = fun e w' => e = gone 4 ∧ Lost w0 w w' g := by
   intro m r h h2 h3 h4; funext e w'; unfold ElemPost elemP; simp [h, h2, h3, h4]
  have P4 : ∀ m r, isTagB tag = true → lenP sh b = .ok (m, r) → ¬ (r.length : Int) < m → ¬ 32 ≤ deep → holdsB tag = false → ElemPost (n + 1) w0 w g sh deep (tag :: b) = fun e w' => ∃ v1 v2 : Value, e = .returned (.agg #[.int .i64 tag, v1, v2]) ∧ (Kd.int .u8).R 5 w' w.heap.size (fun _ => True) v1 (r.take m.toNat) ∧ k28.R 28 w' w.heap.size (fun k => some k ≠ v1.ownBlock) v2 [] ∧ At w0 w w' g sh (r.drop m.toNat) := by
   intro m r h h2 h3 h4 h5; funext e w'; unfold ElemPost elemP; simp [h, h2, h3, h4, h5]
  have P5 : ∀ m r x, isTagB tag = true → lenP sh b = .ok (m, r) → ¬ (r.length : Int) < m → ¬ 32 ≤ deep → holdsB tag = true → kidsP n (deep + 1) (r.take m.toNat) = .err x → ElemPost (n + 1) w0 w g sh deep (tag :: b) = fun e w' => e = gone x ∧ Lost w0 w w' g := by
   intro m r x h h2 h3 h4 h5 h6; funext e w'; unfold ElemPost elemP; simp [h, h2, h3, h4, h5, h6]
  have P6 : ∀ m r l, isTagB tag = true → lenP sh b = .ok (m, r) → ¬ (r.length : Int) < m → ¬ 32 ≤ deep → holdsB tag = true → kidsP n (deep + 1) (r.take m.toNat) = .ok l → ElemPost (n + 1) w0 w g sh deep (tag :: b) = fun e w' => ∃ v1 v2 : Value, e = .returned (.agg #[.int .i64 tag, v1, v2]) ∧ (Kd.int .u8).R 5 w' w.heap.size (fun _ => True) v1 [] ∧ k28.R 28 w' w.heap.size (fun k => some k ≠ v1.ownBlock) v2 l ∧ At w0 w w' g sh (r.drop m.toNat) := by
   intro m r l h h2 h3 h4 h5 h6; funext e w'; unfold ElemPost elemP; simp [h, h2, h3, h4, h5, h6]
  generalize ElemPost (n + 1) w0 w g sh deep (tag :: b) = PP at P0 P1 P2 P3 P4 P5 P6 ⊢
  have Q0 := Lib.hid P0
  have Q1 := Lib.hid P1
  have Q2 := Lib.hid P2
  have Q3 := Lib.hid P3
  have Q4 := Lib.hid P4
  have Q5 := Lib.hid P5
  have Q6 := Lib.hid P6
  clear P0 P1 P2 P3 P4 P5 P6
  have hb' : b.length ≤ 1000000000 := by omega
  have hg1 : RdAt (w.alloc (.cells #[.int .i64 0, .slice none 0 0, .slice none 0 0] 28)) g A (tag :: b).length c sh := hg.alloc hgw _
  have ht := take_go w0 g A c (tag :: b) sh 1 _ hg1 hc (by simp) hb hr (hB.alloc hB.size _) hgB
  rw [List.drop_succ_cons, List.drop_zero] at ht
  have hcell : ∀ W : World, Below w0.heap.size w0 W → ∃ ad, A = some ad ∧ W.cell? ad = some (.int .u8 tag) := fun W hW => cellAt0 hr hW
  have HCELL := Lib.hid hcell
  have hsz : (w.alloc (.cells #[.int .i64 0, .slice none 0 0, .slice none 0 0] 28)).heap.size = w.heap.size + 1 := by simp
  have hnew : (w.alloc (.cells #[.int .i64 0, .slice none 0 0, .slice none 0 0] 28)).heap[w.heap.size]? = some (.cells #[.int .i64 0, .slice none 0 0, .slice none 0 0] 28 (0, 0)) := heap_alloc_new w _
  have HNEW := Lib.hid hnew
  have HSZ := Lib.hid hsz
  clear hcell hg1 hnew hsz hg hr hc hb hbl hn
  go_enter Tryd.func40, Tryd.ntmps40
  go_wp2_with (fail)
  refine ht.mono ?_
  rintro e w1 ⟨A2, rfl, hg1, hc1, hr1, hB1, hG1⟩
  obtain ⟨ad, rfl, q0⟩ := HCELL.out w1 hB1
  have hw1 : w.heap.size + 1 ≤ w1.heap.size := by have := hG1.size; rw [HSZ.out] at this; exact this
  have h4 : w1.heap[w.heap.size]? = some (.cells #[.int .i64 0, .slice none 0 0, .slice none 0 0] 28 (0, 0)) := (hG1.block _ (by rw [HSZ.out]; omega) (by intro e; injection e with e; omega)).trans HNEW.out
  have hG : w.grownBy w1 (some g) := grown_trans (grown_alloc (grown_refl w _) _) hG1
  have H4 := Lib.hid h4
  have HG := Lib.hid hG
  clear HNEW HSZ h4 hG1 hG ht HCELL
  go_wp2_with (fail)
  have hgw1 : g < w1.heap.size := (Array.getElem?_eq_some_iff.1 hg1).1
  have hg2 := hg1.alloc hgw1 (.cells #[.int .i64 tag, .slice none 0 0, .slice none 0 0] 28)
  have hB2 := hB1.alloc hB1.size (.cells #[.int .i64 tag, .slice none 0 0, .slice none 0 0] 28)
  have hG2 := grown_alloc HG.out (.cells #[.int .i64 tag, .slice none 0 0, .slice none 0 0] 28)
  have h42 : (w1.alloc (.cells #[.int .i64 tag, .slice none 0 0, .slice none 0 0] 28)).heap[w.heap.size]? = some (.cells #[.int .i64 0, .slice none 0 0, .slice none 0 0] 28 (0, 0)) := (Below.heap_alloc w1 _ _ (by omega)).trans H4.out
  have h52 : (w1.alloc (.cells #[.int .i64 tag, .slice none 0 0, .slice none 0 0] 28)).heap[w1.heap.size]? = some (.cells #[.int .i64 tag, .slice none 0 0, .slice none 0 0] 28 (0, 0)) := heap_alloc_new w1 _
  have hs2 : w1.heap.size < (w1.alloc (.cells #[.int .i64 tag, .slice none 0 0, .slice none 0 0] 28)).heap.size := by simp
  generalize w1.alloc (.cells #[.int .i64 tag, .slice none 0 0, .slice none 0 0] 28) = w2 at hg2 hB2 hG2 h42 h52 hs2 ⊢
  generalize w1.heap.size = B5 at hw1 h52 hs2 ⊢
  clear hg1 hB1 H4 HG hgw1 q0
  refine (tlv_isTag.calls tag (isTagB tag) _ (isTag_f tag)).mono ?_
  rintro e w3 ⟨rfl, nd, rfl⟩
  have hg3 : RdAt (w2.drewN nd) g A2 b.length (c - 1) sh := hg2
  have hB3 : Below w0.heap.size w0 (w2.drewN nd) := pw_below_drewN hB2 nd
  have hG3 : w.grownBy (w2.drewN nd) (some g) := grown_drewN hG2 nd
  have h43 : (w2.drewN nd).heap[w.heap.size]? = some (.cells #[.int .i64 0, .slice none 0 0, .slice none 0 0] 28 (0, 0)) := h42
  have h53 : (w2.drewN nd).heap[B5]? = some (.cells #[.int .i64 tag, .slice none 0 0, .slice none 0 0] 28 (0, 0)) := h52
  have hs3 : B5 < (w2.drewN nd).heap.size := hs2
  clear hg2 hB2 hG2 h42 h52 hs2
  generalize w2.drewN nd = w3 at hg3 hB3 hG3 h43 h53 hs3 ⊢
  cases hT : isTagB tag with
  | false =>
   go_wp2_with (fail)
   refine (must_no 2 w3).mono ?_
   rintro e w4 ⟨rfl, rfl⟩
   refine ⟨rfl, ?_⟩
   rw [Q0.out hT]
   exact ⟨rfl, hB3, hG3⟩
  | true =>
   have HT := Lib.hid hT
   clear hT
   go_wp2_with (fail)
   refine (must_yes 2 w3).mono ?_
   rintro e w4 ⟨rfl, rfl⟩
   go_wp2_with (fail)
   refine (length_walk w0 g A2 (c - 1) b sh w4 hg3 hc1 hb' hr1 hB3 hgB HV'.out).mono ?_
   intro e w5 hp
   unfold LenPost at hp
   cases hL : lenP sh b with
   | err x =>
    rw [hL] at hp
    obtain ⟨rfl, hB5, hG5⟩ := hp
    refine ⟨rfl, ?_⟩
    rw [Q1.out x HT.out hL]
    exact ⟨rfl, hB5, grown_trans hG3 hG5⟩
   | ok p =>
    obtain ⟨m, r⟩ := p
    rw [hL] at hp
    obtain ⟨rfl, ⟨A3, c3, hg5, hc5, hr5⟩, hB5, hG5⟩ := hp
    have HL := Lib.hid hL
    obtain ⟨m0, m1, hm⟩ := lenP_ok HV'.out hL tag ⟨t0, t1⟩
    have hlr : r.length + 1 ≤ b.length := by
     have := congrArg List.length hm
     have h1 := head_length tag m
     have h2 : 2 ≤ headLen m := by unfold headLen; split; omega; split <;> omega
     rw [List.length_append] at this
     simp only [List.length_cons] at this
     omega
    have hvr : ∀ x ∈ r, 0 ≤ x ∧ x < 256 := fun x hx => by
     have : x ∈ tag :: b := by rw [hm]; exact List.mem_append_right _ hx
     exact HV.out x this
    have HVR := Lib.hid hvr
    clear hL hm hvr
    have h45 : w5.heap[w.heap.size]? = some (.cells #[.int .i64 0, .slice none 0 0, .slice none 0 0] 28 (0, 0)) := (hG5.block _ (by omega) (by intro e; injection e with e; omega)).trans h43
    have h55 : w5.heap[B5]? = some (.cells #[.int .i64 tag, .slice none 0 0, .slice none 0 0] 28 (0, 0)) := (hG5.block _ (by omega) (by intro e; injection e with e; omega)).trans h53
    have hG6 : w.grownBy w5 (some g) := grown_trans hG3 hG5
    have hs5 : B5 < w5.heap.size := by have := hG5.size; omega
    clear h43 h53 hG3 hG5 hs3 hB3 hg3
    by_cases hlt : (r.length : Int) < m
    ·go_wp2_with (fail)
     refine (take_no g A3 c3 r sh m w5 hg5 hlt).mono ?_
     rintro e w6 ⟨rfl, rfl⟩
     refine ⟨rfl, ?_⟩
     rw [Q2.out m r HT.out HL.out hlt]
     exact ⟨rfl, hB5, hG6⟩
    ·obtain ⟨mn, rfl⟩ : ∃ mn : Nat, m = mn := ⟨m.toNat, by omega⟩
     go_wp2_with (fail)
     refine (take_go w0 g A3 c3 r sh mn w5 hg5 hc5 (by omega) (by omega) hr5 hB5 hgB).mono ?_
     rintro e w6 ⟨A4, rfl, hg6, hc6, hr6, hB6, hG7⟩
     have h46 : w6.heap[w.heap.size]? = some (.cells #[.int .i64 0, .slice none 0 0, .slice none 0 0] 28 (0, 0)) := (hG7.block _ (by omega) (by intro e; injection e with e; omega)).trans h45
     have h56 : w6.heap[B5]? = some (.cells #[.int .i64 tag, .slice none 0 0, .slice none 0 0] 28 (0, 0)) := (hG7.block _ (by omega) (by intro e; injection e with e; omega)).trans h55
     have hG8 : w.grownBy w6 (some g) := grown_trans hG6 hG7
     have hs6 : B5 < w6.heap.size := by have := hG7.size; omega
     have HA : At w0 w w6 g sh (r.drop mn) := ⟨⟨A4, _, hg6, hc6, hr6⟩, hB6, hG8⟩
     clear h45 h55 hG6 hG7 hs5 hg5 hg6 hc6 hr6 hG8
     by_cases hd : 32 ≤ deep
     ·have e1 : decide (deep < 32) = false := decide_eq_false (by omega)
      go_wp2_with (fail)
      refine (must_no 4 w6).mono ?_
      rintro e w7 ⟨rfl, rfl⟩
      refine ⟨rfl, ?_⟩
      rw [Q3.out mn r HT.out HL.out hlt hd]
      exact ⟨rfl, hB6, HA.grown⟩
     ·have e1 : decide (deep < 32) = true := decide_eq_true (by omega)
      go_wp2_with (fail)
      refine (must_yes 4 w6).mono ?_
      rintro e w7 ⟨rfl, rfl⟩
      have c50 : w7.cell? ⟨B5, 0, none⟩ = some (.int .i64 tag) := by rw [Lib.cell_of_heap h56]; rfl
      go_wp2_with (fail)
      refine (tlv_holds.calls tag (holdsB tag) _ (holds_f tag t0 t1)).mono ?_
      rintro e w8 ⟨rfl, nd2, rfl⟩
      have h48 : (w7.drewN nd2).heap[w.heap.size]? = some (.cells #[.int .i64 0, .slice none 0 0, .slice none 0 0] 28 (0, 0)) := h46
      have h58 : (w7.drewN nd2).heap[B5]? = some (.cells #[.int .i64 tag, .slice none 0 0, .slice none 0 0] 28 (0, 0)) := h56
      have hs8 : B5 < (w7.drewN nd2).heap.size := hs6
      have HA8 : At w0 w (w7.drewN nd2) g sh (r.drop mn) := ⟨HA.ex, pw_below_drewN HA.below nd2, grown_drewN HA.grown nd2⟩
      clear h46 h56 hs6 HA c50 hB6
      generalize w7.drewN nd2 = w8 at h48 h58 hs8 HA8 ⊢
      have hnot : ∀ (x : Bool) (w : World), (Op.unary .not (.bool x)).run Tryd.prog w = .ok (.bool (!x)) w := fun _ _ => rfl
      have HWW := Lib.hid (show w0.heap.size ≤ w.heap.size from hB.size)
      have hrd : ReadsInt w8 .u8 A3 (r.take mn).length (r.take mn) := ReadsInt_below (reads_take hr5 mn (by omega)) HA8.below
      have NUM := Lib.hid (And.intro hw1 (And.intro hs8 (And.intro hlr (And.intro hlt (And.intro hd (And.intro hn' (And.intro hd0 (And.intro hgw m1))))))))
      cases hH : holdsB tag with
      | false =>
       have HH := Lib.hid hH
       clear hH
       have HRD := Lib.hid hrd
       clear hrd
       have HLN := Lib.hid (show (r.take mn).length = mn by simp; omega)
       have HAP := fun (ops : Array Oper) (o : Oper) (a : Act) (Q : Exit → Act → World → Prop) (rest : List Oper) (s x : Operand) hgd ho hs hx h => append_in (ops := ops) (o := o) (a := a) (Q := Q) (rest := rest) w8 w.heap.size w.heap.size B5 tag A3 c3 (r.take mn) mn s x hgd ho hs hx HRD.out HLN.out (by have := HLN.out; omega) (by omega) h48 h58 h
       have hne : ¬ B5 = w.heap.size := by omega
       clear h48 h58 hw1 hs8 m0 m1 hlr hlt hd e1 hn' t0 t1 hd0 hd1 hgw hgB hb' hc1
       go_wp2_with ((with_reducible refine at_dst 31 ?_); go_must (refine HAP _ _ _ _ _ (.tmp 29) (.tmp 30) rfl rfl rfl rfl ?_); rintro Av cv w9 ⟨ho9, hg9, a0, a1, a2, b0, b1, b2, p0, p1, p2, r0, r1, r2⟩; have HO9 := Aside0.mk ho9; have HG9 := Aside0.mk hg9; clear ho9 hg9)
       obtain ⟨hw1, hs8, hlr, hlt, hd, hn', hd0, hgw, m1⟩ := NUM.out
       have far : ∀ (p : Addr), p.block < w8.heap.size → ∀ k, w8.heap.size ≤ k → k ≠ p.block := fun p hp k hk => by omega
       refine bodyPost_ret (v := .agg #[.int .i64 tag, .slice Av mn cv, .slice none 0 0]) (by simp [results, Tryd.results40, go_sem, b0, b1, b2]) rfl ?_
       rw [Q4.out mn r HT.out HL.out hlt hd HH.out]
       have hA9 := (((((HA8.step HG9.out (fun k h => by cases h) hgw HWW.out).step (grown_set _ ⟨B5, 1, none⟩ (.slice Av mn cv)) (fun k h => by injection h with h; subst h; show w.heap.size ≤ B5; omega) hgw HWW.out).step (grown_set _ ⟨w.heap.size, 0, none⟩ (.int .i64 tag)) (fun k h => by injection h with h; subst h; exact Nat.le_refl _) hgw HWW.out).step (grown_set _ ⟨w.heap.size, 1, none⟩ (.slice Av mn cv)) (fun k h => by injection h with h; subst h; exact Nat.le_refl _) hgw HWW.out).step (grown_set _ ⟨w.heap.size, 2, none⟩ (.slice none 0 0)) (fun k h => by injection h with h; subst h; exact Nat.le_refl _) hgw HWW.out)
       have hO := Kd.R_far (Kd.R_far (Kd.R_far (Kd.R_far HO9.out (far ⟨B5, 1, none⟩ hs8) (.slice Av mn cv)) (far ⟨w.heap.size, 0, none⟩ (by show w.heap.size < _; omega)) (.int .i64 tag)) (far ⟨w.heap.size, 1, none⟩ (by show w.heap.size < _; omega)) (.slice Av mn cv)) (far ⟨w.heap.size, 2, none⟩ (by show w.heap.size < _; omega)) (.slice none 0 0)
       exact ⟨_, _, rfl, Kd.R_mono hO (fun _ _ => trivial), Kd.R_nil _ _ _ _ _, hA9⟩
      | true =>
       have HH := Lib.hid hH
       clear hH
       have hkr : kidsP n (deep + 1) (r.take mn) = bindK [] (kidsP n (deep + 1) (r.take mn)) := by cases kidsP n (deep + 1) (r.take mn) <;> rfl
       have HMT := Lib.hid (show (mn : Int).toNat = mn from Int.toNat_natCast mn)
       generalize hRES : kidsP n (deep + 1) (r.take mn) = RES at hkr
       have HRES := Lib.hid hRES
       clear hRES
       rw [← HRES.out] at hkr
       have HKR := Lib.hid hkr
       have hvt : ∀ x ∈ r.take mn, 0 ≤ x ∧ x < 256 := fun x hx => HVR.out x (List.mem_of_mem_take hx)
       have HVT := Lib.hid hvt
       have hr0 : ReadsInt w0 .u8 A3 (r.take mn).length (r.take mn) := reads_take hr5 mn (by omega)
       have HR0 := Lib.hid hr0
       have hln : (r.take mn).length = mn := by simp; omega
       have hmc : mn ≤ c3 := by omega
       have hng : mn + 2 ≤ n := by omega
       obtain ⟨inn, hinn⟩ : ∃ inn, inn = r.take mn := ⟨_, rfl⟩
       rw [← hinn] at HVT HR0 hln HKR
       have HINN := Lib.hid hinn
       have hmi : mn ≤ 1000000 := by omega
       clear hkr hvt hr0 hinn hrd
       have HLN := Lib.hid hln
       clear hln
       go_wp2
       go_loopw [37] (fun kv wr => LoopRel n w0 w w8 g B5 tag sh deep (r.drop mn) inn wr)
        (fun _ wr => lenV ((wr.cell? ⟨w8.heap.size, 0, none⟩).getD .nilIface))
       case atStart =>
        refine ⟨[], A3, c3, n, inn, .slice none 0 0, ?_, by rw [HLN.out]; exact hmc, HR0, HVT, by rw [HLN.out]; exact hng, Nat.le_refl _, by rw [HLN.out]; simpa using hmi, (Below.heap_alloc w8 _ B5 hs8).trans h58, (Below.heap_alloc w8 _ w.heap.size (by omega)).trans h48, Kd.R_nil _ _ _ _ _, HKR, HA8.step (grown_alloc (grown_refl w8 none) _) (fun k h => by cases h) hgw HWW.out, by simp⟩
        show _ = _
        rw [HLN.out]
        exact heap_alloc_new w8 _
       case round =>
        rename World => wo
        obtain ⟨done, A5, c5, m, rest, v, hrd5, hc5, hrr, hvv, hm1, hm2, hdl, h5, h4, hO, hK, hA, hgs⟩ := hrel
        obtain ⟨Ak, ck, rfl⟩ := Kd.R_slice hO.out
        obtain ⟨a0, a1, a2, b0, b1, b2, p0, p1, p2, r0, r1, r2⟩ := Two.of h4.out h5.out
        have g0 := hrd5.c0
        have g1 := hrd5.f0 0
        have hne : ¬ B5 = w.heap.size := by omega
        obtain ⟨m, rfl⟩ : ∃ m', m = m' + 1 := ⟨m - 1, by omega⟩
        have NUM2 := Lib.hid (And.intro hm1 (And.intro hm2 (And.intro hdl (And.intro hgs (And.intro hc5 (And.intro hw1 (And.intro hs8 (And.intro hd0 hd))))))))
        cases rest with
        | nil =>
         have hfin : kidsP n (deep + 1) inn = .ok done := by rw [hK.out]; simp [kidsP, bindK]
         have HFIN := Lib.hid hfin
         clear hfin hK hrr hvv hm1 hm2 hdl hgs hc5
         clear h48 h58 hw1 hs8 m0 m1 hlr hlt hd e1 hn' t0 t1 hd0 hd1 hgw hgB hb' hc1 hmc hng hmi
         go_wp2
         obtain ⟨hm1, hm2, hdl, hgs, hc5, hw1, hs8, hd0, hd⟩ := NUM2.out
         obtain ⟨_, _, hlr, hlt, _, hn', _, hgw, m1⟩ := NUM.out
         have far : ∀ (p : Addr), p.block < w8.heap.size → ∀ k, w8.heap.size + 1 ≤ k → k ≠ p.block := fun p hp k hk => by omega
         refine bodyPost_ret (v := .agg #[.int .i64 tag, .slice none 0 0, .slice Ak done.length ck]) (by simp [results, Tryd.results40, go_sem, b0, b1, b2]) rfl ?_
         rw [Q6.out mn r done HT.out HL.out hlt hd HH.out (by rw [HMT.out, ← HINN.out]; exact HFIN.out)]
         have hA9 := (((hA.step (grown_set _ ⟨w.heap.size, 0, none⟩ (.int .i64 tag)) (fun k h => by injection h with h; subst h; exact Nat.le_refl _) hgw HWW.out).step (grown_set _ ⟨w.heap.size, 1, none⟩ (.slice none 0 0)) (fun k h => by injection h with h; subst h; exact Nat.le_refl _) hgw HWW.out).step (grown_set _ ⟨w.heap.size, 2, none⟩ (.slice Ak done.length ck)) (fun k h => by injection h with h; subst h; exact Nat.le_refl _) hgw HWW.out)
         have hO9 := Kd.R_far (Kd.R_far (Kd.R_far hO.out (far ⟨w.heap.size, 0, none⟩ (by show w.heap.size < _; omega)) (.int .i64 tag)) (far ⟨w.heap.size, 1, none⟩ (by show w.heap.size < _; omega)) (.slice none 0 0)) (far ⟨w.heap.size, 2, none⟩ (by show w.heap.size < _; omega)) (.slice Ak done.length ck)
         exact ⟨_, _, rfl, Kd.R_nil _ _ _ _ _, Kd.R_lower (Kd.R_mono hO9 (fun _ _ => by simp [Value.ownBlock])) (by omega), hA9⟩
        | cons x rest =>
         have hxl : (x :: rest).length = rest.length + 1 := rfl
         have hcall := ih m (by omega) w0 w8.heap.size A5 c5 (x :: rest) 2 (deep + 1) wo.drew (by omega) (by omega) (by omega) hrd5 hc5 (by omega) hrr.out hA.below.drew (by have := HWW.out; omega) hvv.out
         have hpos : decide ((0 : Int) < ((x :: rest).length : Int)) = true := decide_eq_true (by omega)
         have HWD := Lib.hid (wrap64_in (deep + 1) (by omega))
         cases he : elemP m (deep + 1) 2 (x :: rest) with
         | err y =>
          have hp : ElemPost m w0 wo.drew w8.heap.size 2 (deep + 1) (x :: rest) = fun e w' => e = gone y ∧ Lost w0 wo.drew w' w8.heap.size := by
           funext e w'; unfold ElemPost; rw [he]
          rw [hp] at hcall
          have hfin : kidsP n (deep + 1) inn = .err y := by rw [hK.out, kidsP, he]; rfl
          have HFIN := Lib.hid hfin
          have HCALL := Lib.hid hcall
          clear hfin hK hrr hvv hm1 hm2 hdl hgs hc5 hp hcall he
          clear h48 h58 hw1 hs8 m0 m1 hlr hlt hd e1 hn' t0 t1 hd0 hd1 hgw hgB hb' hc1 hmc hng hmi
          go_wp2
          refine start_ (n := 10) (S := fun w' => w'.cell? ⟨B5, 2, none⟩ = some (.slice Ak done.length ck)) (ds := [9]) #[false, false, false, false, false, false, false, false, false, false] (by kernel_rfl) rfl rfl a2 (fun hHeld => ?_)
          refine pure_ (i := 0) (N := some 43) (v := ?_) (a' := ?_) #[true, false, false, false, false, false, false, false, false, false] rfl rfl (by kernel_rfl) (fun _ _ _ h => h) (Or.inl ⟨by rfl, ?_⟩) ?_ ?_
          rotate_left
          ·intro w'
           go_simp
           with_reducible rfl
          rotate_left
          ·simp only [Act.put, List.setIfInBounds_toArray, List.set_cons_zero, List.set_cons_succ, i64_w, i32_w]
           rfl
          refine pure_ (i := 2) (N := some 45) (v := ?_) (a' := ?_) #[true, false, true, false, false, false, false, false, false, false] rfl rfl (by kernel_rfl) (fun _ _ _ h => h) (Or.inl ⟨by rfl, ?_⟩) ?_ ?_
          rotate_left
          ·intro w'
           go_simp
           with_reducible rfl
          rotate_left
          ·simp only [Act.put, List.setIfInBounds_toArray, List.set_cons_zero, List.set_cons_succ, i64_w, i32_w]
           rfl
          refine pure_ (i := 3) (N := some 46) (v := ?_) (a' := ?_) #[true, false, true, true, false, false, false, false, false, false] rfl rfl (by kernel_rfl) (fun _ _ _ h => h) (Or.inl ⟨by rfl, ?_⟩) ?_ ?_
          rotate_left
          ·intro w'
           go_simp
           with_reducible rfl
          rotate_left
          ·simp only [Act.put, List.setIfInBounds_toArray, List.set_cons_zero, List.set_cons_succ, i64_w, i32_w]
           rfl
          refine pure_ (i := 4) (N := some 47) (v := ?_) (a' := ?_) #[true, false, true, true, true, false, false, false, false, false] rfl rfl (by kernel_rfl) (fun _ _ _ h => h) (Or.inl ⟨by rfl, ?_⟩) ?_ ?_
          rotate_left
          ·intro w'
           go_simp
           with_reducible rfl
          rotate_left
          ·simp only [Act.put, List.setIfInBounds_toArray, List.set_cons_zero, List.set_cons_succ, i64_w, i32_w]
           rfl
          refine take_ (i := 1) (N := some 44) (v := ?_) (a' := ?_) #[true, true, true, true, true, false, false, false, false, false] rfl rfl (by kernel_rfl) (fun _ _ _ h => h) (Or.inl ⟨by rfl, ?_⟩) hHeld ?_ ?_
          rotate_left
          ·rintro w' s0
           go_simp
           with_reducible rfl
          rotate_left
          ·simp only [Act.put, List.setIfInBounds_toArray, List.set_cons_zero, List.set_cons_succ, i64_w, i32_w]
           rfl
          refine one_ (i := 5) (N := some 48) #[true, true, true, true, true, true, false, false, false, false] rfl rfl (by kernel_rfl) (by decide) (fun K hK => ?_)
          refine dies_ Tryd.func40 (by kernel_rfl) rfl #[.pointer (some ⟨w8.heap.size, 0, none⟩), .int .i64 (deep + 1)] (by rfl) rfl (by first | rfl | (simp [Act.eval]; exact HWD.out)) ?_
          refine HCALL.out.mono ?_
          rintro e w9 ⟨rfl, hB9, hG9⟩
          refine ⟨_, rfl, ?_⟩
          obtain ⟨_, _, hlr, hlt, _, hn', _, hgw, m1⟩ := NUM.out
          obtain ⟨hm1, hm2, hdl, hgs, hc5, hw1, hs8, hd0, hd⟩ := NUM2.out
          refine ⟨rfl, ?_⟩
          rw [Q5.out mn r y HT.out HL.out hlt hd HH.out (by rw [HMT.out, ← HINN.out]; exact HFIN.out)]
          exact ⟨rfl, hB9, grown_step hA.grown (grown_undrew hG9) (fun k h => by injection h with h; omega)⟩
         | ok p =>
          obtain ⟨t, r6⟩ := p
          have hp : ElemPost m w0 wo.drew w8.heap.size 2 (deep + 1) (x :: rest) = fun e w' => ∃ v1 v2 : Value, e = .returned (.agg #[.int .i64 t.f0, v1, v2]) ∧ (Kd.int .u8).R 5 w' wo.drew.heap.size (fun _ => True) v1 t.f1 ∧ k28.R 28 w' wo.drew.heap.size (fun k => some k ≠ v1.ownBlock) v2 t.f2 ∧ At w0 wo.drew w' w8.heap.size 2 r6 := by
           funext e w'; unfold ElemPost; rw [he]
          rw [hp] at hcall
          have HCALL := Lib.hid hcall
          have HAFTER := Lib.hid (fun w9 v1 v2 a b c => after_elem hrd5 h5.out h4.out hO.out hK.out he hA hgs hvv.out hm1 hm2 hdl hw1 hs8 hgw HWW.out w9 v1 v2 a b c)
          clear hK hrr hvv hm1 hm2 hdl hgs hc5 hp hcall he
          clear h48 h58 hw1 hs8 m0 m1 hlr hlt hd e1 hn' t0 t1 hd0 hd1 hgw hgB hb' hc1 hmc hng hmi
          go_wp2
          refine start_ (n := 10) (S := fun w' => w'.cell? ⟨B5, 2, none⟩ = some (.slice Ak done.length ck)) (ds := [9]) #[false, false, false, false, false, false, false, false, false, false] (by kernel_rfl) rfl rfl a2 (fun hHeld => ?_)
          refine pure_ (i := 0) (N := some 43) (v := ?_) (a' := ?_) #[true, false, false, false, false, false, false, false, false, false] rfl rfl (by kernel_rfl) (fun _ _ _ h => h) (Or.inl ⟨by rfl, ?_⟩) ?_ ?_
          rotate_left
          ·intro w'
           go_simp
           with_reducible rfl
          rotate_left
          ·simp only [Act.put, List.setIfInBounds_toArray, List.set_cons_zero, List.set_cons_succ, i64_w, i32_w]
           rfl
          refine pure_ (i := 2) (N := some 45) (v := ?_) (a' := ?_) #[true, false, true, false, false, false, false, false, false, false] rfl rfl (by kernel_rfl) (fun _ _ _ h => h) (Or.inl ⟨by rfl, ?_⟩) ?_ ?_
          rotate_left
          ·intro w'
           go_simp
           with_reducible rfl
          rotate_left
          ·simp only [Act.put, List.setIfInBounds_toArray, List.set_cons_zero, List.set_cons_succ, i64_w, i32_w]
           rfl
          refine pure_ (i := 3) (N := some 46) (v := ?_) (a' := ?_) #[true, false, true, true, false, false, false, false, false, false] rfl rfl (by kernel_rfl) (fun _ _ _ h => h) (Or.inl ⟨by rfl, ?_⟩) ?_ ?_
          rotate_left
          ·intro w'
           go_simp
           with_reducible rfl
          rotate_left
          ·simp only [Act.put, List.setIfInBounds_toArray, List.set_cons_zero, List.set_cons_succ, i64_w, i32_w]
           rfl
          refine pure_ (i := 4) (N := some 47) (v := ?_) (a' := ?_) #[true, false, true, true, true, false, false, false, false, false] rfl rfl (by kernel_rfl) (fun _ _ _ h => h) (Or.inl ⟨by rfl, ?_⟩) ?_ ?_
          rotate_left
          ·intro w'
           go_simp
           with_reducible rfl
          rotate_left
          ·simp only [Act.put, List.setIfInBounds_toArray, List.set_cons_zero, List.set_cons_succ, i64_w, i32_w]
           rfl
          refine take_ (i := 1) (N := some 44) (v := ?_) (a' := ?_) #[true, true, true, true, true, false, false, false, false, false] rfl rfl (by kernel_rfl) (fun _ _ _ h => h) (Or.inl ⟨by rfl, ?_⟩) hHeld ?_ ?_
          rotate_left
          ·rintro w' s0
           go_simp
           with_reducible rfl
          rotate_left
          ·simp only [Act.put, List.setIfInBounds_toArray, List.set_cons_zero, List.set_cons_succ, i64_w, i32_w]
           rfl
          refine one_ (i := 5) (N := some 48) #[true, true, true, true, true, true, false, false, false, false] rfl rfl (by kernel_rfl) (by decide) (fun K hK => ?_)
          refine goes_ Tryd.func40 (by kernel_rfl) rfl #[.pointer (some ⟨w8.heap.size, 0, none⟩), .int .i64 (deep + 1)] (by rfl) rfl rfl (by first | rfl | (simp [Act.eval]; exact HWD.out)) ?_
          refine HCALL.out.mono ?_
          rintro e w9 ⟨v1, v2, rfl, hv1, hv2, hA9⟩
          refine ⟨_, rfl, ?_⟩
          have HF := Lib.hid (HAFTER.out w9 v1 v2 hv1 hv2 hA9)
          clear hv1 hv2 hA9
          refine hK.out _ _ HF.out.1 (fun hHeld => ?_)
          clear hK K
          refine norm_ (a' := ?_) ?_ ?_
          rotate_left
          ·show Act.put _ (some 48) _ = _
           simp only [Act.put, List.setIfInBounds_toArray, List.set_cons_zero, List.set_cons_succ, i64_w, i32_w]
           rfl
          refine one_ (i := 6) (N := some 49) #[true, true, true, true, true, true, true, false, false, false] rfl rfl (by kernel_rfl) (by decide) (fun K hK => ?_)
          refine event_step (by rfl) (v := .slice (some ⟨w9.heap.size, 0, none⟩) 1 1) (w1 := w9.alloc (.cells #[.int .i64 t.f0, v1, v2] 28)) (by go_simp; try rfl) ?_
          refine hK.out _ _ ((World.cell?_alloc_lt _ _ _ (World.block_lt_of_cell? w9 _ HF.out.1)).trans HF.out.1) (fun hHeld => ?_)
          clear hK K
          refine norm_ (a' := ?_) ?_ ?_
          rotate_left
          ·show Act.put _ (some 49) _ = _
           simp only [Act.put, List.setIfInBounds_toArray, List.set_cons_zero, List.set_cons_succ, i64_w, i32_w]
           rfl
          refine one_ (i := 7) (N := some 50) #[true, true, true, true, true, true, true, true, false, false] rfl rfl (by kernel_rfl) (by decide) (fun K hK => ?_)
          refine Kd.R_append_step k28 (w0 := w9) (W := w9) (w8.heap.size + 1) (by rfl) (.tmp 44) (.tmp 49) 26 28 (.agg #[.int .i64 0, .slice none 0 0, .slice none 0 0]) 56 rfl Tryd.underlying26 infoNode rfl (by decide) (by omega) (.slice Ak done.length ck) done t [.int .i64 t.f0, v1, v2] (fun k => w8.heap.size + 1 ≤ k) (fun k => wo.heap.size ≤ k) (by rfl) (by rfl) HF.out.2.1 HF.out.2.2.1 HF.out.2.2.2.1 HF.out.2.2.2.2.1 (Below.refl _ _) HF.out.2.2.2.2.2.1 HF.out.2.2.2.2.2.2.1 ?_
          intro v3 w10 ho10 hb10 hg10 hat10
          obtain ⟨A9, c9, rfl⟩ := Kd.R_slice ho10
          have HG := Lib.hid (HF.out.2.2.2.2.2.2.2 w10 A9 c9 ho10 hg10)
          clear ho10 hb10 hg10 hat10
          refine hK.out _ _ HG.out.1 (fun hHeld => ?_)
          clear hK K
          refine norm_ (a' := ?_) ?_ ?_
          rotate_left
          ·show Act.put _ (some 50) _ = _
           simp only [Act.put, List.setIfInBounds_toArray, List.set_cons_zero, List.set_cons_succ, i64_w, i32_w]
           rfl
          refine pure_ (i := 8) (N := some 51) (v := ?_) (a' := ?_) #[true, true, true, true, true, true, true, true, true, false] rfl rfl (by kernel_rfl) (fun _ _ _ h => h) (Or.inl ⟨by rfl, ?_⟩) ?_ ?_
          rotate_left
          ·intro w'
           go_simp
           with_reducible rfl
          rotate_left
          ·simp only [Act.put, List.setIfInBounds_toArray, List.set_cons_zero, List.set_cons_succ, i64_w, i32_w]
           rfl
          refine last_ (i := 9) (N := none) #[true, true, true, true, true, true, true, true, true, true] rfl rfl (by kernel_rfl) (by decide) (fun K hK => ?_)
          have hz1 := HG.out.1
          have hz2 := HG.out.2.1
          refine skip_step (by rfl) (w1 := w10.setCell ⟨B5, 2, none⟩ (.slice A9 (done ++ [t]).length c9)) (by go_simp; try rfl) ?_
          refine hK.out _ _ ?_
          clear hK K
          refine done_ (by kernel_rfl) ?_
          exact ⟨⟨_, _, _, _, _, _, _, _, _, _, _, _, _, _, _, HG.out.2.2.1, rfl⟩, HG.out.2.2.2⟩

theorem element_any : ∀ n, ElemC n := by
 intro n
 induction n using Nat.strongRecOn with
 | ind n ih =>
  cases n with
  | zero => intro w0 g A c b sh deep w hn; omega
  | succ n => exact element_step n (fun m hm => ih m (by omega))

end Go.Proofs.YtmbgjhkemlliaaaDoor.Tlv
end

section
set_option linter.unusedVariables false
set_option linter.unusedSimpArgs false
namespace Go.Proofs.YtmbgjhkemlliaaaDoor.Tlv
open Go.RowKit Go.Proofs.YtmbgjhkemlliaaaDoorW.PrintWords Go.Proofs.YtmbgjhkemlliaaaDoorW.PrintLast Go.Proofs.YtmbgjhkemlliaaaDoorW.PrintMore Go.Proofs.YtmbgjhkemlliaaaDoor.PT

def readP (b : List Int) : Res T := if 20000 < b.length then .err 5 else match elemP (b.length + 1) 0 3 b with
 | .err e => .err e
 | .ok (t, r) => if r = [] then .ok t else .err 2

theorem as_yes (v : Value) (w : World) : (Instr.typeAssert (.iface 32 v) 20 32 true).run Tryd.prog w = .ok (.tuple #[v, .bool true]) w := by kernel_rfl
theorem as_no (w : World) : (Instr.typeAssert .nilIface 20 32 true).run Tryd.prog w = .ok (.tuple #[.int .i64 0, .bool false]) w := by kernel_rfl
attribute [local go_sem] as_yes as_no
set_option maxHeartbeats 1000000 in
theorem catch_panicking (B2 B3 : Nat) (x : Int) (w : World) (c0 : (w.cell? ⟨B2, 0, none⟩).isSome = true) (c1 : (w.cell? ⟨B2, 1, none⟩).isSome = true) (c2 : (w.cell? ⟨B2, 2, none⟩).isSome = true) (c3 : (w.cell? ⟨B3, 0, none⟩).isSome = true)
 (f0 : w.frozen? ⟨B2, 0, none⟩ = false) (f1 : w.frozen? ⟨B2, 1, none⟩ = false) (f2 : w.frozen? ⟨B2, 2, none⟩ = false) (f3 : w.frozen? ⟨B3, 0, none⟩ = false) (hne : ¬ B2 = B3) :
 CallsD Tryd.prog 39 #[.pointer (some ⟨B2, 0, none⟩), .pointer (some ⟨B3, 0, none⟩)] (.panicking [{ v := .iface 32 (.int .i64 x), recovered := false }]) w fun e u' w' =>
  e = .returned (.tuple #[]) ∧ u' = .panicking [{ v := .iface 32 (.int .i64 x), recovered := true }] ∧ w' = (((w.setCell ⟨B2, 0, none⟩ (.int .i64 0)).setCell ⟨B2, 1, none⟩ (.slice none 0 0)).setCell ⟨B2, 2, none⟩ (.slice none 0 0)).setCell ⟨B3, 0, none⟩ (.int .i64 x) := by
 refine callsD_of_wpS Tryd.func39 rfl fun c₀ cs hu => ?_
 apply wpS_seq
 apply wpS_region
 simp [wpOpsS, go_sem, recoverD, hu, Tryd.ntmps39, Exit.thenS]
 apply wpS_seq
 apply wpS_region
 simp [wpOpsS, go_sem, Exit.thenS]
 refine wpS_cond (t := true) (by simp [Act.eval, Array.replicate]) ?_
 simp only [if_true]
 refine wpS_of_wp ?_
 obtain ⟨x0, e0⟩ := Option.isSome_iff_exists.1 c0
 obtain ⟨x1, e1⟩ := Option.isSome_iff_exists.1 c1
 obtain ⟨x2, e2⟩ := Option.isSome_iff_exists.1 c2
 obtain ⟨x3, e3⟩ := Option.isSome_iff_exists.1 c3
 clear c0 c1 c2 c3
 go_wp2
 cases c₀
 simp_all [bodyPostS, results, Tryd.results39]

set_option maxHeartbeats 1000000 in
theorem catch_idle (B2 B3 : Nat) (w : World) :
 CallsD Tryd.prog 39 #[.pointer (some ⟨B2, 0, none⟩), .pointer (some ⟨B3, 0, none⟩)] .returning w fun e u' w' => e = .returned (.tuple #[]) ∧ u' = .returning ∧ w' = w := by
 refine callsD_of_wpS Tryd.func39 rfl fun c₀ cs hu => ?_
 apply wpS_seq
 apply wpS_region
 simp [wpOpsS, go_sem, recoverD, hu, Tryd.ntmps39, Exit.thenS]
 apply wpS_seq
 apply wpS_region
 simp [wpOpsS, go_sem, Exit.thenS]
 refine wpS_cond (t := false) (by simp [Act.eval, Array.replicate]) ?_
 simp only [Bool.false_eq_true, if_false]
 refine wpS_of_wp (wp_skip ?_)
 cases c₀
 simp_all [bodyPostS, results, Tryd.results39]

def ReadPost (w : World) (l : List Int) (e : Ending) (w' : World) : Prop :=
 match readP l with
 | .err x => e = .returned (.tuple #[.agg #[.int .i64 0, .slice none 0 0, .slice none 0 0], .int .i64 x]) ∧ Below w.heap.size w w'
 | .ok t => ∃ v1 v2 : Value, e = .returned (.tuple #[.agg #[.int .i64 t.f0, v1, v2], .int .i64 0]) ∧ (Kd.int .u8).R 5 w' w.heap.size (fun _ => True) v1 t.f1 ∧ k28.R 28 w' w.heap.size (fun k => some k ≠ v1.ownBlock) v2 t.f2 ∧ Below w.heap.size w w'

set_option maxHeartbeats 4000000 in
set_option maxRecDepth 100000 in
/-- The door, behind a panic. -/
theorem door (x : Int) (w w4 : World) (hB : Below w.heap.size w w4) (tmps : Array Value) (n0 n1 n2 n3 : Value) (h2 : w4.heap[w.heap.size]? = some (.cells #[n0, n1, n2] 28 (0, 0))) (h3 : w4.heap[w.heap.size + 1]? = some (.cells #[n3] 32 (0, 0))) (ht2 : tmps[2]? = some (.pointer (some ⟨w.heap.size, 0, none⟩))) (ht3 : tmps[3]? = some (.pointer (some ⟨w.heap.size + 1, 0, none⟩))) :
 bodyPostD Tryd.prog Tryd.f24 (fun e w' => e = .returned (.tuple #[.agg #[.int .i64 0, .slice none 0 0, .slice none 0 0], .int .i64 x]) ∧ Below w.heap.size w w') (Exit.panic [{ v := .iface 32 (.int .i64 x), recovered := false }])
  { tmps := tmps, defers := [{ target := .fn (.func 39) #[.pointer (some ⟨w.heap.size, 0, none⟩), .pointer (some ⟨w.heap.size + 1, 0, none⟩)], args := #[] }] } w4 := by
 refine leaves_cons (f := 39) (args := #[.pointer (some ⟨w.heap.size, 0, none⟩), .pointer (some ⟨w.heap.size + 1, 0, none⟩)]) (by simp) (by simp [go_sem]) ?_
 have a0 := Lib.cell_of_heap h2 0
 have a1 := Lib.cell_of_heap h2 1
 have a2 := Lib.cell_of_heap h2 2
 have a3 := Lib.cell_of_heap h3 0
 refine (catch_panicking w.heap.size (w.heap.size + 1) x w4 (by rw [a0]; rfl) (by rw [a1]; rfl) (by rw [a2]; rfl) (by rw [a3]; rfl) (Lib.frozen_of_heap h2 0) (Lib.frozen_of_heap h2 1) (Lib.frozen_of_heap h2 2) (Lib.frozen_of_heap h3 0) (by omega)).mono ?_
 rintro e u' w'' ⟨rfl, rfl, rfl⟩
 have hBB : Below w.heap.size w ((((w4.setCell ⟨w.heap.size, 0, none⟩ (.int .i64 0)).setCell ⟨w.heap.size, 1, none⟩ (.slice none 0 0)).setCell ⟨w.heap.size, 2, none⟩ (.slice none 0 0)).setCell ⟨w.heap.size + 1, 0, none⟩ (.int .i64 x)) :=
  Below.setCell (Below.setCell (Below.setCell (Below.setCell hB (p := ⟨w.heap.size, 0, none⟩) (Nat.le_refl _) _) (p := ⟨w.heap.size, 1, none⟩) (Nat.le_refl _) _) (p := ⟨w.heap.size, 2, none⟩) (Nat.le_refl _) _) (p := ⟨w.heap.size + 1, 0, none⟩) (Nat.le_succ _) _
 simp [Leaves, settle, results, Tryd.results24, go_sem, a0, a1, a2, a3, ht2, ht3]
 exact hBB

set_option maxHeartbeats 4000000 in
set_option maxRecDepth 100000 in
/-- The door, behind a return. -/
theorem door_ret (B2 B3 : Nat) (w4 : World) (P : Ending → World → Prop) (tmps : Array Value) (n0 n1 n2 n3 : Value) (h2 : w4.heap[B2]? = some (.cells #[n0, n1, n2] 28 (0, 0))) (h3 : w4.heap[B3]? = some (.cells #[n3] 32 (0, 0))) (ht2 : tmps[2]? = some (.pointer (some ⟨B2, 0, none⟩))) (ht3 : tmps[3]? = some (.pointer (some ⟨B3, 0, none⟩)))
 (hP : P (.returned (.tuple #[.agg #[n0, n1, n2], n3])) w4) (x : Value) :
 bodyPostD Tryd.prog Tryd.f24 P Exit.ret
  { tmps := tmps, defers := [{ target := .fn (.func 39) #[.pointer (some ⟨B2, 0, none⟩), .pointer (some ⟨B3, 0, none⟩)], args := #[] }] } w4 := by
 have a0 := Lib.cell_of_heap h2 0
 have a1 := Lib.cell_of_heap h2 1
 have a2 := Lib.cell_of_heap h2 2
 have a3 := Lib.cell_of_heap h3 0
 refine leaves_cons (f := 39) (args := #[.pointer (some ⟨B2, 0, none⟩), .pointer (some ⟨B3, 0, none⟩)]) (by simp) (by simp [go_sem]) ?_
 refine (catch_idle B2 B3 w4).mono ?_
 rintro e u' w'' ⟨rfl, rfl, rfl⟩
 simp [Leaves, settle, results, Tryd.results24, go_sem, a0, a1, a2, a3, ht2, ht3]
 exact hP

theorem again {w W : World} {n0 n1 n2 z : Value} (x : Value) (K2 : W.heap[w.heap.size]? = some (.cells #[n0, n1, n2] 28 (0, 0))) (K3 : W.heap[w.heap.size + 1]? = some (.cells #[z] 32 (0, 0))) (KB : Below w.heap.size w W) :
 ((((W.setCell ⟨w.heap.size, 0, none⟩ n0).setCell ⟨w.heap.size, 1, none⟩ n1).setCell ⟨w.heap.size, 2, none⟩ n2).setCell ⟨w.heap.size + 1, 0, none⟩ x).heap[w.heap.size]? = some (.cells #[n0, n1, n2] 28 (0, 0)) ∧
 ((((W.setCell ⟨w.heap.size, 0, none⟩ n0).setCell ⟨w.heap.size, 1, none⟩ n1).setCell ⟨w.heap.size, 2, none⟩ n2).setCell ⟨w.heap.size + 1, 0, none⟩ x).heap[w.heap.size + 1]? = some (.cells #[x] 32 (0, 0)) ∧
 Below w.heap.size w ((((W.setCell ⟨w.heap.size, 0, none⟩ n0).setCell ⟨w.heap.size, 1, none⟩ n1).setCell ⟨w.heap.size, 2, none⟩ n2).setCell ⟨w.heap.size + 1, 0, none⟩ x) ∧
 (∀ k, w.heap.size + 1 < k → ((((W.setCell ⟨w.heap.size, 0, none⟩ n0).setCell ⟨w.heap.size, 1, none⟩ n1).setCell ⟨w.heap.size, 2, none⟩ n2).setCell ⟨w.heap.size + 1, 0, none⟩ x).heap[k]? = W.heap[k]?) := by
 have h3 : (((W.setCell ⟨w.heap.size, 0, none⟩ n0).setCell ⟨w.heap.size, 1, none⟩ n1).setCell ⟨w.heap.size, 2, none⟩ n2).heap[w.heap.size + 1]? = some (.cells #[z] 32 (0, 0)) :=
  (heap_setCell_other _ _ _ _ (by show w.heap.size + 1 ≠ w.heap.size; omega)).trans ((heap_setCell_other _ _ _ _ (by show w.heap.size + 1 ≠ w.heap.size; omega)).trans ((heap_setCell_other _ _ _ _ (by show w.heap.size + 1 ≠ w.heap.size; omega)).trans K3))
 refine ⟨(heap_setCell_other _ _ _ _ (by show w.heap.size ≠ w.heap.size + 1; omega)).trans (heap_setCell_same _ _ 2 _ _ _ (heap_setCell_same _ _ 1 _ _ _ (heap_setCell_same _ _ 0 _ _ _ K2))), heap_setCell_same _ _ 0 _ _ _ h3,
  Below.setCell (Below.setCell (Below.setCell (Below.setCell KB (p := ⟨w.heap.size, 0, none⟩) (Nat.le_refl _) _) (p := ⟨w.heap.size, 1, none⟩) (Nat.le_refl _) _) (p := ⟨w.heap.size, 2, none⟩) (Nat.le_refl _) _) (p := ⟨w.heap.size + 1, 0, none⟩) (Nat.le_succ _) _, fun k hk => ?_⟩
 exact (heap_setCell_other _ _ _ _ (by show k ≠ w.heap.size + 1; omega)).trans ((heap_setCell_other _ _ _ _ (by show k ≠ w.heap.size; omega)).trans ((heap_setCell_other _ _ _ _ (by show k ≠ w.heap.size; omega)).trans (heap_setCell_other _ _ _ _ (by show k ≠ w.heap.size; omega))))

set_option maxHeartbeats 4000000 in
set_option maxRecDepth 100000 in
theorem read_walk (A : Option Addr) (c : Nat) (l : List Int) (w : World) (hr : ReadsInt w .u8 A l.length l) (hc : l.length ≤ c) (hv : ∀ x ∈ l, 0 ≤ x ∧ x < 256) (hl : l.length ≤ 1000000000) :
 Calls Tryd.prog 24 #[.slice A l.length c] w (ReadPost w l) := by
 have hmf : ∀ (fn : Fn) (first cap : Array Value) (w : World), (Instr.makeFunc fn first cap).run Tryd.prog w = .ok (.func fn first cap) w := fun _ _ _ _ => rfl
 by_cases h0 : 20000 < l.length
 ·have hp : ReadPost w l = fun e w' => e = .returned (.tuple #[.agg #[.int .i64 0, .slice none 0 0, .slice none 0 0], .int .i64 5]) ∧ Below w.heap.size w w' := by
   funext e w'; unfold ReadPost readP; rw [if_pos h0]
  rw [hp]
  have hd : decide ((20000 : Int) < (l.length : Int)) = true := decide_eq_true (by omega)
  go_enter_defers Tryd.func24, Tryd.ntmps24
  go_wp2
  have hB : Below w.heap.size w ((w.alloc (.cells #[.int .i64 0, .slice none 0 0, .slice none 0 0] 28)).alloc (.cells #[.int .i64 5] 32)) := ((Below.refl _ _).alloc (Nat.le_refl _) _).alloc (by simp) _
  simp [bodyPostD, Leaves, settle, results, Tryd.results24, go_sem]
  exact hB
 ·have hd : decide ((20000 : Int) < (l.length : Int)) = false := decide_eq_false (by omega)
  go_enter_defers Tryd.func24, Tryd.ntmps24
  go_wp2_with (fail)
  have g3 : RdAt (((w.alloc (.cells #[.int .i64 0, .slice none 0 0, .slice none 0 0] 28)).alloc (.cells #[.int .i64 0] 32)).alloc (.cells #[.slice A l.length c, .int .i64 3] 71)) (w.heap.size + 1 + 1) A l.length c 3 := by
   have := heap_alloc_new ((w.alloc (.cells #[.int .i64 0, .slice none 0 0, .slice none 0 0] 28)).alloc (.cells #[.int .i64 0] 32)) (.cells #[.slice A l.length c, .int .i64 3] 71)
   unfold RdAt
   simpa using this
  have h2 : (((w.alloc (.cells #[.int .i64 0, .slice none 0 0, .slice none 0 0] 28)).alloc (.cells #[.int .i64 0] 32)).alloc (.cells #[.slice A l.length c, .int .i64 3] 71)).heap[w.heap.size]? = some (.cells #[.int .i64 0, .slice none 0 0, .slice none 0 0] 28 (0, 0)) :=
   (Below.heap_alloc _ _ _ (by simp; omega)).trans ((Below.heap_alloc _ _ _ (by simp)).trans (heap_alloc_new w _))
  have h3 : (((w.alloc (.cells #[.int .i64 0, .slice none 0 0, .slice none 0 0] 28)).alloc (.cells #[.int .i64 0] 32)).alloc (.cells #[.slice A l.length c, .int .i64 3] 71)).heap[w.heap.size + 1]? = some (.cells #[.int .i64 0] 32 (0, 0)) :=
   (Below.heap_alloc _ _ _ (by simp)).trans (by have := heap_alloc_new (w.alloc (.cells #[.int .i64 0, .slice none 0 0, .slice none 0 0] 28)) (.cells #[.int .i64 0] 32); simpa using this)
  have hB : Below w.heap.size w (((w.alloc (.cells #[.int .i64 0, .slice none 0 0, .slice none 0 0] 28)).alloc (.cells #[.int .i64 0] 32)).alloc (.cells #[.slice A l.length c, .int .i64 3] 71)) := (((Below.refl _ _).alloc (Nat.le_refl _) _).alloc (by simp) _).alloc (by simp; omega) _
  generalize ((w.alloc (.cells #[.int .i64 0, .slice none 0 0, .slice none 0 0] 28)).alloc (.cells #[.int .i64 0] 32)).alloc (.cells #[.slice A l.length c, .int .i64 3] 71) = W3 at g3 h2 h3 hB ⊢
  have hs3 : w.heap.size + 1 + 1 < W3.heap.size := (Array.getElem?_eq_some_iff.1 g3).1
  refine (element_any (l.length + 1) w (w.heap.size + 1 + 1) A c l 3 0 W3 (Nat.le_refl _) (by omega) (by omega) g3 hc hl hr hB (by omega) hv).mono ?_
  intro e w4 hp
  unfold ElemPost at hp
  cases he : elemP (l.length + 1) 0 3 l with
  | err x =>
   rw [he] at hp
   obtain ⟨rfl, hB4, hG4⟩ := hp
   have hp : ReadPost w l = fun e w' => e = .returned (.tuple #[.agg #[.int .i64 0, .slice none 0 0, .slice none 0 0], .int .i64 x]) ∧ Below w.heap.size w w' := by
    funext e w'; unfold ReadPost readP; rw [if_neg h0, he]
   rw [hp]
   have h24 := (hG4.block w.heap.size (by omega) (by intro e; injection e with e; omega)).trans h2
   have h34 := (hG4.block (w.heap.size + 1) (by omega) (by intro e; injection e with e; omega)).trans h3
   exact door x w w4 hB4 _ _ _ _ _ h24 h34 rfl rfl
  | ok p =>
   obtain ⟨t, r⟩ := p
   rw [he] at hp
   obtain ⟨v1, v2, rfl, hv1, hv2, hA4⟩ := hp
   obtain ⟨A1, c1, rfl⟩ := Kd.R_slice hv1
   obtain ⟨A2, c2, rfl⟩ := Kd.R_slice hv2
   obtain ⟨Ar, cr, g4, hcr, _⟩ := hA4.ex
   have h24 := (hA4.grown.block w.heap.size (by omega) (by intro e; injection e with e; omega)).trans h2
   have h34 := (hA4.grown.block (w.heap.size + 1) (by omega) (by intro e; injection e with e; omega)).trans h3
   have a0 := Lib.cell_of_heap h24 0
   have a1 := Lib.cell_of_heap h24 1
   have a2 := Lib.cell_of_heap h24 2
   have a3 := Lib.cell_of_heap h34 0
   have f0 := Lib.frozen_of_heap h24 0
   have f1 := Lib.frozen_of_heap h24 1
   have f2 := Lib.frozen_of_heap h24 2
   have f3 := Lib.frozen_of_heap h34 0
   have g0 := g4.c0
   have hs4 : W3.heap.size ≤ w4.heap.size := hA4.grown.size
   -- the element laid into the result's variable
   have k2 : (((w4.setCell ⟨w.heap.size, 0, none⟩ (.int .i64 t.f0)).setCell ⟨w.heap.size, 1, none⟩ (.slice A1 t.f1.length c1)).setCell ⟨w.heap.size, 2, none⟩ (.slice A2 t.f2.length c2)).heap[w.heap.size]? = some (.cells #[.int .i64 t.f0, .slice A1 t.f1.length c1, .slice A2 t.f2.length c2] 28 (0, 0)) :=
    heap_setCell_same _ _ 2 _ _ _ (heap_setCell_same _ _ 1 _ _ _ (heap_setCell_same _ _ 0 _ _ _ h24))
   have k3 : (((w4.setCell ⟨w.heap.size, 0, none⟩ (.int .i64 t.f0)).setCell ⟨w.heap.size, 1, none⟩ (.slice A1 t.f1.length c1)).setCell ⟨w.heap.size, 2, none⟩ (.slice A2 t.f2.length c2)).heap[w.heap.size + 1]? = some (.cells #[.int .i64 0] 32 (0, 0)) :=
    (heap_setCell_other _ _ _ _ (by show w.heap.size + 1 ≠ w.heap.size; omega)).trans ((heap_setCell_other _ _ _ _ (by show w.heap.size + 1 ≠ w.heap.size; omega)).trans ((heap_setCell_other _ _ _ _ (by show w.heap.size + 1 ≠ w.heap.size; omega)).trans h34))
   have kB : Below w.heap.size w (((w4.setCell ⟨w.heap.size, 0, none⟩ (.int .i64 t.f0)).setCell ⟨w.heap.size, 1, none⟩ (.slice A1 t.f1.length c1)).setCell ⟨w.heap.size, 2, none⟩ (.slice A2 t.f2.length c2)) :=
    Below.setCell (Below.setCell (Below.setCell hA4.below (p := ⟨w.heap.size, 0, none⟩) (Nat.le_refl _) _) (p := ⟨w.heap.size, 1, none⟩) (Nat.le_refl _) _) (p := ⟨w.heap.size, 2, none⟩) (Nat.le_refl _) _
   have far : ∀ (p : Addr), p.block < W3.heap.size → ∀ k, W3.heap.size ≤ k → k ≠ p.block := fun p hp k hk => by omega
   have hv1' := Kd.R_far (Kd.R_far (Kd.R_far (Kd.R_mono (Kd.R_bound hv1) (fun k h => h.2.1)) (far ⟨w.heap.size, 0, none⟩ (by show w.heap.size < _; omega)) (.int .i64 t.f0)) (far ⟨w.heap.size, 1, none⟩ (by show w.heap.size < _; omega)) (.slice A1 t.f1.length c1)) (far ⟨w.heap.size, 2, none⟩ (by show w.heap.size < _; omega)) (.slice A2 t.f2.length c2)
   have hv2' := Kd.R_far (Kd.R_far (Kd.R_far (Kd.R_mono (Kd.R_bound hv2) (fun k h => And.intro h.1 h.2.1)) (fun k h => far ⟨w.heap.size, 0, none⟩ (by show w.heap.size < _; omega) k h.2) (.int .i64 t.f0)) (fun k h => far ⟨w.heap.size, 1, none⟩ (by show w.heap.size < _; omega) k h.2) (.slice A1 t.f1.length c1)) (fun k h => far ⟨w.heap.size, 2, none⟩ (by show w.heap.size < _; omega) k h.2) (.slice A2 t.f2.length c2)
   have K2 := Lib.hid k2
   have K3 := Lib.hid k3
   have KB := Lib.hid kB
   have V1 := Lib.hid hv1'
   have V2 := Lib.hid hv2'
   have HE := Lib.hid he
   have H0 := Lib.hid h0
   have HS := Lib.hid hs3
   clear k2 k3 kB hv1' hv2' hv1 hv2 hA4 h24 h34 h2 h3 g3 hB far g4 he h0 hr hv hs4 hs3
   by_cases hn : r = []
   ·have e1 : ((r.length : Int) == 0) = true := by rw [hn]; rfl
    have HN := Lib.hid hn
    clear hn
    go_wp2_with (fail)
    refine (must_yes 2 _).mono ?_
    rintro e w5 ⟨rfl, rfl⟩
    go_wp2
    obtain ⟨z2, z3, zB, zk⟩ := again (.int .i64 0) K2.out K3.out KB.out
    have hp : ReadPost w l = fun e w' => ∃ v1 v2 : Value, e = .returned (.tuple #[.agg #[.int .i64 t.f0, v1, v2], .int .i64 0]) ∧ (Kd.int .u8).R 5 w' w.heap.size (fun _ => True) v1 t.f1 ∧ k28.R 28 w' w.heap.size (fun k => some k ≠ v1.ownBlock) v2 t.f2 ∧ Below w.heap.size w w' := by
     funext e w'; unfold ReadPost readP; rw [if_neg H0.out, HE.out]; simp [HN.out]
    rw [hp]
    have hs3 := HS.out
    refine door_ret _ _ _ _ _ _ _ _ _ z2 z3 rfl rfl ⟨_, _, rfl, ?_, ?_, zB⟩ .nilIface
    ·exact Kd.R_lower (Kd.R_mono (Kd.R_move V1.out (fun k hk => zk k (by omega))) (fun _ _ => trivial)) (by omega)
    ·exact Kd.R_lower (Kd.R_mono (Kd.R_move V2.out (fun k hk => zk k (by have := hk.2; omega))) (fun k hk => hk.1)) (by omega)
   ·have e1 : ((r.length : Int) == 0) = false := by
     rw [beq_eq_false_iff_ne]
     intro h
     exact hn (List.length_eq_zero_iff.1 (by omega))
    have HN := Lib.hid hn
    clear hn
    go_wp2_with (fail)
    refine (must_no 2 _).mono ?_
    rintro e w5 ⟨rfl, rfl⟩
    have hp : ReadPost w l = fun e w' => e = .returned (.tuple #[.agg #[.int .i64 0, .slice none 0 0, .slice none 0 0], .int .i64 2]) ∧ Below w.heap.size w w' := by
     funext e w'; unfold ReadPost readP; rw [if_neg H0.out, HE.out]; simp [HN.out]
    rw [hp]
    exact door 2 w _ KB.out _ _ _ _ _ K2.out K3.out rfl rfl

end Go.Proofs.YtmbgjhkemlliaaaDoor.Tlv
end

section
set_option linter.unusedVariables false
set_option linter.unusedSimpArgs false
namespace Go.Proofs.YtmbgjhkemlliaaaDoor.Tlv
open Go.RowKit Go.Proofs.YtmbgjhkemlliaaaDoorW.PrintWords Go.Proofs.YtmbgjhkemlliaaaDoorW.PrintLast Go.Proofs.YtmbgjhkemlliaaaDoorW.PrintMore Go.Proofs.YtmbgjhkemlliaaaDoor.PT

theorem rightL_all : ∀ (l : List T), rightL l = true ↔ ∀ t, t ∈ l → rightT t = true
 | [] => by simp [rightL]
 | t :: l => by
  have ih := rightL_all l
  simp [rightL, ih]
def NodeAt (w : World) (n : T) (A1 : Option Addr) (c1 : Nat) (A2 : Option Addr) (c2 : Nat) : Prop := (Kd.int .u8).C w A1 n.f1.length n.f1 ∧ n.f1.length ≤ c1 ∧ k28.C w A2 n.f2.length n.f2 ∧ n.f2.length ≤ c2
theorem NodeAt.below {w w' : World} {n : T} {A1 : Option Addr} {c1 : Nat} {A2 : Option Addr} {c2 : Nat} (h : NodeAt w n A1 c1 A2 c2) (hb : Below w.heap.size w w') : NodeAt w' n A1 c1 A2 c2 := ⟨Kd.C_below h.1 hb, h.2.1, Kd.C_below h.2.2.1 hb, h.2.2.2⟩
def RightC (n : T) : Prop := ∀ (A1 : Option Addr) (c1 : Nat) (A2 : Option Addr) (c2 : Nat) (w : World), NodeAt w n A1 c1 A2 c2 →
 Calls Tryd.prog 48 #[.agg #[.int .i64 n.f0, .slice A1 n.f1.length c1, .slice A2 n.f2.length c2]] w fun e w' => e = .returned (.bool (rightT n)) ∧ Below w.heap.size w w'

theorem rd_mem {l : List T} {k : Nat} (h : k < l.length) : rd_T28 l (k : Int) = l[k] := by simp [rd_T28, List.getD_eq_getElem?_getD, List.getElem?_eq_getElem h]
set_option maxHeartbeats 4000000 in
set_option maxRecDepth 100000 in
theorem right_step (n : T) (ih : ∀ t, t ∈ n.f2 → RightC t) : RightC n := by
 obtain ⟨tag, body, kids⟩ := n
 intro A1 c1 A2 c2 w hn
 obtain ⟨hr1, hc1, hr2, hc2⟩ := hn
 dsimp only at hr1 hc1 hr2 hc2 ⊢ ih
 have hnot : ∀ (x : Bool) (w : World), (Op.unary .not (.bool x)).run Tryd.prog w = .ok (.bool (!x)) w := fun _ _ => rfl
 have hmax := Kd.C_max hr2
 have hbox : (w.alloc (.cells #[.int .i64 tag, .slice A1 body.length c1, .slice A2 kids.length c2] 28)).heap[w.heap.size]? = some (.cells #[.int .i64 tag, .slice A1 body.length c1, .slice A2 kids.length c2] 28 (0, 0)) := heap_alloc_new w _
 by_cases hT : isTagB tag = true
 ·obtain ⟨t0, t1⟩ := isTag_range hT
  have HT := Lib.hid (show tlv_isTag.f tag = some true by rw [isTag_f, hT])
  have HH := Lib.hid (holds_f tag t0 t1)
  have hB1 : Below w.heap.size w (w.alloc (.cells #[.int .i64 tag, .slice A1 body.length c1, .slice A2 kids.length c2] 28)) := (Below.refl _ _).alloc (Nat.le_refl _) _
  by_cases hgood : (holdsB tag = true ∧ body = []) ∨ (holdsB tag = false ∧ kids = [])
  ·have hres : rightT ⟨tag, body, kids⟩ = rightL kids := by
    rw [rightT, hT]
    rcases hgood with ⟨h1, h2⟩ | ⟨h1, h2⟩
    ·rw [if_pos h1, h2]; simp
    ·rw [if_neg (by rw [h1]; simp), h2]; simp
   rw [hres]
   clear hres hT
   have HR := Lib.hid hr2
   have hz : ∀ wq : World, Below w.heap.size w wq → Kd.C k28 wq A2 kids.length kids := fun wq hq => Kd.C_below hr2 hq
   have HZ := Lib.hid hz
   clear hz hr1 hr2 hc1 hc2
   have hg : (holdsB tag = true ∧ (body.length : Int) = 0) ∨ (holdsB tag = false ∧ (kids.length : Int) = 0) := by
    rcases hgood with ⟨h1, h2⟩ | ⟨h1, h2⟩
    ·exact .inl ⟨h1, by rw [h2]; rfl⟩
    ·exact .inr ⟨h1, by rw [h2]; rfl⟩
   clear hgood
   rcases hg with ⟨hH, hl⟩ | ⟨hH, hl⟩
   all_goals
    rw [hH] at HH
    have hlen : (0 : Int) = 0 := rfl
    go_enter Tryd.func48, Tryd.ntmps48
    go_wp2_with (fail)
    refine (tlv_isTag.calls tag true _ HT.out).mono ?_
    rintro e w2 ⟨rfl, nd, rfl⟩
    have hB2 := pw_below_drewN hB1 nd
    have hb2 : ((w.alloc (.cells #[.int .i64 tag, .slice A1 body.length c1, .slice A2 kids.length c2] 28)).drewN nd).heap[w.heap.size]? = some (.cells #[.int .i64 tag, .slice A1 body.length c1, .slice A2 kids.length c2] 28 (0, 0)) := hbox
    generalize (w.alloc (.cells #[.int .i64 tag, .slice A1 body.length c1, .slice A2 kids.length c2] 28)).drewN nd = w2 at hB2 hb2 ⊢
    have a0 := Lib.cell_of_heap hb2 0
    go_wp2_with (fail)
    refine (tlv_holds.calls tag _ _ HH.out).mono ?_
    rintro e w3 ⟨rfl, nd2, rfl⟩
    have hB3 := pw_below_drewN hB2 nd2
    have hb3 : (w2.drewN nd2).heap[w.heap.size]? = some (.cells #[.int .i64 tag, .slice A1 body.length c1, .slice A2 kids.length c2] 28 (0, 0)) := hb2
    clear a0 hb2 hB2
    generalize w2.drewN nd2 = w3 at hB3 hb3 ⊢
    have a0 := Lib.cell_of_heap hb3 0
    have a1 := Lib.cell_of_heap hb3 1
    have a2 := Lib.cell_of_heap hb3 2
    go_wp2_with (fail)
    refine (tlv_holds.calls tag _ _ HH.out).mono ?_
    rintro e w4 ⟨rfl, nd3, rfl⟩
    have hB4 := pw_below_drewN hB3 nd3
    have hb4 : (w3.drewN nd3).heap[w.heap.size]? = some (.cells #[.int .i64 tag, .slice A1 body.length c1, .slice A2 kids.length c2] 28 (0, 0)) := hb3
    clear a0 a1 a2 hb3 hB3
    generalize w3.drewN nd3 = w4 at hB4 hb4 ⊢
    have a0 := Lib.cell_of_heap hb4 0
    have a1 := Lib.cell_of_heap hb4 1
    have a2 := Lib.cell_of_heap hb4 2
    go_wp2
    go_loopw [35] (fun iv wr => ∃ k : Nat, k ≤ kids.length ∧ iv = .int .i64 k ∧ Hid (∀ t, t ∈ kids.take k → rightT t = true) ∧ Below w.heap.size w wr) (fun iv _ => kids.length - (intOf iv).toNat)
    case atStart => exact ⟨0, by omega, rfl, fun t ht => by simp at ht, hB4⟩
    case round =>
     obtain ⟨k, hk, rfl, hall, hb⟩ := hrel
     by_cases hlt : k < kids.length
     ·first
      | (exfalso; omega)
      | (
       obtain ⟨ad, D1, d1, D2, d2, eA, x0, x1, x2, l1, i1, l2, i2⟩ := at_T28 (HZ.out wr hb) (k : Int) (by omega) (by omega)
       rw [rd_mem hlt] at x0 x1 x2 l1 i1 l2 i2
       simp only [Int.toNat_natCast] at x0 x1 x2
       cases eA
       have ihk := Lib.hid (ih (kids[k]'hlt) (List.getElem_mem hlt))
       have hst : rightT (kids[k]'hlt) = true → ∀ t, t ∈ kids.take (k + 1) → rightT t = true := by
        intro hq t ht
        rw [List.take_add_one, List.mem_append, List.getElem?_eq_getElem hlt] at ht
        rcases ht with ht | ht
        ·exact hall.out t ht
        ·rw [Option.toList_some, List.mem_singleton] at ht
         rw [ht]; exact hq
       have hfl : rightT (kids[k]'hlt) = false → rightL kids = false := by
        intro hq
        cases hz : rightL kids with
        | false => rfl
        | true => have := (rightL_all kids).1 hz _ (List.getElem_mem hlt); rw [hq] at this; cases this
       have HST := Lib.hid hst
       have HFL := Lib.hid hfl
       clear hst hfl hall
       have I1 := Lib.hid i1
       have I2 := Lib.hid i2
       have L1 := Lib.hid l1
       have L2 := Lib.hid l2
       clear i1 i2 l1 l2
       have hk0 : (0 ≤ (k : Int)) = True := eq_true (by omega)
       have hk1 : ((k : Int) < (kids.length : Int)) = True := eq_true (by omega)
       have HLT := Lib.hid hlt
       have HW := Lib.hid hb.size
       generalize kids[k] = kd at ihk HST HFL I1 I2 L1 L2 x0 x1 x2
       have hB5 : Below w.heap.size w (wr.alloc (.cells #[.int .i64 kd.f0, .slice D1 kd.f1.length d1, .slice D2 kd.f2.length d2] 28)) := hb.alloc HW.out _
       have HB5 := Lib.hid hB5
       clear hB5
       go_wp2_with (fail)
       refine (ihk.out D1 d1 D2 d2 _ (NodeAt.below (w := wr) ⟨I1.out, L1.out, I2.out, L2.out⟩ ((Below.refl _ _).alloc (Nat.le_refl _) _))).mono ?_
       rintro e w5 ⟨rfl, hB6⟩
       have hB7 : Below w.heap.size w w5 := HB5.out.trans (hB6.mono (by simp; have := HW.out; omega))
       clear hB6 HB5
       cases hq : rightT kd with
       | false =>
        have hf := HFL.out hq
        have HF := Lib.hid hf
        clear hf hq
        go_wp2
        go_ret
        rw [HF.out]
        exact ⟨rfl, hB7⟩
       | true =>
        have hf := HST.out hq
        have HF := Lib.hid hf
        clear hf hq
        have hwk : wrap64 ((k : Int) + 1) = ((k + 1 : Nat) : Int) := by unfold wrap64; omega
        go_wp2
        go_round
        case rel => exact ⟨k + 1, by have := HLT.out; omega, by simp [hwk], HF.out, hB7⟩
        case measure => simp [intOf, hwk]; omega)
     ·obtain rfl : k = kids.length := by omega
      have hfin : rightL kids = true := (rightL_all kids).2 (by have := hall.out; rwa [List.take_length] at this)
      have HF := Lib.hid hfin
      clear hfin hall
      go_wp2
      go_ret
      rw [HF.out]
      exact ⟨rfl, hb⟩
  ·have hres : rightT ⟨tag, body, kids⟩ = false := by
    rw [rightT, hT]
    cases hH : holdsB tag with
    | true =>
     rw [if_pos rfl]
     have : body ≠ [] := fun e => hgood (.inl ⟨hH, e⟩)
     simp [this]
    | false =>
     rw [if_neg (by simp)]
     have : kids ≠ [] := fun e => hgood (.inr ⟨hH, e⟩)
     simp [this]
   rw [hres]
   clear hres hT
   have hg : (holdsB tag = true ∧ 0 < (body.length : Int)) ∨ (holdsB tag = false ∧ 0 < (kids.length : Int)) := by
    cases hH : holdsB tag with
    | true =>
     have : body ≠ [] := fun e => hgood (.inl ⟨hH, e⟩)
     exact .inl ⟨rfl, by have := List.length_pos_iff.2 this; omega⟩
    | false =>
     have : kids ≠ [] := fun e => hgood (.inr ⟨hH, e⟩)
     exact .inr ⟨rfl, by have := List.length_pos_iff.2 this; omega⟩
   clear hgood hr1 hr2 hc1 hc2
   rcases hg with ⟨hH, hl⟩ | ⟨hH, hl⟩
   ·rw [hH] at HH
    have hl' : decide (0 < (body.length : Int)) = true := decide_eq_true hl
    have hl2 : (0 < (body.length : Int)) = True := eq_true hl
    have hl3 : (0 < body.length) = True := eq_true (by omega)
    have hl4 : (body = []) = False := eq_false (by intro e; rw [e] at hl; simp at hl)
    clear hl
    go_enter Tryd.func48, Tryd.ntmps48
    go_wp2_with (fail)
    refine (tlv_isTag.calls tag true _ HT.out).mono ?_
    rintro e w2 ⟨rfl, nd, rfl⟩
    have hB2 := pw_below_drewN hB1 nd
    have hb2 : ((w.alloc (.cells #[.int .i64 tag, .slice A1 body.length c1, .slice A2 kids.length c2] 28)).drewN nd).heap[w.heap.size]? = some (.cells #[.int .i64 tag, .slice A1 body.length c1, .slice A2 kids.length c2] 28 (0, 0)) := hbox
    generalize (w.alloc (.cells #[.int .i64 tag, .slice A1 body.length c1, .slice A2 kids.length c2] 28)).drewN nd = w2 at hB2 hb2 ⊢
    have a0 := Lib.cell_of_heap hb2 0
    go_wp2_with (fail)
    refine (tlv_holds.calls tag _ _ HH.out).mono ?_
    rintro e w3 ⟨rfl, nd2, rfl⟩
    have hB3 := pw_below_drewN hB2 nd2
    have hb3 : (w2.drewN nd2).heap[w.heap.size]? = some (.cells #[.int .i64 tag, .slice A1 body.length c1, .slice A2 kids.length c2] 28 (0, 0)) := hb2
    clear a0 hb2 hB2
    generalize w2.drewN nd2 = w3 at hB3 hb3 ⊢
    have a0 := Lib.cell_of_heap hb3 0
    have a1 := Lib.cell_of_heap hb3 1
    have a2 := Lib.cell_of_heap hb3 2
    go_wp2
    go_ret
    exact ⟨rfl, hB3⟩
   ·rw [hH] at HH
    have hl' : decide (0 < (kids.length : Int)) = true := decide_eq_true hl
    have hl2 : (0 < (kids.length : Int)) = True := eq_true hl
    have hl3 : (0 < kids.length) = True := eq_true (by omega)
    have hl4 : (kids = []) = False := eq_false (by intro e; rw [e] at hl; simp at hl)
    clear hl
    go_enter Tryd.func48, Tryd.ntmps48
    go_wp2_with (fail)
    refine (tlv_isTag.calls tag true _ HT.out).mono ?_
    rintro e w2 ⟨rfl, nd, rfl⟩
    have hB2 := pw_below_drewN hB1 nd
    have hb2 : ((w.alloc (.cells #[.int .i64 tag, .slice A1 body.length c1, .slice A2 kids.length c2] 28)).drewN nd).heap[w.heap.size]? = some (.cells #[.int .i64 tag, .slice A1 body.length c1, .slice A2 kids.length c2] 28 (0, 0)) := hbox
    generalize (w.alloc (.cells #[.int .i64 tag, .slice A1 body.length c1, .slice A2 kids.length c2] 28)).drewN nd = w2 at hB2 hb2 ⊢
    have a0 := Lib.cell_of_heap hb2 0
    go_wp2_with (fail)
    refine (tlv_holds.calls tag _ _ HH.out).mono ?_
    rintro e w3 ⟨rfl, nd2, rfl⟩
    have hB3 := pw_below_drewN hB2 nd2
    have hb3 : (w2.drewN nd2).heap[w.heap.size]? = some (.cells #[.int .i64 tag, .slice A1 body.length c1, .slice A2 kids.length c2] 28 (0, 0)) := hb2
    clear a0 hb2 hB2
    generalize w2.drewN nd2 = w3 at hB3 hb3 ⊢
    have a0 := Lib.cell_of_heap hb3 0
    have a1 := Lib.cell_of_heap hb3 1
    have a2 := Lib.cell_of_heap hb3 2
    go_wp2_with (fail)
    refine (tlv_holds.calls tag _ _ HH.out).mono ?_
    rintro e w4 ⟨rfl, nd3, rfl⟩
    have hB4 := pw_below_drewN hB3 nd3
    have hb4 : (w3.drewN nd3).heap[w.heap.size]? = some (.cells #[.int .i64 tag, .slice A1 body.length c1, .slice A2 kids.length c2] 28 (0, 0)) := hb3
    clear a0 a1 a2 hb3 hB3
    generalize w3.drewN nd3 = w4 at hB4 hb4 ⊢
    have a0 := Lib.cell_of_heap hb4 0
    have a1 := Lib.cell_of_heap hb4 1
    have a2 := Lib.cell_of_heap hb4 2
    go_wp2
    go_ret
    exact ⟨rfl, hB4⟩
 ·have hT' : isTagB tag = false := by simpa using hT
  have hres : rightT ⟨tag, body, kids⟩ = false := by rw [rightT, hT']; rfl
  rw [hres]
  have HT := Lib.hid (show tlv_isTag.f tag = some false by rw [isTag_f, hT'])
  clear hT hT' hres hr1 hr2 hc1 hc2 hbox hmax
  go_enter Tryd.func48, Tryd.ntmps48
  go_wp2_with (fail)
  refine (tlv_isTag.calls tag false _ HT.out).mono ?_
  rintro e w3 ⟨rfl, nd, rfl⟩
  go_wp2
  go_ret
  exact ⟨rfl, pw_below_drewN ((Below.refl _ _).alloc (Nat.le_refl _) _) _⟩

theorem right_le : ∀ (m : Nat) (n : T), SizeOf.sizeOf n ≤ m → RightC n
 | 0, ⟨a, b, c⟩, h => by simp at h
 | m + 1, ⟨a, b, c⟩, h => right_step _ fun t ht => right_le m t (by
  have := List.sizeOf_lt_of_mem ht
  simp at h this
  omega)
theorem right_any (n : T) : RightC n := right_le _ n (Nat.le_refl _)

end Go.Proofs.YtmbgjhkemlliaaaDoor.Tlv
end

section
namespace Go.Proofs.YtmbgjhkemlliaaaDoor.PT
open Go.RowKit Go.Proofs.YtmbgjhkemlliaaaDoorW.PrintWords Go.Proofs.YtmbgjhkemlliaaaDoorW.PrintLast Go.Proofs.YtmbgjhkemlliaaaDoorW.PrintMore
attribute [local go_sem] max2_int min2_int max_two min_two max_three min_three max_four min_four   -- for this text's walks alone
set_option linter.unusedVariables false
set_option linter.unusedSimpArgs false

def tlv_head.f (a0 : Int) (a1 : Int) : Option (List Int) := if a1 < 128 then (some (([(a0) % 256, (a1) % 256] : List Int))) else (if a1 < 256 then (some (([(a0) % 256, 129, (a1) % 256] : List Int))) else (some (([(a0) % 256, 130, (a1 / 256) % 256, (a1) % 256] : List Int))))
set_option maxHeartbeats 8000000 in
set_option maxRecDepth 100000 in
theorem tlv_head.calls (a0 : Int) (a1 : Int) (r : List Int) (w : World) (h : tlv_head.f a0 a1 = some r) :
 Calls Tryd.prog 64 #[.int .i64 a0, .int .i64 a1] w fun e w' => ∃ v0_ : Value, e = .returned (v0_) ∧ Kd.R (Kd.int .u8) 5 w' w.heap.size (fun _ => True) v0_ r ∧ Below w.heap.size w w' := by
 have HB := Aside0.mk (Below.refl w.heap.size w)
 have H : (if a1 < 128 then (some (([(a0) % 256, (a1) % 256] : List Int))) else (if a1 < 256 then (some (([(a0) % 256, 129, (a1) % 256] : List Int))) else (some (([(a0) % 256, 130, (a1 / 256) % 256, (a1) % 256] : List Int))))) = some r := h
 clear h
 by_cases c3 : a1 < 128
 ·rw [if_pos c3] at H
  have c3b0 : decide (a1 < 128) = true := decide_eq_true c3
  clear c3
  obtain ⟨y176, hy176⟩ : ∃ y_ : List Int, y_ = (([(a0) % 256, (a1) % 256] : List Int)) := ⟨_, rfl⟩
  replace H : (some y176) = some r := by first | (rw [hy176]; with_reducible exact H) | (have H2_ := (Option.bind_some _ _).symm.trans H; rw [hy176]; with_reducible exact H2_) | (have H2_ := (Option.bind_some _ _).symm.trans H; with_reducible exact H2_) | with_reducible exact H | (rw [hy176]; exact H) | exact H
  have Ny176 := Aside0.mk hy176
  clear hy176
  obtain rfl := Option.some.inj H
  go_enter Tryd.func64, Tryd.ntmps64
  go_wp2_with (first | ((with_reducible refine gate_dst (N := 12) rfl ?_); refine Kd.R_lit (Kd.int .u8) _ 5 ?hg (N := 12) ?hd (xs := ([(a0) % 256, (a1) % 256] : List Int)) (inner := [.int .u8 ((a0) % 256), .int .u8 ((a1) % 256)]) (ok := fun _ => True) (okp := fun _ => True) ?hr ?hp (fun _ hk => hk) trivial (Below.refl _ _) (Nat.le_refl _) (by simp) ?_; (case hd => rfl); (case hg => rfl); (case hr => first | (go_simp; done) | (go_simp; rfl)); (case hp => exact (Reps.one (show Kd.M (Kd.int .u8) _ _ _ ((a0) % 256) [.int .u8 ((a0) % 256)] from rfl) (Reps.one (show Kd.M (Kd.int .u8) _ _ _ ((a1) % 256) [.int .u8 ((a1) % 256)] from rfl) (Reps.none _ _)))); intro v177 w4 ho5 hb hg_ hnew_; clear hg_ hnew_; (first | rw [← Ny176.out] at ho5 | (simp only [Int.reduceToNat] at ho5; rw [← Ny176.out] at ho5)); have n0_ := Aside0.mk (Kd.R_lower ho5 (below_size (by repeat (first | (with_reducible first | exact HB.out | apply below_alloc | apply pw_below_drewN | apply below_drew1) | exact HB.out)))); have n1_ := Aside0.mk (below_step (by repeat (first | (with_reducible first | exact HB.out | apply below_alloc | apply pw_below_drewN | apply below_drew1) | exact HB.out)) hb); clear HB; have HO178 := n0_; have HB := n1_; clear n0_ n1_; clear hb ho5))
  go_ret
  exact ⟨_, by first | rfl | (simp [errW_none, errW_some] <;> rfl) | (simp [*, errW_none, errW_some] <;> rfl), by (with_reducible repeat (first | apply Kd.R_alloc | apply Kd.R_drewN | apply Kd.R_drew)); exact HO178.out, by repeat (first | (with_reducible first | exact HB.out | apply below_alloc | apply pw_below_drewN | apply below_drew1) | exact HB.out)⟩
 ·rw [if_neg c3] at H
  have c3b0 : decide (a1 < 128) = false := decide_eq_false c3
  clear c3
  by_cases c6 : a1 < 256
  ·rw [if_pos c6] at H
   have c6b0 : decide (a1 < 256) = true := decide_eq_true c6
   clear c6
   obtain ⟨y179, hy179⟩ : ∃ y_ : List Int, y_ = (([(a0) % 256, 129, (a1) % 256] : List Int)) := ⟨_, rfl⟩
   replace H : (some y179) = some r := by first | (rw [hy179]; with_reducible exact H) | (have H2_ := (Option.bind_some _ _).symm.trans H; rw [hy179]; with_reducible exact H2_) | (have H2_ := (Option.bind_some _ _).symm.trans H; with_reducible exact H2_) | with_reducible exact H | (rw [hy179]; exact H) | exact H
   have Ny179 := Aside0.mk hy179
   clear hy179
   obtain rfl := Option.some.inj H
   go_enter Tryd.func64, Tryd.ntmps64
   go_wp2_with (first | ((with_reducible refine gate_dst (N := 20) rfl ?_); refine Kd.R_lit (Kd.int .u8) _ 5 ?hg (N := 20) ?hd (xs := ([(a0) % 256, 129, (a1) % 256] : List Int)) (inner := [.int .u8 ((a0) % 256), .int .u8 129, .int .u8 ((a1) % 256)]) (ok := fun _ => True) (okp := fun _ => True) ?hr ?hp (fun _ hk => hk) trivial (Below.refl _ _) (Nat.le_refl _) (by simp) ?_; (case hd => rfl); (case hg => rfl); (case hr => first | (go_simp; done) | (go_simp; rfl)); (case hp => exact (Reps.one (show Kd.M (Kd.int .u8) _ _ _ ((a0) % 256) [.int .u8 ((a0) % 256)] from rfl) (Reps.one (show Kd.M (Kd.int .u8) _ _ _ 129 [.int .u8 129] from rfl) (Reps.one (show Kd.M (Kd.int .u8) _ _ _ ((a1) % 256) [.int .u8 ((a1) % 256)] from rfl) (Reps.none _ _))))); intro v180 w7 ho8 hb hg_ hnew_; clear hg_ hnew_; (first | rw [← Ny179.out] at ho8 | (simp only [Int.reduceToNat] at ho8; rw [← Ny179.out] at ho8)); have n0_ := Aside0.mk (Kd.R_lower ho8 (below_size (by repeat (first | (with_reducible first | exact HB.out | apply below_alloc | apply pw_below_drewN | apply below_drew1) | exact HB.out)))); have n1_ := Aside0.mk (below_step (by repeat (first | (with_reducible first | exact HB.out | apply below_alloc | apply pw_below_drewN | apply below_drew1) | exact HB.out)) hb); clear HB; have HO181 := n0_; have HB := n1_; clear n0_ n1_; clear hb ho8))
   go_ret
   exact ⟨_, by first | rfl | (simp [errW_none, errW_some] <;> rfl) | (simp [*, errW_none, errW_some] <;> rfl), by (with_reducible repeat (first | apply Kd.R_alloc | apply Kd.R_drewN | apply Kd.R_drew)); exact HO181.out, by repeat (first | (with_reducible first | exact HB.out | apply below_alloc | apply pw_below_drewN | apply below_drew1) | exact HB.out)⟩
  ·rw [if_neg c6] at H
   have c6b0 : decide (a1 < 256) = false := decide_eq_false c6
   clear c6
   obtain ⟨y182, hy182⟩ : ∃ y_ : List Int, y_ = (([(a0) % 256, 130, (a1 / 256) % 256, (a1) % 256] : List Int)) := ⟨_, rfl⟩
   replace H : (some y182) = some r := by first | (rw [hy182]; with_reducible exact H) | (have H2_ := (Option.bind_some _ _).symm.trans H; rw [hy182]; with_reducible exact H2_) | (have H2_ := (Option.bind_some _ _).symm.trans H; with_reducible exact H2_) | with_reducible exact H | (rw [hy182]; exact H) | exact H
   have Ny182 := Aside0.mk hy182
   clear hy182
   obtain rfl := Option.some.inj H
   go_enter Tryd.func64, Tryd.ntmps64
   go_wp2_with (first | ((with_reducible refine gate_dst (N := 28) rfl ?_); refine Kd.R_lit (Kd.int .u8) _ 5 ?hg (N := 28) ?hd (xs := ([(a0) % 256, 130, (a1 / 256) % 256, (a1) % 256] : List Int)) (inner := [.int .u8 ((a0) % 256), .int .u8 130, .int .u8 ((a1 / 256) % 256), .int .u8 ((a1) % 256)]) (ok := fun _ => True) (okp := fun _ => True) ?hr ?hp (fun _ hk => hk) trivial (Below.refl _ _) (Nat.le_refl _) (by simp) ?_; (case hd => rfl); (case hg => rfl); (case hr => first | (go_simp; done) | (go_simp; rfl)); (case hp => exact (Reps.one (show Kd.M (Kd.int .u8) _ _ _ ((a0) % 256) [.int .u8 ((a0) % 256)] from rfl) (Reps.one (show Kd.M (Kd.int .u8) _ _ _ 130 [.int .u8 130] from rfl) (Reps.one (show Kd.M (Kd.int .u8) _ _ _ ((a1 / 256) % 256) [.int .u8 ((a1 / 256) % 256)] from rfl) (Reps.one (show Kd.M (Kd.int .u8) _ _ _ ((a1) % 256) [.int .u8 ((a1) % 256)] from rfl) (Reps.none _ _)))))); intro v183 w9 ho10 hb hg_ hnew_; clear hg_ hnew_; (first | rw [← Ny182.out] at ho10 | (simp only [Int.reduceToNat] at ho10; rw [← Ny182.out] at ho10)); have n0_ := Aside0.mk (Kd.R_lower ho10 (below_size (by repeat (first | (with_reducible first | exact HB.out | apply below_alloc | apply pw_below_drewN | apply below_drew1) | exact HB.out)))); have n1_ := Aside0.mk (below_step (by repeat (first | (with_reducible first | exact HB.out | apply below_alloc | apply pw_below_drewN | apply below_drew1) | exact HB.out)) hb); clear HB; have HO184 := n0_; have HB := n1_; clear n0_ n1_; clear hb ho10))
   go_ret
   exact ⟨_, by first | rfl | (simp [errW_none, errW_some] <;> rfl) | (simp [*, errW_none, errW_some] <;> rfl), by (with_reducible repeat (first | apply Kd.R_alloc | apply Kd.R_drewN | apply Kd.R_drew)); exact HO184.out, by repeat (first | (with_reducible first | exact HB.out | apply below_alloc | apply pw_below_drewN | apply below_drew1) | exact HB.out)⟩

end Go.Proofs.YtmbgjhkemlliaaaDoor.PT
end

section
namespace Go.Proofs.YtmbgjhkemlliaaaDoor.PT
open Go.RowKit Go.Proofs.YtmbgjhkemlliaaaDoorW.PrintWords Go.Proofs.YtmbgjhkemlliaaaDoorW.PrintLast Go.Proofs.YtmbgjhkemlliaaaDoorW.PrintMore
attribute [local go_sem] max2_int min2_int max_two min_two max_three min_three max_four min_four   -- for this text's walks alone
set_option linter.unusedVariables false
set_option linter.unusedSimpArgs false

mutual
def tlv_Size.l0 : Nat → Int → Int → Int → List (S28) → Int → Int → Option (Int × Int × Int)
 | 0, _, _, _, _, _, _ => none
 | k + 1, x2, x3, x4, x24, x25, x26 => if x26 < x25 then (if 0 ≤ x26 then (if x26 < (x24.length : Int) then ((tlv_Size.f k ((rd_T28 x24 x26).f0) ((rd_T28 x24 x26).f1) ((rd_T28 x24 x26).f2)).bind fun bt192 => (tlv_Size.l0 k (wrap64 (x2 + bt192.1)) (wrap64 (x3 + bt192.2.1)) (mx x4 bt192.2.2) x24 x25 (wrap64 (x26 + 1)))) else (none)) else (none)) else ((tlv_head.f 0 x2).bind fun t195 => (some (wrap64 (x2 + (t195.length : Int)), x3, wrap64 (x4 + 1))))
def tlv_Size.f : Nat → Int → List Int → List (S28) → Option (Int × Int × Int)
 | 0, _, _, _ => none
 | k + 1, a0_0, l0_1, l0_2 => (tlv_holds.f a0_0).bind fun t186 => (if t186 = true then (tlv_Size.l0 k 0 1 0 l0_2 (l0_2.length : Int) 0) else ((tlv_head.f 0 (l0_1.length : Int)).bind fun t187 => (some (wrap64 ((l0_1.length : Int) + (t187.length : Int)), 1, 1))))
end
theorem tlv_Size.mono_l : ∀ k, (∀ y0 y1 y2, LeO (tlv_Size.f k y0 y1 y2) (tlv_Size.f (k + 1) y0 y1 y2)) ∧ (∀ y0 y1 y2 y3 y4 y5, LeO (tlv_Size.l0 k y0 y1 y2 y3 y4 y5) (tlv_Size.l0 (k + 1) y0 y1 y2 y3 y4 y5))
 | 0 => ⟨fun _ _ _ r h => by simp [tlv_Size.f] at h, fun _ _ _ _ _ _ r h => by simp [tlv_Size.l0] at h⟩
 | k + 1 => by
  obtain ⟨ih0, ih1⟩ := tlv_Size.mono_l k
  refine ⟨?_, ?_⟩
  ·intro y0 y1 y2
   unfold tlv_Size.f
   repeat' first
   | (with_reducible exact ih0 _ _ _)
   | (with_reducible exact ih1 _ _ _ _ _ _)
   | (with_reducible exact LeO.refl _)
   | (with_reducible exact LeO.none _)
   | (with_reducible refine LeO.ite ?_ ?_)
   | (with_reducible refine LeO.bind ?_ (fun _ => ?_))
   | exact ih0 _ _ _
   | exact ih1 _ _ _ _ _ _
   | exact LeO.none _
   | refine LeO.ite ?_ ?_
   | refine LeO.bind ?_ (fun _ => ?_)
  ·intro y0 y1 y2 y3 y4 y5
   unfold tlv_Size.l0
   repeat' first
   | (with_reducible exact ih0 _ _ _)
   | (with_reducible exact ih1 _ _ _ _ _ _)
   | (with_reducible exact LeO.refl _)
   | (with_reducible exact LeO.none _)
   | (with_reducible refine LeO.ite ?_ ?_)
   | (with_reducible refine LeO.bind ?_ (fun _ => ?_))
   | exact ih0 _ _ _
   | exact ih1 _ _ _ _ _ _
   | exact LeO.none _
   | refine LeO.ite ?_ ?_
   | refine LeO.bind ?_ (fun _ => ?_)
theorem tlv_Size.mono : ∀ a0 a1 a2 k, LeO (tlv_Size.f k a0 a1 a2) (tlv_Size.f (k + 1) a0 a1 a2) := by
 intro a0 a1 a2 k
 obtain ⟨ih0, ih1⟩ := tlv_Size.mono_l k
 exact ih0 a0 a1 a2
def tlv_Size.T3 : Bool × List (List Nat × List Nat) := (true, [([], []), ([0], [0]), ([1], [1]), ([], []), ([3], [3]), ([4], [4]), ([5], [5]), ([6], [6]), ([2, 7], [2, 7]), ([8, 6, 0, 1, 2, 3, 4, 5, 6, 7, 8], [8]), ([9, 0, 1, 2, 3, 4, 5, 6, 7, 8, 9], []), ([10, 0, 1, 2, 3, 4, 5, 6, 7, 8, 9, 10], [])])
def tlv_Size.B3 : List Nat := [0, 1, 3, 0, 8, 24, 56, 120, 255, 511, 1023, 2047]
theorem tlv_Size.tab3 : rtab .any (opsOf Tryd.f49 3) = tlv_Size.T3 := by kernel_rfl
theorem tlv_Size.bits3 : waitsOk tlv_Size.T3.2 tlv_Size.B3 = true := by kernel_rfl
set_option maxHeartbeats 8000000 in
set_option maxRecDepth 100000 in
theorem tlv_Size.calls (k : Nat) : ∀ (a0_0 : Int) (A0_1 : Option Addr) (c0_1 : Nat) (l0_1 : List Int) (A0_2 : Option Addr) (c0_2 : Nat) (l0_2 : List (S28)) (r1 : Int) (r2 : Int) (r3 : Int) (w : World) (hr0_1 : Kd.C (Kd.int .u8) w A0_1 l0_1.length l0_1) (hc0_1 : l0_1.length ≤ c0_1) (hr0_2 : Kd.C k28 w A0_2 l0_2.length l0_2) (hc0_2 : l0_2.length ≤ c0_2) (h : tlv_Size.f k a0_0 l0_1 l0_2 = some (r1, r2, r3)),
 Calls Tryd.prog 49 #[.agg #[.int .i64 a0_0, .slice A0_1 l0_1.length c0_1, .slice A0_2 l0_2.length c0_2]] w fun e w' => e = .returned (.tuple #[.int .i64 r1, .int .i64 r2, .int .i64 r3]) ∧ Below w.heap.size w w' := by
 induction k using Nat.strongRecOn with
 | _ k ih =>
 intro a0_0 A0_1 c0_1 l0_1 A0_2 c0_2 l0_2 r1 r2 r3 w hr0_1 hc0_1 hr0_2 hc0_2 h
 cases k with
 | zero => exact absurd h (by simp [tlv_Size.f])
 | succ k =>
 simp only [tlv_Size.f] at h
 have hu28 := Tryd.underlying28
 have HR0_1 := Aside0.mk hr0_1
 have HC0_1 := Aside0.mk hc0_1
 clear hr0_1 hc0_1
 have HR0_2 := Aside0.mk hr0_2
 have HC0_2 := Aside0.mk hc0_2
 clear hr0_2 hc0_2
 have HB := Aside0.mk (Below.refl w.heap.size w)
 have H : ((tlv_holds.f a0_0).bind fun t186 => (if t186 = true then (tlv_Size.l0 k 0 1 0 l0_2 (l0_2.length : Int) 0) else ((tlv_head.f 0 (l0_1.length : Int)).bind fun t187 => (some (wrap64 ((l0_1.length : Int) + (t187.length : Int)), 1, 1))))) = some (r1, r2, r3) := h
 clear h
 replace H := Option.bind_eq_some_iff.mp H
 obtain ⟨t186, A20, H⟩ := H
 replace H : (if t186 = true then (tlv_Size.l0 k 0 1 0 l0_2 (l0_2.length : Int) 0) else ((tlv_head.f 0 (l0_1.length : Int)).bind fun t187 => (some (wrap64 ((l0_1.length : Int) + (t187.length : Int)), 1, 1)))) = some (r1, r2, r3) := H
 have A2 := Aside0.mk A20
 clear A20
 by_cases c3 : t186 = true
 ·subst c3
  have H1 : (tlv_Size.l0 k 0 1 0 l0_2 (l0_2.length : Int) 0) = some (r1, r2, r3) := by rw [if_pos rfl] at H; exact H
  clear H
  have H := H1
  clear H1
  have H' := Aside0.mk H
  clear H
  go_enter Tryd.func49, Tryd.ntmps49
  go_wp2_with (first | ((with_reducible refine gate_dst (N := 1) rfl ?_); refine box_event ?hg (N := 1) ?hd (cs := #[.int .i64 a0_0, .slice A0_1 l0_1.length c0_1, .slice A0_2 l0_2.length c0_2]) (t := 28) ?hr ?_; (case hd => rfl); (case hg => rfl); (case hr => first | (go_simp; done) | (go_simp; rfl)); intro gb185 hg w4 hbox hb; have n0_ := Aside0.mk (below_step (by repeat (first | (with_reducible first | exact HB.out | apply below_alloc | apply pw_below_drewN | apply below_drew1) | exact HB.out)) hb); have n1_ := Aside0.mk (hbox); have n2_ := Aside0.mk ((by rw [hg]; exact (below_size (by repeat (first | (with_reducible first | exact HB.out | apply below_alloc | apply pw_below_drewN | apply below_drew1) | exact HB.out))) : w.heap.size ≤ gb185)); have n3_ := Aside0.mk ((by rw [hg]; exact (below_size (by repeat (first | (with_reducible first | exact HB.out | apply below_alloc | apply pw_below_drewN | apply below_drew1) | exact HB.out))) : w.heap.size ≤ gb185)); clear HB; have HB := n0_; have BK185 := n1_; have GW185 := n2_; have GE185 := n3_; clear n0_ n1_ n2_ n3_; clear hb hbox hg; have hcz5_0 : w4.cell? ⟨gb185, 0, none⟩ = some (.int .i64 a0_0) := (blk_cell BK185.out 0).trans rfl; have hcz5_1 : w4.cell? ⟨gb185, 1, none⟩ = some (.slice A0_1 l0_1.length c0_1) := (blk_cell BK185.out 1).trans rfl; have hcz5_2 : w4.cell? ⟨gb185, 2, none⟩ = some (.slice A0_2 l0_2.length c0_2) := (blk_cell BK185.out 2).trans rfl; have hfz5_0 := blk_frozen BK185.out 0; have hfz5_1 := blk_frozen BK185.out 1; have hfz5_2 := blk_frozen BK185.out 2) | ((with_reducible refine gate_callee (f := 59) rfl ?_); refine goesL_ (some 12) rfl rfl Tryd.func59 (by kernel_rfl) rfl #[.int .i64 a0_0] rfl (by (try simp only [List.map_toArray, List.map_cons, List.map_nil]); first | done | rfl | (simp only [List.length_drop, List.length_take]; rfl)) ?_; (with_reducible refine (tlv_holds.calls a0_0 true _ A2.out).mono ?_); rintro e w' ⟨rfl, ⟨nd, rfl⟩⟩; refine ⟨_, rfl, ?_⟩))
  go_loopg [2, 3, 4, 26] k (fun kq v2 v3 v4 v26 w' => ∃ (x2_1 : Int) (x3_1 : Int) (x4_1 : Int) (x26_1 : Int), v2 = .int .i64 x2_1 ∧ v3 = .int .i64 x3_1 ∧ v4 = .int .i64 x4_1 ∧ v26 = .int .i64 x26_1 ∧ Aside0 (tlv_Size.l0 kq x2_1 x3_1 x4_1 l0_2 (l0_2.length : Int) x26_1 = some (r1, r2, r3)) ∧ Aside0 (kq ≤ k) ∧ Aside0 (w'.heap[gb185]? = some (.cells #[.int .i64 a0_0, (.slice A0_1 l0_1.length c0_1), (.slice A0_2 l0_2.length c0_2)] 28 (0, 0))) ∧ Aside0 (Below w.heap.size w w'))
  case atStart => exact ⟨(0), (1), (0), (0), (by first | rfl | (simp; done) | (simp [*]; done)), (by first | rfl | (simp; done) | (simp [*]; done)), (by first | rfl | (simp; done) | (simp [*]; done)), (by first | rfl | (simp; done) | (simp [*]; done)), H', ⟨Nat.le_refl _⟩, ⟨by (with_reducible repeat (first | refine blk_drewN ?_ _ | refine blk_drew ?_ | refine blk_alloc ?_ _)); exact BK185.out⟩, ⟨by repeat (first | (with_reducible first | exact HB.out | apply below_alloc | apply pw_below_drewN | apply below_drew1 | refine below_set ?_ GE185.out) | exact HB.out)⟩⟩
  case round =>
   clear H'
   try clear p2
   try clear c3
   try clear c4
   try clear c5
   try clear hcz5_0
   try clear hcz5_1
   try clear hcz5_2
   try clear hfz5_0
   try clear hfz5_1
   try clear hfz5_2
   obtain ⟨x2_1, x3_1, x4_1, x26_1, rfl, rfl, rfl, rfl, HA, HK1, BK185, HB⟩ := hrel
   cases gk with
   | zero => exact absurd HA.out (by simp [tlv_Size.l0])
   | succ k1 =>
    have H := HA.out
    clear HA
    simp only [tlv_Size.l0] at H
    by_cases c6 : x26_1 < (l0_2.length : Int)
    ·rw [if_pos c6] at H
     have c6b0 : decide (x26_1 < (l0_2.length : Int)) = true := decide_eq_true c6
     clear c6
     by_cases c7 : 0 ≤ x26_1
     ·rw [if_pos c7] at H
      have c7b0 : decide (0 ≤ x26_1) = true := decide_eq_true c7
      clear c7
      by_cases c8 : x26_1 < (l0_2.length : Int)
      ·rw [if_pos c8] at H
       have c8b0 : decide (x26_1 < (l0_2.length : Int)) = true := decide_eq_true c8
       clear c8
       replace H := Option.bind_eq_some_iff.mp H
       obtain ⟨⟨t192, t193, t194⟩, A90, H⟩ := H
       replace H : (tlv_Size.l0 k1 (wrap64 (x2_1 + t192)) (wrap64 (x3_1 + t193)) (mx x4_1 t194) l0_2 (l0_2.length : Int) (wrap64 (x26_1 + 1))) = some (r1, r2, r3) := H
       have A9 := Aside0.mk A90
       clear A90
       obtain ⟨ji10, hji10⟩ : ∃ j_ : Int, (mx x4_1 t194) = j_ := ⟨_, rfl⟩
       replace H : (tlv_Size.l0 k1 (wrap64 (x2_1 + t192)) (wrap64 (x3_1 + t193)) ji10 l0_2 (l0_2.length : Int) (wrap64 (x26_1 + 1))) = some (r1, r2, r3) := by first | (rw [hji10] at H; exact H) | (simp only [hji10] at H ⊢; exact H)
       (try rw [hji10] at A9)
       have hji10_ : (if x4_1 < t194 then t194 else x4_1) = ji10 := hji10
       have H' := Aside0.mk H
       clear H
       have p190 : 0 ≤ (x26_1 : Int) := of_decide_eq_true (by first | (with_reducible assumption) | assumption)
       have q190 : x26_1 < (l0_2.length : Int) := of_decide_eq_true (by first | (with_reducible assumption) | assumption)
       obtain ⟨ad190, A190_1, c190_1, A190_2, c190_2, e190, hx190_0, hx190_1, hx190_2, hl190_1, hi190_1, hl190_2, hi190_2⟩ := at_T28 HR0_2.out x26_1 p190 q190
       cases e190
       replace hx190_0 := (HB.out.cell (World.block_lt_of_cell? w _ hx190_0)).trans hx190_0
       replace hx190_1 := (HB.out.cell (World.block_lt_of_cell? w _ hx190_1)).trans hx190_1
       replace hx190_2 := (HB.out.cell (World.block_lt_of_cell? w _ hx190_2)).trans hx190_2
       have HR190_1 := Aside0.mk hi190_1
       have HC190_1 := Aside0.mk hl190_1
       clear hi190_1 hl190_1
       have HR190_2 := Aside0.mk hi190_2
       have HC190_2 := Aside0.mk hl190_2
       clear hi190_2 hl190_2
       replace p190 := eq_true p190
       replace q190 := eq_true q190
       go_wp2_with (first | ((with_reducible refine gate_dst (N := 6) rfl ?_); refine box_event ?hg (N := 6) ?hd (cs := #[.int .i64 0, .slice none 0 0, .slice none 0 0]) (t := 28) ?hr ?_; (case hd => rfl); (case hg => rfl); (case hr => first | (go_simp; done) | (go_simp; rfl)); intro gb191 hg w11 hbox hb; have n0_ := Aside0.mk (blk_below (g := gb185) (o := .cells #[.int .i64 a0_0, .slice A0_1 l0_1.length c0_1, .slice (some ad190) l0_2.length c0_2] 28 (0, 0)) (by (with_reducible repeat (first | refine blk_drewN ?_ _ | refine blk_drew ?_ | refine blk_alloc ?_ _)); exact BK185.out) hb); have n1_ := Aside0.mk (below_step (by repeat (first | (with_reducible first | exact HB.out | apply below_alloc | apply pw_below_drewN | apply below_drew1 | refine below_set ?_ GE185.out) | exact HB.out)) hb); have n2_ := Aside0.mk (hbox); have n3_ := Aside0.mk ((by rw [hg]; exact (below_size (by repeat (first | (with_reducible first | exact HB.out | apply below_alloc | apply pw_below_drewN | apply below_drew1 | refine below_set ?_ GE185.out) | exact HB.out))) : w.heap.size ≤ gb191)); have n4_ := Aside0.mk ((by rw [hg]; exact (below_size (by repeat (first | (with_reducible first | exact HB.out | apply below_alloc | apply pw_below_drewN | apply below_drew1 | refine below_set ?_ GE185.out) | exact HB.out))) : w.heap.size ≤ gb191)); have n5_ := Aside0.mk ((by rw [hg]; exact Nat.ne_of_lt (blk_lt (g := gb185) (o := .cells #[.int .i64 a0_0, .slice A0_1 l0_1.length c0_1, .slice (some ad190) l0_2.length c0_2] 28 (0, 0)) (by (with_reducible repeat (first | refine blk_drewN ?_ _ | refine blk_drew ?_ | refine blk_alloc ?_ _)); exact BK185.out)) : gb185 ≠ gb191)); have n6_ := Aside0.mk ((by rw [hg]; exact Nat.ne_of_gt (blk_lt (g := gb185) (o := .cells #[.int .i64 a0_0, .slice A0_1 l0_1.length c0_1, .slice (some ad190) l0_2.length c0_2] 28 (0, 0)) (by (with_reducible repeat (first | refine blk_drewN ?_ _ | refine blk_drew ?_ | refine blk_alloc ?_ _)); exact BK185.out)) : gb191 ≠ gb185)); clear BK185; clear HB; have BK185 := n0_; have HB := n1_; have BK191 := n2_; have GW191 := n3_; have GE191 := n4_; have NB185_191 := n5_; have NB191_185 := n6_; clear n0_ n1_ n2_ n3_ n4_ n5_ n6_; clear hb hbox hg; have hnb12 := NB191_185.out; have hnc12 := NB185_191.out; have hcz13_0 : w11.cell? ⟨gb191, 0, none⟩ = some (.int .i64 0) := (blk_cell BK191.out 0).trans rfl; have hcz13_1 : w11.cell? ⟨gb191, 1, none⟩ = some (.slice none 0 0) := (blk_cell BK191.out 1).trans rfl; have hcz13_2 : w11.cell? ⟨gb191, 2, none⟩ = some (.slice none 0 0) := (blk_cell BK191.out 2).trans rfl; have hfz13_0 := blk_frozen BK191.out 0; have hfz13_1 := blk_frozen BK191.out 1; have hfz13_2 := blk_frozen BK191.out 2) | ((with_reducible refine gate_callee (f := 49) rfl ?_); refine goesL_ (some 32) rfl rfl Tryd.func49 (by kernel_rfl) rfl #[.agg #[.int .i64 ((rd_T28 l0_2 x26_1).f0), .slice A190_1 ((rd_T28 l0_2 x26_1).f1).length c190_1, .slice A190_2 ((rd_T28 l0_2 x26_1).f2).length c190_2]] rfl (by (try simp only [List.map_toArray, List.map_cons, List.map_nil]); first | done | rfl | (simp only [List.length_drop, List.length_take]; rfl)) ?_; (with_reducible refine (ih k1 (by have := HK1.out; omega) ((rd_T28 l0_2 x26_1).f0) _ _ ((rd_T28 l0_2 x26_1).f1) _ _ ((rd_T28 l0_2 x26_1).f2) t192 t193 t194 _ ?side1 ?side2 ?side3 ?side4 A9.out).mono ?_); (case side1 => exact Kd.C_below HR190_1.out (by repeat (first | (with_reducible first | exact HB.out | apply below_alloc | apply pw_below_drewN | apply below_drew1 | refine below_set ?_ GE185.out | refine below_set ?_ GE191.out) | exact HB.out))); (case side2 => exact HC190_1.out); (case side3 => exact Kd.C_below HR190_2.out (by repeat (first | (with_reducible first | exact HB.out | apply below_alloc | apply pw_below_drewN | apply below_drew1 | refine below_set ?_ GE185.out | refine below_set ?_ GE191.out) | exact HB.out))); (case side4 => exact HC190_2.out); rintro e w14 ⟨rfl, hb⟩; refine ⟨_, rfl, ?_⟩; have n0_ := Aside0.mk (blk_below (g := gb185) (o := .cells #[.int .i64 a0_0, .slice A0_1 l0_1.length c0_1, .slice (some ad190) l0_2.length c0_2] 28 (0, 0)) (by (with_reducible repeat (first | refine blk_drewN ?_ _ | refine blk_drew ?_ | refine blk_alloc ?_ _)); refine blk_far ?_ NB185_191.out _; (with_reducible repeat (first | refine blk_drewN ?_ _ | refine blk_drew ?_ | refine blk_alloc ?_ _)); refine blk_far ?_ NB185_191.out _; (with_reducible repeat (first | refine blk_drewN ?_ _ | refine blk_drew ?_ | refine blk_alloc ?_ _)); refine blk_far ?_ NB185_191.out _; (with_reducible repeat (first | refine blk_drewN ?_ _ | refine blk_drew ?_ | refine blk_alloc ?_ _)); exact BK185.out) hb); have n1_ := Aside0.mk (blk_below (g := gb191) (o := .cells #[.int .i64 ((rd_T28 l0_2 x26_1).f0), .slice A190_1 ((rd_T28 l0_2 x26_1).f1).length c190_1, .slice A190_2 ((rd_T28 l0_2 x26_1).f2).length c190_2] 28 (0, 0)) (by (with_reducible repeat (first | refine blk_drewN ?_ _ | refine blk_drew ?_ | refine blk_alloc ?_ _)); refine blk_put (cs := #[.int .i64 ((rd_T28 l0_2 x26_1).f0), .slice A190_1 ((rd_T28 l0_2 x26_1).f1).length c190_1, .slice none 0 0]) ?_ 2 _ rfl; (with_reducible repeat (first | refine blk_drewN ?_ _ | refine blk_drew ?_ | refine blk_alloc ?_ _)); refine blk_put (cs := #[.int .i64 ((rd_T28 l0_2 x26_1).f0), .slice none 0 0, .slice none 0 0]) ?_ 1 _ rfl; (with_reducible repeat (first | refine blk_drewN ?_ _ | refine blk_drew ?_ | refine blk_alloc ?_ _)); refine blk_put (cs := #[.int .i64 0, .slice none 0 0, .slice none 0 0]) ?_ 0 _ rfl; (with_reducible repeat (first | refine blk_drewN ?_ _ | refine blk_drew ?_ | refine blk_alloc ?_ _)); exact BK191.out) hb); have n2_ := Aside0.mk (below_step (by repeat (first | (with_reducible first | exact HB.out | apply below_alloc | apply pw_below_drewN | apply below_drew1 | refine below_set ?_ GE185.out | refine below_set ?_ GE191.out) | exact HB.out)) hb); clear BK185; clear BK191; clear HB; have BK185 := n0_; have BK191 := n1_; have HB := n2_; clear n0_ n1_ n2_; (try clear hb); (try clear hb2); (try clear hk); (try clear hi)))
       go_roundg k1
       case measure => have := HK1.out; omega
       case rel => exact ⟨(wrap64 (x2_1 + t192)), (wrap64 (x3_1 + t193)), (ji10), (wrap64 (x26_1 + 1)), (by first | rfl | (simp; done) | (simp [*]; done)), (by first | rfl | (simp; done) | (simp [*]; done)), (by first | rfl | (simp; done) | (simp only [← hji10] <;> (first | rfl | simp)) | (simp [*]; done)), (by first | rfl | (simp; done) | (simp [*]; done)), H', ⟨by have := HK1.out; omega⟩, ⟨by (with_reducible repeat (first | refine blk_drewN ?_ _ | refine blk_drew ?_ | refine blk_alloc ?_ _)); exact BK185.out⟩, ⟨by repeat (first | (with_reducible first | exact HB.out | apply below_alloc | apply pw_below_drewN | apply below_drew1 | refine below_set ?_ GE185.out | refine below_set ?_ GE191.out) | exact HB.out)⟩⟩
      ·rw [if_neg c8] at H
       exact absurd H (by simp)
     ·rw [if_neg c7] at H
      exact absurd H (by simp)
    ·rw [if_neg c6] at H
     have c6b0 : decide (x26_1 < (l0_2.length : Int)) = false := decide_eq_false c6
     clear c6
     replace H := Option.bind_eq_some_iff.mp H
     obtain ⟨t195, A150, H⟩ := H
     replace H : (some (wrap64 (x2_1 + (t195.length : Int)), x3_1, wrap64 (x4_1 + 1))) = some (r1, r2, r3) := H
     have A15 := Aside0.mk A150
     clear A150
     simp only [Option.some.injEq, Prod.mk.injEq] at H
     obtain ⟨rfl, rfl, rfl⟩ := H
     go_wp2_with (first | ((with_reducible refine gate_callee (f := 64) rfl ?_); refine goesL_ (some 48) rfl rfl Tryd.func64 (by kernel_rfl) rfl #[.int .i64 0, .int .i64 x2_1] rfl (by (try simp only [List.map_toArray, List.map_cons, List.map_nil]); first | done | rfl | (simp only [List.length_drop, List.length_take]; rfl)) ?_; (with_reducible refine (tlv_head.calls 0 x2_1 t195 _ A15.out).mono ?_); rintro e w16 ⟨v196, rfl, ho0, hb⟩; refine ⟨_, rfl, ?_⟩; have n0_ := Aside0.mk (Kd.R_lower ho0 (below_size (by repeat (first | (with_reducible first | exact HB.out | apply below_alloc | apply pw_below_drewN | apply below_drew1 | refine below_set ?_ GE185.out) | exact HB.out)))); have n1_ := Aside0.mk (blk_below (g := gb185) (o := .cells #[.int .i64 a0_0, .slice A0_1 l0_1.length c0_1, .slice A0_2 l0_2.length c0_2] 28 (0, 0)) (by (with_reducible repeat (first | refine blk_drewN ?_ _ | refine blk_drew ?_ | refine blk_alloc ?_ _)); exact BK185.out) hb); have n2_ := Aside0.mk (below_step (by repeat (first | (with_reducible first | exact HB.out | apply below_alloc | apply pw_below_drewN | apply below_drew1 | refine below_set ?_ GE185.out) | exact HB.out)) hb); clear BK185; clear HB; have HO197 := n0_; have BK185 := n1_; have HB := n2_; clear n0_ n1_ n2_; (try clear hb); (try clear hb2); (try clear hk); (try clear hi); (try clear ho0); obtain ⟨Ao17, co17, eo17⟩ := Kd.R_slice HO197.out; subst eo17))
     go_ret3
     exact ⟨by first | rfl | (simp [errW_none, errW_some] <;> rfl) | (simp [*, errW_none, errW_some] <;> rfl), by repeat (first | (with_reducible first | exact HB.out | apply below_alloc | apply pw_below_drewN | apply below_drew1 | refine below_set ?_ GE185.out) | exact HB.out)⟩
 ·replace c3 := Bool.eq_false_iff.mpr c3
  subst c3
  have H1 : ((tlv_head.f 0 (l0_1.length : Int)).bind fun t187 => (some (wrap64 ((l0_1.length : Int) + (t187.length : Int)), 1, 1))) = some (r1, r2, r3) := by rw [if_neg (show ¬ (false = true) by decide)] at H; exact H
  clear H
  have H := H1
  clear H1
  replace H := Option.bind_eq_some_iff.mp H
  obtain ⟨t187, A180, H⟩ := H
  replace H : (some (wrap64 ((l0_1.length : Int) + (t187.length : Int)), 1, 1)) = some (r1, r2, r3) := H
  have A18 := Aside0.mk A180
  clear A180
  simp only [Option.some.injEq, Prod.mk.injEq] at H
  obtain ⟨rfl, rfl, rfl⟩ := H
  go_enter Tryd.func49, Tryd.ntmps49
  try go_wp2_with (first | ((with_reducible refine gate_dst (N := 1) rfl ?_); refine box_event ?hg (N := 1) ?hd (cs := #[.int .i64 a0_0, .slice A0_1 l0_1.length c0_1, .slice A0_2 l0_2.length c0_2]) (t := 28) ?hr ?_; (case hd => rfl); (case hg => rfl); (case hr => first | (go_simp; done) | (go_simp; rfl)); intro gb185 hg w19 hbox hb; have n0_ := Aside0.mk (below_step (by repeat (first | (with_reducible first | exact HB.out | apply below_alloc | apply pw_below_drewN | apply below_drew1) | exact HB.out)) hb); have n1_ := Aside0.mk (hbox); have n2_ := Aside0.mk ((by rw [hg]; exact (below_size (by repeat (first | (with_reducible first | exact HB.out | apply below_alloc | apply pw_below_drewN | apply below_drew1) | exact HB.out))) : w.heap.size ≤ gb185)); have n3_ := Aside0.mk ((by rw [hg]; exact (below_size (by repeat (first | (with_reducible first | exact HB.out | apply below_alloc | apply pw_below_drewN | apply below_drew1) | exact HB.out))) : w.heap.size ≤ gb185)); clear HB; have HB := n0_; have BK185 := n1_; have GW185 := n2_; have GE185 := n3_; clear n0_ n1_ n2_ n3_; clear hb hbox hg; have hcz20_0 : w19.cell? ⟨gb185, 0, none⟩ = some (.int .i64 a0_0) := (blk_cell BK185.out 0).trans rfl; have hcz20_1 : w19.cell? ⟨gb185, 1, none⟩ = some (.slice A0_1 l0_1.length c0_1) := (blk_cell BK185.out 1).trans rfl; have hcz20_2 : w19.cell? ⟨gb185, 2, none⟩ = some (.slice A0_2 l0_2.length c0_2) := (blk_cell BK185.out 2).trans rfl; have hfz20_0 := blk_frozen BK185.out 0; have hfz20_1 := blk_frozen BK185.out 1; have hfz20_2 := blk_frozen BK185.out 2) | ((with_reducible refine gate_callee (f := 59) rfl ?_); refine goesL_ (some 12) rfl rfl Tryd.func59 (by kernel_rfl) rfl #[.int .i64 a0_0] rfl (by (try simp only [List.map_toArray, List.map_cons, List.map_nil]); first | done | rfl | (simp only [List.length_drop, List.length_take]; rfl)) ?_; (with_reducible refine (tlv_holds.calls a0_0 false _ A2.out).mono ?_); rintro e w' ⟨rfl, ⟨nd, rfl⟩⟩; refine ⟨_, rfl, ?_⟩))
  (try (rw [drewN_self w19]; generalize hq_ : World.drewN w19 _ = w19; have n0_ : Aside0 (w19.heap[gb185]? = some (.cells #[.int .i64 a0_0, .slice A0_1 l0_1.length c0_1, .slice A0_2 l0_2.length c0_2] 28 (0, 0))) := ⟨by rw [← hq_]; exact (by (with_reducible repeat (first | refine blk_drewN ?_ _ | refine blk_drew ?_ | refine blk_alloc ?_ _)); exact BK185.out)⟩; have n1_ : Aside0 (Below w.heap.size w w19) := ⟨by rw [← hq_]; exact (by repeat (first | (with_reducible first | exact HB.out | apply below_alloc | apply pw_below_drewN | apply below_drew1 | refine below_set ?_ GE185.out) | exact HB.out))⟩; clear BK185 HB hq_; have BK185 := n0_; have HB := n1_; clear n0_ n1_))
  have n0_ := Aside0.mk (blk_drew BK185.out)
  have n1_ := Aside0.mk (below_drew1 HB.out)
  clear BK185
  clear HB
  have BK185 := n0_
  have HB := n1_
  clear n0_ n1_
  refine start_ (n := 12) (S := fun w' => w'.cell? ⟨gb185, 0, none⟩ = some (.int .i64 a0_0) ∧ w'.cell? ⟨gb185, 1, none⟩ = some (.slice A0_1 l0_1.length c0_1) ∧ w'.cell? ⟨gb185, 2, none⟩ = some (.slice A0_2 l0_2.length c0_2)) (ds := []) #[false, false, false, false, false, false, false, false, false, false, false, false] (by kernel_rfl) rfl rfl ⟨(blk_cell BK185.out 0).trans rfl, (blk_cell BK185.out 1).trans rfl, (blk_cell BK185.out 2).trans rfl⟩ (fun hHeld => ?_); refine with_tabW tlv_Size.tab3 tlv_Size.bits3 (fun HT_ HW_ => ?_)
  generalize w19.drew = w21 at BK185 HB hHeld ⊢
  refine pure_ (i := 0) (N := some 14) (v := ?_) (a' := ?_) #[true, false, false, false, false, false, false, false, false, false, false, false] rfl rfl (any_of HT_.out (by kernel_rfl)) (fun _ _ _ h => h) (Or.inl ⟨by rfl, ?_⟩) ?_ ?_
  rotate_left
  ·intro w'
   go_simp
   with_reducible rfl
  rotate_left
  ·simp only [Act.put, List.setIfInBounds_toArray, List.set_cons_zero, List.set_cons_succ, i64_w, i32_w]
   rfl
  refine pure_ (i := 3) (N := some 17) (v := ?_) (a' := ?_) #[true, false, false, true, false, false, false, false, false, false, false, false] rfl rfl (any_of HT_.out (by kernel_rfl)) (fun _ _ _ h => h) (Or.inl ⟨by rfl, ?_⟩) ?_ ?_
  rotate_left
  ·intro w'
   go_simp
   with_reducible rfl
  rotate_left
  ·simp only [Act.put, List.setIfInBounds_toArray, List.set_cons_zero, List.set_cons_succ, i64_w, i32_w]
   rfl
  refine take_ (i := 1) (N := some 15) (v := ?_) (a' := ?_) #[true, true, false, true, false, false, false, false, false, false, false, false] rfl rfl (take_ofW HT_.out HW_.out (by kernel_rfl)) (fun _ _ _ h => h) (Or.inl ⟨by rfl, ?_⟩) hHeld ?_ ?_
  rotate_left
  ·rintro w' ⟨s0, s1, s2⟩
   go_simp
   with_reducible rfl
  rotate_left
  ·simp only [Act.put, List.setIfInBounds_toArray, List.set_cons_zero, List.set_cons_succ, i64_w, i32_w]
   rfl
  refine pure_ (i := 2) (N := some 16) (v := ?_) (a' := ?_) #[true, true, true, true, false, false, false, false, false, false, false, false] rfl rfl (any_of HT_.out (by kernel_rfl)) (fun _ _ _ h => h) (Or.inl ⟨by rfl, ?_⟩) ?_ ?_
  rotate_left
  ·intro w'
   go_simp
   with_reducible rfl
  rotate_left
  ·simp only [Act.put, List.setIfInBounds_toArray, List.set_cons_zero, List.set_cons_succ, i64_w, i32_w]
   rfl
  refine take_ (i := 4) (N := some 18) (v := ?_) (a' := ?_) #[true, true, true, true, true, false, false, false, false, false, false, false] rfl rfl (take_ofW HT_.out HW_.out (by kernel_rfl)) (fun _ _ _ h => h) (Or.inl ⟨by rfl, ?_⟩) hHeld ?_ ?_
  rotate_left
  ·rintro w' ⟨s0, s1, s2⟩
   go_simp
   with_reducible rfl
  rotate_left
  ·simp only [Act.put, List.setIfInBounds_toArray, List.set_cons_zero, List.set_cons_succ, i64_w, i32_w]
   rfl
  refine pure_ (i := 5) (N := some 19) (v := ?_) (a' := ?_) #[true, true, true, true, true, true, false, false, false, false, false, false] rfl rfl (any_of HT_.out (by kernel_rfl)) (fun _ _ _ h => h) (Or.inl ⟨by rfl, ?_⟩) ?_ ?_
  rotate_left
  ·intro w'
   go_simp
   with_reducible rfl
  rotate_left
  ·simp only [Act.put, List.setIfInBounds_toArray, List.set_cons_zero, List.set_cons_succ, i64_w, i32_w]
   rfl
  refine one_ (i := 6) (N := some 20) #[true, true, true, true, true, true, true, false, false, false, false, false] rfl rfl (one_of HT_.out (by kernel_rfl)) (by decide) (fun K hK => ?_)
  refine goes_ Tryd.func64 (by kernel_rfl) rfl #[.int .i64 0, .int .i64 (l0_1.length : Int)] (by rfl) rfl rfl (by (try simp only [List.map_toArray, List.map_cons, List.map_nil]); first | done | rfl | (simp only [List.length_drop, List.length_take]; rfl)) ?_
  with_reducible refine (tlv_head.calls 0 (l0_1.length : Int) t187 _ A18.out).mono ?_
  rintro e w22 ⟨v188, rfl, ho0, hb⟩
  refine ⟨_, rfl, ?_⟩
  have n0_ := Aside0.mk (Kd.R_lower ho0 (below_size (by repeat (first | (with_reducible first | exact HB.out | apply below_alloc | apply pw_below_drewN | apply below_drew1 | refine below_set ?_ GE185.out) | exact HB.out))))
  have n1_ := Aside0.mk (blk_below (g := gb185) (o := .cells #[.int .i64 a0_0, .slice A0_1 l0_1.length c0_1, .slice A0_2 l0_2.length c0_2] 28 (0, 0)) (by (with_reducible repeat (first | refine blk_drewN ?_ _ | refine blk_drew ?_ | refine blk_alloc ?_ _)); exact BK185.out) hb)
  have n2_ := Aside0.mk (below_step (by repeat (first | (with_reducible first | exact HB.out | apply below_alloc | apply pw_below_drewN | apply below_drew1 | refine below_set ?_ GE185.out) | exact HB.out)) hb)
  clear BK185
  clear HB
  have HO189 := n0_
  have BK185 := n1_
  have HB := n2_
  clear n0_ n1_ n2_
  (try clear hb)
  (try clear hb2)
  (try clear hk)
  (try clear hi)
  (try clear ho0)
  obtain ⟨Ao23, co23, eo23⟩ := Kd.R_slice HO189.out
  (first | subst eo23 | (injection eo23 with f1_ f2_ f3_; have f4_ := f1_.symm; have f5_ := f3_.symm; clear f1_ f2_ f3_; subst f4_; subst f5_))
  refine hK.out _ _ ⟨(blk_cell BK185.out 0).trans rfl, (blk_cell BK185.out 1).trans rfl, (blk_cell BK185.out 2).trans rfl⟩ (fun hHeld => ?_)
  clear hK K
  refine norm_ (a' := ?_) ?_ ?_
  rotate_left
  ·show Act.put _ (some 20) _ = _
   simp only [Act.put, List.setIfInBounds_toArray, List.set_cons_zero, List.set_cons_succ, i64_w, i32_w]
   rfl
  refine pure_ (i := 7) (N := some 21) (v := ?_) (a' := ?_) #[true, true, true, true, true, true, true, true, false, false, false, false] rfl rfl (any_of HT_.out (by kernel_rfl)) (fun _ _ _ h => h) (Or.inl ⟨by rfl, ?_⟩) ?_ ?_
  rotate_left
  ·intro w'
   go_simp
   with_reducible rfl
  rotate_left
  ·simp only [Act.put, List.setIfInBounds_toArray, List.set_cons_zero, List.set_cons_succ, i64_w, i32_w]
   rfl
  refine pure_ (i := 8) (N := some 22) (v := ?_) (a' := ?_) #[true, true, true, true, true, true, true, true, true, false, false, false] rfl rfl (any_of HT_.out (by kernel_rfl)) (fun _ _ _ h => h) (Or.inl ⟨by rfl, ?_⟩) ?_ ?_
  rotate_left
  ·intro w'
   go_simp
   with_reducible rfl
  rotate_left
  ·simp only [Act.put, List.setIfInBounds_toArray, List.set_cons_zero, List.set_cons_succ, i64_w, i32_w]
   rfl
  refine pure_ (i := 9) (N := some 2) (v := ?_) (a' := ?_) #[true, true, true, true, true, true, true, true, true, true, false, false] rfl rfl (any_of HT_.out (by kernel_rfl)) (fun _ _ _ h => h) (Or.inl ⟨by rfl, ?_⟩) ?_ ?_
  rotate_left
  ·intro w'
   go_simp
   with_reducible rfl
  rotate_left
  ·simp only [Act.put, List.setIfInBounds_toArray, List.set_cons_zero, List.set_cons_succ, i64_w, i32_w]
   rfl
  refine pure_ (i := 10) (N := some 3) (v := ?_) (a' := ?_) #[true, true, true, true, true, true, true, true, true, true, true, false] rfl rfl (any_of HT_.out (by kernel_rfl)) (fun _ _ _ h => h) (Or.inl ⟨by rfl, ?_⟩) ?_ ?_
  rotate_left
  ·intro w'
   go_simp
   with_reducible rfl
  rotate_left
  ·simp only [Act.put, List.setIfInBounds_toArray, List.set_cons_zero, List.set_cons_succ, i64_w, i32_w]
   rfl
  refine pure_ (i := 11) (N := some 4) (v := ?_) (a' := ?_) #[true, true, true, true, true, true, true, true, true, true, true, true] rfl rfl (any_of HT_.out (by kernel_rfl)) (fun _ _ _ h => h) (Or.inl ⟨by rfl, ?_⟩) ?_ ?_
  rotate_left
  ·intro w'
   go_simp
   with_reducible rfl
  rotate_left
  ·simp only [Act.put, List.setIfInBounds_toArray, List.set_cons_zero, List.set_cons_succ, i64_w, i32_w]
   rfl
  refine done_ (done_of HT_.out (by kernel_rfl)) ?_
  try go_wp2
  go_ret3
  exact ⟨by first | rfl | (simp [errW_none, errW_some] <;> rfl) | (simp [*, errW_none, errW_some] <;> rfl), by repeat (first | (with_reducible first | exact HB.out | apply below_alloc | apply pw_below_drewN | apply below_drew1 | refine below_set ?_ GE185.out) | exact HB.out)⟩

end Go.Proofs.YtmbgjhkemlliaaaDoor.PT
end

section
set_option linter.unusedVariables false
set_option linter.unusedSimpArgs false
namespace Go.Proofs.YtmbgjhkemlliaaaDoor.Tlv
open Go.RowKit Go.Proofs.YtmbgjhkemlliaaaDoorW.PrintWords Go.Proofs.YtmbgjhkemlliaaaDoorW.PrintLast Go.Proofs.YtmbgjhkemlliaaaDoorW.PrintMore Go.Proofs.YtmbgjhkemlliaaaDoor.PT

mutual
theorem size_enc : ∀ t : T, sizeT t = ((encT t).length : Int)
 | ⟨tag, body, kids⟩ => by
  rw [sizeT, encT]
  split
  ·rw [List.length_append, Int.natCast_add, head_length, size_encL kids, Int.add_comm]
  ·rw [List.length_append, Int.natCast_add, head_length, Int.add_comm]
theorem size_encL : ∀ l : List T, sizeL l = ((encL l).length : Int)
 | [] => rfl
 | t :: l => by rw [sizeL, encL, List.length_append, Int.natCast_add, size_enc t, size_encL l]
end
theorem headLen_pos (n : Int) : 2 ≤ headLen n ∧ headLen n ≤ 4 := by unfold headLen; split <;> (try split) <;> omega
mutual
theorem many_le : ∀ t : T, 1 ≤ manyT t ∧ manyT t ≤ sizeT t ∧ 1 ≤ deepT t ∧ deepT t ≤ manyT t
 | ⟨tag, body, kids⟩ => by
  rw [sizeT, manyT, deepT]
  have h := manyL_le kids
  have h1 := headLen_pos (sizeL kids)
  have h2 := headLen_pos body.length
  split <;> omega
theorem manyL_le : ∀ l : List T, 0 ≤ manyL l ∧ manyL l ≤ sizeL l ∧ 0 ≤ deepL l ∧ deepL l ≤ manyL l
 | [] => by decide
 | t :: l => by
  have h := many_le t
  have h1 := manyL_le l
  rw [sizeL, manyL, deepL]
  omega
end
theorem sizeL_app (a b : List T) : sizeL (a ++ b) = sizeL a + sizeL b ∧ manyL (a ++ b) = manyL a + manyL b ∧ deepL (a ++ b) = max (deepL a) (deepL b) ∧ encL (a ++ b) = encL a ++ encL b ∧ rightL (a ++ b) = (rightL a && rightL b) := by
 induction a with
 | nil =>
  have := (manyL_le b).2.2.1
  refine ⟨by simp [sizeL], by simp [manyL], ?_, by simp [encL], by simp [rightL]⟩
  show deepL b = max 0 (deepL b)
  omega
 | cons t a ih =>
  obtain ⟨h1, h2, h3, h4, h5⟩ := ih
  refine ⟨?_, ?_, ?_, ?_, ?_⟩
  ·rw [List.cons_append, sizeL, sizeL, h1]; omega
  ·rw [List.cons_append, manyL, manyL, h2]; omega
  ·rw [List.cons_append, deepL, deepL, h3]; omega
  ·rw [List.cons_append, encL, encL, h4, List.append_assoc]
  ·rw [List.cons_append, rightL, rightL, h5, Bool.and_assoc]
theorem head_f (a n : Int) : tlv_head.f a n = some (head a n) := by
 unfold tlv_head.f head
 split
 ·rfl
 ·split <;> rfl
theorem f_up {a : Int} {b : List Int} {c : List T} {r : Int × Int × Int} {k : Nat} (h : tlv_Size.f k a b c = some r) : ∀ j, tlv_Size.f (k + j) a b c = some r
 | 0 => h
 | j + 1 => tlv_Size.mono a b c (k + j) r (f_up h j)
theorem l_up {a b c : Int} {l : List T} {m i : Int} {r : Int × Int × Int} {k : Nat} (h : tlv_Size.l0 k a b c l m i = some r) : ∀ j, tlv_Size.l0 (k + j) a b c l m i = some r
 | 0 => h
 | j + 1 => (tlv_Size.mono_l (k + j)).2 a b c l m i r (l_up h j)

def SizeC (t : T) : Prop := rightT t = true → sizeT t ≤ 100000000 → ∃ k, tlv_Size.f k t.f0 t.f1 t.f2 = some (sizeT t, manyT t, deepT t)
theorem size_loop (kids : List T) (hs : sizeL kids ≤ 100000000) (hl : kids.length ≤ 100000000) : ∀ (l pre : List T), kids = pre ++ l → rightL l = true → (∀ t, t ∈ l → SizeC t) →
 ∃ k, tlv_Size.l0 k (sizeL pre) (1 + manyL pre) (deepL pre) kids (kids.length : Int) (pre.length : Int) = some (sizeL kids + headLen (sizeL kids), manyL kids + 1, deepL kids + 1)
 | [], pre, e, _, _ => by
  rw [List.append_nil] at e
  subst e
  refine ⟨1, ?_⟩
  have hh := headLen_pos (sizeL kids)
  have hm := manyL_le kids
  rw [tlv_Size.l0, if_neg (by omega), head_f]
  show some (wrap64 (sizeL kids + ((head 0 (sizeL kids)).length : Int)), 1 + manyL kids, wrap64 (deepL kids + 1)) = _
  rw [head_length, wrap64_in _ (by unfold headLen; split <;> (try split) <;> omega), wrap64_in _ (by omega), Int.add_comm 1]
 | t :: l, pre, e, hr, ih => by
  have hap := sizeL_app pre (t :: l)
  rw [← e] at hap
  obtain ⟨a1, a2, a3, a4, a5⟩ := hap
  rw [rightL, Bool.and_eq_true] at hr
  rw [sizeL] at a1
  rw [manyL] at a2
  rw [deepL] at a3
  have m1 := manyL_le l
  have m2 := manyL_le pre
  have m3 := many_le t
  obtain ⟨k1, hk1⟩ := ih t List.mem_cons_self hr.1 (by omega)
  obtain ⟨k2, hk2⟩ := size_loop kids hs hl l (pre ++ [t]) (by rw [e]; simp) hr.2 (fun u hu => ih u (List.mem_cons_of_mem _ hu))
  have hlen : (pre.length : Int) < kids.length := by rw [e]; simp; omega
  have hrd : rd_T28 kids (pre.length : Int) = t := by simp [rd_T28, e]
  have hp := sizeL_app pre [t]
  have e1 : sizeL [t] = sizeT t := by rw [sizeL, sizeL]; omega
  have e2 : manyL [t] = manyT t := by rw [manyL, manyL]; omega
  have e3 : deepL [t] = deepT t := by rw [deepL, deepL]; omega
  rw [e1, e2, e3] at hp
  rw [hp.1, hp.2.1, hp.2.2.1] at hk2
  refine ⟨(k1 + k2) + 1, ?_⟩
  have h1 := f_up hk1 k2
  have h2 := l_up hk2 k1
  rw [Nat.add_comm k2 k1] at h2
  rw [tlv_Size.l0, if_pos hlen, if_pos (by omega), if_pos hlen, hrd, h1]
  show tlv_Size.l0 (k1 + k2) (wrap64 (sizeL pre + sizeT t)) (wrap64 (1 + manyL pre + manyT t)) (mx (deepL pre) (deepT t)) kids (kids.length : Int) (wrap64 ((pre.length : Int) + 1)) = _
  rw [wrap64_in _ (by omega), wrap64_in _ (by omega), wrap64_in _ (by omega)]
  have hmx : mx (deepL pre) (deepT t) = max (deepL pre) (deepT t) := by unfold mx; split <;> omega
  rw [hmx]
  rw [show ((pre ++ [t]).length : Int) = (pre.length : Int) + 1 by simp, show 1 + (manyL pre + manyT t) = 1 + manyL pre + manyT t by omega] at h2
  exact h2
theorem kids_le : ∀ l : List T, (l.length : Int) ≤ sizeL l
 | [] => by decide
 | t :: l => by have := kids_le l; have := many_le t; rw [sizeL, List.length_cons]; omega
theorem size_step (n : T) (ih : ∀ t, t ∈ n.f2 → SizeC t) : SizeC n := by
 obtain ⟨tag, body, kids⟩ := n
 intro hr hs
 dsimp only at ih ⊢
 rw [rightT, Bool.and_eq_true, Bool.and_eq_true] at hr
 obtain ⟨⟨h1, h2⟩, h3⟩ := hr
 have ht := isTag_range h1
 have hh := headLen_pos (sizeL kids)
 have hb := headLen_pos body.length
 rw [sizeT] at hs
 by_cases hH : holdsB tag = true
 ·rw [if_pos hH] at hs
  have hm := kids_le kids
  obtain ⟨k, hk⟩ := size_loop kids (by omega) (by omega) kids [] rfl h3 ih
  refine ⟨k + 1, ?_⟩
  rw [tlv_Size.f, holds_f tag ht.1 ht.2, hH]
  rw [Option.bind_some, if_pos rfl, sizeT, manyT, deepT, if_pos hH, if_pos hH, if_pos hH]
  exact hk
 ·rw [if_neg hH] at hs
  refine ⟨1, ?_⟩
  rw [tlv_Size.f, holds_f tag ht.1 ht.2]
  rw [Option.bind_some, if_neg hH, head_f, sizeT, manyT, deepT, if_neg hH, if_neg hH, if_neg hH]
  show some (wrap64 ((body.length : Int) + ((head 0 (body.length : Int)).length : Int)), 1, 1) = _
  rw [head_length, wrap64_in _ (by omega)]
theorem size_le : ∀ (m : Nat) (n : T), SizeOf.sizeOf n ≤ m → SizeC n
 | 0, ⟨a, b, c⟩, h => by simp at h
 | m + 1, ⟨a, b, c⟩, h => size_step _ fun t ht => size_le m t (by
  have := List.sizeOf_lt_of_mem ht
  simp at h this
  omega)
theorem size_any (n : T) : SizeC n := size_le _ n (Nat.le_refl _)

/-- tlv.Size at a node that is right. -/
theorem size_walk (n : T) (hr : rightT n = true) (hs : sizeT n ≤ 100000000) (A1 : Option Addr) (c1 : Nat) (A2 : Option Addr) (c2 : Nat) (w : World) (hn : NodeAt w n A1 c1 A2 c2) :
 Calls Tryd.prog 49 #[.agg #[.int .i64 n.f0, .slice A1 n.f1.length c1, .slice A2 n.f2.length c2]] w fun e w' => e = .returned (.tuple #[.int .i64 (sizeT n), .int .i64 (manyT n), .int .i64 (deepT n)]) ∧ Below w.heap.size w w' := by
 obtain ⟨k, hk⟩ := size_any n hr hs
 exact tlv_Size.calls k _ _ _ _ _ _ _ _ _ _ w hn.1 hn.2.1 hn.2.2.1 hn.2.2.2 hk

end Go.Proofs.YtmbgjhkemlliaaaDoor.Tlv
end

section
set_option linter.unusedVariables false
set_option linter.unusedSimpArgs false
namespace Go.Proofs.YtmbgjhkemlliaaaDoor.Tlv
open Go.RowKit Go.Proofs.YtmbgjhkemlliaaaDoorW.PrintWords Go.Proofs.YtmbgjhkemlliaaaDoorW.PrintLast Go.Proofs.YtmbgjhkemlliaaaDoorW.PrintMore Go.Proofs.YtmbgjhkemlliaaaDoor.PT

/-- A row of bytes of one's own, above base. -/
abbrev Own (w : World) (base : Nat) (A : Option Addr) (c : Nat) (l : List Int) : Prop := (Kd.int .u8).R 5 w base (fun k => base ≤ k) (.slice A l.length c) l
theorem C_of_reads {W : World} {A : Option Addr} {l : List Int} {n : Nat} (h : ReadsInt W .u8 A l.length l) (hn : l.length = n) : ReadsRow ((Kd.int .u8).K W) (Kd.int .u8).sz W A n l := by
 subst hn
 exact Kd.C_of_reads (d := (0 : Int)) h
theorem reads_of_C {W : World} {A : Option Addr} {l : List Int} (h : (Kd.int .u8).C W A l.length l) : ReadsInt W .u8 A l.length l := Kd.reads_of_C (d := (0 : Int)) h
theorem add_in {ops : Array Oper} {o : Oper} {a : Act} {Q : Exit → Act → World → Prop} {rest : List Oper} (W : World) (base : Nat) (A : Option Addr) (co : Nat) (lo : List Int) (Ax : Option Addr) (cx : Nat) (ys : List Int) (m : Nat) (s x : Operand) (hgd : o.guard = none)
 (ho : o.op = .call { callee := .builtin .append, args := #[s, x], argTypes := #[22, 22] }) (hs : a.eval s = .slice A lo.length co) (hx : a.eval x = .slice Ax m cx)
 (HO : Own W base A co lo) (HR : ReadsInt W .u8 Ax ys.length ys) (hm : ys.length = m) (hb : base ≤ W.heap.size) (hl : lo.length + m ≤ 1000000000)
 (h : ∀ w1 A1 c1, Own w1 base A1 c1 (lo ++ ys) → Below base W w1 → W.grownBy w1 (Value.slice A lo.length co).ownBlock → wpList Tryd.prog ops Q rest (a.put o.dst (.slice A1 (lo ++ ys).length c1)) w1) :
 wpList Tryd.prog ops Q (o :: rest) a W := by
 refine Kd.R_append_rows (Kd.int .u8) (w0 := W) base hgd s x 22 5 (.int .u8 0) 1 ho Tryd.underlying22 infoByte rfl (by decide) (by omega) _ lo ys Ax m cx (fun k => base ≤ k) (fun _ => False) hs hx HO (C_of_reads HR hm) (fun x cs h => h) (fun _ h => h.elim) (fun k h => Nat.le_trans hb h) (Below.refl _ _) hb (by omega) ?_
 intro v1 w1 ho1 hb1 hg1 _
 obtain ⟨Av, cv, rfl⟩ := Kd.R_slice ho1
 exact h w1 Av cv ho1 hb1 hg1
theorem add_step {ops : Array Oper} {o : Oper} {a : Act} {Q : Exit → Act → World → Prop} {Kc : Act → World → Prop} (W : World) (base : Nat) (A : Option Addr) (co : Nat) (lo : List Int) (Ax : Option Addr) (cx : Nat) (ys : List Int) (m : Nat) (s x : Operand) (hw : Region.wanted o (yielded ops a.tmps) = true)
 (ho : o.op = .call { callee := .builtin .append, args := #[s, x], argTypes := #[22, 22] }) (hs : a.eval s = .slice A lo.length co) (hx : a.eval x = .slice Ax m cx)
 (HO : Own W base A co lo) (HR : ReadsInt W .u8 Ax ys.length ys) (hm : ys.length = m) (hb : base ≤ W.heap.size) (hl : lo.length + m ≤ 1000000000)
 (h : ∀ w1 A1 c1, Own w1 base A1 c1 (lo ++ ys) → Below base W w1 → W.grownBy w1 (Value.slice A lo.length co).ownBlock → Kc (a.put o.dst (.slice A1 (lo ++ ys).length c1)) w1) :
 if Region.wanted o (yielded ops a.tmps) = true then Oper.wp Tryd.prog o a W Kc Q else Kc (a.put o.dst undef) W := by
 refine Kd.R_append_rows_step (Kd.int .u8) (w0 := W) base hw s x 22 5 (.int .u8 0) 1 ho Tryd.underlying22 infoByte rfl (by decide) (by omega) _ lo ys Ax m cx (fun k => base ≤ k) (fun _ => False) hs hx HO (C_of_reads HR hm) (fun x cs h => h) (fun _ h => h.elim) (fun k h => Nat.le_trans hb h) (Below.refl _ _) hb (by omega) ?_
 intro v1 w1 ho1 hb1 hg1 _
 obtain ⟨Av, cv, rfl⟩ := Kd.R_slice ho1
 exact h w1 Av cv ho1 hb1 hg1

def PutC (n : T) : Prop := ∀ (Ao : Option Addr) (co : Nat) (lo : List Int) (A1 : Option Addr) (c1 : Nat) (A2 : Option Addr) (c2 : Nat) (w0 w : World) (base : Nat), NodeAt w0 n A1 c1 A2 c2 → Below w0.heap.size w0 w → w0.heap.size ≤ base → base ≤ w.heap.size →
 Own w base Ao co lo → rightT n = true → (lo.length : Int) + sizeT n ≤ 1000000 →
 Calls Tryd.prog 50 #[.slice Ao lo.length co, .agg #[.int .i64 n.f0, .slice A1 n.f1.length c1, .slice A2 n.f2.length c2]] w fun e w' => ∃ A' c', e = .returned (.slice A' (lo ++ encT n).length c') ∧ Own w' base A' c' (lo ++ encT n) ∧ Below base w w'

theorem take_parts {kids : List T} {k : Nat} (h : k < kids.length) (hr : rightL kids = true) : sizeL (kids.take (k + 1)) = sizeL (kids.take k) + sizeT (kids[k]'h) ∧ encL (kids.take (k + 1)) = encL (kids.take k) ++ encT (kids[k]'h) ∧ rightT (kids[k]'h) = true ∧ sizeL (kids.take (k + 1)) ≤ sizeL kids ∧ 0 ≤ sizeL (kids.take k) := by
 have e : kids.take (k + 1) = kids.take k ++ [kids[k]'h] := by rw [List.take_add_one, List.getElem?_eq_getElem h]; rfl
 have h1 := sizeL_app (kids.take k) [kids[k]'h]
 have h2 := sizeL_app (kids.take (k + 1)) (kids.drop (k + 1))
 rw [List.take_append_drop] at h2
 have h3 := manyL_le (kids.drop (k + 1))
 have h4 := manyL_le (kids.take k)
 refine ⟨?_, ?_, (rightL_all kids).1 hr _ (List.getElem_mem h), by omega, by omega⟩
 ·rw [e, h1.1, sizeL, sizeL]; omega
 ·rw [e, h1.2.2.2.1, encL, encL, List.append_nil]

set_option maxHeartbeats 4000000 in
set_option maxRecDepth 100000 in
theorem put_leaf (tag : Int) (body : List Int) (kids : List T) (hH : holdsB tag = false) : PutC ⟨tag, body, kids⟩ := by
 intro Ao co lo A1 c1 A2 c2 w0 w base hn hB0 hb0 hbw hO hr hsz
 obtain ⟨hr1, hc1, hr2, hc2⟩ := hn
 dsimp only at hr1 hc1 hr2 hc2 ⊢
 have hnot : ∀ (x : Bool) (w : World), (Op.unary .not (.bool x)).run Tryd.prog w = .ok (.bool (!x)) w := fun _ _ => rfl
 have hbox : (w.alloc (.cells #[.int .i64 tag, .slice A1 body.length c1, .slice A2 kids.length c2] 28)).heap[w.heap.size]? = some (.cells #[.int .i64 tag, .slice A1 body.length c1, .slice A2 kids.length c2] 28 (0, 0)) := heap_alloc_new w _
 rw [rightT, Bool.and_eq_true, Bool.and_eq_true] at hr
 obtain ⟨t0, t1⟩ := isTag_range hr.1.1
 have HH := Lib.hid (show tlv_holds.f tag = some false by rw [holds_f tag t0 t1, hH])
 have hB1 : Below w.heap.size w (w.alloc (.cells #[.int .i64 tag, .slice A1 body.length c1, .slice A2 kids.length c2] 28)) := (Below.refl _ _).alloc (Nat.le_refl _) _
 have henc : encT ⟨tag, body, kids⟩ = head tag body.length ++ body := by rw [encT, if_neg (by rw [hH]; simp)]
 rw [sizeT, if_neg (by rw [hH]; simp)] at hsz
 rw [henc]
 have hhl := headLen_pos body.length
 have hhe := head_length tag body.length
 have HEAD : ∀ (w2 w3 : World) (A : Option Addr) (c : Nat), Below w.heap.size w w2 → w2.heap[w.heap.size]? = some (.cells #[.int .i64 tag, .slice A1 body.length c1, .slice A2 kids.length c2] 28 (0, 0)) →
  (Kd.int .u8).R 5 w3 w2.heap.size (fun _ => True) (.slice A (head tag body.length).length c) (head tag body.length) → Below w2.heap.size w2 w3 →
  (w3.cell? ⟨w.heap.size, 0, none⟩ = some (.int .i64 tag) ∧ w3.cell? ⟨w.heap.size, 1, none⟩ = some (.slice A1 body.length c1)) ∧ Own w3 base Ao co lo ∧ ReadsInt w3 .u8 A (head tag body.length).length (head tag body.length) ∧ base ≤ w3.heap.size ∧ lo.length + (head tag body.length).length ≤ 1000000000 ∧
  (∀ (w4 : World) (A4 : Option Addr) (c4 : Nat), Own w4 base A4 c4 (lo ++ head tag body.length) → Below base w3 w4 → w3.grownBy w4 (Value.slice Ao lo.length co).ownBlock →
   (w4.cell? ⟨w.heap.size, 0, none⟩ = some (.int .i64 tag) ∧ w4.cell? ⟨w.heap.size, 1, none⟩ = some (.slice A1 body.length c1)) ∧ Own w4 base A4 c4 (lo ++ head tag body.length) ∧ ReadsInt w4 .u8 A1 body.length body ∧ base ≤ w4.heap.size ∧ (lo ++ head tag body.length).length + body.length ≤ 1000000000 ∧
   (∀ (w5 : World) (A5 : Option Addr) (c5 : Nat), Own w5 base A5 c5 ((lo ++ head tag body.length) ++ body) → Below base w4 w5 → w4.grownBy w5 (Value.slice A4 (lo ++ head tag body.length).length c4).ownBlock →
    (w5.cell? ⟨w.heap.size, 0, none⟩ = some (.int .i64 tag) ∧ w5.cell? ⟨w.heap.size, 1, none⟩ = some (.slice A1 body.length c1)) ∧ Own w5 base A5 c5 (lo ++ (head tag body.length ++ body)) ∧ Below base w w5)) := by
  intro w2 w3 A c hB2 h2 hoh hB3
  have hs2 : w.heap.size < w2.heap.size := (Array.getElem?_eq_some_iff.1 h2).1
  have h3 : w3.heap[w.heap.size]? = some (.cells #[.int .i64 tag, .slice A1 body.length c1, .slice A2 kids.length c2] 28 (0, 0)) := (hB3.block _ hs2).trans h2
  have hOw3 : Own w3 base Ao co lo := Kd.R_below (Kd.R_below hO hB2) hB3
  have hB03 : Below w0.heap.size w0 w3 := hB0.trans ((hB2.trans (hB3.mono (by omega))).mono (by omega))
  have hs3 := hB3.size
  have hRh : ReadsInt w3 .u8 A (head tag body.length).length (head tag body.length) := by
   obtain ⟨A', c', e, _, hc⟩ := Kd.R_reads hoh
   injection e with e1 e2 e3
   subst e1
   exact reads_of_C hc
  refine ⟨⟨(Lib.cell_of_heap h3 0), (Lib.cell_of_heap h3 1)⟩, hOw3, hRh, by omega, by omega, ?_⟩
  intro w4 A4 c4 hO4 hB4 hG4
  have h4 : w4.heap[w.heap.size]? = some (.cells #[.int .i64 tag, .slice A1 body.length c1, .slice A2 kids.length c2] 28 (0, 0)) := (hG4.block _ (by omega) (Kd.R_ne hOw3 h3 (by decide))).trans h3
  have hB04 : Below w0.heap.size w0 w4 := hB03.trans (hB4.mono hb0)
  have hs4 := hB4.size
  refine ⟨⟨(Lib.cell_of_heap h4 0), (Lib.cell_of_heap h4 1)⟩, hO4, reads_of_C (Kd.C_below hr1 hB04), by omega, by rw [List.length_append]; omega, ?_⟩
  intro w5 A5 c5 hO5 hB5 hG5
  have h5 : w5.heap[w.heap.size]? = some (.cells #[.int .i64 tag, .slice A1 body.length c1, .slice A2 kids.length c2] 28 (0, 0)) := (hG5.block _ (by omega) (Kd.R_ne hO4 h4 (by decide))).trans h4
  refine ⟨⟨(Lib.cell_of_heap h5 0), (Lib.cell_of_heap h5 1)⟩, ?_, ?_⟩
  ·rw [← List.append_assoc]; exact hO5
  ·exact (((hB2.mono hbw).trans (hB3.mono (by omega))).trans hB4).trans hB5
 have HHE := Lib.hid HEAD
 clear HEAD hr1 hr2 hc1 hc2 hr t0 t1 hsz hhl hhe henc hB0 hO hb0 hbw hH
 go_enter Tryd.func50, Tryd.ntmps50
 go_wp2_with (fail)
 refine (tlv_holds.calls tag _ _ HH.out).mono ?_
 rintro e w2 ⟨rfl, nd, rfl⟩
 have hB2 := pw_below_drewN hB1 nd
 have hb2 : ((w.alloc (.cells #[.int .i64 tag, .slice A1 body.length c1, .slice A2 kids.length c2] 28)).drewN nd).heap[w.heap.size]? = some (.cells #[.int .i64 tag, .slice A1 body.length c1, .slice A2 kids.length c2] 28 (0, 0)) := hbox
 generalize (w.alloc (.cells #[.int .i64 tag, .slice A1 body.length c1, .slice A2 kids.length c2] 28)).drewN nd = w2 at hB2 hb2 ⊢
 have hb2' : w2.drew.heap[w.heap.size]? = some (.cells #[.int .i64 tag, .slice A1 body.length c1, .slice A2 kids.length c2] 28 (0, 0)) := hb2
 have hB2' : Below w.heap.size w w2.drew := hB2.drew
 have HHEAD := Lib.hid (fun w3 A c hoh hB => HHE.out w2.drew w3 A c hB2' hb2' hoh hB)
 have a0 : w2.drew.cell? ⟨w.heap.size, 0, none⟩ = some (.int .i64 tag) := Lib.cell_of_heap hb2' 0
 have a1 : w2.drew.cell? ⟨w.heap.size, 1, none⟩ = some (.slice A1 body.length c1) := Lib.cell_of_heap hb2' 1
 clear hB1 hbox hb2 hb2' hB2 hB2'
 go_wp2
 refine start_ (n := 12) (S := fun w' => w'.cell? ⟨w.heap.size, 0, none⟩ = some (.int .i64 tag) ∧ w'.cell? ⟨w.heap.size, 1, none⟩ = some (.slice A1 body.length c1)) (ds := []) #[false, false, false, false, false, false, false, false, false, false, false, false] (by kernel_rfl) rfl rfl ⟨a0, a1⟩ (fun hHeld => ?_)
 refine pure_ (i := 0) (N := some 17) (v := ?_) (a' := ?_) #[true, false, false, false, false, false, false, false, false, false, false, false] rfl rfl (by kernel_rfl) (fun _ _ _ h => h) (Or.inl ⟨by rfl, ?_⟩) ?_ ?_
 rotate_left
 ·intro w'
  go_simp
  with_reducible rfl
 rotate_left
 ·simp only [Act.put, List.setIfInBounds_toArray, List.set_cons_zero, List.set_cons_succ, i64_w, i32_w]
  rfl
 refine pure_ (i := 1) (N := some 18) (v := ?_) (a' := ?_) #[true, true, false, false, false, false, false, false, false, false, false, false] rfl rfl (by kernel_rfl) (fun _ _ _ h => h) (Or.inl ⟨by rfl, ?_⟩) ?_ ?_
 rotate_left
 ·intro w'
  go_simp
  with_reducible rfl
 rotate_left
 ·simp only [Act.put, List.setIfInBounds_toArray, List.set_cons_zero, List.set_cons_succ, i64_w, i32_w]
  rfl
 refine pure_ (i := 3) (N := some 20) (v := ?_) (a' := ?_) #[true, true, false, true, false, false, false, false, false, false, false, false] rfl rfl (by kernel_rfl) (fun _ _ _ h => h) (Or.inl ⟨by rfl, ?_⟩) ?_ ?_
 rotate_left
 ·intro w'
  go_simp
  with_reducible rfl
 rotate_left
 ·simp only [Act.put, List.setIfInBounds_toArray, List.set_cons_zero, List.set_cons_succ, i64_w, i32_w]
  rfl
 refine pure_ (i := 8) (N := some 25) (v := ?_) (a' := ?_) #[true, true, false, true, false, false, false, false, true, false, false, false] rfl rfl (by kernel_rfl) (fun _ _ _ h => h) (Or.inl ⟨by rfl, ?_⟩) ?_ ?_
 rotate_left
 ·intro w'
  go_simp
  with_reducible rfl
 rotate_left
 ·simp only [Act.put, List.setIfInBounds_toArray, List.set_cons_zero, List.set_cons_succ, i64_w, i32_w]
  rfl
 refine take_ (i := 2) (N := some 19) (v := ?_) (a' := ?_) #[true, true, true, true, false, false, false, false, true, false, false, false] rfl rfl (by kernel_rfl) (fun _ _ _ h => h) (Or.inl ⟨by rfl, ?_⟩) hHeld ?_ ?_
 rotate_left
 ·rintro w' ⟨s0, s1⟩
  go_simp
  with_reducible rfl
 rotate_left
 ·simp only [Act.put, List.setIfInBounds_toArray, List.set_cons_zero, List.set_cons_succ, i64_w, i32_w]
  rfl
 refine take_ (i := 4) (N := some 21) (v := ?_) (a' := ?_) #[true, true, true, true, true, false, false, false, true, false, false, false] rfl rfl (by kernel_rfl) (fun _ _ _ h => h) (Or.inl ⟨by rfl, ?_⟩) hHeld ?_ ?_
 rotate_left
 ·rintro w' ⟨s0, s1⟩
  go_simp
  with_reducible rfl
 rotate_left
 ·simp only [Act.put, List.setIfInBounds_toArray, List.set_cons_zero, List.set_cons_succ, i64_w, i32_w]
  rfl
 refine pure_ (i := 5) (N := some 22) (v := ?_) (a' := ?_) #[true, true, true, true, true, true, false, false, true, false, false, false] rfl rfl (by kernel_rfl) (fun _ _ _ h => h) (Or.inl ⟨by rfl, ?_⟩) ?_ ?_
 rotate_left
 ·intro w'
  go_simp
  with_reducible rfl
 rotate_left
 ·simp only [Act.put, List.setIfInBounds_toArray, List.set_cons_zero, List.set_cons_succ, i64_w, i32_w]
  rfl
 refine take_ (i := 9) (N := some 26) (v := ?_) (a' := ?_) #[true, true, true, true, true, true, false, false, true, true, false, false] rfl rfl (by kernel_rfl) (fun _ _ _ h => h) (Or.inl ⟨by rfl, ?_⟩) hHeld ?_ ?_
 rotate_left
 ·rintro w' ⟨s0, s1⟩
  go_simp
  with_reducible rfl
 rotate_left
 ·simp only [Act.put, List.setIfInBounds_toArray, List.set_cons_zero, List.set_cons_succ, i64_w, i32_w]
  rfl
 refine one_ (i := 6) (N := some 23) #[true, true, true, true, true, true, true, false, true, true, false, false] rfl rfl (by kernel_rfl) (by decide) (fun K hK => ?_)
 refine goes_ Tryd.func64 (by kernel_rfl) rfl #[.int .i64 tag, .int .i64 (body.length : Int)] (by rfl) rfl rfl (by (try simp only [List.map_toArray, List.map_cons, List.map_nil]); first | done | rfl) ?_
 refine (tlv_head.calls tag (body.length : Int) _ _ (head_f _ _)).mono ?_
 rintro e w3 ⟨v, rfl, ho3, hb3⟩
 refine ⟨_, rfl, ?_⟩
 obtain ⟨Ah, ch, rfl⟩ := Kd.R_slice ho3
 have HF := Lib.hid (HHEAD.out w3 Ah ch ho3 hb3)
 clear ho3 hb3
 refine hK.out _ _ HF.out.1 (fun hHeld => ?_)
 clear hK K
 refine norm_ (a' := ?_) ?_ ?_
 rotate_left
 ·show Act.put _ (some 23) _ = _
  simp only [Act.put, List.setIfInBounds_toArray, List.set_cons_zero, List.set_cons_succ, i64_w, i32_w]
  rfl
 refine one_ (i := 7) (N := some 24) #[true, true, true, true, true, true, true, true, true, true, false, false] rfl rfl (by kernel_rfl) (by decide) (fun K hK => ?_)
 refine add_step w3 base Ao co lo Ah ch (head tag (body.length : Int)) (head tag (body.length : Int)).length (.tmp 17) (.tmp 23) (by rfl) rfl (by rfl) (by rfl) HF.out.2.1 HF.out.2.2.1 rfl HF.out.2.2.2.1 HF.out.2.2.2.2.1 ?_
 intro w4 A4 c4 ho4 hb4 hg4
 have HG := Lib.hid (HF.out.2.2.2.2.2 w4 A4 c4 ho4 hb4 hg4)
 clear ho4 hb4 hg4
 refine hK.out _ _ HG.out.1 (fun hHeld => ?_)
 clear hK K
 refine norm_ (a' := ?_) ?_ ?_
 rotate_left
 ·show Act.put _ (some 24) _ = _
  simp only [Act.put, List.setIfInBounds_toArray, List.set_cons_zero, List.set_cons_succ, i64_w, i32_w]
  rfl
 refine one_ (i := 10) (N := some 27) #[true, true, true, true, true, true, true, true, true, true, true, false] rfl rfl (by kernel_rfl) (by decide) (fun K hK => ?_)
 refine add_step w4 base A4 c4 (lo ++ head tag (body.length : Int)) A1 c1 body body.length (.tmp 24) (.tmp 26) (by rfl) rfl (by rfl) (by rfl) HG.out.2.1 HG.out.2.2.1 rfl HG.out.2.2.2.1 HG.out.2.2.2.2.1 ?_
 intro w5 A5 c5 ho5 hb5 hg5
 have HP := Lib.hid (HG.out.2.2.2.2.2 w5 A5 c5 ho5 hb5 hg5)
 clear ho5 hb5 hg5
 refine hK.out _ _ HP.out.1 (fun hHeld => ?_)
 clear hK K
 refine norm_ (a' := ?_) ?_ ?_
 rotate_left
 ·show Act.put _ (some 27) _ = _
  simp only [Act.put, List.setIfInBounds_toArray, List.set_cons_zero, List.set_cons_succ, i64_w, i32_w]
  rfl
 refine pure_ (i := 11) (N := some 4) (v := ?_) (a' := ?_) #[true, true, true, true, true, true, true, true, true, true, true, true] rfl rfl (by kernel_rfl) (fun _ _ _ h => h) (Or.inl ⟨by rfl, ?_⟩) ?_ ?_
 rotate_left
 ·intro w'
  go_simp
  with_reducible rfl
 rotate_left
 ·simp only [Act.put, List.setIfInBounds_toArray, List.set_cons_zero, List.set_cons_succ, i64_w, i32_w]
  rfl
 refine done_ (by kernel_rfl) ?_
 go_wp2
 go_ret
 exact ⟨_, _, (by show Ending.returned (.slice A5 (lo.length + ((head tag (body.length : Int)).length + body.length)) c5) = _; rw [List.length_append, List.length_append]), HP.out.2.1, HP.out.2.2⟩

theorem heap_lt {W : World} {g : Nat} {o : Obj} (h : W.heap[g]? = some o) : g < W.heap.size := (Array.getElem?_eq_some_iff.1 h).1
/-- What holds behind the head, and behind the head's append. -/
theorem put_next {n : T} {tag : Int} {body : List Int} {kids : List T} (hnode : n = ⟨tag, body, kids⟩) {Ao : Option Addr} {co : Nat} {lo : List Int} {A1 A2 : Option Addr} {c1 c2 base : Nat} {w0 w w2 wr w3 : World} {A : Option Addr} {c : Nat}
 (num : w0.heap.size ≤ base ∧ base ≤ w.heap.size ∧ (lo.length : Int) + (sizeL kids + headLen (sizeL kids)) ≤ 1000000 ∧ (2 ≤ headLen (sizeL kids) ∧ headLen (sizeL kids) ≤ 4) ∧ ((head tag (sizeL kids)).length : Int) = headLen (sizeL kids) ∧ sizeL kids = ((encL kids).length : Int) ∧ (kids.length : Int) ≤ sizeL kids)
 (hB0 : Below w0.heap.size w0 w) (hO : Own w base Ao co lo) (hB2 : Below w.heap.size w w2) (h2 : w2.heap[w.heap.size]? = some (.cells #[.int .i64 tag, .slice A1 body.length c1, .slice A2 kids.length c2] 28 (0, 0))) (hBr : Below w2.heap.size w2 wr)
 (hr : wr.heap[w.heap.size]? = some (.cells #[.int .i64 tag, .slice A1 body.length c1, .slice A2 kids.length c2] 28 (0, 0))) (hoh : (Kd.int .u8).R 5 w3 wr.heap.size (fun _ => True) (.slice A (head tag (sizeL kids)).length c) (head tag (sizeL kids))) (hB3 : Below wr.heap.size wr w3) :
 w3.cell? ⟨w.heap.size, 2, none⟩ = some (.slice A2 kids.length c2) ∧ Own w3 base Ao co lo ∧ ReadsInt w3 .u8 A (head tag (sizeL kids)).length (head tag (sizeL kids)) ∧ base ≤ w3.heap.size ∧ lo.length + (head tag (sizeL kids)).length ≤ 1000000000 ∧
  (∀ (w4 : World) (A4 : Option Addr) (c4 : Nat), Own w4 base A4 c4 (lo ++ head tag (sizeL kids)) → Below base w3 w4 → w3.grownBy w4 (Value.slice Ao lo.length co).ownBlock →
   w4.cell? ⟨w.heap.size, 2, none⟩ = some (.slice A2 kids.length c2) ∧ Own w4 base A4 c4 (lo ++ head tag (sizeL kids)) ∧ Below base w w4) := by
 obtain ⟨hb0, hbw, hsz, hhl, hhe, hke, hkl⟩ := num
 have hs2 := heap_lt h2
 have hsr := heap_lt hr
 have h3 : w3.heap[w.heap.size]? = some (.cells #[.int .i64 tag, .slice A1 body.length c1, .slice A2 kids.length c2] 28 (0, 0)) := (hB3.block _ hsr).trans hr
 have hOw3 : Own w3 base Ao co lo := Kd.R_below (Kd.R_below (Kd.R_below hO hB2) hBr) hB3
 have hs3 := hB3.size
 have hs2r := hBr.size
 have hRh : ReadsInt w3 .u8 A (head tag (sizeL kids)).length (head tag (sizeL kids)) := by
  obtain ⟨A', c', e, _, hc⟩ := Kd.R_reads hoh
  injection e with e1 e2 e3
  subst e1
  exact reads_of_C hc
 refine ⟨Lib.cell_of_heap h3 2, hOw3, hRh, by omega, by omega, ?_⟩
 intro w4 A4 c4 hO4 hB4 hG4
 have h4 : w4.heap[w.heap.size]? = some (.cells #[.int .i64 tag, .slice A1 body.length c1, .slice A2 kids.length c2] 28 (0, 0)) := (hG4.block _ (by omega) (Kd.R_ne hOw3 h3 (by decide))).trans h3
 exact ⟨Lib.cell_of_heap h4 2, hO4, (((hB2.mono hbw).trans (hBr.mono (by omega))).trans (hB3.mono (by omega))).trans hB4⟩

set_option maxHeartbeats 4000000 in
set_option maxRecDepth 100000 in
theorem put_step (tag : Int) (body : List Int) (kids : List T) (hH : holdsB tag = true) (ih : ∀ t, t ∈ kids → PutC t) : PutC ⟨tag, body, kids⟩ := by
 intro Ao co lo A1 c1 A2 c2 w0 w base hn hB0 hb0 hbw hO hr hsz
 obtain ⟨hr1, hc1, hr2, hc2⟩ := hn
 dsimp only at hr1 hc1 hr2 hc2 ⊢
 have hnot : ∀ (x : Bool) (w : World), (Op.unary .not (.bool x)).run Tryd.prog w = .ok (.bool (!x)) w := fun _ _ => rfl
 have hmax := Kd.C_max hr2
 have hbox : (w.alloc (.cells #[.int .i64 tag, .slice A1 body.length c1, .slice A2 kids.length c2] 28)).heap[w.heap.size]? = some (.cells #[.int .i64 tag, .slice A1 body.length c1, .slice A2 kids.length c2] 28 (0, 0)) := heap_alloc_new w _
 rw [rightT, Bool.and_eq_true, Bool.and_eq_true] at hr
 obtain ⟨t0, t1⟩ := isTag_range hr.1.1
 have hrk := hr.2
 have HH := Lib.hid (show tlv_holds.f tag = some true by rw [holds_f tag t0 t1, hH])
 have hB1 : Below w.heap.size w (w.alloc (.cells #[.int .i64 tag, .slice A1 body.length c1, .slice A2 kids.length c2] 28)) := (Below.refl _ _).alloc (Nat.le_refl _) _
 have henc : encT ⟨tag, body, kids⟩ = head tag (sizeL kids) ++ encL kids := by rw [encT, if_pos hH]
 rw [sizeT, if_pos hH] at hsz
 have hhl := headLen_pos (sizeL kids)
 have hhe := head_length tag (sizeL kids)
 have hke := size_encL kids
 have hkl := kids_le kids
 clear hr1 hc1 hc2 hr t0 t1 hH
 have HR := Lib.hid hr2
 have HRK := Lib.hid hrk
 have IH := Lib.hid ih
 have HO := Lib.hid hO
 have HENC := Lib.hid henc
 have HB0 := Lib.hid hB0
 have NUM := Lib.hid (And.intro hb0 (And.intro hbw (And.intro hsz (And.intro hhl (And.intro hhe (And.intro hke hkl))))))
 clear hr2 hrk ih hO henc hB0 hb0 hbw hsz hhl hhe hke hkl
 go_enter Tryd.func50, Tryd.ntmps50
 go_wp2_with (fail)
 refine (tlv_holds.calls tag _ _ HH.out).mono ?_
 rintro e w2 ⟨rfl, nd, rfl⟩
 have hB2 := pw_below_drewN hB1 nd
 have hb2 : ((w.alloc (.cells #[.int .i64 tag, .slice A1 body.length c1, .slice A2 kids.length c2] 28)).drewN nd).heap[w.heap.size]? = some (.cells #[.int .i64 tag, .slice A1 body.length c1, .slice A2 kids.length c2] 28 (0, 0)) := hbox
 generalize (w.alloc (.cells #[.int .i64 tag, .slice A1 body.length c1, .slice A2 kids.length c2] 28)).drewN nd = w2 at hB2 hb2 ⊢
 clear hbox hB1
 have a0 := Lib.cell_of_heap hb2 0
 have a1 := Lib.cell_of_heap hb2 1
 have a2 := Lib.cell_of_heap hb2 2
 have HB2 := Lib.hid hB2
 have H2 := Lib.hid hb2
 clear hB2 hb2
 go_wp2
 go_loopw [5, 31] (fun sv iv wr => ∃ k : Nat, k ≤ kids.length ∧ iv = .int .i64 k ∧ sv = .int .i64 (sizeL (kids.take k)) ∧ Hid (Below w2.heap.size w2 wr)) (fun _ iv _ => kids.length - (intOf iv).toNat)
 case atStart => exact ⟨0, by omega, rfl, by simp [sizeL], Below.refl _ _⟩
 case round =>
  obtain ⟨k, hk, rfl, rfl, hb⟩ := hrel
  by_cases hlt : k < kids.length
  ·obtain ⟨ad, D1, d1, D2, d2, eA, x0, x1, x2, l1, i1, l2, i2⟩ := at_T28 HR.out (k : Int) (by omega) (by omega)
   rw [rd_mem hlt] at x0 x1 x2 l1 i1 l2 i2
   simp only [Int.toNat_natCast] at x0 x1 x2
   cases eA
   obtain ⟨p1, p2, p3, p4, p5⟩ := take_parts hlt HRK.out
   have hsz := NUM.out.2.2.1
   have hhl := NUM.out.2.2.2.1
   have hB02 : Below w0.heap.size w0 wr := HB0.out.trans ((HB2.out.mono (by have := HB0.out.size; omega)).trans (hb.out.mono (by have := HB0.out.size; have := HB2.out.size; omega)))
   replace x0 := (hB02.cell (World.block_lt_of_cell? w0 _ x0)).trans x0
   replace x1 := (hB02.cell (World.block_lt_of_cell? w0 _ x1)).trans x1
   replace x2 := (hB02.cell (World.block_lt_of_cell? w0 _ x2)).trans x2
   have hND : NodeAt w0 (kids[k]'hlt) D1 d1 D2 d2 := ⟨i1, l1, i2, l2⟩
   have hsize := size_walk (kids[k]'hlt) p3 (by omega) D1 d1 D2 d2 (wr.alloc (.cells #[.int .i64 (kids[k]'hlt).f0, .slice D1 (kids[k]'hlt).f1.length d1, .slice D2 (kids[k]'hlt).f2.length d2] 28)) (hND.below (hB02.alloc (hB02.size) _))
   have HS := Lib.hid hsize
   have hb' := hb.out.size
   have HBN := Lib.hid (show Below w2.heap.size w2 (wr.alloc (.cells #[.int .i64 (kids[k]'hlt).f0, .slice D1 (kids[k]'hlt).f1.length d1, .slice D2 (kids[k]'hlt).f2.length d2] 28)) from hb.out.alloc hb' _)
   have hk0 : (0 ≤ (k : Int)) = True := eq_true (by omega)
   have hk1 : ((k : Int) < (kids.length : Int)) = True := eq_true (by omega)
   have HSUM := Lib.hid (show wrap64 (sizeL (kids.take k) + sizeT (kids[k]'hlt)) = sizeL (kids.take (k + 1)) by rw [p1, wrap64_in _ (by have := many_le (kids[k]'hlt); omega)])
   have HLT := Lib.hid hlt
   have hwk : wrap64 ((k : Int) + 1) = ((k + 1 : Nat) : Int) := by unfold wrap64; omega
   clear hsize hND p1 p2 p3 p4 p5 hB02 l1 l2 i1 i2 hsz hhl
   generalize kids[k] = kd at *
   go_wp2_with (fail)
   refine HS.out.mono ?_
   rintro e w5 ⟨rfl, hB6⟩
   have hB7 := Lib.hid (HBN.out.trans (hB6.mono (by simp; omega)))
   clear hB6
   have hsum := HSUM.out
   go_wp2
   go_round
   case rel => exact ⟨k + 1, by have := HLT.out; omega, by simp [hwk], by simp [hsum], hB7⟩
   case measure => simp [intOf, hwk]; have := HLT.out; omega
  ·obtain rfl : k = kids.length := by omega
   rw [List.take_length]
   have hB := hb.out
   have h3 : wr.heap[w.heap.size]? = some (.cells #[.int .i64 tag, .slice A1 body.length c1, .slice A2 kids.length c2] 28 (0, 0)) := (hB.block _ (Array.getElem?_eq_some_iff.1 H2.out).1).trans H2.out
   clear a0 a1 a2 hlt hk
   have a0 := Lib.cell_of_heap h3 0
   have a2 := Lib.cell_of_heap h3 2
   have HNEXT := Lib.hid (fun (w3 : World) (A : Option Addr) (c : Nat) (hoh : (Kd.int .u8).R 5 w3 wr.heap.size (fun _ => True) (.slice A (head tag (sizeL kids)).length c) (head tag (sizeL kids))) (hB3 : Below wr.heap.size wr w3) =>
    put_next (n := ⟨tag, body, kids⟩) rfl NUM.out HB0.out HO.out HB2.out H2.out hB h3 hoh hB3)
   have HENTRY := Lib.hid (heap_lt h3)
   clear hB h3 hb
   go_wp2_with (fail)
   refine (tlv_head.calls tag (sizeL kids) _ _ (head_f _ _)).mono ?_
   rintro e w3 ⟨v, rfl, ho3, hb3⟩
   obtain ⟨Ah, ch, rfl⟩ := Kd.R_slice ho3
   have HF := Lib.hid (HNEXT.out w3 Ah ch ho3 hb3)
   clear ho3 hb3
   have a2 := HF.out.1
   go_wp2_with ((with_reducible refine at_dst 50 ?_); go_must (refine add_in w3 base Ao co lo Ah ch (head tag (sizeL kids)) (head tag (sizeL kids)).length (.tmp 45) (.tmp 49) rfl rfl rfl rfl HF.out.2.1 HF.out.2.2.1 rfl HF.out.2.2.2.1 HF.out.2.2.2.2.1 ?_); rintro w4 A4 c4 ho4 hb4 hg4; have HG := Lib.hid (HF.out.2.2.2.2.2 w4 A4 c4 ho4 hb4 hg4); clear ho4 hb4 hg4; have a2' := HG.out.1)
   have HP0 := NUM.out
   go_loopw [0, 54] (fun sv iv wr => ∃ (k : Nat) (A : Option Addr) (c : Nat) (lk : List Int), k ≤ kids.length ∧ iv = .int .i64 k ∧ sv = .slice A lk.length c ∧ Hid (lk = lo ++ (head tag (sizeL kids) ++ encL (kids.take k))) ∧ Hid (Own wr base A c lk) ∧ Hid (Below base w wr)) (fun _ iv _ => kids.length - (intOf iv).toNat)
   case atStart => exact ⟨0, A4, c4, lo ++ head tag (sizeL kids), by omega, rfl, by simp, Lib.hid (by simp [encL]), HG.out.2.1, HG.out.2.2⟩
   case round =>
    obtain ⟨k, A, c, lk, hk, rfl, rfl, hlk, hO5, hB5⟩ := hrel
    by_cases hlt : k < kids.length
    ·obtain ⟨ad, D1, d1, D2, d2, eA, x0, x1, x2, l1, i1, l2, i2⟩ := at_T28 HR.out (k : Int) (by omega) (by omega)
     rw [rd_mem hlt] at x0 x1 x2 l1 i1 l2 i2
     simp only [Int.toNat_natCast] at x0 x1 x2
     cases eA
     obtain ⟨p1, p2, p3, p4, p5⟩ := take_parts hlt HRK.out
     obtain ⟨n1, n2, n3, n4, n5, n6, n7⟩ := HP0
     have hB05 : Below w0.heap.size w0 wr := HB0.out.trans (hB5.out.mono n1)
     replace x0 := (hB05.cell (World.block_lt_of_cell? w0 _ x0)).trans x0
     replace x1 := (hB05.cell (World.block_lt_of_cell? w0 _ x1)).trans x1
     replace x2 := (hB05.cell (World.block_lt_of_cell? w0 _ x2)).trans x2
     have hND : NodeAt w0 (kids[k]'hlt) D1 d1 D2 d2 := ⟨i1, l1, i2, l2⟩
     have hlkl : (lk.length : Int) = lo.length + headLen (sizeL kids) + sizeL (kids.take k) := by rw [hlk.out, List.length_append, List.length_append, Int.natCast_add, Int.natCast_add, n5]; have := size_encL (kids.take k); omega
     have hs5 := hB5.out.size
     have hput := IH.out (kids[k]'hlt) (List.getElem_mem hlt) A c lk D1 d1 D2 d2 w0 (wr.alloc (.cells #[.int .i64 (kids[k]'hlt).f0, .slice D1 (kids[k]'hlt).f1.length d1, .slice D2 (kids[k]'hlt).f2.length d2] 28)) base hND (hB05.alloc hB05.size _) n1 (by simp; omega) (Kd.R_alloc hO5.out _) p3 (by omega)
     have HPUT := Lib.hid hput
     have HNEW := Lib.hid (show lk ++ encT (kids[k]'hlt) = lo ++ (head tag (sizeL kids) ++ encL (kids.take (k + 1))) by rw [hlk.out, p2]; simp)
     have HBN := Lib.hid (show Below base w (wr.alloc (.cells #[.int .i64 (kids[k]'hlt).f0, .slice D1 (kids[k]'hlt).f1.length d1, .slice D2 (kids[k]'hlt).f2.length d2] 28)) from hB5.out.alloc (by omega) _)
     have hk0 : (0 ≤ (k : Int)) = True := eq_true (by omega)
     have hk1 : ((k : Int) < (kids.length : Int)) = True := eq_true (by omega)
     have HLT := Lib.hid hlt
     have hwk : wrap64 ((k : Int) + 1) = ((k + 1 : Nat) : Int) := by unfold wrap64; omega
     clear hput hND p1 p2 p3 p4 p5 hB05 l1 l2 i1 i2 n1 n2 n3 n4 n5 n6 n7 hlkl hs5 hlk hO5 hB5 hk
     generalize kids[k] = kd at *
     go_wp2_with (fail)
     refine HPUT.out.mono ?_
     rintro e w5 ⟨A6, c6, rfl, ho6, hB6⟩
     generalize hlk6 : lk ++ encT kd = lk6 at ho6
     have hB7 := Lib.hid (HBN.out.trans hB6)
     have HO6 := Lib.hid ho6
     have HLK6 := Lib.hid (hlk6.symm.trans HNEW.out)
     clear hB6 ho6
     go_wp2
     go_round
     case rel => exact ⟨k + 1, A6, c6, lk6, by have := HLT.out; omega, by simp [hwk], by simp [← hlk6], HLK6, HO6.out, hB7.out⟩
     case measure => simp [intOf, hwk]; have := HLT.out; omega
    ·obtain rfl : k = kids.length := by omega
     rw [List.take_length, ← HENC.out] at hlk
     have hl := hlk.out
     clear hlk
     subst hl
     clear HP0
     go_wp2
     go_ret
     exact ⟨_, _, rfl, hO5.out, hB5.out⟩

theorem put_le : ∀ (m : Nat) (n : T), SizeOf.sizeOf n ≤ m → PutC n
 | 0, ⟨a, b, c⟩, h => by simp at h
 | m + 1, ⟨a, b, c⟩, h => by
  cases hH : holdsB a with
  | false => exact put_leaf a b c hH
  | true => exact put_step a b c hH fun t ht => put_le m t (by
   have := List.sizeOf_lt_of_mem ht
   simp at h this
   omega)
theorem put_any (n : T) : PutC n := put_le _ n (Nat.le_refl _)

end Go.Proofs.YtmbgjhkemlliaaaDoor.Tlv
end

section
set_option linter.unusedVariables false
set_option linter.unusedSimpArgs false
namespace Go.Proofs.YtmbgjhkemlliaaaDoor.Tlv
open Go.RowKit Go.Proofs.YtmbgjhkemlliaaaDoorW.PrintWords Go.Proofs.YtmbgjhkemlliaaaDoorW.PrintLast Go.Proofs.YtmbgjhkemlliaaaDoorW.PrintMore Go.Proofs.YtmbgjhkemlliaaaDoor.PT

def writeP (t : T) : Res (List Int) := if rightT t = false then .err 2 else if 32 < deepT t then .err 4 else if 20000 < sizeT t then .err 5 else .ok (encT t)
def WritePost (w : World) (n : T) (e : Ending) (w' : World) : Prop := match writeP n with
 | .err x => e = .returned (.tuple #[.slice none 0 0, .int .i64 x]) ∧ Below w.heap.size w w'
 | .ok l => ∃ A c, e = .returned (.tuple #[.slice A l.length c, .int .i64 0]) ∧ (Kd.int .u8).R 5 w' w.heap.size (fun _ => True) (.slice A l.length c) l ∧ Below w.heap.size w w'

set_option maxHeartbeats 4000000 in
set_option maxRecDepth 100000 in
theorem write_walk (n : T) (hs : rightT n = true → sizeT n ≤ 100000000) (A1 : Option Addr) (c1 : Nat) (A2 : Option Addr) (c2 : Nat) (w : World) (hn : NodeAt w n A1 c1 A2 c2) :
 Calls Tryd.prog 28 #[.agg #[.int .i64 n.f0, .slice A1 n.f1.length c1, .slice A2 n.f2.length c2]] w (WritePost w n) := by
 have hnot : ∀ (x : Bool) (w : World), (Op.unary .not (.bool x)).run Tryd.prog w = .ok (.bool (!x)) w := fun _ _ => rfl
 have hbox : (w.alloc (.cells #[.int .i64 n.f0, .slice A1 n.f1.length c1, .slice A2 n.f2.length c2] 28)).heap[w.heap.size]? = some (.cells #[.int .i64 n.f0, .slice A1 n.f1.length c1, .slice A2 n.f2.length c2] 28 (0, 0)) := heap_alloc_new w _
 have hB1 : Below w.heap.size w (w.alloc (.cells #[.int .i64 n.f0, .slice A1 n.f1.length c1, .slice A2 n.f2.length c2] 28)) := (Below.refl _ _).alloc (Nat.le_refl _) _
 have H1 := Lib.hid (right_any n A1 c1 A2 c2 _ (hn.below hB1))
 have HS := Lib.hid hs
 have HN := Lib.hid hn
 have HB1 := Lib.hid hB1
 have hlt := heap_lt hbox
 have HLT := Lib.hid hlt
 have HBOX := Lib.hid hbox
 generalize hPP : WritePost w n = PP
 clear hs hn hbox hB1 hlt
 go_enter Tryd.func28, Tryd.ntmps28
 go_wp2_with (fail)
 refine H1.out.mono ?_
 rintro e w2 ⟨rfl, hB2⟩
 have hb2 := (hB2.block _ HLT.out).trans HBOX.out
 have a0 := Lib.cell_of_heap hb2 0
 have a1 := Lib.cell_of_heap hb2 1
 have a2 := Lib.cell_of_heap hb2 2
 have hB := HB1.out.trans (hB2.mono (by simp))
 have HB2 := Lib.hid hB
 have HBX2 := Lib.hid hb2
 clear hB hB2 hb2 H1 HB1 HBOX HLT
 cases hr : rightT n with
 | false =>
  have hp : PP = fun e w' => e = .returned (.tuple #[.slice none 0 0, .int .i64 2]) ∧ Below w.heap.size w w' := by
   rw [← hPP]; funext e w'; unfold WritePost writeP; rw [hr]; rfl
  clear hr hPP
  subst hp
  go_wp2
  go_ret2
  exact ⟨rfl, HB2.out⟩
 | true =>
  have h2 := size_walk n hr (HS.out hr) A1 c1 A2 c2 w2 (HN.out.below HB2.out)
  have H2 := Lib.hid h2
  clear h2
  have HR := Lib.hid hr
  clear hr
  go_wp2_with (fail)
  refine H2.out.mono ?_
  rintro e w3 ⟨rfl, hB3⟩
  have hb3 := (hB3.block _ (heap_lt HBX2.out)).trans HBX2.out
  have a0 := Lib.cell_of_heap hb3 0
  have a1 := Lib.cell_of_heap hb3 1
  have a2 := Lib.cell_of_heap hb3 2
  have hB := HB2.out.trans (hB3.mono (HB2.out.size))
  have HB3 := Lib.hid hB
  have HBX3 := Lib.hid hb3
  clear hB hB3 hb3 H2 HB2 HBX2
  by_cases h32 : 32 < deepT n
  ·have hp : PP = fun e w' => e = .returned (.tuple #[.slice none 0 0, .int .i64 4]) ∧ Below w.heap.size w w' := by
    rw [← hPP]; funext e w'; unfold WritePost writeP; rw [HR.out, if_neg (by simp), if_pos h32]
   have hd := eq_true h32
   have hd' : decide (32 < deepT n) = true := decide_eq_true h32
   clear hPP h32
   subst hp
   go_wp2
   go_ret2
   exact ⟨rfl, HB3.out⟩
  ·have hd := eq_false h32
   have hd' : decide (32 < deepT n) = false := decide_eq_false h32
   by_cases h20 : 20000 < sizeT n
   ·have hp : PP = fun e w' => e = .returned (.tuple #[.slice none 0 0, .int .i64 5]) ∧ Below w.heap.size w w' := by
     rw [← hPP]; funext e w'; unfold WritePost writeP; rw [HR.out, if_neg (by simp), if_neg h32, if_pos h20]
    have hs := eq_true h20
    have hs' : decide (20000 < sizeT n) = true := decide_eq_true h20
    clear hPP h32 h20
    subst hp
    go_wp2
    go_ret2
    exact ⟨rfl, HB3.out⟩
   ·have hs := eq_false h20
    have hs' : decide (20000 < sizeT n) = false := decide_eq_false h20
    have hp : PP = fun e w' => ∃ A c, e = .returned (.tuple #[.slice A (encT n).length c, .int .i64 0]) ∧ (Kd.int .u8).R 5 w' w.heap.size (fun _ => True) (.slice A (encT n).length c) (encT n) ∧ Below w.heap.size w w' := by
     rw [← hPP]; funext e w'; unfold WritePost writeP; rw [HR.out, if_neg (by simp), if_neg h32, if_neg h20]
    have hput := put_any n none 0 [] A1 c1 A2 c2 w w3 w.heap.size HN.out HB3.out (Nat.le_refl _) HB3.out.size (Kd.R_nil _ _ _ _ _) HR.out (by simp; omega)
    have HPUT := Lib.hid hput
    clear hput hPP h32 h20 HN HS HR
    subst hp
    go_wp2_with (fail)
    refine HPUT.out.mono ?_
    rintro e w4 ⟨A, c, rfl, ho4, hB4⟩
    rw [List.nil_append] at ho4 ⊢
    go_wp2
    go_ret2
    exact ⟨A, c, rfl, Kd.R_mono ho4 (fun _ _ => trivial), HB3.out.trans hB4⟩

end Go.Proofs.YtmbgjhkemlliaaaDoor.Tlv
end

section
namespace Go.Proofs.YtmbgjhkemlliaaaDoor.PT
open Go.RowKit Go.Proofs.YtmbgjhkemlliaaaDoorW.PrintWords Go.Proofs.YtmbgjhkemlliaaaDoorW.PrintLast Go.Proofs.YtmbgjhkemlliaaaDoorW.PrintMore
attribute [local go_sem] max2_int min2_int max_two min_two max_three min_three max_four min_four   -- for this text's walks alone
set_option linter.unusedVariables false
set_option linter.unusedSimpArgs false

mutual
def scalar_seven.l0 : Nat → List Int → Int → Int → Int → Option (List Int)
 | 0, _, _, _, _ => none
 | k + 1, x0, x1, x5, x6 => if x1 > 0 then (if x0.length < 140737488355328 then (scalar_seven.l0 k (x0 ++ [Go.bits .or .u8 ((Go.bits .and .u64 x1 127) % 256) x6]) (x1 / 128) x5 128) else (none)) else (if (x0.length : Int) = x5 then (if x0.length < 140737488355328 then (scalar_seven.l0 k (x0 ++ [Go.bits .or .u8 ((Go.bits .and .u64 x1 127) % 256) x6]) (x1 / 128) x5 128) else (none)) else (scalar_seven.l1 k x0 x5 (wrap64 ((x0.length : Int) - 1))))
def scalar_seven.l1 : Nat → List Int → Int → Int → Option (List Int)
 | 0, _, _, _ => none
 | k + 1, x0, x7, x8 => if x7 < x8 then (if 0 ≤ x8 then (if x8 < (x0.length : Int) then (if 0 ≤ x7 then (if x7 < (x0.length : Int) then (scalar_seven.l1 k ((x0.set (x7 : Int).toNat (rd x0 x8)).set (x8 : Int).toNat (rd x0 x7)) (wrap64 (x7 + 1)) (wrap64 (x8 - 1))) else (none)) else (none)) else (none)) else (none)) else (some x0)
end
def scalar_seven.f (k : Nat) (l0 : List Int) (a1 : Int) : Option (List Int) := scalar_seven.l0 k l0 a1 (l0.length : Int) 0
def scalar_seven.T10 : Bool × List (List Nat × List Nat) := (true, [([], []), ([], []), ([], []), ([], []), ([], []), ([], []), ([4, 5], [4, 5]), ([6], [6]), ([], []), ([], []), ([8, 9], [8, 9]), ([10], [10]), ([0, 1, 0, 1, 4, 5, 6, 7, 11], [0, 1]), ([12, 7, 0, 1, 4, 5, 6, 7, 11], [7, 12]), ([2, 3, 0, 1, 2, 3, 4, 5, 6, 7, 8, 9, 10, 11, 12, 13], [2, 3]), ([14, 11, 13, 0, 1, 2, 3, 4, 5, 6, 7, 8, 9, 10, 11, 12, 13], [11, 14])])
def scalar_seven.B10 : List Nat := [0, 0, 0, 0, 0, 0, 48, 112, 0, 0, 768, 1792, 4083, 8179, 16383, 32767]
theorem scalar_seven.tab10 : rtab .any (opsOf Tryd.f53 10) = scalar_seven.T10 := by kernel_rfl
theorem scalar_seven.bits10 : waitsOk scalar_seven.T10.2 scalar_seven.B10 = true := by kernel_rfl
set_option maxHeartbeats 8000000 in
set_option maxRecDepth 100000 in
theorem scalar_seven.calls (k : Nat) (P0_ : Nat → Prop) (u9000_ : Value) (l0 : List Int) (a1 : Int) (r : List Int) (w0 w : World) (hB : Below w0.heap.size w0 w) (ho0 : Kd.R (Kd.int .u8) 5 w w0.heap.size P0_ u9000_ l0) (h : scalar_seven.f k l0 a1 = some r) :
 Calls Tryd.prog 53 #[u9000_, .int .u64 a1] w fun e w' => ∃ v0_ : Value, e = .returned (v0_) ∧ Kd.R (Kd.int .u8) 5 w' w0.heap.size (fun k_ => (P0_ k_ ∨ w.heap.size ≤ k_)) v0_ r ∧ Below w0.heap.size w0 w' ∧ Kept w w' (fun k_ => P0_ k_) := by
 have HO0 := Aside0.mk (show Kd.R (Kd.int .u8) 5 w w0.heap.size (fun k_ => (P0_ k_ ∨ w.heap.size ≤ k_)) u9000_ l0 from Kd.R_mono ho0 (fun k_ hk => (.inl hk)))
 have HK := Aside0.mk (Kept.refl w (fun k_ => P0_ k_))
 have HW0 := Aside0.mk hB.size
 have HB := Aside0.mk hB
 clear hB
 have H : (scalar_seven.l0 k l0 a1 (l0.length : Int) 0) = some r := h
 clear h
 have H' := Aside0.mk H
 clear H
 obtain ⟨Ao3, co3, eo3⟩ := Kd.R_slice HO0.out
 subst eo3
 go_enter Tryd.func53, Tryd.ntmps53
 go_wp2
 go_loopg [0, 1, 6] k (fun kq v0 v1 v6 w' => ∃ (x0_1 : List Int) (x1_1 : Int) (x6_1 : Int), v1 = .int .u64 x1_1 ∧ v6 = .int .u8 x6_1 ∧ Aside0 (scalar_seven.l0 kq x0_1 x1_1 (l0.length : Int) x6_1 = some r) ∧ Aside0 (kq ≤ k) ∧ Aside0 (Kd.R (Kd.int .u8) 5 w' w0.heap.size (fun k_ => (P0_ k_ ∨ w.heap.size ≤ k_)) v0 x0_1) ∧ Aside0 (Kept w w' (fun k_ => P0_ k_)) ∧ Aside0 (Below w0.heap.size w0 w'))
 case atStart => exact ⟨(l0), (a1), (0), (by first | rfl | (simp; done) | (simp [*]; done)), (by first | rfl | (simp; done) | (simp [*]; done)), H', ⟨Nat.le_refl _⟩, ⟨by (with_reducible repeat (first | apply Kd.R_alloc | apply Kd.R_drewN | apply Kd.R_drew)); exact HO0.out⟩, ⟨by repeat (first | (with_reducible first | exact HK.out | apply Kept.alloc | apply Kept.drewN | apply Kept.drew) | exact HK.out)⟩, ⟨by repeat (first | (with_reducible first | exact HB.out | apply below_alloc | apply pw_below_drewN | apply below_drew1) | exact HB.out)⟩⟩
 case round =>
  clear H'
  try clear p2
  obtain ⟨x0_1, x1_1, x6_1, rfl, rfl, HA, HK1, HO_0, HK, HB⟩ := hrel
  cases gk with
  | zero => exact absurd HA.out (by simp [scalar_seven.l0])
  | succ k1 =>
   have H := HA.out
   clear HA
   simp only [scalar_seven.l0] at H
   by_cases c4 : x1_1 > 0
   ·rw [if_pos c4] at H
    have c4b0 : decide (0 < x1_1) = true := decide_eq_true c4
    clear c4
    by_cases c5 : x0_1.length < 140737488355328
    ·rw [if_pos c5] at H
     have LMc5 := Aside0.mk c5
     clear c5
     obtain ⟨y119, hy119⟩ : ∃ y_ : List Int, y_ = (x0_1 ++ [Go.bits .or .u8 ((Go.bits .and .u64 x1_1 127) % 256) x6_1]) := ⟨_, rfl⟩
     replace H : (scalar_seven.l0 k1 y119 (x1_1 / 128) (l0.length : Int) 128) = some r := by first | (rw [hy119]; with_reducible exact H) | (have H2_ := (Option.bind_some _ _).symm.trans H; rw [hy119]; with_reducible exact H2_) | (have H2_ := (Option.bind_some _ _).symm.trans H; with_reducible exact H2_) | with_reducible exact H | (rw [hy119]; exact H) | exact H
     have Ny119 := Aside0.mk hy119
     clear hy119
     have H' := Aside0.mk H
     clear H
     go_wp2_with (first | ((with_reducible refine gate_builtin (b := .append) (xs := #[.tmp 19, .tmp 25]) rfl ?_); (try (refine gate_guard (by rfl) ?_; dsimp only)); at_builtin; refine Kd.R_append (Kd.int .u8) (w0 := w0) w0.heap.size rfl (.tmp 19) (.tmp 25) 22 5 (.int .u8 0) 1 rfl Tryd.underlying22 info5 rfl (by decide) (by omega) u0 x0_1 (Go.bits .or .u8 ((Go.bits .and .u64 x1_1 127) % 256) x6_1) [.int .u8 (Go.bits .or .u8 ((Go.bits .and .u64 x1_1 127) % 256) x6_1)] (fun k_ => (P0_ k_ ∨ w.heap.size ≤ k_)) (fun _ => False) rfl rfl ?aP (fun _ hk => hk.elim) ?aF ?aO ?aB ?aS ?aL ?_; (case aP => exact rfl); (case aB => exact (by repeat (first | (with_reducible first | exact HB.out | apply below_alloc | apply pw_below_drewN | apply below_drew1) | exact HB.out))); (case aF => exact (fun k_ hk => (.inr (Nat.le_trans (by first | exact HK.out.1 | exact (show Kept w _ (fun k_ => P0_ k_) from by repeat (first | (with_reducible first | exact HK.out | apply Kept.alloc | apply Kept.drewN | apply Kept.drew) | exact HK.out)).1) hk)))); (case aO => exact (by (with_reducible repeat (first | apply Kd.R_alloc | apply Kd.R_drewN | apply Kd.R_drew)); exact HO_0.out)); (case aS => exact (below_size (by repeat (first | (with_reducible first | exact HB.out | apply below_alloc | apply pw_below_drewN | apply below_drew1) | exact HB.out)))); (case aL => have := LMc5.out; omega); intro v120 w6 ho hb hg hat; rw [← Ny119.out] at ho; have n0_ := Aside0.mk (hb); have n1_ := Aside0.mk (Kept.of_grown (S := (fun k_ => P0_ k_)) hg (by repeat (first | (with_reducible first | exact HK.out | apply Kept.alloc | apply Kept.drewN | apply Kept.drew) | exact HK.out)) (fun k_ e_ => (HO_0.out.1 k_ e_))); have n2_ := Aside0.mk (ho); clear HB; clear HK; clear HO_0; have HB := n0_; have HK := n1_; have HO121 := n2_; clear n0_ n1_ n2_; clear ho hb hg hat))
     go_roundg k1
     case measure => have := HK1.out; omega
     case rel => exact ⟨(y119), (x1_1 / 128), (128), (by first | rfl | (simp; done) | (simp [*]; done)), (by first | rfl | (simp; done) | (simp [*]; done)), H', ⟨by have := HK1.out; omega⟩, ⟨by (with_reducible repeat (first | apply Kd.R_alloc | apply Kd.R_drewN | apply Kd.R_drew)); exact HO121.out⟩, ⟨by repeat (first | (with_reducible first | exact HK.out | apply Kept.alloc | apply Kept.drewN | apply Kept.drew) | exact HK.out)⟩, ⟨by repeat (first | (with_reducible first | exact HB.out | apply below_alloc | apply pw_below_drewN | apply below_drew1) | exact HB.out)⟩⟩
    ·rw [if_neg c5] at H
     exact absurd H (by simp)
   ·rw [if_neg c4] at H
    have c4b0 : decide (0 < x1_1) = false := decide_eq_false c4
    clear c4
    by_cases c7 : (x0_1.length : Int) = (l0.length : Int)
    ·rw [if_pos c7] at H
     have c7b0 : ((x0_1.length : Int) == (l0.length : Int)) = true := beq_iff_eq.mpr c7
     have c7b1 : ((x0_1.length : Int) != (l0.length : Int)) = false := bne_eq_false_iff_eq.mpr c7
     have c7b2 : (x0_1.length == l0.length) = true := by first | simpa using c7 | (simp at c7 ⊢; omega)
     clear c7
     by_cases c8 : x0_1.length < 140737488355328
     ·rw [if_pos c8] at H
      have LMc8 := Aside0.mk c8
      clear c8
      obtain ⟨y122, hy122⟩ : ∃ y_ : List Int, y_ = (x0_1 ++ [Go.bits .or .u8 ((Go.bits .and .u64 x1_1 127) % 256) x6_1]) := ⟨_, rfl⟩
      replace H : (scalar_seven.l0 k1 y122 (x1_1 / 128) (l0.length : Int) 128) = some r := by first | (rw [hy122]; with_reducible exact H) | (have H2_ := (Option.bind_some _ _).symm.trans H; rw [hy122]; with_reducible exact H2_) | (have H2_ := (Option.bind_some _ _).symm.trans H; with_reducible exact H2_) | with_reducible exact H | (rw [hy122]; exact H) | exact H
      have Ny122 := Aside0.mk hy122
      clear hy122
      have H' := Aside0.mk H
      clear H
      obtain ⟨Ao9, co9, eo9⟩ := Kd.R_slice HO_0.out
      subst eo9
      go_wp2_with (first | ((with_reducible refine gate_builtin (b := .append) (xs := #[.tmp 19, .tmp 25]) rfl ?_); (try (refine gate_guard (by rfl) ?_; dsimp only)); at_builtin; refine Kd.R_append (Kd.int .u8) (w0 := w0) w0.heap.size rfl (.tmp 19) (.tmp 25) 22 5 (.int .u8 0) 1 rfl Tryd.underlying22 info5 rfl (by decide) (by omega) (.slice Ao9 x0_1.length co9) x0_1 (Go.bits .or .u8 ((Go.bits .and .u64 x1_1 127) % 256) x6_1) [.int .u8 (Go.bits .or .u8 ((Go.bits .and .u64 x1_1 127) % 256) x6_1)] (fun k_ => (P0_ k_ ∨ w.heap.size ≤ k_)) (fun _ => False) rfl rfl ?aP (fun _ hk => hk.elim) ?aF ?aO ?aB ?aS ?aL ?_; (case aP => exact rfl); (case aB => exact (by repeat (first | (with_reducible first | exact HB.out | apply below_alloc | apply pw_below_drewN | apply below_drew1) | exact HB.out))); (case aF => exact (fun k_ hk => (.inr (Nat.le_trans (by first | exact HK.out.1 | exact (show Kept w _ (fun k_ => P0_ k_) from by repeat (first | (with_reducible first | exact HK.out | apply Kept.alloc | apply Kept.drewN | apply Kept.drew) | exact HK.out)).1) hk)))); (case aO => exact (by (with_reducible repeat (first | apply Kd.R_alloc | apply Kd.R_drewN | apply Kd.R_drew)); exact HO_0.out)); (case aS => exact (below_size (by repeat (first | (with_reducible first | exact HB.out | apply below_alloc | apply pw_below_drewN | apply below_drew1) | exact HB.out)))); (case aL => have := LMc8.out; omega); intro v123 w10 ho hb hg hat; rw [← Ny122.out] at ho; have n0_ := Aside0.mk (hb); have n1_ := Aside0.mk (Kept.of_grown (S := (fun k_ => P0_ k_)) hg (by repeat (first | (with_reducible first | exact HK.out | apply Kept.alloc | apply Kept.drewN | apply Kept.drew) | exact HK.out)) (fun k_ e_ => (HO_0.out.1 k_ e_))); have n2_ := Aside0.mk (ho); clear HB; clear HK; clear HO_0; have HB := n0_; have HK := n1_; have HO124 := n2_; clear n0_ n1_ n2_; clear ho hb hg hat))
      go_roundg k1
      case measure => have := HK1.out; omega
      case rel => exact ⟨(y122), (x1_1 / 128), (128), (by first | rfl | (simp; done) | (simp [*]; done)), (by first | rfl | (simp; done) | (simp [*]; done)), H', ⟨by have := HK1.out; omega⟩, ⟨by (with_reducible repeat (first | apply Kd.R_alloc | apply Kd.R_drewN | apply Kd.R_drew)); exact HO124.out⟩, ⟨by repeat (first | (with_reducible first | exact HK.out | apply Kept.alloc | apply Kept.drewN | apply Kept.drew) | exact HK.out)⟩, ⟨by repeat (first | (with_reducible first | exact HB.out | apply below_alloc | apply pw_below_drewN | apply below_drew1) | exact HB.out)⟩⟩
     ·rw [if_neg c8] at H
      exact absurd H (by simp)
    ·rw [if_neg c7] at H
     have c7b0 : ((x0_1.length : Int) == (l0.length : Int)) = false := beq_eq_false_iff_ne.mpr c7
     have c7b1 : ((x0_1.length : Int) != (l0.length : Int)) = true := bne_iff_ne.mpr c7
     have c7b2 : (x0_1.length == l0.length) = false := by first | simpa using c7 | (simp at c7 ⊢; omega)
     have H' := Aside0.mk H
     clear H
     obtain ⟨Ao11, co11, eo11⟩ := Kd.R_slice HO_0.out
     subst eo11
     go_wp2
     go_loopg [7, 8] k1 (fun kq v7 v8 w' => ∃ (x0_2 : List Int) (x7_2 : Int) (x8_2 : Int), v7 = .int .i64 x7_2 ∧ v8 = .int .i64 x8_2 ∧ Aside0 (scalar_seven.l1 kq x0_2 x7_2 x8_2 = some r) ∧ Aside0 (kq ≤ k1) ∧ Aside0 (Kd.R (Kd.int .u8) 5 w' w0.heap.size (fun k_ => (P0_ k_ ∨ w.heap.size ≤ k_)) (.slice Ao11 x0_1.length co11) x0_2) ∧ Aside0 (Kept w w' (fun k_ => P0_ k_)) ∧ Aside0 (Below w0.heap.size w0 w'))
     case atStart => exact ⟨(x0_1), ((l0.length : Int)), (wrap64 ((x0_1.length : Int) - 1)), (by first | rfl | (simp; done) | (simp [*]; done)), (by first | rfl | (simp; done) | (simp [*]; done)), H', ⟨Nat.le_refl _⟩, ⟨by (with_reducible repeat (first | apply Kd.R_alloc | apply Kd.R_drewN | apply Kd.R_drew)); exact HO_0.out⟩, ⟨by repeat (first | (with_reducible first | exact HK.out | apply Kept.alloc | apply Kept.drewN | apply Kept.drew) | exact HK.out)⟩, ⟨by repeat (first | (with_reducible first | exact HB.out | apply below_alloc | apply pw_below_drewN | apply below_drew1) | exact HB.out)⟩⟩
     case round =>
      clear H'
      try clear p2
      try clear c4
      try clear c4b0
      try clear c5
      try clear p6
      try clear c7
      try clear c7b0
      try clear c7b1
      try clear c7b2
      try clear c8
      try clear p2
      obtain ⟨x0_2, x7_2, x8_2, rfl, rfl, HA, HK2, HO_0, HK, HB⟩ := hrel
      have hl0_2 := (Kd.R_reads' HO_0.out).1
      rw [hl0_2] at HO_0
      (try simp only [hl0_2])
      cases gk with
      | zero => exact absurd HA.out (by simp [scalar_seven.l1])
      | succ k2 =>
       have H := HA.out
       clear HA
       simp only [scalar_seven.l1] at H
       by_cases c12 : x7_2 < x8_2
       ·rw [if_pos c12] at H
        have c12b0 : decide (x7_2 < x8_2) = true := decide_eq_true c12
        clear c12
        by_cases c13 : 0 ≤ x8_2
        ·rw [if_pos c13] at H
         have c13b0 : decide (0 ≤ x8_2) = true := decide_eq_true c13
         clear c13
         by_cases c14 : x8_2 < (x0_2.length : Int)
         ·rw [if_pos c14] at H
          have c14b0 : decide (x8_2 < (x0_2.length : Int)) = true := decide_eq_true c14
          clear c14
          by_cases c15 : 0 ≤ x7_2
          ·rw [if_pos c15] at H
           have c15b0 : decide (0 ≤ x7_2) = true := decide_eq_true c15
           clear c15
           by_cases c16 : x7_2 < (x0_2.length : Int)
           ·rw [if_pos c16] at H
            have c16b0 : decide (x7_2 < (x0_2.length : Int)) = true := decide_eq_true c16
            clear c16
            obtain ⟨y127, hy127⟩ : ∃ y_ : List Int, y_ = (x0_2.set (x7_2 : Int).toNat (rd x0_2 x8_2)) := ⟨_, rfl⟩
            replace H : (scalar_seven.l1 k2 (y127.set (x8_2 : Int).toNat (rd x0_2 x7_2)) (wrap64 (x7_2 + 1)) (wrap64 (x8_2 - 1))) = some r := by first | (rw [hy127]; with_reducible exact H) | (have H2_ := (Option.bind_some _ _).symm.trans H; rw [hy127]; with_reducible exact H2_) | (have H2_ := (Option.bind_some _ _).symm.trans H; with_reducible exact H2_) | with_reducible exact H | (rw [hy127]; exact H) | exact H
            have Ny127 := Aside0.mk hy127
            clear hy127
            obtain ⟨y128, hy128⟩ : ∃ y_ : List Int, y_ = (y127.set (x8_2 : Int).toNat (rd x0_2 x7_2)) := ⟨_, rfl⟩
            replace H : (scalar_seven.l1 k2 y128 (wrap64 (x7_2 + 1)) (wrap64 (x8_2 - 1))) = some r := by first | (rw [hy128]; with_reducible exact H) | (have H2_ := (Option.bind_some _ _).symm.trans H; rw [hy128]; with_reducible exact H2_) | (have H2_ := (Option.bind_some _ _).symm.trans H; with_reducible exact H2_) | with_reducible exact H | (rw [hy128]; exact H) | exact H
            have Ny128 := Aside0.mk hy128
            clear hy128
            have H' := Aside0.mk H
            clear H
            try go_wp2
            have n0_ := Aside0.mk (Kd.R_drew HO_0.out)
            have n1_ := Aside0.mk (Kept.drew HK.out)
            have n2_ := Aside0.mk (below_drew1 HB.out)
            clear HO_0
            clear HK
            clear HB
            have HO_0 := n0_
            have HK := n1_
            have HB := n2_
            clear n0_ n1_ n2_
            have p125 : 0 ≤ (x8_2 : Int) := of_decide_eq_true (by first | (with_reducible assumption) | assumption)
            have q125 : x8_2 < (x0_2.length : Int) := of_decide_eq_true (by first | (with_reducible assumption) | assumption)
            obtain ⟨ad125, e125, hx125_0⟩ := Kd.at_int (Kd.R_reads' HO_0.out).2.2 x8_2 p125 q125
            cases e125
            replace p125 := eq_true p125
            replace q125 := eq_true q125
            have p126 : 0 ≤ (x7_2 : Int) := of_decide_eq_true (by first | (with_reducible assumption) | assumption)
            have q126 : x7_2 < (x0_2.length : Int) := of_decide_eq_true (by first | (with_reducible assumption) | assumption)
            obtain ⟨ad126, e126, hx126_0⟩ := Kd.at_int (Kd.R_reads' HO_0.out).2.2 x7_2 p126 q126
            obtain rfl : ad125 = ad126 := (by injection e126)
            replace p126 := eq_true p126
            replace q126 := eq_true q126
            have p17 : 0 ≤ (x7_2 : Int) := of_decide_eq_true (by first | (with_reducible assumption) | assumption)
            have q17 : (x7_2 : Int) < ((x0_2.length : Int) : Int) := of_decide_eq_true (by first | (with_reducible assumption) | assumption)
            obtain ⟨go17, co17, eo17, gb17, gl17, cl17, HG17⟩ := Kd.R_form HO_0.out (by omega)
            (first | cases eo17 | (injection eo17 with ea_ en_ ec_; (first | subst ea_ | (injection ea_ with ea_; subst ea_)); subst ec_; clear en_))
            have GB17 := Aside0.mk gb17
            have GG17 := Aside0.mk HG17
            clear gb17 gl17 HG17
            have HMgo17 := Aside0.mk (show (P0_ go17 ∨ w.heap.size ≤ go17) from (HO_0.out.1 _ rfl))
            (first | simp only [add_plain] at hx125_0 | skip)
            (first | simp only [add_plain] at hx126_0 | skip)
            obtain ⟨hx17_0, hf17_0⟩ := Kd.R_celln 0 HO_0.out (x7_2 : Int) p17 q17
            replace p17 := eq_true p17
            replace q17 := eq_true q17
            have HP20 := Kd.R_putn HO_0.out (x7_2 : Int) (rd x0_2 x8_2)
            rw [← Ny127.out] at HP20
            have HQ20 := Aside0.mk HP20
            clear HP20
            have p18 : 0 ≤ (x8_2 : Int) := of_decide_eq_true (by first | (with_reducible assumption) | assumption)
            have q18 : (x8_2 : Int) < ((x0_2.length : Int) : Int) := of_decide_eq_true (by first | (with_reducible assumption) | assumption)
            obtain ⟨hx18_0, hf18_0⟩ := Kd.R_celln 0 HQ20.out (x8_2 : Int) p18 q18
            replace p18 := eq_true p18
            replace q18 := eq_true q18
            have HP21 := Kd.R_putn HQ20.out (x8_2 : Int) (rd x0_2 x7_2)
            rw [← Ny128.out] at HP21
            have HQ21 := Aside0.mk HP21
            clear HP21
            refine start_ (n := 16) (S := fun w' => w'.cell? ⟨go17, (x8_2).toNat, none⟩ = some (.int .u8 (rd x0_2 x8_2)) ∧ w'.cell? ⟨go17, (x7_2).toNat, none⟩ = some (.int .u8 (rd x0_2 x7_2))) (ds := [13, 15]) #[false, false, false, false, false, false, false, false, false, false, false, false, false, false, false, false] (by kernel_rfl) rfl rfl ⟨hx125_0, hx126_0⟩ (fun hHeld => ?_); refine with_tabW scalar_seven.tab10 scalar_seven.bits10 (fun HT_ HW_ => ?_)
            generalize wr.drew = w19 at HO_0 HK HB GG17 HQ20 HQ21 hf17_0 hf18_0 hx125_0 hx126_0 hx17_0 hx18_0 hHeld ⊢
            refine pure_ (i := 0) (N := some 40) (v := ?_) (a' := ?_) #[true, false, false, false, false, false, false, false, false, false, false, false, false, false, false, false] rfl rfl (any_of HT_.out (by kernel_rfl)) (fun _ _ _ h => h) (Or.inl ⟨by rfl, ?_⟩) ?_ ?_
            rotate_left
            ·intro w'
             go_simp
             with_reducible rfl
            rotate_left
            ·simp only [Act.put, List.setIfInBounds_toArray, List.set_cons_zero, List.set_cons_succ, i64_w, i32_w]
             rfl
            refine pure_ (i := 1) (N := some 41) (v := ?_) (a' := ?_) #[true, true, false, false, false, false, false, false, false, false, false, false, false, false, false, false] rfl rfl (any_of HT_.out (by kernel_rfl)) (fun _ _ _ h => h) (Or.inl ⟨by rfl, ?_⟩) ?_ ?_
            rotate_left
            ·intro w'
             go_simp
             with_reducible rfl
            rotate_left
            ·simp only [Act.put, List.setIfInBounds_toArray, List.set_cons_zero, List.set_cons_succ, i64_w, i32_w]
             rfl
            refine pure_ (i := 2) (N := some 42) (v := ?_) (a' := ?_) #[true, true, true, false, false, false, false, false, false, false, false, false, false, false, false, false] rfl rfl (any_of HT_.out (by kernel_rfl)) (fun _ _ _ h => h) (Or.inl ⟨by rfl, ?_⟩) ?_ ?_
            rotate_left
            ·intro w'
             go_simp
             with_reducible rfl
            rotate_left
            ·simp only [Act.put, List.setIfInBounds_toArray, List.set_cons_zero, List.set_cons_succ, i64_w, i32_w]
             rfl
            refine pure_ (i := 3) (N := some 43) (v := ?_) (a' := ?_) #[true, true, true, true, false, false, false, false, false, false, false, false, false, false, false, false] rfl rfl (any_of HT_.out (by kernel_rfl)) (fun _ _ _ h => h) (Or.inl ⟨by rfl, ?_⟩) ?_ ?_
            rotate_left
            ·intro w'
             go_simp
             with_reducible rfl
            rotate_left
            ·simp only [Act.put, List.setIfInBounds_toArray, List.set_cons_zero, List.set_cons_succ, i64_w, i32_w]
             rfl
            refine pure_ (i := 4) (N := some 44) (v := ?_) (a' := ?_) #[true, true, true, true, true, false, false, false, false, false, false, false, false, false, false, false] rfl rfl (any_of HT_.out (by kernel_rfl)) (fun _ _ _ h => h) (Or.inl ⟨by rfl, ?_⟩) ?_ ?_
            rotate_left
            ·intro w'
             go_simp
             with_reducible rfl
            rotate_left
            ·simp only [Act.put, List.setIfInBounds_toArray, List.set_cons_zero, List.set_cons_succ, i64_w, i32_w]
             rfl
            refine pure_ (i := 5) (N := some 45) (v := ?_) (a' := ?_) #[true, true, true, true, true, true, false, false, false, false, false, false, false, false, false, false] rfl rfl (any_of HT_.out (by kernel_rfl)) (fun _ _ _ h => h) (Or.inl ⟨by rfl, ?_⟩) ?_ ?_
            rotate_left
            ·intro w'
             go_simp
             with_reducible rfl
            rotate_left
            ·simp only [Act.put, List.setIfInBounds_toArray, List.set_cons_zero, List.set_cons_succ, i64_w, i32_w]
             rfl
            refine pure_ (i := 6) (N := some 46) (v := ?_) (a' := ?_) #[true, true, true, true, true, true, true, false, false, false, false, false, false, false, false, false] rfl rfl (any_of HT_.out (by kernel_rfl)) (fun _ _ _ h => h) (Or.inl ⟨by rfl, ?_⟩) ?_ ?_
            rotate_left
            ·intro w'
             go_simp
             with_reducible rfl
            rotate_left
            ·simp only [Act.put, List.setIfInBounds_toArray, List.set_cons_zero, List.set_cons_succ, i64_w, i32_w]
             rfl
            refine pure_ (i := 8) (N := some 48) (v := ?_) (a' := ?_) #[true, true, true, true, true, true, true, false, true, false, false, false, false, false, false, false] rfl rfl (any_of HT_.out (by kernel_rfl)) (fun _ _ _ h => h) (Or.inl ⟨by rfl, ?_⟩) ?_ ?_
            rotate_left
            ·intro w'
             go_simp
             with_reducible rfl
            rotate_left
            ·simp only [Act.put, List.setIfInBounds_toArray, List.set_cons_zero, List.set_cons_succ, i64_w, i32_w]
             rfl
            refine pure_ (i := 9) (N := some 49) (v := ?_) (a' := ?_) #[true, true, true, true, true, true, true, false, true, true, false, false, false, false, false, false] rfl rfl (any_of HT_.out (by kernel_rfl)) (fun _ _ _ h => h) (Or.inl ⟨by rfl, ?_⟩) ?_ ?_
            rotate_left
            ·intro w'
             go_simp
             with_reducible rfl
            rotate_left
            ·simp only [Act.put, List.setIfInBounds_toArray, List.set_cons_zero, List.set_cons_succ, i64_w, i32_w]
             rfl
            refine pure_ (i := 10) (N := some 50) (v := ?_) (a' := ?_) #[true, true, true, true, true, true, true, false, true, true, true, false, false, false, false, false] rfl rfl (any_of HT_.out (by kernel_rfl)) (fun _ _ _ h => h) (Or.inl ⟨by rfl, ?_⟩) ?_ ?_
            rotate_left
            ·intro w'
             go_simp
             with_reducible rfl
            rotate_left
            ·simp only [Act.put, List.setIfInBounds_toArray, List.set_cons_zero, List.set_cons_succ, i64_w, i32_w]
             rfl
            refine take_ (i := 7) (N := some 47) (v := ?_) (a' := ?_) #[true, true, true, true, true, true, true, true, true, true, true, false, false, false, false, false] rfl rfl (take_ofW HT_.out HW_.out (by kernel_rfl)) (fun _ _ _ h => h) (Or.inl ⟨by rfl, ?_⟩) hHeld ?_ ?_
            rotate_left
            ·rintro w' ⟨s0, s1⟩
             go_simp
             with_reducible rfl
            rotate_left
            ·simp only [Act.put, List.setIfInBounds_toArray, List.set_cons_zero, List.set_cons_succ, i64_w, i32_w]
             rfl
            refine take_ (i := 11) (N := some 51) (v := ?_) (a' := ?_) #[true, true, true, true, true, true, true, true, true, true, true, true, false, false, false, false] rfl rfl (take_ofW HT_.out HW_.out (by kernel_rfl)) (fun _ _ _ h => h) (Or.inl ⟨by rfl, ?_⟩) hHeld ?_ ?_
            rotate_left
            ·rintro w' ⟨s0, s1⟩
             go_simp
             with_reducible rfl
            rotate_left
            ·simp only [Act.put, List.setIfInBounds_toArray, List.set_cons_zero, List.set_cons_succ, i64_w, i32_w]
             rfl
            refine pure_ (i := 12) (N := some 52) (v := ?_) (a' := ?_) #[true, true, true, true, true, true, true, true, true, true, true, true, true, false, false, false] rfl rfl (any_of HT_.out (by kernel_rfl)) (fun _ _ _ h => h) (Or.inl ⟨by rfl, ?_⟩) ?_ ?_
            rotate_left
            ·intro w'
             go_simp
             with_reducible rfl
            rotate_left
            ·simp only [Act.put, List.setIfInBounds_toArray, List.set_cons_zero, List.set_cons_succ, i64_w, i32_w]
             rfl
            refine last_ (i := 13) (N := none) #[true, true, true, true, true, true, true, true, true, true, true, true, true, true, false, false] rfl rfl (one_of HT_.out (by kernel_rfl)) (by decide) (fun K hK => ?_)
            refine skip_ (w1 := ?_) (by rfl) rfl ?_ ?_
            rotate_left
            ·go_simp
             rfl
            refine hK.out _ _ ?_
            clear hK K
            refine pure_ (i := 14) (N := some 53) (v := ?_) (a' := ?_) #[true, true, true, true, true, true, true, true, true, true, true, true, true, true, true, false] rfl rfl (any_of HT_.out (by kernel_rfl)) (fun _ _ _ h => h) (Or.inl ⟨by rfl, ?_⟩) ?_ ?_
            rotate_left
            ·intro w'
             go_simp
             with_reducible rfl
            rotate_left
            ·simp only [Act.put, List.setIfInBounds_toArray, List.set_cons_zero, List.set_cons_succ, i64_w, i32_w]
             rfl
            refine last_ (i := 15) (N := none) #[true, true, true, true, true, true, true, true, true, true, true, true, true, true, true, true] rfl rfl (one_of HT_.out (by kernel_rfl)) (by decide) (fun K hK => ?_)
            refine skip_ (w1 := ?_) (by rfl) rfl ?_ ?_
            rotate_left
            ·go_simp
             rfl
            refine hK.out _ _ ?_
            clear hK K
            refine done_ (done_of HT_.out (by kernel_rfl)) ?_
            try go_wp2
            (try simp only [← hl0_2])
            go_roundg k2
            case measure => have := HK1.out; have := HK2.out; omega
            case rel => exact ⟨(y128), (wrap64 (x7_2 + 1)), (wrap64 (x8_2 - 1)), (by first | rfl | (simp; done) | (simp [*]; done)), (by first | rfl | (simp; done) | (simp [*]; done)), H', ⟨by have := HK1.out; have := HK2.out; omega⟩, ⟨by (try simp only [hl0_2]); (with_reducible repeat (first | apply Kd.R_alloc | apply Kd.R_drewN | apply Kd.R_drew)); exact HQ21.out⟩, ⟨by repeat (first | (with_reducible first | exact HK.out | apply Kept.alloc | apply Kept.drewN | apply Kept.drew | refine Kept.setCell ?_ HMgo17.out _ | refine Kept.setCell ?_ HMgo17.out _) | exact HK.out)⟩, ⟨by repeat (first | (with_reducible first | exact HB.out | apply below_alloc | apply pw_below_drewN | apply below_drew1 | refine below_set ?_ GB17.out | refine below_set ?_ GB17.out) | exact HB.out)⟩⟩
           ·rw [if_neg c16] at H
            exact absurd H (by simp)
          ·rw [if_neg c15] at H
           exact absurd H (by simp)
         ·rw [if_neg c14] at H
          exact absurd H (by simp)
        ·rw [if_neg c13] at H
         exact absurd H (by simp)
       ·rw [if_neg c12] at H
        have c12b0 : decide (x7_2 < x8_2) = false := decide_eq_false c12
        clear c12
        obtain rfl := Option.some.inj H
        go_wp2
        go_ret
        exact ⟨_, by first | rfl | (simp [errW_none, errW_some] <;> rfl) | (simp [*, errW_none, errW_some] <;> rfl), by (with_reducible repeat (first | apply Kd.R_alloc | apply Kd.R_drewN | apply Kd.R_drew)); exact HO_0.out, by repeat (first | (with_reducible first | exact HB.out | apply below_alloc | apply pw_below_drewN | apply below_drew1) | exact HB.out), by repeat (first | (with_reducible first | exact HK.out | apply Kept.alloc | apply Kept.drewN | apply Kept.drew) | exact HK.out)⟩

end Go.Proofs.YtmbgjhkemlliaaaDoor.PT
end
