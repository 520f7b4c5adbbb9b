/- Merged by wip/tools/merge.py: YtmbgjhkemlliaaaTlv, YtmbgjhkemlliaaaTk, YtmbgjhkemlliaaaLen. -/
import Derived.Test.YtmbgjhkemlliaaaPTlvx0
import Derived.Lib.Hide
import Derived.WalkSmall
import Derived.LoopTactic
import Derived.Deep.DeepMust
import Derived.Deep.QuietTactic
import Derived.BigQuiet
import Derived.Laws.BitsLemmas
import Derived.Deep.RegionHeld3
/- Plain: elements, their bytes, and how they are read. No program in sight. -/
set_option linter.unusedVariables false
namespace Go.Proofs.Ytmbgjhkemlliaaa.Tlv
open Go.Proofs.Ytmbgjhkemlliaaa.PTlv

abbrev T := S25
def holdsB (tag : Int) : Bool := decide (0 ≤ tag) && decide (tag / 32 % 2 = 1)
def isTagB (n : Int) : Bool := decide (0 ≤ n) && decide (n ≤ 255) && decide (n % 32 ≠ 31)
def head (tag n : Int) : List Int := if n < 128 then [tag % 256, n % 256] else if n < 256 then [tag % 256, 129, n % 256] else [tag % 256, 130, n / 256 % 256, n % 256]
def headLen (n : Int) : Int := if n < 128 then 2 else if n < 256 then 3 else 4
mutual
def sizeT : T → Int
  | ⟨tag, body, kids⟩ => if holdsB tag = true then sizeL kids + headLen (sizeL kids) else (body.length : Int) + headLen body.length
def sizeL : List T → Int
  | [] => 0
  | t :: l => sizeT t + sizeL l
end
mutual
def manyT : T → Int
  | ⟨tag, body, kids⟩ => if holdsB tag = true then manyL kids + 1 else 1
def manyL : List T → Int
  | [] => 0
  | t :: l => manyT t + manyL l
end
mutual
def deepT : T → Int
  | ⟨tag, body, kids⟩ => if holdsB tag = true then deepL kids + 1 else 1
def deepL : List T → Int
  | [] => 0
  | t :: l => max (deepT t) (deepL l)
end
mutual
def rightT : T → Bool
  | ⟨tag, body, kids⟩ => isTagB tag && (if holdsB tag = true then decide (body = []) else decide (kids = [])) && rightL kids
def rightL : List T → Bool
  | [] => true
  | t :: l => rightT t && rightL l
end
mutual
def encT : T → List Int
  | ⟨tag, body, kids⟩ => if holdsB tag = true then head tag (sizeL kids) ++ encL kids else head tag body.length ++ body
def encL : List T → List Int
  | [] => []
  | t :: l => encT t ++ encL l
end

inductive Res (α : Type) where
  | err (e : Int)
  | ok (a : α)
def lenP (short : Int) : List Int → Res (Int × List Int)
  | [] => .err short
  | x :: r => if x = 129 then (match r with
      | [] => .err short
      | y :: r => if 128 ≤ y then .ok (y, r) else .err 2)
    else if x = 130 then (match r with
      | y :: z :: r => if 256 ≤ y * 256 + z then .ok (y * 256 + z, r) else .err 2
      | _ => .err short)
    else if x < 128 then .ok (x, r) else .err 2
mutual
def elemP : Nat → Int → Int → List Int → Res (T × List Int)
  | 0, _, _, _ => .err 0
  | _ + 1, _, short, [] => .err short
  | n + 1, deep, short, tag :: r => if isTagB tag = true then (match lenP short r with
      | .err e => .err e
      | .ok (m, r2) => if (r2.length : Int) < m then .err short else if 32 ≤ deep then .err 4 else
        if holdsB tag = true then (match kidsP n (deep + 1) (r2.take m.toNat) with
          | .err e => .err e
          | .ok l => .ok (⟨tag, [], l⟩, r2.drop m.toNat))
        else .ok (⟨tag, r2.take m.toNat, []⟩, r2.drop m.toNat))
    else .err 2
def kidsP : Nat → Int → List Int → Res (List T)
  | 0, _, _ => .err 0
  | _ + 1, _, [] => .ok []
  | n + 1, deep, x :: b => match elemP n deep 2 (x :: b) with
    | .err e => .err e
    | .ok (t, r) => match kidsP n deep r with
      | .err e => .err e
      | .ok l => .ok (t :: l)
end

theorem lenP_ok {short : Int} {b r : List Int} {m : Int} (hb : ∀ x ∈ b, 0 ≤ x ∧ x < 256) (h : lenP short b = .ok (m, r)) (tag : Int) (ht : 0 ≤ tag ∧ tag < 256) :
    0 ≤ m ∧ m < 65536 ∧ tag :: b = head tag m ++ r := by
  cases b with
  | nil => simp [lenP] at h
  | cons x b =>
    have hx := hb x List.mem_cons_self
    unfold lenP at h
    dsimp only at h
    by_cases h1 : x = 129
    · rw [if_pos h1] at h
      cases b with
      | nil => simp at h
      | cons y b =>
        have hy := hb y (by simp)
        simp only at h
        by_cases h2 : 128 ≤ y
        · rw [if_pos h2] at h
          injection h with h
          injection h with h3 h4
          subst h3 h4
          refine ⟨by omega, by omega, ?_⟩
          unfold head
          rw [if_neg (by omega), if_pos (by omega), Int.emod_eq_of_lt ht.1 ht.2, Int.emod_eq_of_lt hy.1 hy.2, h1]
          rfl
        · rw [if_neg h2] at h; cases h
    · rw [if_neg h1] at h
      by_cases h2 : x = 130
      · rw [if_pos h2] at h
        cases b with
        | nil => simp at h
        | cons y b =>
          cases b with
          | nil => simp at h
          | cons z b =>
            have hy := hb y (by simp)
            have hz := hb z (by simp)
            simp only at h
            by_cases h3 : 256 ≤ y * 256 + z
            · rw [if_pos h3] at h
              injection h with h
              injection h with h4 h5
              subst h4 h5
              refine ⟨by omega, by omega, ?_⟩
              unfold head
              have e1 : (y * 256 + z) / 256 % 256 = y := by omega
              have e2 : (y * 256 + z) % 256 = z := by omega
              rw [if_neg (by omega), if_neg (by omega), Int.emod_eq_of_lt ht.1 ht.2, e1, e2, h2]
              rfl
            · rw [if_neg h3] at h; cases h
      · rw [if_neg h2] at h
        by_cases h3 : x < 128
        · rw [if_pos h3] at h
          injection h with h
          injection h with h4 h5
          subst h4 h5
          refine ⟨by omega, by omega, ?_⟩
          unfold head
          rw [if_pos h3, Int.emod_eq_of_lt ht.1 ht.2, Int.emod_eq_of_lt hx.1 hx.2]
          rfl
        · rw [if_neg h3] at h; cases h
theorem head_length (tag n : Int) : ((head tag n).length : Int) = headLen n := by
  unfold head headLen
  split
  · rfl
  · split <;> rfl
theorem isTag_range {n : Int} (h : isTagB n = true) : 0 ≤ n ∧ n < 256 := by
  unfold isTagB at h
  simp at h
  omega

mutual
/-- What is read, laid again, is what was there. -/
theorem elemP_ok : ∀ (n : Nat) (deep short : Int) (b : List Int) (t : T) (r : List Int), (∀ x ∈ b, 0 ≤ x ∧ x < 256) → elemP n deep short b = .ok (t, r) →
    b = encT t ++ r ∧ rightT t = true ∧ sizeT t = ((encT t).length : Int) ∧ deepT t ≤ 32 - deep
  | 0, _, _, _, _, _, _, h => by simp [elemP] at h
  | _ + 1, _, _, [], _, _, _, h => by simp [elemP] at h
  | n + 1, deep, short, tag :: b, t, r, hb, h => by
    unfold elemP at h
    by_cases h1 : isTagB tag = true
    · rw [if_pos h1] at h
      have ht := isTag_range h1
      cases hl : lenP short b with
      | err e => rw [hl] at h; cases h
      | ok p =>
        obtain ⟨m, r2⟩ := p
        rw [hl] at h
        obtain ⟨m0, m1, hm⟩ := lenP_ok (fun x hx => hb x (List.mem_cons_of_mem _ hx)) hl tag ht
        simp only at h
        by_cases h2 : (r2.length : Int) < m
        · rw [if_pos h2] at h; cases h
        · rw [if_neg h2] at h
          by_cases h3 : 32 ≤ deep
          · rw [if_pos h3] at h; cases h
          · rw [if_neg h3] at h
            have hr2 : ∀ x ∈ r2, 0 ≤ x ∧ x < 256 := fun x hx => hb x (by rw [hm]; exact List.mem_append_right _ hx)
            have hln : ((r2.take m.toNat).length : Int) = m := by simp; omega
            by_cases h4 : holdsB tag = true
            · rw [if_pos h4] at h
              cases hk : kidsP n (deep + 1) (r2.take m.toNat) with
              | err e => rw [hk] at h; cases h
              | ok l =>
                rw [hk] at h
                injection h with h
                injection h with h5 h6
                subst h5 h6
                obtain ⟨k1, k2, k3, k4⟩ := kidsP_ok n (deep + 1) (r2.take m.toNat) l (fun x hx => hr2 x (List.mem_of_mem_take hx)) hk
                have hsz : sizeL l = m := by rw [k3, ← k1, hln]
                refine ⟨?_, ?_, ?_, ?_⟩
                · rw [encT, if_pos h4, hsz, ← k1, List.append_assoc, List.take_append_drop, hm]
                · rw [rightT, h1, if_pos h4, k2]; rfl
                · rw [sizeT, if_pos h4, encT, if_pos h4, List.length_append, Int.natCast_add, head_length, ← k3, Int.add_comm]
                · rw [deepT, if_pos h4]; omega
            · rw [if_neg h4] at h
              injection h with h
              injection h with h5 h6
              subst h5 h6
              refine ⟨?_, ?_, ?_, ?_⟩
              · rw [encT, if_neg h4, hln, List.append_assoc, List.take_append_drop, hm]
              · rw [rightT, h1, if_neg h4]; rfl
              · rw [sizeT, if_neg h4, encT, if_neg h4, List.length_append, Int.natCast_add, head_length, Int.add_comm]
              · rw [deepT, if_neg h4]; omega
    · rw [if_neg h1] at h; cases h
theorem kidsP_ok : ∀ (n : Nat) (deep : Int) (b : List Int) (l : List T), (∀ x ∈ b, 0 ≤ x ∧ x < 256) → kidsP n deep b = .ok l →
    b = encL l ∧ rightL l = true ∧ sizeL l = ((encL l).length : Int) ∧ deepL l ≤ max 0 (32 - deep)
  | 0, _, _, _, _, h => by simp [kidsP] at h
  | _ + 1, deep, [], l, _, h => by
    simp [kidsP] at h
    subst h
    refine ⟨rfl, rfl, rfl, ?_⟩
    show (0 : Int) ≤ _
    omega
  | n + 1, deep, x :: b, l, hb, h => by
    unfold kidsP at h
    cases he : elemP n deep 2 (x :: b) with
    | err e => rw [he] at h; cases h
    | ok p =>
      obtain ⟨t, r⟩ := p
      rw [he] at h
      simp only at h
      obtain ⟨e1, e2, e3, e4⟩ := elemP_ok n deep 2 (x :: b) t r hb he
      have hr : ∀ y ∈ r, 0 ≤ y ∧ y < 256 := fun y hy => hb y (by rw [e1]; exact List.mem_append_right _ hy)
      cases hk : kidsP n deep r with
      | err e => rw [hk] at h; cases h
      | ok l2 =>
        rw [hk] at h
        injection h with h
        subst h
        obtain ⟨k1, k2, k3, k4⟩ := kidsP_ok n deep r l2 hr hk
        refine ⟨?_, ?_, ?_, ?_⟩
        · rw [encL, ← k1, e1]
        · rw [rightL, e2, k2]; rfl
        · rw [sizeL, encL, List.length_append, Int.natCast_add, e3, k3]
        · rw [deepL]; omega
end

end Go.Proofs.Ytmbgjhkemlliaaa.Tlv

/- tlv's reader: must, take, length. -/
set_option linter.unusedVariables false
namespace Go.Proofs.Ytmbgjhkemlliaaa.Tlv
open Go.RowKit Go.Proofs.YtmbgjhkemlliaaaW.PrintWords Go.Proofs.YtmbgjhkemlliaaaW.PrintLast Go.Proofs.YtmbgjhkemlliaaaW.PrintMore Go.Proofs.Ytmbgjhkemlliaaa.PTlv

/-- What a panic with an error's number leaves. -/
def gone (e : Int) : Ending := .panicked [{ v := .iface 28 (.int .i64 e), recovered := false }]

theorem must_yes (e : Int) (w : World) : Calls Try.prog 38 #[.bool true, .int .i64 e] w fun e w' => e = .returned (.tuple #[]) ∧ w' = w := by
  have hnot : ∀ (x : Bool) (w : World), (Op.unary .not (.bool x)).run Try.prog w = .ok (.bool (!x)) w := fun _ _ => rfl
  go_enter Try.func38, Try.ntmps38
  go_wp2
  go_end0
  exact ⟨rfl, rfl⟩
theorem must_no (e : Int) (w : World) : Calls Try.prog 38 #[.bool false, .int .i64 e] w fun e' w' => e' = gone e ∧ w' = w := by
  have hnot : ∀ (x : Bool) (w : World), (Op.unary .not (.bool x)).run Try.prog w = .ok (.bool (!x)) w := fun _ _ => rfl
  go_enter Try.func38, Try.ntmps38
  go_wp2
  exact ⟨rfl, rfl, rfl⟩


/-- A reader: its bytes, and what it gives up for. -/
def RdAt (w : World) (g : Nat) (A : Option Addr) (n c : Nat) (sh : Int) : Prop := w.heap[g]? = some (.cells #[.slice A n c, .int .i64 sh] 57 (0, 0))
theorem RdAt.c0 {w : World} {g : Nat} {A : Option Addr} {n c : Nat} {sh : Int} (h : RdAt w g A n c sh) : w.cell? ⟨g, 0, none⟩ = some (.slice A n c) := by rw [Lib.cell_of_heap h]; rfl
theorem RdAt.c1 {w : World} {g : Nat} {A : Option Addr} {n c : Nat} {sh : Int} (h : RdAt w g A n c sh) : w.cell? ⟨g, 1, none⟩ = some (.int .i64 sh) := by rw [Lib.cell_of_heap h]; rfl
theorem RdAt.f0 {w : World} {g : Nat} {A : Option Addr} {n c : Nat} {sh : Int} (h : RdAt w g A n c sh) (j : Nat) : w.frozen? ⟨g, j, none⟩ = false := Lib.frozen_of_heap h j
theorem RdAt.set {w : World} {g : Nat} {A A2 : Option Addr} {n c n2 c2 : Nat} {sh : Int} (h : RdAt w g A n c sh) : RdAt (w.setCell ⟨g, 0, none⟩ (.slice A2 n2 c2)) g A2 n2 c2 sh := heap_setCell_same w g 0 _ _ _ h
theorem infoByte : (Try.prog.info? 5).map (fun i => (i.zero, i.size, i.bytes)) = some (some (.int .u8 0), 1, 1) := by kernel_rfl

set_option maxHeartbeats 1000000 in
set_option maxRecDepth 100000 in
theorem take_yes (g : Nat) (A : Option Addr) (c : Nat) (b : List Int) (sh : Int) (n : Nat) (w : World) (hg : RdAt w g A b.length c sh) (hc : b.length ≤ c) (hn : n ≤ b.length) (hb : b.length ≤ 1000000000) :
    Calls Try.prog 53 #[.pointer (some ⟨g, 0, none⟩), .int .i64 n] w fun e w' => ∃ A2 : Option Addr, e = .returned (.slice A n c) ∧ w' = w.setCell ⟨g, 0, none⟩ (.slice A2 (b.drop n).length (c - n)) ∧ (b.drop n).length ≤ c - n ∧ ∀ W : World, ReadsInt W .u8 A b.length b → ReadsInt W .u8 A2 (b.drop n).length (b.drop n) := by
  obtain ⟨i0, hi, hz0, hz1, hz2⟩ := info_parts infoByte
  obtain ⟨A2, hcut, hcr, hcc⟩ := print_cut_int (P := Try.prog) (k := .u8) 22 5 Try.underlying22 hi hz1 A c b (n : Int) (by omega) (by omega) hc
  simp only [Int.toNat_natCast] at hcut hcr hcc
  have c0 := hg.c0
  have c1 := hg.c1
  have f0 := hg.f0 0
  have hd : decide ((b.length : Int) < (n : Int)) = false := decide_eq_false (by omega)
  have HCR := Lib.hid hcr
  have HCC := Lib.hid hcc
  clear hcr hcc hi hz0 hz1 hz2
  go_enter Try.func53, Try.ntmps53
  go_wp2
  go_ret
  exact ⟨A2, rfl, by rw [List.length_drop], HCC.out, HCR.out⟩

set_option maxHeartbeats 1000000 in
set_option maxRecDepth 100000 in
theorem take_no (g : Nat) (A : Option Addr) (c : Nat) (b : List Int) (sh : Int) (n : Int) (w : World) (hg : RdAt w g A b.length c sh) (hn : (b.length : Int) < n) :
    Calls Try.prog 53 #[.pointer (some ⟨g, 0, none⟩), .int .i64 n] w fun e w' => e = gone sh ∧ w' = w := by
  have c0 := hg.c0
  have c1 := hg.c1
  have f0 := hg.f0 0
  have hd : decide ((b.length : Int) < n) = true := decide_eq_true (by omega)
  clear hn
  go_enter Try.func53, Try.ntmps53
  go_wp2
  exact ⟨rfl, rfl, rfl⟩

end Go.Proofs.Ytmbgjhkemlliaaa.Tlv

/- tlv's reader: length. -/
set_option linter.unusedVariables false
namespace Go.Proofs.Ytmbgjhkemlliaaa.Tlv
open Go.RowKit Go.Proofs.YtmbgjhkemlliaaaW.PrintWords Go.Proofs.YtmbgjhkemlliaaaW.PrintLast Go.Proofs.YtmbgjhkemlliaaaW.PrintMore Go.Proofs.Ytmbgjhkemlliaaa.PTlv

theorem cellAt {w0 w : World} {A : Option Addr} {b : List Int} (h : ReadsInt w0 .u8 A b.length b) (hB : Below w0.heap.size w0 w) (i : Nat) (hi : i < b.length) : ∃ ad, A = some ad ∧ w.cell? (ad.add i) = some (.int .u8 (b.getD i 0)) := by
  obtain ⟨ad, e1, e2⟩ := h.2.2 (by omega)
  have h3 := e2 i hi
  exact ⟨ad, e1, (hB.cell (World.block_lt_of_cell? w0 _ h3)).trans h3⟩
theorem add_zero' (ad : Addr) : ad.add 0 = ad := by
  obtain ⟨bl, off, sp⟩ := ad
  unfold Addr.add
  cases sp <;> simp
theorem add_field' (ad : Addr) (j : Nat) (h : 0 < j) : (⟨ad.block, ad.off + j, none⟩ : Addr) = ad.add j := by
  obtain ⟨bl, off, sp⟩ := ad
  unfold Addr.add
  rw [if_neg (by omega)]
theorem cellAt0 {w0 w : World} {A : Option Addr} {x : Int} {b : List Int} (h : ReadsInt w0 .u8 A (x :: b).length (x :: b)) (hB : Below w0.heap.size w0 w) : ∃ ad, A = some ad ∧ w.cell? ad = some (.int .u8 x) := by
  obtain ⟨ad, e, q⟩ := cellAt h hB 0 (by simp)
  rw [add_zero'] at q
  exact ⟨ad, e, q⟩
theorem below_put {w0 w : World} {g : Nat} (hB : Below w0.heap.size w0 w) (hg : w0.heap.size ≤ g) (v : Value) : Below w0.heap.size w0 (w.setCell ⟨g, 0, none⟩ v) := Below.setCell hB (p := ⟨g, 0, none⟩) hg _
theorem grown_trans {a b c : World} {r : Option Nat} (h1 : a.grownBy b r) (h2 : b.grownBy c r) : a.grownBy c r :=
  ⟨h2.os.trans h1.os, h2.tape.trans h1.tape, h2.output.trans h1.output, Nat.le_trans h1.size h2.size, fun k hk hne => (h2.block k (Nat.lt_of_lt_of_le hk h1.size) hne).trans (h1.block k hk hne)⟩
theorem grown_put {w W : World} {g : Nat} (h : w.grownBy W (some g)) (v : Value) : w.grownBy (W.setCell ⟨g, 0, none⟩ v) (some g) :=
  grown_trans h ⟨rfl, rfl, rfl, by simp, fun k _ hne => heap_setCell_other W _ k v (fun e => hne (by rw [e]))⟩
theorem grown_refl (w : World) (g : Option Nat) : w.grownBy w g := ⟨rfl, rfl, rfl, Nat.le_refl _, fun _ _ _ => rfl⟩

/-- Where a reader stands behind some step: at r. -/
structure At (w0 w w' : World) (g : Nat) (sh : Int) (r : List Int) : Prop where
  ex : ∃ (A2 : Option Addr) (c2 : Nat), RdAt w' g A2 r.length c2 sh ∧ r.length ≤ c2 ∧ ReadsInt w0 .u8 A2 r.length r
  below : Below w0.heap.size w0 w'
  grown : w.grownBy w' (some g)
theorem grown_drew {w W : World} {r : Option Nat} (h : w.grownBy W r) : w.grownBy W.drew r := ⟨h.os, h.tape, h.output, h.size, h.block⟩
theorem At.drew {w0 w w' : World} {g : Nat} {sh : Int} {r : List Int} (h : At w0 w w' g sh r) : At w0 w w'.drew g sh r := ⟨h.ex, h.below.drew, grown_drew h.grown⟩
/-- What is left behind a panic: what was there, but for the reader. -/
def Lost (w0 w w' : World) (g : Nat) : Prop := Below w0.heap.size w0 w' ∧ w.grownBy w' (some g)
def LenPost (w0 w : World) (g : Nat) (sh : Int) (b : List Int) (e : Ending) (w' : World) : Prop :=
  match lenP sh b with
  | .err x => e = gone x ∧ Lost w0 w w' g
  | .ok (m, r) => e = .returned (.int .i64 m) ∧ At w0 w w' g sh r

theorem take_go (w0 : World) (g : Nat) (A : Option Addr) (c : Nat) (b : List Int) (sh : Int) (n : Nat) (w : World) (hg : RdAt w g A b.length c sh) (hc : b.length ≤ c) (hn : n ≤ b.length) (hb : b.length ≤ 1000000000)
    (hr : ReadsInt w0 .u8 A b.length b) (hB : Below w0.heap.size w0 w) (hgB : w0.heap.size ≤ g) :
    Calls Try.prog 53 #[.pointer (some ⟨g, 0, none⟩), .int .i64 n] w fun e w' => ∃ A2 : Option Addr, e = .returned (.slice A n c) ∧ RdAt w' g A2 (b.drop n).length (c - n) sh ∧ (b.drop n).length ≤ c - n ∧ ReadsInt w0 .u8 A2 (b.drop n).length (b.drop n) ∧ Below w0.heap.size w0 w' ∧ w.grownBy w' (some g) := by
  refine (take_yes g A c b sh n w hg hc hn hb).mono ?_
  rintro e w' ⟨A2, rfl, rfl, hc2, hr2⟩
  exact ⟨A2, rfl, hg.set, hc2, hr2 _ hr, below_put hB hgB _, grown_put (grown_refl w (some g)) _⟩

set_option maxHeartbeats 4000000 in
set_option maxRecDepth 100000 in
theorem length_walk (w0 : World) (g : Nat) (A : Option Addr) (c : Nat) (b : List Int) (sh : Int) (w : World) (hg : RdAt w g A b.length c sh) (hc : b.length ≤ c) (hb : b.length ≤ 1000000000)
    (hr : ReadsInt w0 .u8 A b.length b) (hB : Below w0.heap.size w0 w) (hgB : w0.heap.size ≤ g) (hv : ∀ x ∈ b, 0 ≤ x ∧ x < 256) :
    Calls Try.prog 54 #[.pointer (some ⟨g, 0, none⟩)] w (LenPost w0 w g sh b) := by
  cases b with
  | nil =>
    have hp : LenPost w0 w g sh [] = fun e w' => e = gone sh ∧ Lost w0 w w' g := by funext e w'; rfl
    rw [hp]
    go_enter Try.func54, Try.ntmps54
    go_wp2_with (fail)
    refine (take_no g A c [] sh 1 w hg (by simp)).mono ?_
    rintro e w' ⟨rfl, rfl⟩
    exact ⟨rfl, rfl, hB, grown_refl _ _⟩
  | cons x b =>
    have hx := hv x List.mem_cons_self
    have hbl : (x :: b).length = b.length + 1 := rfl
    have ht := take_go w0 g A c (x :: b) sh 1 w hg hc (by simp) hb hr hB hgB
    rw [List.drop_succ_cons, List.drop_zero] at ht
    have hcell : ∀ W : World, Below w0.heap.size w0 W → ∃ ad, A = some ad ∧ W.cell? ad = some (.int .u8 x) := fun W hW => cellAt0 hr hW
    have hb' : b.length ≤ 1000000000 := by omega
    have hv' : ∀ y ∈ b, 0 ≤ y ∧ y < 256 := fun y hy => hv y (List.mem_cons_of_mem _ hy)
    obtain ⟨x0, x1⟩ := hx
    clear hv hg hr hc hb hbl
    have HCELL := Lib.hid hcell
    clear hcell
    by_cases h1 : x = 129
    · subst h1
      cases b with
      | nil =>
        have hp : LenPost w0 w g sh [129] = fun e w' => e = gone sh ∧ Lost w0 w w' g := by funext e w'; rfl
        rw [hp]
        clear hp
        go_enter Try.func54, Try.ntmps54
        go_wp2_with (fail)
        refine ht.mono ?_
        rintro e w1 ⟨A2, rfl, hg1, hc1, hr1, hB1, hG1⟩
        obtain ⟨ad, rfl, q0⟩ := HCELL.out w1 hB1
        go_wp2_with (fail)
        refine (take_no g A2 (c - 1) [] sh 1 w1 hg1 (by simp)).mono ?_
        rintro e w' ⟨rfl, rfl⟩
        exact ⟨rfl, rfl, hB1, hG1⟩
      | cons y b =>
        have hy := hv' y List.mem_cons_self
        obtain ⟨y0, y1⟩ := hy
        have hp1 : 128 ≤ y → LenPost w0 w g sh (129 :: y :: b) = fun e w' => e = .returned (.int .i64 y) ∧ At w0 w w' g sh b := by
          intro h
          funext e w'
          unfold LenPost lenP
          simp [h]
        have hp2 : ¬ 128 ≤ y → LenPost w0 w g sh (129 :: y :: b) = fun e w' => e = gone 2 ∧ Lost w0 w w' g := by
          intro h
          funext e w'
          unfold LenPost lenP
          simp [h]
        generalize LenPost w0 w g sh (129 :: y :: b) = PP at hp1 hp2 ⊢
        have HP1 := Lib.hid hp1
        have HP2 := Lib.hid hp2
        clear hp1 hp2
        clear hv'
        go_enter Try.func54, Try.ntmps54
        go_wp2_with (fail)
        refine ht.mono ?_
        rintro e w1 ⟨A2, rfl, hg1, hc1, hr1, hB1, hG1⟩
        obtain ⟨ad, rfl, q0⟩ := HCELL.out w1 hB1
        go_wp2_with (fail)
        refine (take_go w0 g A2 (c - 1) (y :: b) sh 1 w1 hg1 hc1 (by simp) hb' hr1 hB1 hgB).mono ?_
        rintro e w2 ⟨A3, rfl, hg2, hc2, hr2, hB2, hG2⟩
        rw [List.drop_succ_cons, List.drop_zero] at hg2 hc2 hr2
        obtain ⟨ad2, rfl, q1⟩ := cellAt0 hr1 hB2
        have HA : At w0 w w2 g sh b := ⟨⟨A3, _, hg2, hc2, hr2⟩, hB2, grown_trans hG1 hG2⟩
        clear hr1 hr2 hc1 hc2 hg1 hg2 hG1 hG2 ht HCELL
        by_cases h2 : 128 ≤ y
        · have e2 : decide (y ≥ 128) = true := decide_eq_true h2
          go_wp2_with (fail)
          refine (must_yes 2 w2).mono ?_
          rintro e w3 ⟨rfl, rfl⟩
          go_wp2
          rw [HP1.out h2]
          exact ⟨rfl, HA⟩
        · have e2 : decide (y ≥ 128) = false := decide_eq_false h2
          go_wp2_with (fail)
          refine (must_no 2 w2).mono ?_
          rintro e w3 ⟨rfl, rfl⟩
          refine ⟨rfl, ?_⟩
          rw [HP2.out h2]
          exact ⟨rfl, hB2, HA.grown⟩
    · have n1 : (x == 129) = false := by simp [h1]
      by_cases h2 : x = 130
      · subst h2
        have hl : b.length < 2 ∨ 2 ≤ b.length := by omega
        rcases hl with hl | hl
        · have hp : LenPost w0 w g sh (130 :: b) = fun e w' => e = gone sh ∧ Lost w0 w w' g := by
            funext e w'
            match b, hl with
            | [], _ => rfl
            | [_], _ => rfl
          rw [hp]
          clear hp
          go_enter Try.func54, Try.ntmps54
          go_wp2_with (fail)
          refine ht.mono ?_
          rintro e w1 ⟨A2, rfl, hg1, hc1, hr1, hB1, hG1⟩
          obtain ⟨ad, rfl, q0⟩ := HCELL.out w1 hB1
          go_wp2_with (fail)
          refine (take_no g A2 (c - 1) b sh 2 w1 hg1 (by omega)).mono ?_
          rintro e w' ⟨rfl, rfl⟩
          exact ⟨rfl, rfl, hB1, hG1⟩
        · match b, hl with
          | y :: z :: b, _ =>
            obtain ⟨y0, y1⟩ := hv' y List.mem_cons_self
            obtain ⟨z0, z1⟩ := hv' z (by simp)
            have hp1 : 256 ≤ y * 256 + z → LenPost w0 w g sh (130 :: y :: z :: b) = fun e w' => e = .returned (.int .i64 (y * 256 + z)) ∧ At w0 w w' g sh b := by
              intro h
              funext e w'
              unfold LenPost lenP
              simp [h]
            have hp2 : ¬ 256 ≤ y * 256 + z → LenPost w0 w g sh (130 :: y :: z :: b) = fun e w' => e = gone 2 ∧ Lost w0 w w' g := by
              intro h
              funext e w'
              unfold LenPost lenP
              simp [h]
            generalize LenPost w0 w g sh (130 :: y :: z :: b) = PP at hp1 hp2 ⊢
            have HP1 := Lib.hid hp1
            have HP2 := Lib.hid hp2
            clear hp1 hp2
            clear hv'
            have hq : Go.bits .or .i64 (y * 256) z = y * 256 + z := bits_join .i64 62 (by decide) (fun n h₀ h₁ => by rw [IntKind.wrap_i64]; omega) 8 (y * 256) z (by omega) (by omega) (by omega) (by omega) (by omega) (by omega)
            go_enter Try.func54, Try.ntmps54
            go_wp2_with (fail)
            refine ht.mono ?_
            rintro e w1 ⟨A2, rfl, hg1, hc1, hr1, hB1, hG1⟩
            obtain ⟨ad, rfl, q0⟩ := HCELL.out w1 hB1
            go_wp2_with (fail)
            refine (take_go w0 g A2 (c - 1) (y :: z :: b) sh 2 w1 hg1 hc1 (by simp) hb' hr1 hB1 hgB).mono ?_
            rintro e w2 ⟨A3, rfl, hg2, hc2, hr2, hB2, hG2⟩
            rw [List.drop_succ_cons, List.drop_succ_cons, List.drop_zero] at hg2 hc2 hr2
            obtain ⟨ad2, rfl, q1⟩ := cellAt0 hr1 hB2
            obtain ⟨ad3, e3, q2⟩ := cellAt hr1 hB2 1 (by simp)
            obtain rfl := Option.some.inj e3
            rw [show (y :: z :: b).getD 1 0 = z from rfl, ← add_field' ad2 1 (by omega)] at q2
            have HA : At w0 w w2 g sh b := ⟨⟨A3, _, hg2, hc2, hr2⟩, hB2, grown_trans hG1 hG2⟩
            clear hr1 hr2 hc1 hc2 hg1 hg2 hG1 hG2 ht HCELL e3
            by_cases h2 : 256 ≤ y * 256 + z
            · have e2 : decide (y * 256 + z ≥ 256) = true := decide_eq_true h2
              go_wp2
              go_region
              go_wp2_with (fail)
              refine (must_yes 2 _).mono ?_
              rintro e w3 ⟨rfl, rfl⟩
              go_wp2
              rw [HP1.out h2]
              exact ⟨rfl, HA.drew⟩
            · have e2 : decide (y * 256 + z ≥ 256) = false := decide_eq_false h2
              go_wp2
              go_region
              go_wp2_with (fail)
              refine (must_no 2 _).mono ?_
              rintro e w3 ⟨rfl, rfl⟩
              refine ⟨rfl, ?_⟩
              rw [HP2.out h2]
              exact ⟨rfl, hB2.drew, HA.drew.grown⟩
      · have n2 : (x == 130) = false := by simp [h2]
        have hp1 : x < 128 → LenPost w0 w g sh (x :: b) = fun e w' => e = .returned (.int .i64 x) ∧ At w0 w w' g sh b := by
          intro h
          funext e w'
          unfold LenPost lenP
          simp [h, h1, h2]
        have hp2 : ¬ x < 128 → LenPost w0 w g sh (x :: b) = fun e w' => e = gone 2 ∧ Lost w0 w w' g := by
          intro h
          funext e w'
          unfold LenPost lenP
          simp [h, h1, h2]
        generalize LenPost w0 w g sh (x :: b) = PP at hp1 hp2 ⊢
        have HP1 := Lib.hid hp1
        have HP2 := Lib.hid hp2
        clear hp1 hp2
        clear hv' h1 h2
        go_enter Try.func54, Try.ntmps54
        go_wp2_with (fail)
        refine ht.mono ?_
        rintro e w1 ⟨A2, rfl, hg1, hc1, hr1, hB1, hG1⟩
        obtain ⟨ad, rfl, q0⟩ := HCELL.out w1 hB1
        have HA : At w0 w w1 g sh b := ⟨⟨A2, _, hg1, hc1, hr1⟩, hB1, hG1⟩
        clear hr1 hc1 hg1 hG1 ht HCELL
        by_cases h3 : x < 128
        · have e2 : decide (x < 128) = true := decide_eq_true h3
          go_wp2_with (fail)
          refine (must_yes 2 w1).mono ?_
          rintro e w3 ⟨rfl, rfl⟩
          go_wp2
          rw [HP1.out h3]
          exact ⟨rfl, HA⟩
        · have e2 : decide (x < 128) = false := decide_eq_false h3
          go_wp2_with (fail)
          refine (must_no 2 w1).mono ?_
          rintro e w3 ⟨rfl, rfl⟩
          refine ⟨rfl, ?_⟩
          rw [HP2.out h3]
          exact ⟨rfl, hB1, HA.grown⟩

end Go.Proofs.Ytmbgjhkemlliaaa.Tlv
