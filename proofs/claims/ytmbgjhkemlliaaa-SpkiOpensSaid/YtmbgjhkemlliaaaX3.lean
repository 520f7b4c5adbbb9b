/- Merged by wip/tools/merge.py: YtmbgjhkemlliaaaRight, YtmbgjhkemlliaaaSize, YtmbgjhkemlliaaaPut. -/
import Derived.Test.YtmbgjhkemlliaaaX2
import Derived.Test.YtmbgjhkemlliaaaT1
/- tlv.right, walked. -/
set_option linter.unusedVariables false
set_option linter.unusedSimpArgs false
namespace Go.Proofs.Ytmbgjhkemlliaaa.Tlv
open Go.RowKit Go.Proofs.YtmbgjhkemlliaaaW.PrintWords Go.Proofs.YtmbgjhkemlliaaaW.PrintLast Go.Proofs.YtmbgjhkemlliaaaW.PrintMore Go.Proofs.Ytmbgjhkemlliaaa.PTlv

theorem rightL_all : ∀ (l : List T), rightL l = true ↔ ∀ t, t ∈ l → rightT t = true
  | [] => by simp [rightL]
  | t :: l => by
    have ih := rightL_all l
    simp [rightL, ih]
def NodeAt (w : World) (n : T) (A1 : Option Addr) (c1 : Nat) (A2 : Option Addr) (c2 : Nat) : Prop := (Kd.int .u8).C w A1 n.f1.length n.f1 ∧ n.f1.length ≤ c1 ∧ k25.C w A2 n.f2.length n.f2 ∧ n.f2.length ≤ c2
theorem NodeAt.below {w w' : World} {n : T} {A1 : Option Addr} {c1 : Nat} {A2 : Option Addr} {c2 : Nat} (h : NodeAt w n A1 c1 A2 c2) (hb : Below w.heap.size w w') : NodeAt w' n A1 c1 A2 c2 := ⟨Kd.C_below h.1 hb, h.2.1, Kd.C_below h.2.2.1 hb, h.2.2.2⟩
def RightC (n : T) : Prop := ∀ (A1 : Option Addr) (c1 : Nat) (A2 : Option Addr) (c2 : Nat) (w : World), NodeAt w n A1 c1 A2 c2 →
  Calls Try.prog 27 #[.agg #[.int .i64 n.f0, .slice A1 n.f1.length c1, .slice A2 n.f2.length c2]] w fun e w' => e = .returned (.bool (rightT n)) ∧ Below w.heap.size w w'

theorem rd_mem {l : List T} {k : Nat} (h : k < l.length) : rd_T25 l (k : Int) = l[k] := by simp [rd_T25, List.getD_eq_getElem?_getD, List.getElem?_eq_getElem h]
set_option maxHeartbeats 4000000 in
set_option maxRecDepth 100000 in
theorem right_step (n : T) (ih : ∀ t, t ∈ n.f2 → RightC t) : RightC n := by
  obtain ⟨tag, body, kids⟩ := n
  intro A1 c1 A2 c2 w hn
  obtain ⟨hr1, hc1, hr2, hc2⟩ := hn
  dsimp only at hr1 hc1 hr2 hc2 ⊢ ih
  have hnot : ∀ (x : Bool) (w : World), (Op.unary .not (.bool x)).run Try.prog w = .ok (.bool (!x)) w := fun _ _ => rfl
  have hmax := Kd.C_max hr2
  have hbox : (w.alloc (.cells #[.int .i64 tag, .slice A1 body.length c1, .slice A2 kids.length c2] 25)).heap[w.heap.size]? = some (.cells #[.int .i64 tag, .slice A1 body.length c1, .slice A2 kids.length c2] 25 (0, 0)) := heap_alloc_new w _
  by_cases hT : isTagB tag = true
  · obtain ⟨t0, t1⟩ := isTag_range hT
    have HT := Lib.hid (show tlv_isTag.f tag = some true by rw [isTag_f, hT])
    have HH := Lib.hid (holds_f tag t0 t1)
    have hB1 : Below w.heap.size w (w.alloc (.cells #[.int .i64 tag, .slice A1 body.length c1, .slice A2 kids.length c2] 25)) := (Below.refl _ _).alloc (Nat.le_refl _) _
    by_cases hgood : (holdsB tag = true ∧ body = []) ∨ (holdsB tag = false ∧ kids = [])
    · have hres : rightT ⟨tag, body, kids⟩ = rightL kids := by
        rw [rightT, hT]
        rcases hgood with ⟨h1, h2⟩ | ⟨h1, h2⟩
        · rw [if_pos h1, h2]; simp
        · rw [if_neg (by rw [h1]; simp), h2]; simp
      rw [hres]
      clear hres hT
      have HR := Lib.hid hr2
      have hz : ∀ wq : World, Below w.heap.size w wq → Kd.C k25 wq A2 kids.length kids := fun wq hq => Kd.C_below hr2 hq
      have HZ := Lib.hid hz
      clear hz hr1 hr2 hc1 hc2
      have hg : (holdsB tag = true ∧ (body.length : Int) = 0) ∨ (holdsB tag = false ∧ (kids.length : Int) = 0) := by
        rcases hgood with ⟨h1, h2⟩ | ⟨h1, h2⟩
        · exact .inl ⟨h1, by rw [h2]; rfl⟩
        · exact .inr ⟨h1, by rw [h2]; rfl⟩
      clear hgood
      rcases hg with ⟨hH, hl⟩ | ⟨hH, hl⟩
      all_goals
        rw [hH] at HH
        have hlen : (0 : Int) = 0 := rfl
        go_enter Try.func27, Try.ntmps27
        go_wp2_with (fail)
        refine (tlv_isTag.calls tag true _ HT.out).mono ?_
        rintro e w2 ⟨rfl, nd, rfl⟩
        have hB2 := pw_below_drewN hB1 nd
        have hb2 : ((w.alloc (.cells #[.int .i64 tag, .slice A1 body.length c1, .slice A2 kids.length c2] 25)).drewN nd).heap[w.heap.size]? = some (.cells #[.int .i64 tag, .slice A1 body.length c1, .slice A2 kids.length c2] 25 (0, 0)) := hbox
        generalize (w.alloc (.cells #[.int .i64 tag, .slice A1 body.length c1, .slice A2 kids.length c2] 25)).drewN nd = w2 at hB2 hb2 ⊢
        have a0 := Lib.cell_of_heap hb2 0
        go_wp2_with (fail)
        refine (tlv_holds.calls tag _ _ HH.out).mono ?_
        rintro e w3 ⟨rfl, nd2, rfl⟩
        have hB3 := pw_below_drewN hB2 nd2
        have hb3 : (w2.drewN nd2).heap[w.heap.size]? = some (.cells #[.int .i64 tag, .slice A1 body.length c1, .slice A2 kids.length c2] 25 (0, 0)) := hb2
        clear a0 hb2 hB2
        generalize w2.drewN nd2 = w3 at hB3 hb3 ⊢
        have a0 := Lib.cell_of_heap hb3 0
        have a1 := Lib.cell_of_heap hb3 1
        have a2 := Lib.cell_of_heap hb3 2
        go_wp2_with (fail)
        refine (tlv_holds.calls tag _ _ HH.out).mono ?_
        rintro e w4 ⟨rfl, nd3, rfl⟩
        have hB4 := pw_below_drewN hB3 nd3
        have hb4 : (w3.drewN nd3).heap[w.heap.size]? = some (.cells #[.int .i64 tag, .slice A1 body.length c1, .slice A2 kids.length c2] 25 (0, 0)) := hb3
        clear a0 a1 a2 hb3 hB3
        generalize w3.drewN nd3 = w4 at hB4 hb4 ⊢
        have a0 := Lib.cell_of_heap hb4 0
        have a1 := Lib.cell_of_heap hb4 1
        have a2 := Lib.cell_of_heap hb4 2
        go_wp2
        go_loopw [35] (fun iv wr => ∃ k : Nat, k ≤ kids.length ∧ iv = .int .i64 k ∧ Hid (∀ t, t ∈ kids.take k → rightT t = true) ∧ Below w.heap.size w wr) (fun iv _ => kids.length - (intOf iv).toNat)
        case atStart => exact ⟨0, by omega, rfl, fun t ht => by simp at ht, hB4⟩
        case round =>
          obtain ⟨k, hk, rfl, hall, hb⟩ := hrel
          by_cases hlt : k < kids.length
          · first
            | (exfalso; omega)
            | (
                obtain ⟨ad, D1, d1, D2, d2, eA, x0, x1, x2, l1, i1, l2, i2⟩ := at_T25 (HZ.out wr hb) (k : Int) (by omega) (by omega)
                rw [rd_mem hlt] at x0 x1 x2 l1 i1 l2 i2
                simp only [Int.toNat_natCast] at x0 x1 x2
                cases eA
                have ihk := Lib.hid (ih (kids[k]'hlt) (List.getElem_mem hlt))
                have hst : rightT (kids[k]'hlt) = true → ∀ t, t ∈ kids.take (k + 1) → rightT t = true := by
                  intro hq t ht
                  rw [List.take_add_one, List.mem_append, List.getElem?_eq_getElem hlt] at ht
                  rcases ht with ht | ht
                  · exact hall.out t ht
                  · rw [Option.toList_some, List.mem_singleton] at ht
                    rw [ht]; exact hq
                have hfl : rightT (kids[k]'hlt) = false → rightL kids = false := by
                  intro hq
                  cases hz : rightL kids with
                  | false => rfl
                  | true => have := (rightL_all kids).1 hz _ (List.getElem_mem hlt); rw [hq] at this; cases this
                have HST := Lib.hid hst
                have HFL := Lib.hid hfl
                clear hst hfl hall
                have I1 := Lib.hid i1
                have I2 := Lib.hid i2
                have L1 := Lib.hid l1
                have L2 := Lib.hid l2
                clear i1 i2 l1 l2
                have hk0 : (0 ≤ (k : Int)) = True := eq_true (by omega)
                have hk1 : ((k : Int) < (kids.length : Int)) = True := eq_true (by omega)
                have HLT := Lib.hid hlt
                have HW := Lib.hid hb.size
                generalize kids[k] = kd at ihk HST HFL I1 I2 L1 L2 x0 x1 x2
                have hB5 : Below w.heap.size w (wr.alloc (.cells #[.int .i64 kd.f0, .slice D1 kd.f1.length d1, .slice D2 kd.f2.length d2] 25)) := hb.alloc HW.out _
                have HB5 := Lib.hid hB5
                clear hB5
                go_wp2_with (fail)
                refine (ihk.out D1 d1 D2 d2 _ (NodeAt.below (w := wr) ⟨I1.out, L1.out, I2.out, L2.out⟩ ((Below.refl _ _).alloc (Nat.le_refl _) _))).mono ?_
                rintro e w5 ⟨rfl, hB6⟩
                have hB7 : Below w.heap.size w w5 := HB5.out.trans (hB6.mono (by simp; have := HW.out; omega))
                clear hB6 HB5
                cases hq : rightT kd with
                | false =>
                  have hf := HFL.out hq
                  have HF := Lib.hid hf
                  clear hf hq
                  go_wp2
                  go_ret
                  rw [HF.out]
                  exact ⟨rfl, hB7⟩
                | true =>
                  have hf := HST.out hq
                  have HF := Lib.hid hf
                  clear hf hq
                  have hwk : wrap64 ((k : Int) + 1) = ((k + 1 : Nat) : Int) := by unfold wrap64; omega
                  go_wp2
                  go_round
                  case rel => exact ⟨k + 1, by have := HLT.out; omega, by simp [hwk], HF.out, hB7⟩
                  case measure => simp [intOf, hwk]; omega)
          · obtain rfl : k = kids.length := by omega
            have hfin : rightL kids = true := (rightL_all kids).2 (by have := hall.out; rwa [List.take_length] at this)
            have HF := Lib.hid hfin
            clear hfin hall
            go_wp2
            go_ret
            rw [HF.out]
            exact ⟨rfl, hb⟩
    · have hres : rightT ⟨tag, body, kids⟩ = false := by
        rw [rightT, hT]
        cases hH : holdsB tag with
        | true =>
          rw [if_pos rfl]
          have : body ≠ [] := fun e => hgood (.inl ⟨hH, e⟩)
          simp [this]
        | false =>
          rw [if_neg (by simp)]
          have : kids ≠ [] := fun e => hgood (.inr ⟨hH, e⟩)
          simp [this]
      rw [hres]
      clear hres hT
      have hg : (holdsB tag = true ∧ 0 < (body.length : Int)) ∨ (holdsB tag = false ∧ 0 < (kids.length : Int)) := by
        cases hH : holdsB tag with
        | true =>
          have : body ≠ [] := fun e => hgood (.inl ⟨hH, e⟩)
          exact .inl ⟨rfl, by have := List.length_pos_iff.2 this; omega⟩
        | false =>
          have : kids ≠ [] := fun e => hgood (.inr ⟨hH, e⟩)
          exact .inr ⟨rfl, by have := List.length_pos_iff.2 this; omega⟩
      clear hgood hr1 hr2 hc1 hc2
      rcases hg with ⟨hH, hl⟩ | ⟨hH, hl⟩
      · rw [hH] at HH
        have hl' : decide (0 < (body.length : Int)) = true := decide_eq_true hl
        have hl2 : (0 < (body.length : Int)) = True := eq_true hl
        have hl3 : (0 < body.length) = True := eq_true (by omega)
        have hl4 : (body = []) = False := eq_false (by intro e; rw [e] at hl; simp at hl)
        clear hl
        go_enter Try.func27, Try.ntmps27
        go_wp2_with (fail)
        refine (tlv_isTag.calls tag true _ HT.out).mono ?_
        rintro e w2 ⟨rfl, nd, rfl⟩
        have hB2 := pw_below_drewN hB1 nd
        have hb2 : ((w.alloc (.cells #[.int .i64 tag, .slice A1 body.length c1, .slice A2 kids.length c2] 25)).drewN nd).heap[w.heap.size]? = some (.cells #[.int .i64 tag, .slice A1 body.length c1, .slice A2 kids.length c2] 25 (0, 0)) := hbox
        generalize (w.alloc (.cells #[.int .i64 tag, .slice A1 body.length c1, .slice A2 kids.length c2] 25)).drewN nd = w2 at hB2 hb2 ⊢
        have a0 := Lib.cell_of_heap hb2 0
        go_wp2_with (fail)
        refine (tlv_holds.calls tag _ _ HH.out).mono ?_
        rintro e w3 ⟨rfl, nd2, rfl⟩
        have hB3 := pw_below_drewN hB2 nd2
        have hb3 : (w2.drewN nd2).heap[w.heap.size]? = some (.cells #[.int .i64 tag, .slice A1 body.length c1, .slice A2 kids.length c2] 25 (0, 0)) := hb2
        clear a0 hb2 hB2
        generalize w2.drewN nd2 = w3 at hB3 hb3 ⊢
        have a0 := Lib.cell_of_heap hb3 0
        have a1 := Lib.cell_of_heap hb3 1
        have a2 := Lib.cell_of_heap hb3 2
        go_wp2
        go_ret
        exact ⟨rfl, hB3⟩
      · rw [hH] at HH
        have hl' : decide (0 < (kids.length : Int)) = true := decide_eq_true hl
        have hl2 : (0 < (kids.length : Int)) = True := eq_true hl
        have hl3 : (0 < kids.length) = True := eq_true (by omega)
        have hl4 : (kids = []) = False := eq_false (by intro e; rw [e] at hl; simp at hl)
        clear hl
        go_enter Try.func27, Try.ntmps27
        go_wp2_with (fail)
        refine (tlv_isTag.calls tag true _ HT.out).mono ?_
        rintro e w2 ⟨rfl, nd, rfl⟩
        have hB2 := pw_below_drewN hB1 nd
        have hb2 : ((w.alloc (.cells #[.int .i64 tag, .slice A1 body.length c1, .slice A2 kids.length c2] 25)).drewN nd).heap[w.heap.size]? = some (.cells #[.int .i64 tag, .slice A1 body.length c1, .slice A2 kids.length c2] 25 (0, 0)) := hbox
        generalize (w.alloc (.cells #[.int .i64 tag, .slice A1 body.length c1, .slice A2 kids.length c2] 25)).drewN nd = w2 at hB2 hb2 ⊢
        have a0 := Lib.cell_of_heap hb2 0
        go_wp2_with (fail)
        refine (tlv_holds.calls tag _ _ HH.out).mono ?_
        rintro e w3 ⟨rfl, nd2, rfl⟩
        have hB3 := pw_below_drewN hB2 nd2
        have hb3 : (w2.drewN nd2).heap[w.heap.size]? = some (.cells #[.int .i64 tag, .slice A1 body.length c1, .slice A2 kids.length c2] 25 (0, 0)) := hb2
        clear a0 hb2 hB2
        generalize w2.drewN nd2 = w3 at hB3 hb3 ⊢
        have a0 := Lib.cell_of_heap hb3 0
        have a1 := Lib.cell_of_heap hb3 1
        have a2 := Lib.cell_of_heap hb3 2
        go_wp2_with (fail)
        refine (tlv_holds.calls tag _ _ HH.out).mono ?_
        rintro e w4 ⟨rfl, nd3, rfl⟩
        have hB4 := pw_below_drewN hB3 nd3
        have hb4 : (w3.drewN nd3).heap[w.heap.size]? = some (.cells #[.int .i64 tag, .slice A1 body.length c1, .slice A2 kids.length c2] 25 (0, 0)) := hb3
        clear a0 a1 a2 hb3 hB3
        generalize w3.drewN nd3 = w4 at hB4 hb4 ⊢
        have a0 := Lib.cell_of_heap hb4 0
        have a1 := Lib.cell_of_heap hb4 1
        have a2 := Lib.cell_of_heap hb4 2
        go_wp2
        go_ret
        exact ⟨rfl, hB4⟩
  · have hT' : isTagB tag = false := by simpa using hT
    have hres : rightT ⟨tag, body, kids⟩ = false := by rw [rightT, hT']; rfl
    rw [hres]
    have HT := Lib.hid (show tlv_isTag.f tag = some false by rw [isTag_f, hT'])
    clear hT hT' hres hr1 hr2 hc1 hc2 hbox hmax
    go_enter Try.func27, Try.ntmps27
    go_wp2_with (fail)
    refine (tlv_isTag.calls tag false _ HT.out).mono ?_
    rintro e w3 ⟨rfl, nd, rfl⟩
    go_wp2
    go_ret
    exact ⟨rfl, pw_below_drewN ((Below.refl _ _).alloc (Nat.le_refl _) _) _⟩

theorem right_le : ∀ (m : Nat) (n : T), SizeOf.sizeOf n ≤ m → RightC n
  | 0, ⟨a, b, c⟩, h => by simp at h
  | m + 1, ⟨a, b, c⟩, h => right_step _ fun t ht => right_le m t (by
    have := List.sizeOf_lt_of_mem ht
    simp at h this
    omega)
theorem right_any (n : T) : RightC n := right_le _ n (Nat.le_refl _)

end Go.Proofs.Ytmbgjhkemlliaaa.Tlv

/- tlv.Size answers with the plain size. -/
set_option linter.unusedVariables false
set_option linter.unusedSimpArgs false
namespace Go.Proofs.Ytmbgjhkemlliaaa.Tlv
open Go.RowKit Go.Proofs.YtmbgjhkemlliaaaW.PrintWords Go.Proofs.YtmbgjhkemlliaaaW.PrintLast Go.Proofs.YtmbgjhkemlliaaaW.PrintMore Go.Proofs.Ytmbgjhkemlliaaa.PTlv

mutual
theorem size_enc : ∀ t : T, sizeT t = ((encT t).length : Int)
  | ⟨tag, body, kids⟩ => by
    rw [sizeT, encT]
    split
    · rw [List.length_append, Int.natCast_add, head_length, size_encL kids, Int.add_comm]
    · rw [List.length_append, Int.natCast_add, head_length, Int.add_comm]
theorem size_encL : ∀ l : List T, sizeL l = ((encL l).length : Int)
  | [] => rfl
  | t :: l => by rw [sizeL, encL, List.length_append, Int.natCast_add, size_enc t, size_encL l]
end
theorem headLen_pos (n : Int) : 2 ≤ headLen n ∧ headLen n ≤ 4 := by unfold headLen; split <;> (try split) <;> omega
mutual
theorem many_le : ∀ t : T, 1 ≤ manyT t ∧ manyT t ≤ sizeT t ∧ 1 ≤ deepT t ∧ deepT t ≤ manyT t
  | ⟨tag, body, kids⟩ => by
    rw [sizeT, manyT, deepT]
    have h := manyL_le kids
    have h1 := headLen_pos (sizeL kids)
    have h2 := headLen_pos body.length
    split <;> omega
theorem manyL_le : ∀ l : List T, 0 ≤ manyL l ∧ manyL l ≤ sizeL l ∧ 0 ≤ deepL l ∧ deepL l ≤ manyL l
  | [] => by decide
  | t :: l => by
    have h := many_le t
    have h1 := manyL_le l
    rw [sizeL, manyL, deepL]
    omega
end
theorem sizeL_app (a b : List T) : sizeL (a ++ b) = sizeL a + sizeL b ∧ manyL (a ++ b) = manyL a + manyL b ∧ deepL (a ++ b) = max (deepL a) (deepL b) ∧ encL (a ++ b) = encL a ++ encL b ∧ rightL (a ++ b) = (rightL a && rightL b) := by
  induction a with
  | nil =>
    have := (manyL_le b).2.2.1
    refine ⟨by simp [sizeL], by simp [manyL], ?_, by simp [encL], by simp [rightL]⟩
    show deepL b = max 0 (deepL b)
    omega
  | cons t a ih =>
    obtain ⟨h1, h2, h3, h4, h5⟩ := ih
    refine ⟨?_, ?_, ?_, ?_, ?_⟩
    · rw [List.cons_append, sizeL, sizeL, h1]; omega
    · rw [List.cons_append, manyL, manyL, h2]; omega
    · rw [List.cons_append, deepL, deepL, h3]; omega
    · rw [List.cons_append, encL, encL, h4, List.append_assoc]
    · rw [List.cons_append, rightL, rightL, h5, Bool.and_assoc]
theorem head_f (a n : Int) : tlv_head.f a n = some (head a n) := by
  unfold tlv_head.f head
  split
  · rfl
  · split <;> rfl
theorem f_up {a : Int} {b : List Int} {c : List T} {r : Int × Int × Int} {k : Nat} (h : tlv_Size.f k a b c = some r) : ∀ j, tlv_Size.f (k + j) a b c = some r
  | 0 => h
  | j + 1 => tlv_Size.mono a b c (k + j) r (f_up h j)
theorem l_up {a b c : Int} {l : List T} {m i : Int} {r : Int × Int × Int} {k : Nat} (h : tlv_Size.l0 k a b c l m i = some r) : ∀ j, tlv_Size.l0 (k + j) a b c l m i = some r
  | 0 => h
  | j + 1 => (tlv_Size.mono_l (k + j)).2 a b c l m i r (l_up h j)

def SizeC (t : T) : Prop := rightT t = true → sizeT t ≤ 100000000 → ∃ k, tlv_Size.f k t.f0 t.f1 t.f2 = some (sizeT t, manyT t, deepT t)
theorem size_loop (kids : List T) (hs : sizeL kids ≤ 100000000) (hl : kids.length ≤ 100000000) : ∀ (l pre : List T), kids = pre ++ l → rightL l = true → (∀ t, t ∈ l → SizeC t) →
    ∃ k, tlv_Size.l0 k (sizeL pre) (1 + manyL pre) (deepL pre) kids (kids.length : Int) (pre.length : Int) = some (sizeL kids + headLen (sizeL kids), manyL kids + 1, deepL kids + 1)
  | [], pre, e, _, _ => by
    rw [List.append_nil] at e
    subst e
    refine ⟨1, ?_⟩
    have hh := headLen_pos (sizeL kids)
    have hm := manyL_le kids
    rw [tlv_Size.l0, if_neg (by omega), head_f]
    show some (wrap64 (sizeL kids + ((head 0 (sizeL kids)).length : Int)), 1 + manyL kids, wrap64 (deepL kids + 1)) = _
    rw [head_length, wrap64_in _ (by unfold headLen; split <;> (try split) <;> omega), wrap64_in _ (by omega), Int.add_comm 1]
  | t :: l, pre, e, hr, ih => by
    have hap := sizeL_app pre (t :: l)
    rw [← e] at hap
    obtain ⟨a1, a2, a3, a4, a5⟩ := hap
    rw [rightL, Bool.and_eq_true] at hr
    rw [sizeL] at a1
    rw [manyL] at a2
    rw [deepL] at a3
    have m1 := manyL_le l
    have m2 := manyL_le pre
    have m3 := many_le t
    obtain ⟨k1, hk1⟩ := ih t List.mem_cons_self hr.1 (by omega)
    obtain ⟨k2, hk2⟩ := size_loop kids hs hl l (pre ++ [t]) (by rw [e]; simp) hr.2 (fun u hu => ih u (List.mem_cons_of_mem _ hu))
    have hlen : (pre.length : Int) < kids.length := by rw [e]; simp; omega
    have hrd : rd_T25 kids (pre.length : Int) = t := by simp [rd_T25, e]
    have hp := sizeL_app pre [t]
    have e1 : sizeL [t] = sizeT t := by rw [sizeL, sizeL]; omega
    have e2 : manyL [t] = manyT t := by rw [manyL, manyL]; omega
    have e3 : deepL [t] = deepT t := by rw [deepL, deepL]; omega
    rw [e1, e2, e3] at hp
    rw [hp.1, hp.2.1, hp.2.2.1] at hk2
    refine ⟨(k1 + k2) + 1, ?_⟩
    have h1 := f_up hk1 k2
    have h2 := l_up hk2 k1
    rw [Nat.add_comm k2 k1] at h2
    rw [tlv_Size.l0, if_pos hlen, if_pos (by omega), if_pos hlen, hrd, h1]
    show tlv_Size.l0 (k1 + k2) (wrap64 (sizeL pre + sizeT t)) (wrap64 (1 + manyL pre + manyT t)) (mx (deepL pre) (deepT t)) kids (kids.length : Int) (wrap64 ((pre.length : Int) + 1)) = _
    rw [wrap64_in _ (by omega), wrap64_in _ (by omega), wrap64_in _ (by omega)]
    have hmx : mx (deepL pre) (deepT t) = max (deepL pre) (deepT t) := by unfold mx; split <;> omega
    rw [hmx]
    rw [show ((pre ++ [t]).length : Int) = (pre.length : Int) + 1 by simp, show 1 + (manyL pre + manyT t) = 1 + manyL pre + manyT t by omega] at h2
    exact h2
theorem kids_le : ∀ l : List T, (l.length : Int) ≤ sizeL l
  | [] => by decide
  | t :: l => by have := kids_le l; have := many_le t; rw [sizeL, List.length_cons]; omega
theorem size_step (n : T) (ih : ∀ t, t ∈ n.f2 → SizeC t) : SizeC n := by
  obtain ⟨tag, body, kids⟩ := n
  intro hr hs
  dsimp only at ih ⊢
  rw [rightT, Bool.and_eq_true, Bool.and_eq_true] at hr
  obtain ⟨⟨h1, h2⟩, h3⟩ := hr
  have ht := isTag_range h1
  have hh := headLen_pos (sizeL kids)
  have hb := headLen_pos body.length
  rw [sizeT] at hs
  by_cases hH : holdsB tag = true
  · rw [if_pos hH] at hs
    have hm := kids_le kids
    obtain ⟨k, hk⟩ := size_loop kids (by omega) (by omega) kids [] rfl h3 ih
    refine ⟨k + 1, ?_⟩
    rw [tlv_Size.f, holds_f tag ht.1 ht.2, hH]
    rw [Option.bind_some, if_pos rfl, sizeT, manyT, deepT, if_pos hH, if_pos hH, if_pos hH]
    exact hk
  · rw [if_neg hH] at hs
    refine ⟨1, ?_⟩
    rw [tlv_Size.f, holds_f tag ht.1 ht.2]
    rw [Option.bind_some, if_neg hH, head_f, sizeT, manyT, deepT, if_neg hH, if_neg hH, if_neg hH]
    show some (wrap64 ((body.length : Int) + ((head 0 (body.length : Int)).length : Int)), 1, 1) = _
    rw [head_length, wrap64_in _ (by omega)]
theorem size_le : ∀ (m : Nat) (n : T), SizeOf.sizeOf n ≤ m → SizeC n
  | 0, ⟨a, b, c⟩, h => by simp at h
  | m + 1, ⟨a, b, c⟩, h => size_step _ fun t ht => size_le m t (by
    have := List.sizeOf_lt_of_mem ht
    simp at h this
    omega)
theorem size_any (n : T) : SizeC n := size_le _ n (Nat.le_refl _)

/-- tlv.Size at a node that is right. -/
theorem size_walk (n : T) (hr : rightT n = true) (hs : sizeT n ≤ 100000000) (A1 : Option Addr) (c1 : Nat) (A2 : Option Addr) (c2 : Nat) (w : World) (hn : NodeAt w n A1 c1 A2 c2) :
    Calls Try.prog 28 #[.agg #[.int .i64 n.f0, .slice A1 n.f1.length c1, .slice A2 n.f2.length c2]] w fun e w' => e = .returned (.tuple #[.int .i64 (sizeT n), .int .i64 (manyT n), .int .i64 (deepT n)]) ∧ Below w.heap.size w w' := by
  obtain ⟨k, hk⟩ := size_any n hr hs
  exact tlv_Size.calls k _ _ _ _ _ _ _ _ _ _ w hn.1 hn.2.1 hn.2.2.1 hn.2.2.2 hk

end Go.Proofs.Ytmbgjhkemlliaaa.Tlv

/- tlv.put, walked. -/
set_option linter.unusedVariables false
set_option linter.unusedSimpArgs false
namespace Go.Proofs.Ytmbgjhkemlliaaa.Tlv
open Go.RowKit Go.Proofs.YtmbgjhkemlliaaaW.PrintWords Go.Proofs.YtmbgjhkemlliaaaW.PrintLast Go.Proofs.YtmbgjhkemlliaaaW.PrintMore Go.Proofs.Ytmbgjhkemlliaaa.PTlv

/-- A row of bytes of one's own, above base. -/
abbrev Own (w : World) (base : Nat) (A : Option Addr) (c : Nat) (l : List Int) : Prop := (Kd.int .u8).R 5 w base (fun k => base ≤ k) (.slice A l.length c) l
theorem C_of_reads {W : World} {A : Option Addr} {l : List Int} {n : Nat} (h : ReadsInt W .u8 A l.length l) (hn : l.length = n) : ReadsRow ((Kd.int .u8).K W) (Kd.int .u8).sz W A n l := by
  subst hn
  exact Kd.C_of_reads (d := (0 : Int)) h
theorem reads_of_C {W : World} {A : Option Addr} {l : List Int} (h : (Kd.int .u8).C W A l.length l) : ReadsInt W .u8 A l.length l := Kd.reads_of_C (d := (0 : Int)) h
theorem add_in {ops : Array Oper} {o : Oper} {a : Act} {Q : Exit → Act → World → Prop} {rest : List Oper} (W : World) (base : Nat) (A : Option Addr) (co : Nat) (lo : List Int) (Ax : Option Addr) (cx : Nat) (ys : List Int) (m : Nat) (s x : Operand) (hgd : o.guard = none)
    (ho : o.op = .call { callee := .builtin .append, args := #[s, x], argTypes := #[22, 22] }) (hs : a.eval s = .slice A lo.length co) (hx : a.eval x = .slice Ax m cx)
    (HO : Own W base A co lo) (HR : ReadsInt W .u8 Ax ys.length ys) (hm : ys.length = m) (hb : base ≤ W.heap.size) (hl : lo.length + m ≤ 1000000000)
    (h : ∀ w1 A1 c1, Own w1 base A1 c1 (lo ++ ys) → Below base W w1 → W.grownBy w1 (Value.slice A lo.length co).ownBlock → wpList Try.prog ops Q rest (a.put o.dst (.slice A1 (lo ++ ys).length c1)) w1) :
    wpList Try.prog ops Q (o :: rest) a W := by
  refine Kd.R_append_rows (Kd.int .u8) (w0 := W) base hgd s x 22 5 (.int .u8 0) 1 ho Try.underlying22 infoByte rfl (by decide) (by omega) _ lo ys Ax m cx (fun k => base ≤ k) (fun _ => False) hs hx HO (C_of_reads HR hm) (fun x cs h => h) (fun _ h => h.elim) (fun k h => Nat.le_trans hb h) (Below.refl _ _) hb (by omega) ?_
  intro v1 w1 ho1 hb1 hg1 _
  obtain ⟨Av, cv, rfl⟩ := Kd.R_slice ho1
  exact h w1 Av cv ho1 hb1 hg1
theorem add_step {ops : Array Oper} {o : Oper} {a : Act} {Q : Exit → Act → World → Prop} {Kc : Act → World → Prop} (W : World) (base : Nat) (A : Option Addr) (co : Nat) (lo : List Int) (Ax : Option Addr) (cx : Nat) (ys : List Int) (m : Nat) (s x : Operand) (hw : Region.wanted o (yielded ops a.tmps) = true)
    (ho : o.op = .call { callee := .builtin .append, args := #[s, x], argTypes := #[22, 22] }) (hs : a.eval s = .slice A lo.length co) (hx : a.eval x = .slice Ax m cx)
    (HO : Own W base A co lo) (HR : ReadsInt W .u8 Ax ys.length ys) (hm : ys.length = m) (hb : base ≤ W.heap.size) (hl : lo.length + m ≤ 1000000000)
    (h : ∀ w1 A1 c1, Own w1 base A1 c1 (lo ++ ys) → Below base W w1 → W.grownBy w1 (Value.slice A lo.length co).ownBlock → Kc (a.put o.dst (.slice A1 (lo ++ ys).length c1)) w1) :
    if Region.wanted o (yielded ops a.tmps) = true then Oper.wp Try.prog o a W Kc Q else Kc (a.put o.dst undef) W := by
  refine Kd.R_append_rows_step (Kd.int .u8) (w0 := W) base hw s x 22 5 (.int .u8 0) 1 ho Try.underlying22 infoByte rfl (by decide) (by omega) _ lo ys Ax m cx (fun k => base ≤ k) (fun _ => False) hs hx HO (C_of_reads HR hm) (fun x cs h => h) (fun _ h => h.elim) (fun k h => Nat.le_trans hb h) (Below.refl _ _) hb (by omega) ?_
  intro v1 w1 ho1 hb1 hg1 _
  obtain ⟨Av, cv, rfl⟩ := Kd.R_slice ho1
  exact h w1 Av cv ho1 hb1 hg1

def PutC (n : T) : Prop := ∀ (Ao : Option Addr) (co : Nat) (lo : List Int) (A1 : Option Addr) (c1 : Nat) (A2 : Option Addr) (c2 : Nat) (w0 w : World) (base : Nat), NodeAt w0 n A1 c1 A2 c2 → Below w0.heap.size w0 w → w0.heap.size ≤ base → base ≤ w.heap.size →
  Own w base Ao co lo → rightT n = true → (lo.length : Int) + sizeT n ≤ 1000000 →
  Calls Try.prog 29 #[.slice Ao lo.length co, .agg #[.int .i64 n.f0, .slice A1 n.f1.length c1, .slice A2 n.f2.length c2]] w fun e w' => ∃ A' c', e = .returned (.slice A' (lo ++ encT n).length c') ∧ Own w' base A' c' (lo ++ encT n) ∧ Below base w w'

theorem take_parts {kids : List T} {k : Nat} (h : k < kids.length) (hr : rightL kids = true) : sizeL (kids.take (k + 1)) = sizeL (kids.take k) + sizeT (kids[k]'h) ∧ encL (kids.take (k + 1)) = encL (kids.take k) ++ encT (kids[k]'h) ∧ rightT (kids[k]'h) = true ∧ sizeL (kids.take (k + 1)) ≤ sizeL kids ∧ 0 ≤ sizeL (kids.take k) := by
  have e : kids.take (k + 1) = kids.take k ++ [kids[k]'h] := by rw [List.take_add_one, List.getElem?_eq_getElem h]; rfl
  have h1 := sizeL_app (kids.take k) [kids[k]'h]
  have h2 := sizeL_app (kids.take (k + 1)) (kids.drop (k + 1))
  rw [List.take_append_drop] at h2
  have h3 := manyL_le (kids.drop (k + 1))
  have h4 := manyL_le (kids.take k)
  refine ⟨?_, ?_, (rightL_all kids).1 hr _ (List.getElem_mem h), by omega, by omega⟩
  · rw [e, h1.1, sizeL, sizeL]; omega
  · rw [e, h1.2.2.2.1, encL, encL, List.append_nil]

set_option maxHeartbeats 4000000 in
set_option maxRecDepth 100000 in
theorem put_leaf (tag : Int) (body : List Int) (kids : List T) (hH : holdsB tag = false) : PutC ⟨tag, body, kids⟩ := by
  intro Ao co lo A1 c1 A2 c2 w0 w base hn hB0 hb0 hbw hO hr hsz
  obtain ⟨hr1, hc1, hr2, hc2⟩ := hn
  dsimp only at hr1 hc1 hr2 hc2 ⊢
  have hnot : ∀ (x : Bool) (w : World), (Op.unary .not (.bool x)).run Try.prog w = .ok (.bool (!x)) w := fun _ _ => rfl
  have hbox : (w.alloc (.cells #[.int .i64 tag, .slice A1 body.length c1, .slice A2 kids.length c2] 25)).heap[w.heap.size]? = some (.cells #[.int .i64 tag, .slice A1 body.length c1, .slice A2 kids.length c2] 25 (0, 0)) := heap_alloc_new w _
  rw [rightT, Bool.and_eq_true, Bool.and_eq_true] at hr
  obtain ⟨t0, t1⟩ := isTag_range hr.1.1
  have HH := Lib.hid (show tlv_holds.f tag = some false by rw [holds_f tag t0 t1, hH])
  have hB1 : Below w.heap.size w (w.alloc (.cells #[.int .i64 tag, .slice A1 body.length c1, .slice A2 kids.length c2] 25)) := (Below.refl _ _).alloc (Nat.le_refl _) _
  have henc : encT ⟨tag, body, kids⟩ = head tag body.length ++ body := by rw [encT, if_neg (by rw [hH]; simp)]
  rw [sizeT, if_neg (by rw [hH]; simp)] at hsz
  rw [henc]
  have hhl := headLen_pos body.length
  have hhe := head_length tag body.length
  have HEAD : ∀ (w2 w3 : World) (A : Option Addr) (c : Nat), Below w.heap.size w w2 → w2.heap[w.heap.size]? = some (.cells #[.int .i64 tag, .slice A1 body.length c1, .slice A2 kids.length c2] 25 (0, 0)) →
      (Kd.int .u8).R 5 w3 w2.heap.size (fun _ => True) (.slice A (head tag body.length).length c) (head tag body.length) → Below w2.heap.size w2 w3 →
      (w3.cell? ⟨w.heap.size, 0, none⟩ = some (.int .i64 tag) ∧ w3.cell? ⟨w.heap.size, 1, none⟩ = some (.slice A1 body.length c1)) ∧ Own w3 base Ao co lo ∧ ReadsInt w3 .u8 A (head tag body.length).length (head tag body.length) ∧ base ≤ w3.heap.size ∧ lo.length + (head tag body.length).length ≤ 1000000000 ∧
      (∀ (w4 : World) (A4 : Option Addr) (c4 : Nat), Own w4 base A4 c4 (lo ++ head tag body.length) → Below base w3 w4 → w3.grownBy w4 (Value.slice Ao lo.length co).ownBlock →
        (w4.cell? ⟨w.heap.size, 0, none⟩ = some (.int .i64 tag) ∧ w4.cell? ⟨w.heap.size, 1, none⟩ = some (.slice A1 body.length c1)) ∧ Own w4 base A4 c4 (lo ++ head tag body.length) ∧ ReadsInt w4 .u8 A1 body.length body ∧ base ≤ w4.heap.size ∧ (lo ++ head tag body.length).length + body.length ≤ 1000000000 ∧
        (∀ (w5 : World) (A5 : Option Addr) (c5 : Nat), Own w5 base A5 c5 ((lo ++ head tag body.length) ++ body) → Below base w4 w5 → w4.grownBy w5 (Value.slice A4 (lo ++ head tag body.length).length c4).ownBlock →
          (w5.cell? ⟨w.heap.size, 0, none⟩ = some (.int .i64 tag) ∧ w5.cell? ⟨w.heap.size, 1, none⟩ = some (.slice A1 body.length c1)) ∧ Own w5 base A5 c5 (lo ++ (head tag body.length ++ body)) ∧ Below base w w5)) := by
    intro w2 w3 A c hB2 h2 hoh hB3
    have hs2 : w.heap.size < w2.heap.size := (Array.getElem?_eq_some_iff.1 h2).1
    have h3 : w3.heap[w.heap.size]? = some (.cells #[.int .i64 tag, .slice A1 body.length c1, .slice A2 kids.length c2] 25 (0, 0)) := (hB3.block _ hs2).trans h2
    have hOw3 : Own w3 base Ao co lo := Kd.R_below (Kd.R_below hO hB2) hB3
    have hB03 : Below w0.heap.size w0 w3 := hB0.trans ((hB2.trans (hB3.mono (by omega))).mono (by omega))
    have hs3 := hB3.size
    have hRh : ReadsInt w3 .u8 A (head tag body.length).length (head tag body.length) := by
      obtain ⟨A', c', e, _, hc⟩ := Kd.R_reads hoh
      injection e with e1 e2 e3
      subst e1
      exact reads_of_C hc
    refine ⟨⟨(Lib.cell_of_heap h3 0), (Lib.cell_of_heap h3 1)⟩, hOw3, hRh, by omega, by omega, ?_⟩
    intro w4 A4 c4 hO4 hB4 hG4
    have h4 : w4.heap[w.heap.size]? = some (.cells #[.int .i64 tag, .slice A1 body.length c1, .slice A2 kids.length c2] 25 (0, 0)) := (hG4.block _ (by omega) (Kd.R_ne hOw3 h3 (by decide))).trans h3
    have hB04 : Below w0.heap.size w0 w4 := hB03.trans (hB4.mono hb0)
    have hs4 := hB4.size
    refine ⟨⟨(Lib.cell_of_heap h4 0), (Lib.cell_of_heap h4 1)⟩, hO4, reads_of_C (Kd.C_below hr1 hB04), by omega, by rw [List.length_append]; omega, ?_⟩
    intro w5 A5 c5 hO5 hB5 hG5
    have h5 : w5.heap[w.heap.size]? = some (.cells #[.int .i64 tag, .slice A1 body.length c1, .slice A2 kids.length c2] 25 (0, 0)) := (hG5.block _ (by omega) (Kd.R_ne hO4 h4 (by decide))).trans h4
    refine ⟨⟨(Lib.cell_of_heap h5 0), (Lib.cell_of_heap h5 1)⟩, ?_, ?_⟩
    · rw [← List.append_assoc]; exact hO5
    · exact (((hB2.mono hbw).trans (hB3.mono (by omega))).trans hB4).trans hB5
  have HHE := Lib.hid HEAD
  clear HEAD hr1 hr2 hc1 hc2 hr t0 t1 hsz hhl hhe henc hB0 hO hb0 hbw hH
  go_enter Try.func29, Try.ntmps29
  go_wp2_with (fail)
  refine (tlv_holds.calls tag _ _ HH.out).mono ?_
  rintro e w2 ⟨rfl, nd, rfl⟩
  have hB2 := pw_below_drewN hB1 nd
  have hb2 : ((w.alloc (.cells #[.int .i64 tag, .slice A1 body.length c1, .slice A2 kids.length c2] 25)).drewN nd).heap[w.heap.size]? = some (.cells #[.int .i64 tag, .slice A1 body.length c1, .slice A2 kids.length c2] 25 (0, 0)) := hbox
  generalize (w.alloc (.cells #[.int .i64 tag, .slice A1 body.length c1, .slice A2 kids.length c2] 25)).drewN nd = w2 at hB2 hb2 ⊢
  have hb2' : w2.drew.heap[w.heap.size]? = some (.cells #[.int .i64 tag, .slice A1 body.length c1, .slice A2 kids.length c2] 25 (0, 0)) := hb2
  have hB2' : Below w.heap.size w w2.drew := hB2.drew
  have HHEAD := Lib.hid (fun w3 A c hoh hB => HHE.out w2.drew w3 A c hB2' hb2' hoh hB)
  have a0 : w2.drew.cell? ⟨w.heap.size, 0, none⟩ = some (.int .i64 tag) := Lib.cell_of_heap hb2' 0
  have a1 : w2.drew.cell? ⟨w.heap.size, 1, none⟩ = some (.slice A1 body.length c1) := Lib.cell_of_heap hb2' 1
  clear hB1 hbox hb2 hb2' hB2 hB2'
  go_wp2
  refine start_ (n := 12) (S := fun w' => w'.cell? ⟨w.heap.size, 0, none⟩ = some (.int .i64 tag) ∧ w'.cell? ⟨w.heap.size, 1, none⟩ = some (.slice A1 body.length c1)) (ds := []) #[false, false, false, false, false, false, false, false, false, false, false, false] (by kernel_rfl) rfl rfl ⟨a0, a1⟩ (fun hHeld => ?_)
  refine pure_ (i := 0) (N := some 17) (v := ?_) (a' := ?_) #[true, false, false, false, false, false, false, false, false, false, false, false] rfl rfl (by kernel_rfl) (fun _ _ _ h => h) (Or.inl ⟨by rfl, ?_⟩) ?_ ?_
  rotate_left
  · intro w'
    go_simp
    with_reducible rfl
  rotate_left
  · simp only [Act.put, List.setIfInBounds_toArray, List.set_cons_zero, List.set_cons_succ, i64_w, i32_w]
    rfl
  refine pure_ (i := 1) (N := some 18) (v := ?_) (a' := ?_) #[true, true, false, false, false, false, false, false, false, false, false, false] rfl rfl (by kernel_rfl) (fun _ _ _ h => h) (Or.inl ⟨by rfl, ?_⟩) ?_ ?_
  rotate_left
  · intro w'
    go_simp
    with_reducible rfl
  rotate_left
  · simp only [Act.put, List.setIfInBounds_toArray, List.set_cons_zero, List.set_cons_succ, i64_w, i32_w]
    rfl
  refine pure_ (i := 3) (N := some 20) (v := ?_) (a' := ?_) #[true, true, false, true, false, false, false, false, false, false, false, false] rfl rfl (by kernel_rfl) (fun _ _ _ h => h) (Or.inl ⟨by rfl, ?_⟩) ?_ ?_
  rotate_left
  · intro w'
    go_simp
    with_reducible rfl
  rotate_left
  · simp only [Act.put, List.setIfInBounds_toArray, List.set_cons_zero, List.set_cons_succ, i64_w, i32_w]
    rfl
  refine pure_ (i := 8) (N := some 25) (v := ?_) (a' := ?_) #[true, true, false, true, false, false, false, false, true, false, false, false] rfl rfl (by kernel_rfl) (fun _ _ _ h => h) (Or.inl ⟨by rfl, ?_⟩) ?_ ?_
  rotate_left
  · intro w'
    go_simp
    with_reducible rfl
  rotate_left
  · simp only [Act.put, List.setIfInBounds_toArray, List.set_cons_zero, List.set_cons_succ, i64_w, i32_w]
    rfl
  refine take_ (i := 2) (N := some 19) (v := ?_) (a' := ?_) #[true, true, true, true, false, false, false, false, true, false, false, false] rfl rfl (by kernel_rfl) (fun _ _ _ h => h) (Or.inl ⟨by rfl, ?_⟩) hHeld ?_ ?_
  rotate_left
  · rintro w' ⟨s0, s1⟩
    go_simp
    with_reducible rfl
  rotate_left
  · simp only [Act.put, List.setIfInBounds_toArray, List.set_cons_zero, List.set_cons_succ, i64_w, i32_w]
    rfl
  refine take_ (i := 4) (N := some 21) (v := ?_) (a' := ?_) #[true, true, true, true, true, false, false, false, true, false, false, false] rfl rfl (by kernel_rfl) (fun _ _ _ h => h) (Or.inl ⟨by rfl, ?_⟩) hHeld ?_ ?_
  rotate_left
  · rintro w' ⟨s0, s1⟩
    go_simp
    with_reducible rfl
  rotate_left
  · simp only [Act.put, List.setIfInBounds_toArray, List.set_cons_zero, List.set_cons_succ, i64_w, i32_w]
    rfl
  refine pure_ (i := 5) (N := some 22) (v := ?_) (a' := ?_) #[true, true, true, true, true, true, false, false, true, false, false, false] rfl rfl (by kernel_rfl) (fun _ _ _ h => h) (Or.inl ⟨by rfl, ?_⟩) ?_ ?_
  rotate_left
  · intro w'
    go_simp
    with_reducible rfl
  rotate_left
  · simp only [Act.put, List.setIfInBounds_toArray, List.set_cons_zero, List.set_cons_succ, i64_w, i32_w]
    rfl
  refine take_ (i := 9) (N := some 26) (v := ?_) (a' := ?_) #[true, true, true, true, true, true, false, false, true, true, false, false] rfl rfl (by kernel_rfl) (fun _ _ _ h => h) (Or.inl ⟨by rfl, ?_⟩) hHeld ?_ ?_
  rotate_left
  · rintro w' ⟨s0, s1⟩
    go_simp
    with_reducible rfl
  rotate_left
  · simp only [Act.put, List.setIfInBounds_toArray, List.set_cons_zero, List.set_cons_succ, i64_w, i32_w]
    rfl
  refine one_ (i := 6) (N := some 23) #[true, true, true, true, true, true, true, false, true, true, false, false] rfl rfl (by kernel_rfl) (by decide) (fun K hK => ?_)
  refine goes_ Try.func47 (by kernel_rfl) rfl #[.int .i64 tag, .int .i64 (body.length : Int)] (by rfl) rfl rfl (by (try simp only [List.map_toArray, List.map_cons, List.map_nil]); first | done | rfl) ?_
  refine (tlv_head.calls tag (body.length : Int) _ _ (head_f _ _)).mono ?_
  rintro e w3 ⟨v, rfl, ho3, hb3⟩
  refine ⟨_, rfl, ?_⟩
  obtain ⟨Ah, ch, rfl⟩ := Kd.R_slice ho3
  have HF := Lib.hid (HHEAD.out w3 Ah ch ho3 hb3)
  clear ho3 hb3
  refine hK.out _ _ HF.out.1 (fun hHeld => ?_)
  clear hK K
  refine norm_ (a' := ?_) ?_ ?_
  rotate_left
  · show Act.put _ (some 23) _ = _
    simp only [Act.put, List.setIfInBounds_toArray, List.set_cons_zero, List.set_cons_succ, i64_w, i32_w]
    rfl
  refine one_ (i := 7) (N := some 24) #[true, true, true, true, true, true, true, true, true, true, false, false] rfl rfl (by kernel_rfl) (by decide) (fun K hK => ?_)
  refine add_step w3 base Ao co lo Ah ch (head tag (body.length : Int)) (head tag (body.length : Int)).length (.tmp 17) (.tmp 23) (by rfl) rfl (by rfl) (by rfl) HF.out.2.1 HF.out.2.2.1 rfl HF.out.2.2.2.1 HF.out.2.2.2.2.1 ?_
  intro w4 A4 c4 ho4 hb4 hg4
  have HG := Lib.hid (HF.out.2.2.2.2.2 w4 A4 c4 ho4 hb4 hg4)
  clear ho4 hb4 hg4
  refine hK.out _ _ HG.out.1 (fun hHeld => ?_)
  clear hK K
  refine norm_ (a' := ?_) ?_ ?_
  rotate_left
  · show Act.put _ (some 24) _ = _
    simp only [Act.put, List.setIfInBounds_toArray, List.set_cons_zero, List.set_cons_succ, i64_w, i32_w]
    rfl
  refine one_ (i := 10) (N := some 27) #[true, true, true, true, true, true, true, true, true, true, true, false] rfl rfl (by kernel_rfl) (by decide) (fun K hK => ?_)
  refine add_step w4 base A4 c4 (lo ++ head tag (body.length : Int)) A1 c1 body body.length (.tmp 24) (.tmp 26) (by rfl) rfl (by rfl) (by rfl) HG.out.2.1 HG.out.2.2.1 rfl HG.out.2.2.2.1 HG.out.2.2.2.2.1 ?_
  intro w5 A5 c5 ho5 hb5 hg5
  have HP := Lib.hid (HG.out.2.2.2.2.2 w5 A5 c5 ho5 hb5 hg5)
  clear ho5 hb5 hg5
  refine hK.out _ _ HP.out.1 (fun hHeld => ?_)
  clear hK K
  refine norm_ (a' := ?_) ?_ ?_
  rotate_left
  · show Act.put _ (some 27) _ = _
    simp only [Act.put, List.setIfInBounds_toArray, List.set_cons_zero, List.set_cons_succ, i64_w, i32_w]
    rfl
  refine pure_ (i := 11) (N := some 4) (v := ?_) (a' := ?_) #[true, true, true, true, true, true, true, true, true, true, true, true] rfl rfl (by kernel_rfl) (fun _ _ _ h => h) (Or.inl ⟨by rfl, ?_⟩) ?_ ?_
  rotate_left
  · intro w'
    go_simp
    with_reducible rfl
  rotate_left
  · simp only [Act.put, List.setIfInBounds_toArray, List.set_cons_zero, List.set_cons_succ, i64_w, i32_w]
    rfl
  refine done_ (by kernel_rfl) ?_
  go_wp2
  go_ret
  exact ⟨_, _, (by show Ending.returned (.slice A5 (lo.length + ((head tag (body.length : Int)).length + body.length)) c5) = _; rw [List.length_append, List.length_append]), HP.out.2.1, HP.out.2.2⟩

theorem heap_lt {W : World} {g : Nat} {o : Obj} (h : W.heap[g]? = some o) : g < W.heap.size := (Array.getElem?_eq_some_iff.1 h).1
/-- What holds behind the head, and behind the head's append. -/
theorem put_next {n : T} {tag : Int} {body : List Int} {kids : List T} (hnode : n = ⟨tag, body, kids⟩) {Ao : Option Addr} {co : Nat} {lo : List Int} {A1 A2 : Option Addr} {c1 c2 base : Nat} {w0 w w2 wr w3 : World} {A : Option Addr} {c : Nat}
    (num : w0.heap.size ≤ base ∧ base ≤ w.heap.size ∧ (lo.length : Int) + (sizeL kids + headLen (sizeL kids)) ≤ 1000000 ∧ (2 ≤ headLen (sizeL kids) ∧ headLen (sizeL kids) ≤ 4) ∧ ((head tag (sizeL kids)).length : Int) = headLen (sizeL kids) ∧ sizeL kids = ((encL kids).length : Int) ∧ (kids.length : Int) ≤ sizeL kids)
    (hB0 : Below w0.heap.size w0 w) (hO : Own w base Ao co lo) (hB2 : Below w.heap.size w w2) (h2 : w2.heap[w.heap.size]? = some (.cells #[.int .i64 tag, .slice A1 body.length c1, .slice A2 kids.length c2] 25 (0, 0))) (hBr : Below w2.heap.size w2 wr)
    (hr : wr.heap[w.heap.size]? = some (.cells #[.int .i64 tag, .slice A1 body.length c1, .slice A2 kids.length c2] 25 (0, 0))) (hoh : (Kd.int .u8).R 5 w3 wr.heap.size (fun _ => True) (.slice A (head tag (sizeL kids)).length c) (head tag (sizeL kids))) (hB3 : Below wr.heap.size wr w3) :
    w3.cell? ⟨w.heap.size, 2, none⟩ = some (.slice A2 kids.length c2) ∧ Own w3 base Ao co lo ∧ ReadsInt w3 .u8 A (head tag (sizeL kids)).length (head tag (sizeL kids)) ∧ base ≤ w3.heap.size ∧ lo.length + (head tag (sizeL kids)).length ≤ 1000000000 ∧
      (∀ (w4 : World) (A4 : Option Addr) (c4 : Nat), Own w4 base A4 c4 (lo ++ head tag (sizeL kids)) → Below base w3 w4 → w3.grownBy w4 (Value.slice Ao lo.length co).ownBlock →
        w4.cell? ⟨w.heap.size, 2, none⟩ = some (.slice A2 kids.length c2) ∧ Own w4 base A4 c4 (lo ++ head tag (sizeL kids)) ∧ Below base w w4) := by
  obtain ⟨hb0, hbw, hsz, hhl, hhe, hke, hkl⟩ := num
  have hs2 := heap_lt h2
  have hsr := heap_lt hr
  have h3 : w3.heap[w.heap.size]? = some (.cells #[.int .i64 tag, .slice A1 body.length c1, .slice A2 kids.length c2] 25 (0, 0)) := (hB3.block _ hsr).trans hr
  have hOw3 : Own w3 base Ao co lo := Kd.R_below (Kd.R_below (Kd.R_below hO hB2) hBr) hB3
  have hs3 := hB3.size
  have hs2r := hBr.size
  have hRh : ReadsInt w3 .u8 A (head tag (sizeL kids)).length (head tag (sizeL kids)) := by
    obtain ⟨A', c', e, _, hc⟩ := Kd.R_reads hoh
    injection e with e1 e2 e3
    subst e1
    exact reads_of_C hc
  refine ⟨Lib.cell_of_heap h3 2, hOw3, hRh, by omega, by omega, ?_⟩
  intro w4 A4 c4 hO4 hB4 hG4
  have h4 : w4.heap[w.heap.size]? = some (.cells #[.int .i64 tag, .slice A1 body.length c1, .slice A2 kids.length c2] 25 (0, 0)) := (hG4.block _ (by omega) (Kd.R_ne hOw3 h3 (by decide))).trans h3
  exact ⟨Lib.cell_of_heap h4 2, hO4, (((hB2.mono hbw).trans (hBr.mono (by omega))).trans (hB3.mono (by omega))).trans hB4⟩

set_option maxHeartbeats 4000000 in
set_option maxRecDepth 100000 in
theorem put_step (tag : Int) (body : List Int) (kids : List T) (hH : holdsB tag = true) (ih : ∀ t, t ∈ kids → PutC t) : PutC ⟨tag, body, kids⟩ := by
  intro Ao co lo A1 c1 A2 c2 w0 w base hn hB0 hb0 hbw hO hr hsz
  obtain ⟨hr1, hc1, hr2, hc2⟩ := hn
  dsimp only at hr1 hc1 hr2 hc2 ⊢
  have hnot : ∀ (x : Bool) (w : World), (Op.unary .not (.bool x)).run Try.prog w = .ok (.bool (!x)) w := fun _ _ => rfl
  have hmax := Kd.C_max hr2
  have hbox : (w.alloc (.cells #[.int .i64 tag, .slice A1 body.length c1, .slice A2 kids.length c2] 25)).heap[w.heap.size]? = some (.cells #[.int .i64 tag, .slice A1 body.length c1, .slice A2 kids.length c2] 25 (0, 0)) := heap_alloc_new w _
  rw [rightT, Bool.and_eq_true, Bool.and_eq_true] at hr
  obtain ⟨t0, t1⟩ := isTag_range hr.1.1
  have hrk := hr.2
  have HH := Lib.hid (show tlv_holds.f tag = some true by rw [holds_f tag t0 t1, hH])
  have hB1 : Below w.heap.size w (w.alloc (.cells #[.int .i64 tag, .slice A1 body.length c1, .slice A2 kids.length c2] 25)) := (Below.refl _ _).alloc (Nat.le_refl _) _
  have henc : encT ⟨tag, body, kids⟩ = head tag (sizeL kids) ++ encL kids := by rw [encT, if_pos hH]
  rw [sizeT, if_pos hH] at hsz
  have hhl := headLen_pos (sizeL kids)
  have hhe := head_length tag (sizeL kids)
  have hke := size_encL kids
  have hkl := kids_le kids
  clear hr1 hc1 hc2 hr t0 t1 hH
  have HR := Lib.hid hr2
  have HRK := Lib.hid hrk
  have IH := Lib.hid ih
  have HO := Lib.hid hO
  have HENC := Lib.hid henc
  have HB0 := Lib.hid hB0
  have NUM := Lib.hid (And.intro hb0 (And.intro hbw (And.intro hsz (And.intro hhl (And.intro hhe (And.intro hke hkl))))))
  clear hr2 hrk ih hO henc hB0 hb0 hbw hsz hhl hhe hke hkl
  go_enter Try.func29, Try.ntmps29
  go_wp2_with (fail)
  refine (tlv_holds.calls tag _ _ HH.out).mono ?_
  rintro e w2 ⟨rfl, nd, rfl⟩
  have hB2 := pw_below_drewN hB1 nd
  have hb2 : ((w.alloc (.cells #[.int .i64 tag, .slice A1 body.length c1, .slice A2 kids.length c2] 25)).drewN nd).heap[w.heap.size]? = some (.cells #[.int .i64 tag, .slice A1 body.length c1, .slice A2 kids.length c2] 25 (0, 0)) := hbox
  generalize (w.alloc (.cells #[.int .i64 tag, .slice A1 body.length c1, .slice A2 kids.length c2] 25)).drewN nd = w2 at hB2 hb2 ⊢
  clear hbox hB1
  have a0 := Lib.cell_of_heap hb2 0
  have a1 := Lib.cell_of_heap hb2 1
  have a2 := Lib.cell_of_heap hb2 2
  have HB2 := Lib.hid hB2
  have H2 := Lib.hid hb2
  clear hB2 hb2
  go_wp2
  go_loopw [5, 31] (fun sv iv wr => ∃ k : Nat, k ≤ kids.length ∧ iv = .int .i64 k ∧ sv = .int .i64 (sizeL (kids.take k)) ∧ Hid (Below w2.heap.size w2 wr)) (fun _ iv _ => kids.length - (intOf iv).toNat)
  case atStart => exact ⟨0, by omega, rfl, by simp [sizeL], Below.refl _ _⟩
  case round =>
    obtain ⟨k, hk, rfl, rfl, hb⟩ := hrel
    by_cases hlt : k < kids.length
    · obtain ⟨ad, D1, d1, D2, d2, eA, x0, x1, x2, l1, i1, l2, i2⟩ := at_T25 HR.out (k : Int) (by omega) (by omega)
      rw [rd_mem hlt] at x0 x1 x2 l1 i1 l2 i2
      simp only [Int.toNat_natCast] at x0 x1 x2
      cases eA
      obtain ⟨p1, p2, p3, p4, p5⟩ := take_parts hlt HRK.out
      have hsz := NUM.out.2.2.1
      have hhl := NUM.out.2.2.2.1
      have hB02 : Below w0.heap.size w0 wr := HB0.out.trans ((HB2.out.mono (by have := HB0.out.size; omega)).trans (hb.out.mono (by have := HB0.out.size; have := HB2.out.size; omega)))
      replace x0 := (hB02.cell (World.block_lt_of_cell? w0 _ x0)).trans x0
      replace x1 := (hB02.cell (World.block_lt_of_cell? w0 _ x1)).trans x1
      replace x2 := (hB02.cell (World.block_lt_of_cell? w0 _ x2)).trans x2
      have hND : NodeAt w0 (kids[k]'hlt) D1 d1 D2 d2 := ⟨i1, l1, i2, l2⟩
      have hsize := size_walk (kids[k]'hlt) p3 (by omega) D1 d1 D2 d2 (wr.alloc (.cells #[.int .i64 (kids[k]'hlt).f0, .slice D1 (kids[k]'hlt).f1.length d1, .slice D2 (kids[k]'hlt).f2.length d2] 25)) (hND.below (hB02.alloc (hB02.size) _))
      have HS := Lib.hid hsize
      have hb' := hb.out.size
      have HBN := Lib.hid (show Below w2.heap.size w2 (wr.alloc (.cells #[.int .i64 (kids[k]'hlt).f0, .slice D1 (kids[k]'hlt).f1.length d1, .slice D2 (kids[k]'hlt).f2.length d2] 25)) from hb.out.alloc hb' _)
      have hk0 : (0 ≤ (k : Int)) = True := eq_true (by omega)
      have hk1 : ((k : Int) < (kids.length : Int)) = True := eq_true (by omega)
      have HSUM := Lib.hid (show wrap64 (sizeL (kids.take k) + sizeT (kids[k]'hlt)) = sizeL (kids.take (k + 1)) by rw [p1, wrap64_in _ (by have := many_le (kids[k]'hlt); omega)])
      have HLT := Lib.hid hlt
      have hwk : wrap64 ((k : Int) + 1) = ((k + 1 : Nat) : Int) := by unfold wrap64; omega
      clear hsize hND p1 p2 p3 p4 p5 hB02 l1 l2 i1 i2 hsz hhl
      generalize kids[k] = kd at *
      go_wp2_with (fail)
      refine HS.out.mono ?_
      rintro e w5 ⟨rfl, hB6⟩
      have hB7 := Lib.hid (HBN.out.trans (hB6.mono (by simp; omega)))
      clear hB6
      have hsum := HSUM.out
      go_wp2
      go_round
      case rel => exact ⟨k + 1, by have := HLT.out; omega, by simp [hwk], by simp [hsum], hB7⟩
      case measure => simp [intOf, hwk]; have := HLT.out; omega
    · obtain rfl : k = kids.length := by omega
      rw [List.take_length]
      have hB := hb.out
      have h3 : wr.heap[w.heap.size]? = some (.cells #[.int .i64 tag, .slice A1 body.length c1, .slice A2 kids.length c2] 25 (0, 0)) := (hB.block _ (Array.getElem?_eq_some_iff.1 H2.out).1).trans H2.out
      clear a0 a1 a2 hlt hk
      have a0 := Lib.cell_of_heap h3 0
      have a2 := Lib.cell_of_heap h3 2
      have HNEXT := Lib.hid (fun (w3 : World) (A : Option Addr) (c : Nat) (hoh : (Kd.int .u8).R 5 w3 wr.heap.size (fun _ => True) (.slice A (head tag (sizeL kids)).length c) (head tag (sizeL kids))) (hB3 : Below wr.heap.size wr w3) =>
        put_next (n := ⟨tag, body, kids⟩) rfl NUM.out HB0.out HO.out HB2.out H2.out hB h3 hoh hB3)
      have HENTRY := Lib.hid (heap_lt h3)
      clear hB h3 hb
      go_wp2_with (fail)
      refine (tlv_head.calls tag (sizeL kids) _ _ (head_f _ _)).mono ?_
      rintro e w3 ⟨v, rfl, ho3, hb3⟩
      obtain ⟨Ah, ch, rfl⟩ := Kd.R_slice ho3
      have HF := Lib.hid (HNEXT.out w3 Ah ch ho3 hb3)
      clear ho3 hb3
      have a2 := HF.out.1
      go_wp2_with ((with_reducible refine at_dst 50 ?_); go_must (refine add_in w3 base Ao co lo Ah ch (head tag (sizeL kids)) (head tag (sizeL kids)).length (.tmp 45) (.tmp 49) rfl rfl rfl rfl HF.out.2.1 HF.out.2.2.1 rfl HF.out.2.2.2.1 HF.out.2.2.2.2.1 ?_); rintro w4 A4 c4 ho4 hb4 hg4; have HG := Lib.hid (HF.out.2.2.2.2.2 w4 A4 c4 ho4 hb4 hg4); clear ho4 hb4 hg4; have a2' := HG.out.1)
      have HP0 := NUM.out
      go_loopw [0, 54] (fun sv iv wr => ∃ (k : Nat) (A : Option Addr) (c : Nat) (lk : List Int), k ≤ kids.length ∧ iv = .int .i64 k ∧ sv = .slice A lk.length c ∧ Hid (lk = lo ++ (head tag (sizeL kids) ++ encL (kids.take k))) ∧ Hid (Own wr base A c lk) ∧ Hid (Below base w wr)) (fun _ iv _ => kids.length - (intOf iv).toNat)
      case atStart => exact ⟨0, A4, c4, lo ++ head tag (sizeL kids), by omega, rfl, by simp, Lib.hid (by simp [encL]), HG.out.2.1, HG.out.2.2⟩
      case round =>
        obtain ⟨k, A, c, lk, hk, rfl, rfl, hlk, hO5, hB5⟩ := hrel
        by_cases hlt : k < kids.length
        · obtain ⟨ad, D1, d1, D2, d2, eA, x0, x1, x2, l1, i1, l2, i2⟩ := at_T25 HR.out (k : Int) (by omega) (by omega)
          rw [rd_mem hlt] at x0 x1 x2 l1 i1 l2 i2
          simp only [Int.toNat_natCast] at x0 x1 x2
          cases eA
          obtain ⟨p1, p2, p3, p4, p5⟩ := take_parts hlt HRK.out
          obtain ⟨n1, n2, n3, n4, n5, n6, n7⟩ := HP0
          have hB05 : Below w0.heap.size w0 wr := HB0.out.trans (hB5.out.mono n1)
          replace x0 := (hB05.cell (World.block_lt_of_cell? w0 _ x0)).trans x0
          replace x1 := (hB05.cell (World.block_lt_of_cell? w0 _ x1)).trans x1
          replace x2 := (hB05.cell (World.block_lt_of_cell? w0 _ x2)).trans x2
          have hND : NodeAt w0 (kids[k]'hlt) D1 d1 D2 d2 := ⟨i1, l1, i2, l2⟩
          have hlkl : (lk.length : Int) = lo.length + headLen (sizeL kids) + sizeL (kids.take k) := by rw [hlk.out, List.length_append, List.length_append, Int.natCast_add, Int.natCast_add, n5]; have := size_encL (kids.take k); omega
          have hs5 := hB5.out.size
          have hput := IH.out (kids[k]'hlt) (List.getElem_mem hlt) A c lk D1 d1 D2 d2 w0 (wr.alloc (.cells #[.int .i64 (kids[k]'hlt).f0, .slice D1 (kids[k]'hlt).f1.length d1, .slice D2 (kids[k]'hlt).f2.length d2] 25)) base hND (hB05.alloc hB05.size _) n1 (by simp; omega) (Kd.R_alloc hO5.out _) p3 (by omega)
          have HPUT := Lib.hid hput
          have HNEW := Lib.hid (show lk ++ encT (kids[k]'hlt) = lo ++ (head tag (sizeL kids) ++ encL (kids.take (k + 1))) by rw [hlk.out, p2]; simp)
          have HBN := Lib.hid (show Below base w (wr.alloc (.cells #[.int .i64 (kids[k]'hlt).f0, .slice D1 (kids[k]'hlt).f1.length d1, .slice D2 (kids[k]'hlt).f2.length d2] 25)) from hB5.out.alloc (by omega) _)
          have hk0 : (0 ≤ (k : Int)) = True := eq_true (by omega)
          have hk1 : ((k : Int) < (kids.length : Int)) = True := eq_true (by omega)
          have HLT := Lib.hid hlt
          have hwk : wrap64 ((k : Int) + 1) = ((k + 1 : Nat) : Int) := by unfold wrap64; omega
          clear hput hND p1 p2 p3 p4 p5 hB05 l1 l2 i1 i2 n1 n2 n3 n4 n5 n6 n7 hlkl hs5 hlk hO5 hB5 hk
          generalize kids[k] = kd at *
          go_wp2_with (fail)
          refine HPUT.out.mono ?_
          rintro e w5 ⟨A6, c6, rfl, ho6, hB6⟩
          generalize hlk6 : lk ++ encT kd = lk6 at ho6
          have hB7 := Lib.hid (HBN.out.trans hB6)
          have HO6 := Lib.hid ho6
          have HLK6 := Lib.hid (hlk6.symm.trans HNEW.out)
          clear hB6 ho6
          go_wp2
          go_round
          case rel => exact ⟨k + 1, A6, c6, lk6, by have := HLT.out; omega, by simp [hwk], by simp [← hlk6], HLK6, HO6.out, hB7.out⟩
          case measure => simp [intOf, hwk]; have := HLT.out; omega
        · obtain rfl : k = kids.length := by omega
          rw [List.take_length, ← HENC.out] at hlk
          have hl := hlk.out
          clear hlk
          subst hl
          clear HP0
          go_wp2
          go_ret
          exact ⟨_, _, rfl, hO5.out, hB5.out⟩

theorem put_le : ∀ (m : Nat) (n : T), SizeOf.sizeOf n ≤ m → PutC n
  | 0, ⟨a, b, c⟩, h => by simp at h
  | m + 1, ⟨a, b, c⟩, h => by
    cases hH : holdsB a with
    | false => exact put_leaf a b c hH
    | true => exact put_step a b c hH fun t ht => put_le m t (by
        have := List.sizeOf_lt_of_mem ht
        simp at h this
        omega)
theorem put_any (n : T) : PutC n := put_le _ n (Nat.le_refl _)

end Go.Proofs.Ytmbgjhkemlliaaa.Tlv
