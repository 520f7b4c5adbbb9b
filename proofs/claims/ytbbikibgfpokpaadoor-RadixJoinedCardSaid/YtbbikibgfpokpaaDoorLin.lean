/- Plain: a text's lines, as lists of bytes. No program in sight. -/
import Derived.Lib.Split
import Derived.Lib.SplitLaws
namespace Go.Proofs.YtbbikibgfpokpaaDoor.Lin
open Go Go.Lib

/-- Without one carriage return at its end. -/
def trimCR (x : List UInt8) : List UInt8 := if x.getLast? = some 13 then x.dropLast else x
def splitNL : List UInt8 → List (List UInt8)
  | [] => [[]]
  | b :: l => if b = 10 then [] :: splitNL l else match splitNL l with
    | [] => [[b]]
    | p :: ps => (b :: p) :: ps
def shut (p : List (List UInt8)) : List (List UInt8) := if p.getLast? = some [] then p.dropLast else p
def linesS (s : List UInt8) : List (List UInt8) := shut ((splitNL s).map trimCR)

theorem splitNL_ne : ∀ s, splitNL s ≠ []
  | [] => by simp [splitNL]
  | b :: l => by
    unfold splitNL
    split
    · simp
    · split <;> simp
theorem splitNL_none : ∀ (s : List UInt8), (∀ b, b ∈ s → b ≠ 10) → splitNL s = [s]
  | [], _ => rfl
  | b :: l, h => by
    rw [splitNL, if_neg (h b List.mem_cons_self), splitNL_none l (fun c hc => h c (List.mem_cons_of_mem _ hc))]
theorem splitNL_cut : ∀ (a u : List UInt8), (∀ b, b ∈ a → b ≠ 10) → splitNL (a ++ 10 :: u) = a :: splitNL u
  | [], u, _ => by rw [List.nil_append, splitNL, if_pos rfl]
  | b :: a, u, h => by
    rw [List.cons_append, splitNL, if_neg (h b List.mem_cons_self), splitNL_cut a u (fun c hc => h c (List.mem_cons_of_mem _ hc))]

theorem shut_cons (x : List UInt8) (p : List (List UInt8)) (h : p ≠ []) : shut (x :: p) = x :: shut p := by
  obtain ⟨q, z, rfl⟩ : ∃ q z, p = q ++ [z] := ⟨p.dropLast, p.getLast h, (List.dropLast_concat_getLast h).symm⟩
  unfold shut
  rw [← List.cons_append, List.getLast?_append, List.getLast?_append]
  simp only [List.getLast?_singleton, Option.some_or, Option.some.injEq]
  split
  · rw [List.dropLast_concat, List.dropLast_concat]
  · rfl
theorem lines_none (t : List UInt8) (h : ∀ b, b ∈ t → b ≠ 10) : linesS t = if trimCR t = [] then [] else [trimCR t] := by
  unfold linesS
  rw [splitNL_none t h]
  unfold shut
  simp
theorem lines_cut (a u : List UInt8) (h : ∀ b, b ∈ a → b ≠ 10) : linesS (a ++ 10 :: u) = trimCR a :: linesS u := by
  unfold linesS
  rw [splitNL_cut a u h, List.map_cons, shut_cons _ _ (by simp [splitNL_ne])]
theorem lines_nil : linesS [] = [] := rfl

/-- Lines with an end each, one behind the other. -/
def ended (e : List UInt8) : List (List UInt8) → List UInt8
  | [] => []
  | x :: l => x ++ e ++ ended e l
theorem lines_ended_long : ∀ (l : List (List UInt8)), (∀ x, x ∈ l → ∀ b, b ∈ x → b ≠ 10 ∧ b ≠ 13) → linesS (ended [13, 10] l) = l
  | [], _ => rfl
  | x :: l, h => by
    have hx := h x List.mem_cons_self
    have e : x ++ [13, 10] ++ ended [13, 10] l = (x ++ [13]) ++ 10 :: ended [13, 10] l := by simp
    rw [ended, e, lines_cut _ _ (fun b hb => by
      rcases List.mem_append.1 hb with hb | hb
      · exact (hx b hb).1
      · rw [List.mem_singleton.1 hb]; decide), lines_ended_long l (fun y hy => h y (List.mem_cons_of_mem _ hy))]
    unfold trimCR
    simp
theorem lines_ended_short : ∀ (l : List (List UInt8)), (∀ x, x ∈ l → ∀ b, b ∈ x → b ≠ 10 ∧ b ≠ 13) → linesS (ended [10] l) = l
  | [], _ => rfl
  | x :: l, h => by
    have hx := h x List.mem_cons_self
    have e : x ++ [10] ++ ended [10] l = x ++ 10 :: ended [10] l := by simp
    rw [ended, e, lines_cut _ _ (fun b hb => (hx b hb).1), lines_ended_short l (fun y hy => h y (List.mem_cons_of_mem _ hy))]
    unfold trimCR
    rw [if_neg (fun hl => (hx 13 (List.mem_of_getLast? hl)).2 rfl)]

/-- What strings.Split gives at one line end. -/
theorem splitK_nl : ∀ (s : List UInt8), splitK [10] 0 (s.count 10) s = splitNL s := by
  intro s
  induction hn : s.length using Nat.strongRecOn generalizing s with
  | ind n ih =>
    subst hn
    by_cases h : (10 : UInt8) ∈ s
    · obtain ⟨a, u, rfl, ha⟩ : ∃ a u, s = a ++ 10 :: u ∧ ∀ b, b ∈ a → b ≠ 10 := by
        clear ih
        induction s with
        | nil => cases h
        | cons b l ihl =>
          by_cases hb : b = 10
          · exact ⟨[], l, by rw [hb]; rfl, fun c hc => by cases hc⟩
          · obtain ⟨a, u, e, ha⟩ := ihl (by rcases List.mem_cons.1 h with e | e; exact absurd e.symm hb; exact e)
            exact ⟨b :: a, u, by rw [e]; rfl, fun c hc => by rcases List.mem_cons.1 hc with rfl | hc; exact hb; exact ha c hc⟩
      have hc : (a ++ 10 :: u).count 10 = u.count 10 + 1 := by
        rw [List.count_append, List.count_eq_zero.2 (fun hm => ha 10 hm rfl), List.count_cons_self, Nat.zero_add]
      have hix : index (a ++ 10 :: u) [10] = (a.length : Int) := by
        clear ih hc h
        induction a with
        | nil => rw [List.nil_append, index]; simp [List.isPrefixOf]
        | cons b a iha =>
          have hb := ha b List.mem_cons_self
          rw [List.cons_append, index, iha (fun c hc => ha c (List.mem_cons_of_mem _ hc))]
          have : ([10] : List UInt8).isPrefixOf (b :: (a ++ 10 :: u)) = false := by simp [List.isPrefixOf, Ne.symm hb]
          rw [this]
          simp
      rw [hc, splitK, hix, if_neg (by simp), splitNL_cut a u ha]
      have e1 : ((a.length : Int)).toNat + 0 = a.length := by simp
      have e2 : ((a.length : Int)).toNat + ([10] : List UInt8).length = a.length + 1 := by simp
      rw [e1, e2, List.take_left, show List.drop (a.length + 1) (a ++ 10 :: u) = u by rw [← List.drop_drop, List.drop_left]; rfl]
      rw [ih u.length (by simp; omega) u rfl]
    · rw [List.count_eq_zero.2 h, splitNL_none s (fun b hb e => h (e ▸ hb))]
      rfl

end Go.Proofs.YtbbikibgfpokpaaDoor.Lin
