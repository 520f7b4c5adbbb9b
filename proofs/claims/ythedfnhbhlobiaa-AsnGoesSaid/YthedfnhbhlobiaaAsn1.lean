/- asn.Has: walked, with its closure and slices.ContainsFunc, IndexFunc. -/
import Derived.Test.YthedfnhbhlobiaaPAsnx0
import Derived.Test.YthedfnhbhlobiaaItv
import Derived.Lib.Hide
import Derived.Outline
import Derived.LoopTactic
import Derived.WalkKit
set_option linter.unusedVariables false
namespace Go.Proofs.Ythedfnhbhlobiaa.Asn
open Go.RowKit Go.Proofs.YthedfnhbhlobiaaW.PrintWords Go.Proofs.YthedfnhbhlobiaaW.PrintLast Go.Proofs.YthedfnhbhlobiaaW.PrintMore Go.Proofs.Ythedfnhbhlobiaa.PAsn
attribute [local go_sem] max2_int min2_int max_two min_two

set_option maxHeartbeats 1000000 in
theorem hasClosure (a b n : Int) (nb : Nat) (W : World) (hn : W.heap[nb]? = some (.cells #[.int .u32 n] 23 (0, 0))) :
    Calls Try.prog 22 #[.agg #[.int .u32 a, .int .u32 b], .pointer (some ⟨nb, 0, none⟩)] W fun e w' => e = .returned (.bool (decide (a ≤ n) && decide (n ≤ b))) ∧ Below W.heap.size W w' := by
  have hc : W.cell? ⟨nb, 0, none⟩ = some (.int .u32 n) := by simp [World.cell?, hn]
  have hlt := World.block_lt_of_cell? W _ hc
  have hc2 : ∀ o, (W.alloc o).cell? ⟨nb, 0, none⟩ = some (.int .u32 n) := fun o => by rw [World.cell?_alloc_lt _ _ _ hlt]; exact hc
  go_enter Try.func22, Try.ntmps22
  by_cases h1 : a ≤ n
  all_goals
    by_cases h2 : n ≤ b
    all_goals
      go_wp2
      go_ret
      exact ⟨by simp [h1, h2], (Below.refl _ _).alloc (Nat.le_refl _) _⟩

def inS (n : Int) (r : S27) : Bool := decide (r.f0 ≤ n) && decide (n ≤ r.f1)
theorem hasClosure' (p : S27) (n : Int) (nb : Nat) (W : World) (hn : W.heap[nb]? = some (.cells #[.int .u32 n] 23 (0, 0))) :
    Calls Try.prog 22 #[.agg #[.int .u32 p.f0, .int .u32 p.f1], .pointer (some ⟨nb, 0, none⟩)] W fun e w' => e = .returned (.bool (inS n p)) ∧ Below W.heap.size W w' := hasClosure p.f0 p.f1 n nb W hn
def hasL (l : List S27) (n : Int) : Bool := l.any (inS n)
theorem rdS {l : List S27} {k : Nat} (h : k < l.length) : rd_T27 l (k : Int) = l[k] := by
  simp [rd_T27, List.getD_eq_getElem?_getD, List.getElem?_eq_getElem h]
def IdxPost (l : List S27) (n : Int) (w : World) (e : Ending) (w' : World) : Prop := ∃ r : Int, e = .returned (.int .i64 r) ∧ decide (0 ≤ r) = hasL l n ∧ Below w.heap.size w w'

set_option maxHeartbeats 1000000 in
set_option maxRecDepth 100000 in
theorem indexFunc (A : Option Addr) (c : Nat) (l : List S27) (n : Int) (nb : Nat) (w : World) (hr : Kd.C k27 w A l.length l) (hc : l.length ≤ c) (hl : l.length ≤ 1000000000)
    (hn : w.heap[nb]? = some (.cells #[.int .u32 n] 23 (0, 0))) :
    Calls Try.prog 26 #[.slice A l.length c, .func (.func 22) #[] #[.pointer (some ⟨nb, 0, none⟩)]] w (IdxPost l n w) := by
  have hlt : nb < w.heap.size := (Array.getElem?_eq_some_iff.1 hn).1
  have HN := Aside0.mk hn
  clear hn
  go_enter Try.func26, Try.ntmps26
  go_wp2
  go_loopw [8] (fun i wr => ∃ k : Nat, k ≤ l.length ∧ i = .int .i64 k ∧ Hid (∀ j, ∀ h : j < l.length, j < k → inS n l[j] = false) ∧ Below w.heap.size w wr) (fun i _ => l.length - (intOf i).toNat)
  case atStart => exact ⟨0, by omega, rfl, fun j _ h => by omega, Below.refl _ _⟩
  case round =>
    obtain ⟨k, hk, rfl, hno, hb⟩ := hrel
    by_cases hlt2 : k < l.length
    · obtain ⟨ad, rfl, c0, c1⟩ := at_T27 (Kd.C_below hr hb) (k : Int) (by omega) (by omega)
      rw [rdS hlt2] at c0 c1
      simp only [Int.toNat_natCast] at c0 c1
      have hd : decide ((k : Int) < (l.length : Int)) = true := decide_eq_true (by omega)
      obtain ⟨p, hp⟩ : ∃ p, p = l[k] := ⟨_, rfl⟩
      rw [← hp] at c0 c1
      have HP := Lib.hid hp
      clear hp hr
      go_wp2_with (go_at_call 22; refine (hasClosure' p n nb _ (by exact (hb.block nb hlt).trans HN.out)).mono ?_; rintro e w3 ⟨rfl, hb3⟩)
      · have hyes : inS n l[k] = true := by rw [← HP.out]; assumption
        go_ret
        refine ⟨_, rfl, ?_, hb.trans (hb3.mono hb.size)⟩
        have : hasL l n = true := List.any_eq_true.2 ⟨l[k], List.getElem_mem _, hyes⟩
        rw [this]
        exact decide_eq_true (by omega)
      · have hn2 : inS n l[k] = false := by
          rw [← HP.out]
          assumption
        refine ⟨⟨k + 1, by omega, by go_num, ?_, hb.trans (hb3.mono hb.size)⟩, by simp [intOf]; omega⟩
        intro j h hj
        rcases Nat.lt_or_eq_of_le (Nat.le_of_lt_succ hj) with h5 | h5
        · exact hno j h h5
        · subst h5; exact hn2
    · have hd : decide ((k : Int) < (l.length : Int)) = false := decide_eq_false (by omega)
      go_wp2
      go_ret
      refine ⟨_, rfl, ?_, hb⟩
      have : hasL l n = false := by
        rw [← Bool.not_eq_true]
        intro h
        obtain ⟨x, hx, hi⟩ := List.any_eq_true.1 h
        obtain ⟨j, hj, rfl⟩ := List.getElem_of_mem hx
        rw [hno j hj (by omega)] at hi
        cases hi
      rw [this]
      rfl

set_option maxHeartbeats 1000000 in
set_option maxRecDepth 100000 in
theorem containsFunc (A : Option Addr) (c : Nat) (l : List S27) (n : Int) (nb : Nat) (w : World) (hr : Kd.C k27 w A l.length l) (hc : l.length ≤ c) (hl : l.length ≤ 1000000000)
    (hn : w.heap[nb]? = some (.cells #[.int .u32 n] 23 (0, 0))) :
    Calls Try.prog 21 #[.slice A l.length c, .func (.func 22) #[] #[.pointer (some ⟨nb, 0, none⟩)]] w fun e w' => e = .returned (.bool (hasL l n)) ∧ Below w.heap.size w w' := by
  have hcon := indexFunc A c l n nb w hr hc hl hn
  have H := Aside0.mk hcon
  clear hcon hr hn
  go_enter Try.func21, Try.ntmps21
  go_wp2_with fail
  refine H.out.mono ?_
  rintro e w3 ⟨r, rfl, hr3, hb3⟩
  have HR := Lib.hid hr3
  clear hr3
  go_wp2
  go_ret
  exact ⟨congrArg (fun b => Ending.returned (.bool b)) HR.out, hb3⟩
set_option maxHeartbeats 1000000 in
set_option maxRecDepth 100000 in
theorem has_walk (A : Option Addr) (c : Nat) (l : List S27) (n : Int) (w : World) (hr : Kd.C k27 w A l.length l) (hc : l.length ≤ c) (hl : l.length ≤ 1000000000) :
    Calls Try.prog 10 #[.slice A l.length c, .int .u32 n] w fun e w' => e = .returned (.bool (hasL l n)) ∧ Below w.heap.size w w' := by
  go_enter Try.func10, Try.ntmps10
  go_wp2_with fail
  refine (containsFunc A c l n w.heap.size _ (by exact Kd.C_below hr ((Below.refl _ _).alloc (Nat.le_refl _) _)) hc hl (by exact heap_alloc_new w _)).mono ?_
  rintro e w3 ⟨rfl, hb3⟩
  go_wp2
  go_ret
  exact ⟨rfl, below_step (below_alloc (Below.refl _ _) _) hb3⟩

end Go.Proofs.Ythedfnhbhlobiaa.Asn
