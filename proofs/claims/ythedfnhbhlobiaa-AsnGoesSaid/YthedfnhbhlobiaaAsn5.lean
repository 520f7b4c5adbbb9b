/- asn.Join, its contract; asn.Within, walked. -/
import Derived.Test.YthedfnhbhlobiaaAsn3
import Derived.Shelf.SlSortCmp.NoneTotal
set_option linter.unusedVariables false
namespace Go.Proofs.Ythedfnhbhlobiaa.Asn
open Go.RowKit Go.Proofs.YthedfnhbhlobiaaW.PrintWords Go.Proofs.YthedfnhbhlobiaaW.PrintLast Go.Proofs.YthedfnhbhlobiaaW.PrintMore Go.Proofs.Ythedfnhbhlobiaa.PAsn
attribute [local go_sem] max2_int min2_int max_two min_two

set_option maxHeartbeats 1000000 in
set_option maxRecDepth 100000 in
theorem join_nil (A : Option Addr) (c : Nat) (w : World) (hr : Kd.C k27 w A 0 []) :
    Calls Try.prog 8 #[.slice A 0 c] w fun e w' => ∃ v, e = .returned v ∧ Kd.R k27 27 w' w.heap.size (fun _ => True) v [] ∧ Below w.heap.size w w' := by
  have hs : ∀ p c W, Calls Try.prog 18 #[.slice p 0 c, .func (.func 19) #[] #[]] W fun e w' => e = .returned (.tuple #[]) ∧ w' = W := fun p c W => AnyF.slices_SortFunc_none Try.sortR p c _ W
  go_enter Try.func8, Try.ntmps8
  go_wp2
  go_step3
  go_wp2_with fail
  refine (clone_walk A c [] w hr (Nat.zero_le _) (Nat.zero_le _)).mono ?_
  rintro e w1 ⟨v, rfl, ho1, hb1⟩
  obtain ⟨A4, c4, e4⟩ := Kd.R_slice ho1
  simp only [List.length_nil] at e4
  subst e4
  clear ho1 hr
  go_wp2_with fail
  refine (hs A4 c4 w1).mono ?_
  rintro e w2 ⟨rfl, rfl⟩
  go_wp2
  go_step3
  go_wp2
  go_loopw [4, 14] (fun ov i wr => ov = .slice none 0 0 ∧ i = .int .i64 0 ∧ Below w.heap.size w wr)
    (fun _ i _ => 0 - (intOf i).toNat)
  case atStart => exact ⟨rfl, rfl, hb1⟩
  case round =>
    obtain ⟨rfl, rfl, hb⟩ := hrel
    go_wp2
    try rw [Exit.noGoto_ret]
    go_ret
    exact ⟨_, rfl, Kd.R_nil _ _ _ _ _, hb⟩

def leS (a b : S27) : Bool := decide (a.f0 ≤ b.f0)
def toR (r : S27) : Int × Int := (r.f0, r.f1)
def joinS (l : List S27) : List S27 := (l.mergeSort leS).foldl stepS []
theorem toR_inj {a b : S27} (h : toR a = toR b) : a = b := by
  cases a; cases b; simp [toR] at h; obtain ⟨h1, h2⟩ := h; subst h1; subst h2; rfl
theorem map_inj : ∀ {a b : List S27} (h : a.map toR = b.map toR), a = b
  | [], [], _ => rfl
  | x :: a, y :: b, h => by
    rw [List.map_cons, List.map_cons] at h
    injection h with h1 h2
    rw [toR_inj h1, map_inj h2]
theorem last_map (out : List S27) : Itv.lastR (out.map toR) = toR (lastS out) := by
  unfold Itv.lastR lastS
  rw [List.length_map, List.getD_eq_getElem?_getD, List.getD_eq_getElem?_getD, List.getElem?_map]
  cases out[out.length - 1]? <;> rfl
theorem step_map (out : List S27) (r : S27) : Itv.step (out.map toR) (toR r) = (stepS out r).map toR := by
  unfold Itv.step stepS
  rw [last_map, List.length_map]
  show (if r.f1 < r.f0 then out.map toR else if 0 < out.length ∧ ((lastS out).f1 = 4294967295 ∨ r.f0 ≤ (lastS out).f1 + 1) then (out.map toR).set (out.length - 1) ((lastS out).f0, max (lastS out).f1 r.f1) else out.map toR ++ [toR r]) = _
  split
  · rfl
  split
  · rw [List.map_set]
    congr 1
    show (_, _) = (_, _)
    congr 1
    dsimp only
    split <;> omega
  · rw [List.map_append]; rfl
theorem fold_map : ∀ (d out : List S27), (d.map toR).foldl Itv.step (out.map toR) = (d.foldl stepS out).map toR
  | [], _ => rfl
  | r :: d, out => by rw [List.map_cons, List.foldl_cons, List.foldl_cons, step_map, fold_map d]
theorem okk_map {l : List S27} (h : OkS l) : Itv.Okk (l.map toR) := by
  intro r hr
  obtain ⟨a, ha, rfl⟩ := List.mem_map.1 hr
  exact h a ha
theorem join_map {l : List S27} (h : OkS l) {d : List S27} (hp : d.Perm l) (hs : d.Pairwise (fun a b => a.f0 ≤ b.f0)) : (d.foldl stepS []).map toR = Itv.join (l.map toR) := by
  rw [← fold_map d []]
  exact Itv.join_any (okk_map h) (hp.map toR) (List.pairwise_map.2 hs)
theorem joinS_map {l : List S27} (h : OkS l) : (joinS l).map toR = Itv.join (l.map toR) := by
  refine join_map h (List.mergeSort_perm _ _) ?_
  have := List.pairwise_mergeSort (le := leS) (fun a b c h1 h2 => by simp [leS] at *; omega) (fun a b => by simp [leS]; omega) l
  exact this.imp (fun h => by simpa [leS] using h)

theorem joinC (A : Option Addr) (c : Nat) (l : List S27) (w : World) (hr : Kd.C k27 w A l.length l) (hc : l.length ≤ c) (hl : l.length ≤ 1000000000) (hok : OkS l) :
    Calls Try.prog 8 #[.slice A l.length c] w fun e w' => ∃ v, e = .returned v ∧ Kd.R k27 27 w' w.heap.size (fun _ => True) v (joinS l) ∧ Below w.heap.size w w' := by
  rcases Nat.eq_zero_or_pos l.length with h0 | hpos
  · have := List.eq_nil_of_length_eq_zero h0
    subst this
    rw [show joinS [] = [] by simp [joinS]]
    exact join_nil A c w hr
  · refine (join_walk A c l w hr hc hl hok (fun g cap base w h => sort_walk l hpos hl g cap base w h) hpos).mono ?_
    rintro e w' ⟨v, d, rfl, hp, hs, hR, hb⟩
    refine ⟨v, rfl, ?_, hb⟩
    rw [show joinS l = d.foldl stepS [] from map_inj ((joinS_map hok).trans (join_map hok hp hs).symm)]
    exact hR

end Go.Proofs.Ythedfnhbhlobiaa.Asn
