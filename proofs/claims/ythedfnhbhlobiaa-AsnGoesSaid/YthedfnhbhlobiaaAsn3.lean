/- The sort that asn.Join calls: slices.SortFunc off the shelf, its closure walked. -/
import Derived.Test.YthedfnhbhlobiaaAsn4
import Derived.Test.YthedfnhbhlobiaaShelf
set_option linter.unusedVariables false
namespace Go.Proofs.Ythedfnhbhlobiaa.Asn
open Go.Shelf Go.RowKit Go.Lib Go.Sort Go.Proofs.YthedfnhbhlobiaaW.PrintWords Go.Proofs.YthedfnhbhlobiaaW.PrintLast Go.Proofs.YthedfnhbhlobiaaW.PrintMore Go.Proofs.Ythedfnhbhlobiaa.PAsn

theorem nan_walk (x : Int) (w : World) : Calls Try.prog 25 #[.int .u32 x] w fun e w' => e = .returned (.bool false) ∧ w' = w := by
  go_enter Try.func25, Try.ntmps25
  go_wp2
  go_ret
  exact ⟨by simp, rfl⟩

set_option maxHeartbeats 1000000 in
theorem cmp_walk (x y : Int) (w : World) : Calls Try.prog 20 #[.int .u32 x, .int .u32 y] w fun e w' => e = .returned (.int .i64 (Lib.compareInt x y)) ∧ w' = w := by
  go_enter Try.func20, Try.ntmps20
  go_wp2_with (refine (nan_walk _ _).mono ?_; rintro e w' ⟨rfl, hw⟩; rw [hw])
  all_goals (go_ret; refine ⟨?_, rfl⟩; unfold Lib.compareInt; (repeat' split) <;> first | rfl | (exfalso; omega))

set_option maxHeartbeats 1000000 in
theorem clos_walk (x y : S27) (W : World) : Calls Try.prog 19 #[.agg #[.int .u32 x.f0, .int .u32 x.f1], .agg #[.int .u32 y.f0, .int .u32 y.f1]] W fun e w' => e = .returned (.int .i64 (Lib.compareInt x.f0 y.f0)) ∧ ∃ q os', w' = grow (W.drewN q) os' := by
  have hcon := fun W' => cmp_walk x.f0 y.f0 W'
  generalize Lib.compareInt x.f0 y.f0 = r at hcon ⊢
  go_enter Try.func19, Try.ntmps19
  go_wp2_with (refine (hcon _).mono ?_; rintro e w' ⟨rfl, rfl⟩)
  go_ret
  exact ⟨rfl, 0, _, by rw [alloc_eq_grow, alloc_eq_grow, grow_grow]; rfl⟩

def encS (x : S27) : List Value := [.int .u32 x.f0, .int .u32 x.f1]
instance inhS : Inhabited S27 := ⟨z27⟩
def cfS (x y : S27) : Int := Lib.compareInt x.f0 y.f0
theorem ltLo (x y : S27) : ltOf cfS x y = decide (x.f0 < y.f0) := by
  unfold ltOf cfS Lib.compareInt
  by_cases h1 : x.f0 < y.f0
  · simp [h1]
  · by_cases h2 : y.f0 < x.f0 <;> simp [h1, h2]
theorem swoS : SWO (ltOf cfS) where
  irrefl x := by rw [ltLo]; simp
  trans x y z h1 h2 := by rw [ltLo] at *; simp at *; omega
  ntrans x y z h1 h2 := by rw [ltLo] at *; simp at *; omega

theorem holdsS {w : World} {base g cap : Nat} {ok : Nat → Prop} {l : List S27} (hl : 0 < l.length) (h : Kd.R k27 27 w base ok (.slice (some ⟨g, 0, none⟩) l.length cap) l) :
    HoldsK encS 2 w g 0 l.toArray ∧ g < w.heap.size ∧ base ≤ g := by
  obtain ⟨g', c', e, hb, hlt, cells, hc⟩ := Kd.R_form h hl
  injection e with e _ _
  injection e with e
  injection e with e _ _
  subst e
  refine ⟨fun j hj => ?_, hlt, hb⟩
  rw [size_flatK] at hj
  have hj2 : j / 2 < l.length := by simp at hj; omega
  refine ⟨?_, frozenB hc _⟩
  rw [get_flatK _ _ _ _ hj]
  obtain ⟨c0, c1⟩ := cellsS (Kd.R_reads' h).2.2 (j / 2) hj2
  have he : (l.toArray[j / 2]! : S27) = l[j / 2] := by rw [getElem!_pos _ _ (by simpa using hj2)]; simp
  rw [he]
  rcases Nat.mod_two_eq_zero_or_one j with hm | hm
  · rw [hm, show 0 + j = j / 2 * 2 by omega, c0]; rfl
  · rw [hm, show 0 + j = j / 2 * 2 + 1 by omega, c1]; rfl

theorem sorted_of {w w1 : World} {base g n : Nat} {l : List S27} {d' : Array S27} {os : Array Obj} (hle : l.length ≤ 1000000000) (hH : HoldsK encS 2 w g 0 l.toArray) (hg : g < w.heap.size) (hb : base ≤ g)
    (hp : PermIn 0 l.toArray.size l.toArray d') (hs : SortedIn (ltOf cfS) 0 l.toArray.size d') (hw : w1 = sortWorldK encS 2 w g 0 n d' os) : Sorted l w w1 base g := by
  have hsz : d'.size = l.length := by simpa using hp.1
  have hH1 : HoldsK encS 2 w1 g 0 d' := by rw [hw]; exact holdsK_sortWorldK_c encS 2 w g 0 l.toArray d' n os hH hg (by simpa using hsz)
  obtain ⟨f, hw2⟩ : ∃ f, w1.heap = (w.heap.modify g f) ++ os := ⟨_, by rw [hw]; rfl⟩
  refine ⟨d'.toList, ?_, ?_, ?_, ?_, ?_⟩
  · have := hp.2.2
    have e2 : List.take l.length d'.toList = d'.toList := List.take_of_length_le (by simp [hsz])
    simpa [hsz, e2] using this
  · rw [List.pairwise_iff_getElem]
    intro i j hi hj hij
    have h1 := hs i j (Nat.zero_le _) hij (by simpa [hsz] using hj)
    rw [ltLo] at h1
    have ei : (d'[i]! : S27) = d'.toList[i] := by rw [getElem!_pos _ _ (by simpa using hi)]; simp
    have ej : (d'[j]! : S27) = d'.toList[j] := by rw [getElem!_pos _ _ (by simpa using hj)]; simp
    rw [ei, ej] at h1
    simpa using h1
  · refine ⟨rfl, ?_, fun _ => ⟨_, rfl, fun j p hj => ?_⟩⟩
    · simp [hsz]; omega
    · have hjl : j < d'.size := by
        have := (List.getElem?_eq_some_iff.1 hj).1
        simpa using this
      have ep : (d'[j]! : S27) = p := by
        rw [getElem!_pos d' j hjl]
        have := (List.getElem?_eq_some_iff.1 hj).2
        simpa using this
      refine ⟨encS p, rfl, k27_mk _ p, fun i u hu => ?_⟩
      have hi : i < 2 := (List.getElem?_eq_some_iff.1 hu).1
      have h2 := (HoldsK.cell hH1 hjl hi).1
      rw [ep, getElem!_def, hu] at h2
      rw [add_at]
      have e9 : k27.sz = 2 := rfl
      rw [e9]
      simpa using h2
  · rw [hw2]; simp; omega
  · refine ⟨by rw [hw]; rfl, by rw [hw]; rfl, by rw [hw]; rfl, by rw [hw2]; simp, fun k hk => ?_⟩
    rw [hw2, Array.getElem?_append_left (by simp; omega), Array.getElem?_modify, if_neg (by omega)]

theorem sort_walk (l : List S27) (hpos : 0 < l.length) (hl : l.length ≤ 1000000000) (g cap base : Nat) (w : World) (h : Kd.R k27 27 w base (fun _ => True) (.slice (some ⟨g, 0, none⟩) l.length cap) l) :
      Calls Try.prog 18 #[.slice (some ⟨g, 0, none⟩) l.length cap, .func (.func 19) #[] #[]] w fun e w' => e = .returned (.tuple #[]) ∧ Sorted l w w' base g := by
  obtain ⟨hH, hg, hb⟩ := holdsS hpos h
  have eg : ∀ args w, (callFunc 19 args).run Try.prog w = .ok (.enter 19 args) w := enters_of Try.func19 (by kernel_rfl) rfl
  have hcon := AnyQ.slices_SortFunc Try.sortR 2 Try.isAgg27 Try.sizeOf27 encS (fun _ => rfl) (fun x v hv => by simp [encS] at hv; rcases hv with rfl | rfl <;> rfl) cfS swoS 19 #[] g 0 cap l.toArray w eg (fun _ _ _ _ x y => clos_walk x y _) hH hg (by simp; omega)
  change Calls Try.prog 18 #[.slice (some ⟨g, 0, none⟩) l.length cap, _] w _ at hcon
  refine hcon.mono ?_
  rintro e w' ⟨rfl, d', n, os, hp, hs, hw⟩
  exact ⟨rfl, sorted_of hl hH hg hb hp hs hw⟩

end Go.Proofs.Ythedfnhbhlobiaa.Asn
