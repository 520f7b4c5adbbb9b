/- radix.Lines: the walk. -/
import Derived.Test.YtbbikibgfpokpaaDoorSpl
import Derived.Test.YtbbikibgfpokpaaDoorBare
set_option linter.unusedVariables false
namespace Go.Proofs.YtbbikibgfpokpaaDoor.Spl
open Go.RowKit Go.Shelf Go.Proofs.YtbbikibgfpokpaaDoorW.PrintWords Go.Proofs.YtbbikibgfpokpaaDoorW.PrintLast Go.Proofs.YtbbikibgfpokpaaDoorW.PrintMore

def trimB (x : ByteArray) : ByteArray := ⟨(Lib.trimSuffix x.data.toList [13]).toArray⟩
def pieces (s : ByteArray) : List ByteArray := Lib.splitB ⟨#[10]⟩ 0 (Lib.countB s ⟨#[10]⟩) s
def mix (p : List ByteArray) (k : Nat) : List ByteArray := (p.take k).map trimB ++ p.drop k
def linesR (s : ByteArray) : List ByteArray := if ((pieces s).map trimB).getLast? = some ByteArray.empty then ((pieces s).map trimB).dropLast else (pieces s).map trimB

theorem trim_data (x : ByteArray) : (trimB x).data.toList = Lin.trimCR x.data.toList := by
  show Lib.trimSuffix x.data.toList [13] = _
  generalize x.data.toList = l
  unfold Lib.trimSuffix Lin.trimCR Lib.hasSuffix
  rcases List.eq_nil_or_concat l with rfl | ⟨q, b, rfl⟩
  · rfl
  · by_cases h : b = 13
    · subst h
      simp
    · simp [h]
      exact fun e => h e.symm
theorem empty_iff (x : ByteArray) : x = ByteArray.empty ↔ x.data.toList = [] := by
  constructor
  · rintro rfl; rfl
  · intro h
    obtain ⟨⟨l⟩⟩ := x
    simp at h
    subst h
    rfl
theorem linesR_data (s : ByteArray) : (linesR s).map (·.data.toList) = Lin.linesS s.data.toList := by
  have hp : (pieces s).map (·.data.toList) = Lin.splitNL s.data.toList := split_data s
  have hm : ((pieces s).map trimB).map (·.data.toList) = (Lin.splitNL s.data.toList).map Lin.trimCR := by
    rw [← hp, List.map_map, List.map_map]
    exact List.map_congr_left (fun x _ => trim_data x)
  unfold linesR Lin.linesS Lin.shut
  rw [← hm]
  generalize (pieces s).map trimB = q
  have hl : (q.map (·.data.toList)).getLast? = some [] ↔ q.getLast? = some ByteArray.empty := by
    rw [List.getLast?_map]
    cases q.getLast? with
    | none => simp
    | some x => simp [empty_iff]
  by_cases h : q.getLast? = some ByteArray.empty
  · rw [if_pos h, if_pos (hl.2 h), List.map_dropLast]
  · rw [if_neg h, if_neg (fun e => h (hl.1 e))]
theorem mix_length (p : List ByteArray) (k : Nat) : (mix p k).length = p.length := by simp [mix]; omega
theorem mix_get {p : List ByteArray} {k : Nat} (h : k < p.length) : (mix p k).getD k ByteArray.empty = p[k] := by
  simp [mix, List.getD_eq_getElem?_getD, List.getElem?_append, h, Nat.min_eq_left (Nat.le_of_lt h)]
theorem mix_set {p : List ByteArray} {k : Nat} (h : k < p.length) : (mix p k).set k (trimB p[k]) = mix p (k + 1) := by
  unfold mix
  have e := List.drop_eq_getElem_cons h
  have e1 : k - ((p.take k).map trimB).length = 0 := by simp; omega
  rw [List.set_append_right _ _ (by simp; omega), List.take_succ_eq_append_getElem h, List.map_append, e1, e, List.append_assoc]
  rfl
theorem splitNL_len : ∀ (s : List UInt8), ∀ x ∈ Lin.splitNL s, x.length ≤ s.length
  | [], x, h => by simp [Lin.splitNL] at h; subst h; simp
  | b :: l, x, h => by
    have ih := splitNL_len l
    unfold Lin.splitNL at h
    split at h
    · rcases List.mem_cons.1 h with rfl | h
      · simp
      · have := ih x h; simp; omega
    · split at h
      · simp at h; subst h; simp
      · rename_i p ps he
        rcases List.mem_cons.1 h with rfl | h
        · have := ih p (by rw [he]; simp); simp; omega
        · have := ih x (by rw [he]; simp [h]); simp; omega
theorem piece_size (s x : ByteArray) (h : x ∈ pieces s) : x.size ≤ s.size := by
  have := splitNL_len s.data.toList x.data.toList (by rw [← split_data s]; exact List.mem_map_of_mem h)
  rwa [Lib.size_eq, Lib.size_eq]
theorem pieces_length (s : ByteArray) : (pieces s).length = Lib.countB s ⟨#[10]⟩ + 1 := Lib.splitB_all ⟨#[10]⟩ (show 1 ≤ (⟨#[10]⟩ : ByteArray).size from Nat.le_refl 1) 0 _ s rfl
theorem pieces_le (s : ByteArray) : (pieces s).length ≤ s.size + 1 := by
  rw [pieces_length]
  have := Lib.countB_le ⟨#[10]⟩ (show 1 ≤ (⟨#[10]⟩ : ByteArray).size from Nat.le_refl 1) s.size s (Nat.le_refl _)
  omega

theorem put_s {W : World} {base g n cap : Nat} {xs : List ByteArray} (h : Kd.R Kd.string 9 W base (fun _ => True) (.slice (some ⟨g, 0, none⟩) n cap) xs) (hn : n = xs.length) (i : Nat) (hi : i < n) (x : ByteArray) :
    W.cell? ⟨g, i, none⟩ = some (.string (xs.getD i ByteArray.empty)) ∧ W.frozen? ⟨g, i, none⟩ = false ∧ Kd.R Kd.string 9 (W.setCell ⟨g, i, none⟩ (.string x)) base (fun _ => True) (.slice (some ⟨g, 0, none⟩) n cap) (xs.set i x) := by
  subst hn
  have h1 := Kd.R_cell (enc := Value.string) (h1 := fun _ => rfl) ByteArray.empty h (i : Int) (by omega) (by omega)
  have h2 := Kd.R_put (enc := Value.string) (h1 := fun _ => rfl) h (i : Int) x
  simp only [Int.toNat_natCast] at h1 h2
  exact ⟨h1.1, h1.2, h2.1⟩


set_option maxHeartbeats 4000000 in
set_option maxRecDepth 100000 in
theorem lines_walk (s : ByteArray) (w : World) (hs : s.size ≤ 1000000000) :
    Calls Tryd.prog 7 #[.string s] w fun e w' => ∃ v0_ : Value, e = .returned (v0_) ∧ Kd.R Kd.string 9 w' w.heap.size (fun _ => True) v0_ (linesR s) ∧ Below w.heap.size w w' := by
  have hpl := pieces_length s
  have hpe := pieces_le s
  have hps : ∀ x ∈ pieces s, x.size ≤ 9223372036854775807 := fun x hx => by have := piece_size s x hx; omega
  have hsp : Calls Tryd.prog 13 #[.string s, .string ⟨#[10]⟩] w fun e w' => e = .returned (.slice (some ⟨w.heap.size, 0, none⟩) (pieces s).length (pieces s).length) ∧ w' = w.alloc (.cells ((pieces s).map Value.string).toArray 9) := by
    rw [hpl]
    exact split_one s 10 w (by omega)
  have hlr : linesR s = if ((pieces s).map trimB).getLast? = some ByteArray.empty then ((pieces s).map trimB).dropLast else (pieces s).map trimB := rfl
  generalize linesR s = res at hlr ⊢
  generalize pieces s = p at hpl hpe hps hsp hlr
  have hp0 : 0 < p.length := by omega
  have hp1 : p.length ≤ 1000000001 := by omega
  have HR := Lib.hid hlr
  have HPS := Lib.hid hps
  clear hlr hps hpl hpe hs
  go_enter Tryd.func7, Tryd.ntmps7
  go_wp2_with (fail)
  refine hsp.mono ?_
  rintro e w1 ⟨rfl, rfl⟩
  have ho := own_strings p w w.heap.size (Nat.le_refl _) (by unfold maxLen; omega) hp0
  have hb : Below w.heap.size w (w.alloc (.cells (p.map Value.string).toArray 9)) := (Below.refl _ _).alloc (Nat.le_refl _) _
  generalize w.alloc (.cells (p.map Value.string).toArray 9) = w1 at ho hb
  clear hsp
  go_wp2
  go_loopw [10] (fun iv wr => ∃ k : Nat, k ≤ p.length ∧ iv = .int .i64 k ∧ Hid (Kd.R Kd.string 9 wr w.heap.size (fun _ => True) (.slice (some ⟨w.heap.size, 0, none⟩) p.length p.length) (mix p k)) ∧ Below w.heap.size w wr) (fun iv _ => p.length - (intOf iv).toNat)
  case atStart => exact ⟨0, by omega, rfl, by rw [show mix p 0 = p by simp [mix]]; exact ho, hb⟩
  case round =>
    obtain ⟨k, hk, rfl, ho2, hb2⟩ := hrel
    by_cases hlt : k < p.length
    · have h1 := put_s ho2.out (mix_length p k).symm k hlt (trimB p[k])
      rw [mix_get hlt, mix_set hlt] at h1
      obtain ⟨q1, q2, ho3⟩ := h1
      have HO3 := Lib.hid ho3
      have hx := HPS.out p[k] (List.getElem_mem hlt)
      have hts := Tryd.strings_TrimSuffix p[k] ⟨#[13]⟩ wr hx
      rw [show (⟨(Lib.trimSuffix p[k].data.toList (⟨#[13]⟩ : ByteArray).data.toList).toArray⟩ : ByteArray) = trimB p[k] from rfl] at hts
      clear ho3 ho2
      generalize p[k] = x at q1 hts HO3 hx
      generalize trimB x = y at hts HO3
      go_wp2_with (fail)
      refine hts.mono ?_
      rintro e w3 ⟨rfl, rfl⟩
      go_wp2
      exact ⟨⟨k + 1, by omega, by go_num, HO3, Below.setCell hb2 (p := ⟨w.heap.size, k, none⟩) (Nat.le_refl _) _⟩, by simp [intOf]; omega⟩
    · obtain rfl : k = p.length := by omega
      have hm : mix p p.length = p.map trimB := by simp [mix]
      have ho3 := ho2.out
      rw [hm] at ho3
      have hl : (p.map trimB).length = p.length := by simp
      obtain ⟨q1, q2, _⟩ := put_s ho3 hl.symm (p.length - 1) (by omega) ByteArray.empty
      have HO3 := Lib.hid ho3
      have hlast : (p.map trimB).getLast? = some ((p.map trimB).getD (p.length - 1) ByteArray.empty) := by
        rw [List.getLast?_eq_getElem?, List.getD_eq_getElem?_getD, hl, List.getElem?_eq_getElem (by omega)]
        rfl
      have HR2 := Lib.hid (HR.out.trans (by rw [hlast]))
      generalize (p.map trimB).getD (p.length - 1) ByteArray.empty = x at q1 HR2 hlast
      clear hlast ho3 hm HR
      by_cases hx : x = ByteArray.empty
      · have hE : x.toList.isEmpty = true := by rw [hx, ByteArray.toList_eq]; rfl
        have HX := Lib.hid hx
        clear hx q2
        go_wp2
        go_ret
        have hr : res = (p.map trimB).take (p.length - 1) := by rw [HR2.out, HX.out, if_pos rfl, List.dropLast_eq_take, hl]
        exact ⟨_, rfl, by rw [hr]; exact Kd.R_take HO3.out (by omega), hb2⟩
      · have hE : x.toList.isEmpty = false := by
          rw [ByteArray.toList_eq]
          cases h : x.data.toList with
          | nil => exact absurd ((empty_iff x).2 h) hx
          | cons _ _ => rfl
        have HR3 := Lib.hid (HR2.out.trans (if_neg (fun e => hx (Option.some.inj e))))
        clear hx q2
        go_wp2
        go_ret
        exact ⟨_, rfl, by rw [HR3.out]; exact HO3.out, hb2⟩

end Go.Proofs.YtbbikibgfpokpaaDoor.Spl
