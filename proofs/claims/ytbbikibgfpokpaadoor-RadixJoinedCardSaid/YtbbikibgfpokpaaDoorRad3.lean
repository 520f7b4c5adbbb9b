/- radix.Encode: bytes as a text of 64 signs. -/
import Derived.Test.YtbbikibgfpokpaaDoorRad2
import Derived.Laws.CopyOwn
import Derived.Deep.DeepMust
set_option linter.unusedVariables false
namespace Go.Proofs.YtbbikibgfpokpaaDoor.Rad
open Go.RowKit Go.Proofs.YtbbikibgfpokpaaDoorW.PrintWords Go.Proofs.YtbbikibgfpokpaaDoorW.PrintLast Go.Proofs.YtbbikibgfpokpaaDoorW.PrintMore
attribute [local go_sem] max2_int min2_int max_two min_two

def sg (n : Int) : Int := rd tabI n
def qd (q : Int) (n : Int) : List Int := [sg (q / 262144 % 64), sg (q / 4096 % 64), if n < 2 then 61 else sg (q / 64 % 64), if n < 3 then 61 else sg (q % 64)]
def enc : List Int → List Int
  | [] => []
  | [a] => qd (a * 65536) 1
  | [a, b] => qd (a * 65536 + b * 256) 2
  | a :: b :: c :: r => qd (a * 65536 + b * 256 + c) 3 ++ enc r
theorem enc_round (l : List Int) (h : l ≠ []) : enc l = qd (rd l 0 * 65536 + rd l 1 * 256 + rd l 2) ((l.take 3).length : Nat) ++ enc (l.drop 3) := by
  match l, h with
  | [a], _ => simp [enc, rd]
  | [a, b], _ => simp [enc, rd]
  | a :: b :: c :: r, _ => simp [enc, rd]
theorem qd_length (q n : Int) : (qd q n).length = 4 := rfl
theorem enc_length (l : List Int) : (enc l).length = (l.length + 2) / 3 * 4 := by
  match l with
  | [] => rfl
  | [a] => simp [enc, qd_length]
  | [a, b] => simp [enc, qd_length]
  | a :: b :: c :: r => have := enc_length r; simp only [enc, List.length_append, qd_length, List.length_cons, this]; omega

theorem i64_and63 (x : Int) (h : 0 ≤ x) (h1 : x < 4611686018427387904) : Go.bits .and .i64 x 63 = x % 64 := bits_mask .i64 62 (by decide) (fun n h₀ h₁ => by rw [IntKind.wrap_i64]; omega) 6 (by decide) x h h1
theorem quad_bits (x y z : Int) (hx : 0 ≤ x) (hx1 : x < 256) (hy : 0 ≤ y) (hy1 : y < 256) (hz : 0 ≤ z) (hz1 : z < 256) :
    Go.bits .or .i64 (Go.bits .or .i64 (x * 65536) (y * 256)) z = x * 65536 + y * 256 + z := by
  have hw : ∀ n : Int, 0 ≤ n → n < 2 ^ 62 → IntKind.i64.wrap n = n := fun n h₀ h₁ => by rw [IntKind.wrap_i64]; omega
  rw [bits_join .i64 62 (by decide) hw 16 (x * 65536) (y * 256) (by omega) (by omega) (by omega) (by omega) (by omega) (by omega)]
  rw [bits_join .i64 62 (by decide) hw 8 _ z (by omega) (by omega) (by omega) (by omega) (by omega) (by omega)]
theorem first3 (rest : List Int) (i : Nat) (h : i < 3) : (splice [Value.int .u8 0, Value.int .u8 0, Value.int .u8 0] 0 (nums .u8 (rest.take 3)))[i]? = some (.int .u8 (rd rest i)) := by
  match rest with
  | [] => match i, h with
    | 0, _ => rfl
    | 1, _ => rfl
    | 2, _ => rfl
  | [a] => match i, h with
    | 0, _ => rfl
    | 1, _ => rfl
    | 2, _ => rfl
  | [a, b] => match i, h with
    | 0, _ => rfl
    | 1, _ => rfl
    | 2, _ => rfl
  | a :: b :: c :: r => match i, h with
    | 0, _ => rfl
    | 1, _ => rfl
    | 2, _ => rfl

theorem at_dst (n : Tmp) {P : Program} {ops : Array Oper} {Q : Exit → Act → World → Prop} {rest : List Oper} {a : Act} {w : World} {op : Op} {ty : TypeId} {pos : String} {af : Array Edge} {g : Option (Nat × Bool)}
    (h : wpList P ops Q (⟨some n, op, ty, pos, af, g⟩ :: rest) a w) : wpList P ops Q (⟨some n, op, ty, pos, af, g⟩ :: rest) a w := h
theorem bldF_below {T e : TypeId} {B b : Nat} {bs : List Value} {w w' : World} (h : Lib.IsBuilderF T e B b bs w) (hb : Below w.heap.size w w') : Lib.IsBuilderF T e B b bs w' := by
  have hg : w.grownBy w' none := ⟨hb.os, hb.tape, hb.output, hb.size, fun k hk _ => hb.block k hk⟩
  have go : ∀ p, Lib.BuilderAtF T e B b p bs w → Lib.BuilderAtF T e B b p bs w' := by
    intro p h
    have hlt := h.lt
    obtain ⟨hB, v, hbk, hown, hne⟩ := h
    exact ⟨hB, v, (hb.block b hlt).trans hbk, hown.kept hg (by cases hv : v.ownBlock <;> simp), hne⟩
  exact h.elim (fun x => .inl (go _ x)) (fun x => .inr (go _ x))
theorem tab_kept {e : TypeId} {b : Option Nat} {w w' : World} (h : Lib.OthersKept e b w w') {k : Nat} {cs : Array Value} {T : TypeId} (hk : w.heap[k]? = some (.cells cs T (0, 0))) (hb : some k ≠ b) (hT : T ≠ e) : w'.heap[k]? = some (.cells cs T (0, 0)) :=
  h k _ hk hb (fun c fz he => by injection he with _ h2 _; exact hT h2)
theorem qd_take {acc : List Int} {Q N x : Int} (j : Nat) (h : (qd Q N)[j]? = some x) : nums .u8 (acc ++ (qd Q N).take j) ++ [.int .u8 x] = nums .u8 (acc ++ (qd Q N).take (j + 1)) := by
  rw [List.take_add_one, h, ← List.append_assoc, nums_append _ (acc ++ _)]
  rfl
theorem drop3 (rest : List Int) {N : Nat} (h : N = (rest.take 3).length) : rest.drop N = rest.drop 3 := by
  rw [h, List.length_take]
  rcases Nat.lt_or_ge rest.length 3 with h3 | h3
  · rw [Nat.min_eq_right (by omega), List.drop_eq_nil_of_le (Nat.le_refl _), List.drop_eq_nil_of_le (by omega)]
  · rw [Nat.min_eq_left h3]
theorem rd_range {l : List Int} (h : ∀ x ∈ l, 0 ≤ x ∧ x < 256) (i : Int) : 0 ≤ rd l i ∧ rd l i < 256 := by
  unfold rd
  rw [List.getD_eq_getElem?_getD]
  cases hx : l[i.toNat]? with
  | none => simp
  | some x => exact h x (List.mem_of_getElem? hx)

theorem qd_range (Q N : Int) : ∀ x ∈ qd Q N, 0 ≤ x ∧ x < 256 := by
  have hs : ∀ n, 0 ≤ sg n ∧ sg n < 256 := fun n => rd_range (by decide) n
  intro x hx
  simp only [qd, List.mem_cons, List.not_mem_nil, or_false] at hx
  rcases hx with rfl | rfl | rfl | rfl
  · exact hs _
  · exact hs _
  · split
    · decide
    · exact hs _
  · split
    · decide
    · exact hs _
theorem enc_range (l : List Int) : ∀ x ∈ enc l, 0 ≤ x ∧ x < 256 := by
  match l with
  | [] => simp [enc]
  | [a] => simp only [enc]; exact qd_range _ _
  | [a, b] => simp only [enc]; exact qd_range _ _
  | a :: b :: c :: r =>
    have := enc_range r
    simp only [enc, List.mem_append]
    rintro x (hx | hx)
    · exact qd_range _ _ x hx
    · exact this x hx
theorem nums_bytes (l : List Int) (h : ∀ x ∈ l, 0 ≤ x ∧ x < 256) : nums .u8 l = Lib.byteCells (Lib.bytesOf l) := by
  simp only [nums, Lib.byteCells, Lib.bytesOf, List.map_map]
  apply List.map_congr_left
  intro x hx
  have := h x hx
  simp only [Function.comp]
  rw [UInt8.toNat_ofNat_of_lt' (by simp [UInt8.size]; omega)]
  congr 1
  omega
theorem str_bytes (l : List Int) : (⟨(Lib.bytesOf l).toArray⟩ : ByteArray) = strOfNums l := by
  apply ByteArray.ext
  apply Array.ext'
  have := Lib.strOfNums_toList l
  rw [Lib.toList_data] at this
  rw [this]
def lenOfV : Value → Nat | .slice _ n _ => n | _ => 0
set_option maxHeartbeats 4000000 in
set_option maxRecDepth 100000 in
theorem encode_walk (A : Option Addr) (c : Nat) (l : List Int) (w : World) (hr : ReadsInt w .u8 A l.length l) (hc : l.length ≤ c) (hw : ∀ x ∈ l, 0 ≤ x ∧ x < 256) (hl : l.length ≤ 1000000000) :
    Calls Tryd.prog 12 #[.slice A l.length c] w fun e w' => e = .returned (.string (strOfNums (enc l))) ∧ Below w.heap.size w w' := by
  go_enter Tryd.func12, Tryd.ntmps12
  go_wp2_with (go_at_call 18; refine (signs _).mono ?_; rintro e w1 ⟨rfl, rfl⟩)
  obtain ⟨i0, hi, hz0, hz1, hz2⟩ := info_parts Bld.infoByte
  go_loopw [0] (fun v wr => ∃ (A' : Option Addr) (c' : Nat) (rest acc : List Int), v = .slice A' rest.length c' ∧ Hid (enc l = acc ++ enc rest) ∧ ReadsInt w .u8 A' rest.length rest ∧ rest.length ≤ c' ∧ (∀ x ∈ rest, 0 ≤ x ∧ x < 256) ∧ acc.length + 4 * rest.length ≤ 4 * l.length ∧
      Hid (Lib.IsBuilderF 37 5 w.heap.size w.heap.size (nums .u8 acc) wr) ∧ Hid (wr.heap[w.heap.size + 1]? = some (.cells tabV 49 (0, 0))) ∧ Below w.heap.size w wr)
    (fun v _ => lenOfV v)
  case atStart =>
    refine ⟨A, c, l, [], rfl, rfl, hr, hc, hw, by simp, ?_, ?_, ?_⟩
    · exact (Lib.IsBuilderF.of (Lib.fresh_isBuilder _ _ w)).alloc _
    · have := heap_alloc_new (w.alloc (.cells #[.pointer none, .slice none 0 0] 37)) (.cells tabV 49)
      exact (show _ = _ by simpa using this)
    · exact ((Below.refl _ _).alloc (Nat.le_refl _) _).alloc (by simp) _
  case round =>
    obtain ⟨wo, rfl⟩ : ∃ wo : World, wo = wr := ⟨_, rfl⟩
    obtain ⟨A', c', rest, acc, rfl, he, hrr, hcc, hww, hll, hbd, htb, hb⟩ := hrel
    by_cases h0 : rest = []
    · subst h0
      have hB := hbd.out
      have hA : enc l = acc := by have := he.out; simpa [enc] using this
      have HA := Lib.hid hA
      rw [nums_bytes acc (by rw [← hA]; exact enc_range l)] at hB
      have hB2 : Hid (Lib.IsBuilderF 37 5 w.heap.size w.heap.size (Lib.byteCells (Lib.bytesOf acc)) wo) := hB
      clear hA hB he hbd hcc hrr
      have hsz : w.heap.size ≤ wo.heap.size := hb.size
      simp only [List.length_nil]
      go_wp2_with (fail)
      refine (Tryd.Builder_String_any_k w.heap.size w.heap.size (Lib.bytesOf acc) _ hB2.out hsz).mono ?_
      rintro e w3 ⟨rfl, _, hl3, _⟩
      go_wp2
      go_ret
      exact ⟨by rw [str_bytes]; exact congrArg (fun z => Ending.returned (Value.string (strOfNums z))) HA.out.symm, hb.trans hl3⟩
    · have hpos : 0 < rest.length := List.length_pos_iff.2 h0
      obtain ⟨N, hN⟩ : ∃ N : Nat, N = (rest.take 3).length := ⟨_, rfl⟩
      have hN1 : 1 ≤ N := by rw [hN]; simp; omega
      have hN3 : N ≤ 3 := by rw [hN]; simp; omega
      have hNr : N ≤ rest.length := by rw [hN]; simp; omega
      have hx0 : 0 ≤ rd rest 0 ∧ rd rest 0 < 256 := rd_range hww 0
      have hx1 : 0 ≤ rd rest 1 ∧ rd rest 1 < 256 := rd_range hww 1
      have hx2 : 0 ≤ rd rest 2 ∧ rd rest 2 < 256 := rd_range hww 2
      obtain ⟨hx00, hx01⟩ := hx0
      obtain ⟨hx10, hx11⟩ := hx1
      obtain ⟨hx20, hx21⟩ := hx2
      have hq := quad_bits (rd rest 0) (rd rest 1) (rd rest 2) hx00 hx01 hx10 hx11 hx20 hx21
      obtain ⟨Q, hQ⟩ : ∃ Q, rd rest 0 * 65536 + rd rest 1 * 256 + rd rest 2 = Q := ⟨_, rfl⟩
      have hQ0 : 0 ≤ Q := by omega
      have hQ1 : Q < 16777216 := by omega
      rw [hQ] at hq
      have HQ := Lib.hid hQ
      have HN := Lib.hid hN
      obtain ⟨A2, hcut, hcr, hcc2⟩ := print_cut_int (P := Tryd.prog) (k := .u8) 29 5 Tryd.underlying29 hi hz1 A' c' rest (N : Int) (by omega) (by omega) hcc
      simp only [Int.toNat_natCast] at hcut hcr hcc2
      have HR := hcr w hrr
      clear hN hQ hcr
      go_wp2_with ((with_reducible refine at_dst 15 ?_); go_must (refine wpList_copy_splice rfl (.tmp 13) (.tmp 14) 29 29 rfl 5 Tryd.underlying29 (by rw [hi]; exact congrArg some hz1) _ _ _ _ _ _ rfl rfl wo.heap.size 0 [.int .u8 0, .int .u8 0, .int .u8 0] 44 (by exact heap_alloc_new _ _) (nums .u8 (rest.take 3)) ?c1 ?c2 ?c3 ?c4 wo.heap.size wo (by exact (Below.refl _ _).alloc (Nat.le_refl _) _) (Nat.le_refl _) ?_))
      case c1 => simp [nums, Nat.min_comm]
      case c2 =>
        intro _
        obtain ⟨ad, e1, e2⟩ := hrr.2.2 hpos
        refine ⟨ad, e1, fun j v hj => ?_⟩
        have hj2 : j < 3 ∧ j < rest.length := by
          have := (List.getElem?_eq_some_iff.1 hj).1
          simp [nums] at this
          omega
        rw [nums, List.getElem?_map, List.getElem?_take, if_pos hj2.1, List.getElem?_eq_getElem hj2.2] at hj
        have h3 := e2 j hj2.2
        rw [List.getD_eq_getElem?_getD, List.getElem?_eq_getElem hj2.2] at h3
        rw [← Option.some.inj hj]
        have h4 := pw_cell_below hb h3
        have hlt := World.block_lt_of_cell? wo _ h4
        rw [World.cell?_alloc_lt _ _ _ hlt]
        exact h4
      case c3 => simp [nums]; omega
      case c4 => intro v hv; obtain ⟨x, _, rfl⟩ := List.mem_map.1 hv; rfl
      intro w2 hg2 hb2
      have d0 : w2.cell? ⟨wo.heap.size, 0, none⟩ = some (.int .u8 (rd rest 0)) := by rw [Lib.cell_of_heap hg2.out, List.getElem?_toArray]; exact first3 rest 0 (by omega)
      have d1 : w2.cell? ⟨wo.heap.size, 1, none⟩ = some (.int .u8 (rd rest 1)) := by rw [Lib.cell_of_heap hg2.out, List.getElem?_toArray]; exact first3 rest 1 (by omega)
      have d2 : w2.cell? ⟨wo.heap.size, 2, none⟩ = some (.int .u8 (rd rest 2)) := by rw [Lib.cell_of_heap hg2.out, List.getElem?_toArray]; exact first3 rest 2 (by omega)
      have hln : (nums .u8 (rest.take 3)).length = N := by rw [HN.out]; simp [nums]
      have hbd2 : Hid (Lib.IsBuilderF 37 5 w.heap.size w.heap.size (nums .u8 acc) w2) := bldF_below hbd.out hb2
      have htb2 : Hid (w2.heap[w.heap.size + 1]? = some (.cells tabV 49 (0, 0))) := (hb2.block _ (by have := (Array.getElem?_eq_some_iff.1 htb.out).1; omega)).trans htb.out
      have hb3 : Below w.heap.size w w2 := hb.trans (hb2.mono hb.size)
      clear hbd htb hg2
      rw [hln]
      clear hln
      go_wp2
      go_loopw [32] (fun kv wq => ∃ (j : Nat), j ≤ 4 ∧ kv = .int .i64 j ∧ Hid (Lib.IsBuilderF 37 5 w.heap.size w.heap.size (nums .u8 (acc ++ (qd Q N).take j)) wq) ∧ Hid (wq.heap[w.heap.size + 1]? = some (.cells tabV 49 (0, 0))) ∧ Below w.heap.size w wq)
        (fun kv _ => 4 - (intOf kv).toNat)
      case atStart => exact ⟨0, by omega, rfl, by simpa using hbd2, htb2, hb3⟩
      case round =>
        obtain ⟨j, hj, rfl, hbq, htq, hbl⟩ := hrel
        have hacc : acc.length + 4 ≤ 4000000000 := by omega
        have hsz : w.heap.size ≤ wr.heap.size := hbl.size
        have hj4 : j = 0 ∨ j = 1 ∨ j = 2 ∨ j = 3 ∨ j = 4 := by omega
        have Hrest := Lib.hid he
        rcases hj4 with rfl | rfl | rfl | rfl | rfl
        · obtain ⟨V, hV⟩ : ∃ V, V = Q / 262144 % 64 := ⟨_, rfl⟩
          have hv := i64_and63 (Q / 262144) (by omega) (by omega)
          rw [← hV] at hv
          have hv0 : 0 ≤ V := by omega
          have hv1 : V < 64 := by omega
          have hcell : wr.cell? ⟨w.heap.size + 1, V.toNat, none⟩ = some (.int .u8 (sg V)) := by rw [Lib.cell_of_heap htq.out]; exact tabV_get _ (by omega)
          have HV : Hid ((qd Q N)[0]? = some (sg V)) := (show _ = _ by rw [hV]; simp [qd])
          clear hV
          have hN0 : decide ((N : Int) < 0) = false := decide_eq_false (by omega)
          have e0 : IntKind.i64.wrap 0 = 0 := by decide
          have e18 : IntKind.i64.wrap 18 = 18 := by decide
          go_wp2
          go_region_with (go_at_call 15; refine (Bld.writeByte_k w.heap.size w.heap.size (nums .u8 (acc ++ (qd Q N).take 0)) _ _ (by exact hbq.out) (by simp [nums]; omega) (by exact hsz)).mono ?_; rintro e w3 ⟨rfl, hb3, hl3, hk3⟩)
          go_wp2
          exact ⟨⟨1, by omega, by go_num, (.inr (by rw [← qd_take 0 HV.out]; exact hb3)), tab_kept hk3 (by exact htq.out) (by simp) (by decide), (by exact hbl.drew.trans hl3)⟩, by simp [intOf]⟩
        · obtain ⟨V, hV⟩ : ∃ V, V = Q / 4096 % 64 := ⟨_, rfl⟩
          have hv := i64_and63 (Q / 4096) (by omega) (by omega)
          rw [← hV] at hv
          have hv0 : 0 ≤ V := by omega
          have hv1 : V < 64 := by omega
          have hcell : wr.cell? ⟨w.heap.size + 1, V.toNat, none⟩ = some (.int .u8 (sg V)) := by rw [Lib.cell_of_heap htq.out]; exact tabV_get _ (by omega)
          have HV : Hid ((qd Q N)[1]? = some (sg V)) := (show _ = _ by rw [hV]; simp [qd])
          clear hV
          have hN0 : decide ((N : Int) < 1) = false := decide_eq_false (by omega)
          have e0 : IntKind.i64.wrap 0 = 0 := by decide
          have e6 : IntKind.i64.wrap 6 = 6 := by decide
          have e18 : IntKind.i64.wrap 12 = 12 := by decide
          go_wp2
          go_region_with (go_at_call 15; refine (Bld.writeByte_k w.heap.size w.heap.size (nums .u8 (acc ++ (qd Q N).take 1)) _ _ (by exact hbq.out) (by simp [nums]; omega) (by exact hsz)).mono ?_; rintro e w3 ⟨rfl, hb3, hl3, hk3⟩)
          go_wp2
          exact ⟨⟨2, by omega, by go_num, (.inr (by rw [← qd_take 1 HV.out]; exact hb3)), tab_kept hk3 (by exact htq.out) (by simp) (by decide), (by exact hbl.drew.trans hl3)⟩, by simp [intOf]⟩
        · by_cases hp : N < 2
          · have HV : Hid ((qd Q N)[2]? = some 61) := (show _ = _ by simp [qd]; omega)
            have hN0 : decide ((N : Int) < 2) = true := decide_eq_true (by omega)
            go_wp2_with (go_at_call 15; refine (Bld.writeByte_k w.heap.size w.heap.size (nums .u8 (acc ++ (qd Q N).take 2)) _ _ hbq.out (by simp [nums]; omega) hsz).mono ?_; rintro e w3 ⟨rfl, hb3, hl3, hk3⟩)
            exact ⟨⟨3, by omega, by go_num, (.inr (by rw [← qd_take 2 HV.out]; exact hb3)), tab_kept hk3 htq.out (by simp) (by decide), hbl.trans hl3⟩, by simp [intOf]⟩
          · have hp' : ¬ (N : Int) < 2 := by omega
            obtain ⟨V, hV⟩ : ∃ V, V = Q / 64 % 64 := ⟨_, rfl⟩
            have hv := i64_and63 (Q / 64) (by omega) (by omega)
            rw [← hV] at hv
            have hv0 : 0 ≤ V := by omega
            have hv1 : V < 64 := by omega
            have hcell : wr.cell? ⟨w.heap.size + 1, V.toNat, none⟩ = some (.int .u8 (sg V)) := by rw [Lib.cell_of_heap htq.out]; exact tabV_get _ (by omega)
            have HV : Hid ((qd Q N)[2]? = some (sg V)) := (show _ = _ by rw [hV]; simp [qd, hp'])
            clear hV
            have hN0 : decide ((N : Int) < 2) = false := decide_eq_false (by omega)
            have e0 : IntKind.i64.wrap 0 = 0 := by decide
            have e6 : IntKind.i64.wrap 12 = 12 := by decide
            have e18 : IntKind.i64.wrap 6 = 6 := by decide
            go_wp2
            go_region_with (go_at_call 15; refine (Bld.writeByte_k w.heap.size w.heap.size (nums .u8 (acc ++ (qd Q N).take 2)) _ _ (by exact hbq.out) (by simp [nums]; omega) (by exact hsz)).mono ?_; rintro e w3 ⟨rfl, hb3, hl3, hk3⟩)
            go_wp2
            exact ⟨⟨3, by omega, by go_num, (.inr (by rw [← qd_take 2 HV.out]; exact hb3)), tab_kept hk3 (by exact htq.out) (by simp) (by decide), (by exact hbl.drew.trans hl3)⟩, by simp [intOf]⟩
        · by_cases hp : N < 3
          · have HV : Hid ((qd Q N)[3]? = some 61) := (show _ = _ by simp [qd]; omega)
            have hN0 : decide ((N : Int) < 3) = true := decide_eq_true (by omega)
            go_wp2_with (go_at_call 15; refine (Bld.writeByte_k w.heap.size w.heap.size (nums .u8 (acc ++ (qd Q N).take 3)) _ _ hbq.out (by simp [nums]; omega) hsz).mono ?_; rintro e w3 ⟨rfl, hb3, hl3, hk3⟩)
            exact ⟨⟨4, by omega, by go_num, (.inr (by rw [← qd_take 3 HV.out]; exact hb3)), tab_kept hk3 htq.out (by simp) (by decide), hbl.trans hl3⟩, by simp [intOf]⟩
          · have hp' : ¬ (N : Int) < 3 := by omega
            obtain ⟨V, hV⟩ : ∃ V, V = Q % 64 := ⟨_, rfl⟩
            have hv := i64_and63 (Q) (by omega) (by omega)
            rw [← hV] at hv
            have hv0 : 0 ≤ V := by omega
            have hv1 : V < 64 := by omega
            have hcell : wr.cell? ⟨w.heap.size + 1, V.toNat, none⟩ = some (.int .u8 (sg V)) := by rw [Lib.cell_of_heap htq.out]; exact tabV_get _ (by omega)
            have HV : Hid ((qd Q N)[3]? = some (sg V)) := (show _ = _ by rw [hV]; simp [qd, hp'])
            clear hV
            have hN0 : decide ((N : Int) < 3) = false := decide_eq_false (by omega)
            have e0 : IntKind.i64.wrap 0 = 0 := by decide
            have e6 : IntKind.i64.wrap 18 = 18 := by decide
            go_wp2
            go_region_with (go_at_call 15; refine (Bld.writeByte_k w.heap.size w.heap.size (nums .u8 (acc ++ (qd Q N).take 3)) _ _ (by exact hbq.out) (by simp [nums]; omega) (by exact hsz)).mono ?_; rintro e w3 ⟨rfl, hb3, hl3, hk3⟩)
            go_wp2
            exact ⟨⟨4, by omega, by go_num, (.inr (by rw [← qd_take 3 HV.out]; exact hb3)), tab_kept hk3 (by exact htq.out) (by simp) (by decide), (by exact hbl.drew.trans hl3)⟩, by simp [intOf]⟩
        · have HR2 := Lib.hid (drop3 rest HN.out)
          have HE := Lib.hid (enc_round rest h0)
          go_wp2
          refine ⟨⟨A2, c' - N, rest.drop N, acc ++ qd Q N, by rw [List.length_drop], ?_, HR, by rw [List.length_drop]; omega, fun x hx => hww x (List.mem_of_mem_drop hx), by rw [List.length_append, List.length_drop, qd_length]; omega, ?_, htq, hbl⟩, by simp [lenOfV]; omega⟩
          · show _ = _
            rw [Hrest.out.out, HE.out, HR2.out, HQ.out, ← HN.out, List.append_assoc]
          · have := hbq.out
            rwa [List.take_of_length_le (by rw [qd_length]; omega)] at this

end Go.Proofs.YtbbikibgfpokpaaDoor.Rad
