/- asn.Within, walked. -/
import Derived.Test.YthedfnhbhlobiaaAsn5
set_option linter.unusedVariables false
namespace Go.Proofs.Ythedfnhbhlobiaa.Asn
open Go.RowKit Go.Proofs.YthedfnhbhlobiaaW.PrintWords Go.Proofs.YthedfnhbhlobiaaW.PrintLast Go.Proofs.YthedfnhbhlobiaaW.PrintMore Go.Proofs.Ythedfnhbhlobiaa.PAsn
attribute [local go_sem] max2_int min2_int max_two min_two

theorem joinS_length {l : List S27} (h : OkS l) : (joinS l).length ≤ l.length := by
  have := Itv.join_length (l.map toR)
  rw [← joinS_map h, List.length_map, List.length_map] at this
  exact this
def liesIn (y : List S27) (r : S27) : Bool := y.any (fun s => decide (s.f0 ≤ r.f0) && decide (r.f1 ≤ s.f1))
def withinS (x y : List S27) : Bool := x.all (liesIn y)

set_option maxHeartbeats 4000000 in
set_option maxRecDepth 100000 in
theorem within_walk (A0 : Option Addr) (c0 : Nat) (l0 : List S27) (A1 : Option Addr) (c1 : Nat) (l1 : List S27) (w : World)
    (hr0 : Kd.C k27 w A0 l0.length l0) (hc0 : l0.length ≤ c0) (hl0 : l0.length ≤ 1000000000) (hok0 : OkS l0) (hr1 : Kd.C k27 w A1 l1.length l1) (hc1 : l1.length ≤ c1) (hl1 : l1.length ≤ 1000000000) (hok1 : OkS l1) :
    Calls Try.prog 13 #[.slice A0 l0.length c0, .slice A1 l1.length c1] w fun e w' => e = .returned (.bool (withinS (joinS l0) (joinS l1))) ∧ Below w.heap.size w w' := by
  have hx := Nat.le_trans (joinS_length hok0) hl0
  have hy := Nat.le_trans (joinS_length hok1) hl1
  obtain ⟨y, hy0⟩ : ∃ y, y = joinS l1 := ⟨_, rfl⟩
  obtain ⟨x, hx0⟩ : ∃ x, x = joinS l0 := ⟨_, rfl⟩
  rw [← hx0, ← hy0]
  rw [← hx0] at hx
  rw [← hy0] at hy
  have HX0 := Lib.hid hx0
  have HY0 := Lib.hid hy0
  clear hx0 hy0
  go_enter Try.func13, Try.ntmps13
  go_wp2
  go_step3
  go_wp2_with fail
  refine (joinC A1 c1 l1 w hr1 hc1 hl1 hok1).mono ?_
  rintro e w1 ⟨v1, rfl, ho1, hb1⟩
  rw [← HY0.out] at ho1
  obtain ⟨B1, d1, rfl⟩ := Kd.R_slice ho1
  have hr0' := Kd.C_below hr0 hb1
  have hy1 := (Kd.R_reads' ho1).2.2
  clear hr0 hr1 ho1
  go_wp2
  go_step3
  go_wp2_with fail
  refine (joinC A0 c0 l0 w1 hr0' hc0 hl0 hok0).mono ?_
  rintro e w2 ⟨v2, rfl, ho2, hb2⟩
  rw [← HX0.out] at ho2
  obtain ⟨B2, d2, rfl⟩ := Kd.R_slice ho2
  have hy2 := Kd.C_below hy1 hb2
  have hx2 := (Kd.R_reads' ho2).2.2
  have hbw : Below w.heap.size w w2 := hb1.trans (hb2.mono hb1.size)
  clear hr0' hy1 ho2 hb1 hb2
  go_wp2
  go_loopw [14] (fun i wr => ∃ k : Nat, k ≤ x.length ∧ i = .int .i64 k ∧ Hid (∀ j, ∀ h : j < x.length, j < k → liesIn y x[j] = true) ∧ Below w2.heap.size w2 wr) (fun i _ => x.length - (intOf i).toNat)
  case atStart => exact ⟨0, by omega, rfl, fun j _ h => by omega, Below.refl _ _⟩
  case round =>
    obtain ⟨k, hk, rfl, hyes, hb⟩ := hrel
    by_cases hlt : k < x.length
    · obtain ⟨ad, rfl, q0, q1⟩ := at_T27 (Kd.C_below hx2 hb) (k : Int) (by omega) (by omega)
      rw [rdS hlt] at q0 q1
      simp only [Int.toNat_natCast] at q0 q1
      have hd : decide ((k : Int) < (x.length : Int)) = true := decide_eq_true (by omega)
      obtain ⟨r, hr⟩ : ∃ r, r = x[k] := ⟨_, rfl⟩
      rw [← hr] at q0 q1
      have HP := Lib.hid hr
      clear hr
      have HX := Aside0.mk hx2
      clear hx2
      rename World => wo
      have HY := Aside0.mk hy2
      clear hy2
      have hwo : ∀ {W}, Below (wo.alloc (.cells #[.int .u32 r.f0, .int .u32 r.f1] 27)).heap.size (wo.alloc (.cells #[.int .u32 r.f0, .int .u32 r.f1] 27)) W → Below w2.heap.size w2 W := fun h => ((hb.alloc hb.size _)).trans (h.mono (by have := hb.size; simp; omega))
      go_wp2
      go_loopw [20] (fun i wr => ∃ m : Nat, m ≤ y.length ∧ i = .int .i64 m ∧ Hid (∀ j, ∀ h : j < y.length, j < m → (decide (y[j].f0 ≤ r.f0) && decide (r.f1 ≤ y[j].f1)) = false) ∧ Below (wo.alloc (.cells #[.int .u32 r.f0, .int .u32 r.f1] 27)).heap.size (wo.alloc (.cells #[.int .u32 r.f0, .int .u32 r.f1] 27)) wr) (fun i _ => y.length - (intOf i).toNat)
      case atStart => exact ⟨0, by omega, rfl, fun j _ h => by omega, Below.refl _ _⟩
      case round =>
        obtain ⟨m, hm, rfl, hno, hbi⟩ := hrel
        by_cases hlt2 : m < y.length
        · obtain ⟨ad2, rfl, s0, s1⟩ := at_T27 (Kd.C_below HY.out (hwo hbi)) (m : Int) (by omega) (by omega)
          rw [rdS hlt2] at s0 s1
          simp only [Int.toNat_natCast] at s0 s1
          have hd2 : decide ((m : Int) < (y.length : Int)) = true := decide_eq_true (by omega)
          obtain ⟨s, hs⟩ : ∃ s, s = y[m] := ⟨_, rfl⟩
          rw [← hs] at s0 s1
          have HS := Lib.hid hs
          clear hs
          have r0 : wr.cell? ⟨wo.heap.size, 0, none⟩ = some (.int .u32 r.f0) := by
            rw [World.cell?_of_block (w := wo.alloc (.cells #[.int .u32 r.f0, .int .u32 r.f1] 27)) (w' := wr) (hbi.block _ (by simp))]
            simp
          have r1 : wr.cell? ⟨wo.heap.size, 1, none⟩ = some (.int .u32 r.f1) := by
            rw [World.cell?_of_block (w := wo.alloc (.cells #[.int .u32 r.f0, .int .u32 r.f1] 27)) (w' := wr) (hbi.block _ (by simp))]
            simp
          have hwl : wo.heap.size < wr.heap.size := by have := hbi.size; simp at this; omega
          have r0' : ∀ o, (wr.alloc o).cell? ⟨wo.heap.size, 0, none⟩ = some (.int .u32 r.f0) := fun o => by rw [World.cell?_alloc_lt _ _ _ hwl]; exact r0
          have r1' : ∀ o, (wr.alloc o).cell? ⟨wo.heap.size, 1, none⟩ = some (.int .u32 r.f1) := fun o => by rw [World.cell?_alloc_lt _ _ _ hwl]; exact r1
          by_cases t1 : s.f0 ≤ r.f0
          · by_cases t2 : r.f1 ≤ s.f1
            · have e1 : decide (s.f0 ≤ r.f0) = true := decide_eq_true t1
              have e2 : decide (r.f1 ≤ s.f1) = true := decide_eq_true t2
              have hin : liesIn y x[k] = true := by
                unfold liesIn
                rw [List.any_eq_true]
                refine ⟨s, by rw [HS.out]; exact List.getElem_mem hlt2, ?_⟩
                rw [← HP.out, e1, e2]
                rfl
              have hyes2 : Hid (∀ j, ∀ h : j < x.length, j < k + 1 → liesIn y x[j] = true) := by
                refine Lib.hid fun j h hj => ?_
                by_cases hjk : j = k
                · subst hjk; exact hin
                · exact hyes.out j h (by omega)
              clear t1 t2 hin
              go_wp2
              exact ⟨⟨k + 1, by omega, by go_num, hyes2, (hwo hbi).alloc (by have := (hwo hbi).size; omega) _⟩, by simp [intOf]; omega⟩
            · have e1 : decide (s.f0 ≤ r.f0) = true := decide_eq_true t1
              have e2 : decide (r.f1 ≤ s.f1) = false := decide_eq_false t2
              have hno2 : Hid (∀ j, ∀ h : j < y.length, j < m + 1 → (decide (y[j].f0 ≤ r.f0) && decide (r.f1 ≤ y[j].f1)) = false) := by
                refine Lib.hid fun j h hj => ?_
                by_cases hjk : j = m
                · subst hjk; rw [← HS.out, e1, e2]; rfl
                · exact hno.out j h (by omega)
              clear t1 t2
              go_wp2
              exact ⟨⟨m + 1, by omega, by go_num, hno2, hbi.alloc hbi.size _⟩, by simp [intOf]; omega⟩
          · have e1 : decide (s.f0 ≤ r.f0) = false := decide_eq_false t1
            have hno2 : Hid (∀ j, ∀ h : j < y.length, j < m + 1 → (decide (y[j].f0 ≤ r.f0) && decide (r.f1 ≤ y[j].f1)) = false) := by
                refine Lib.hid fun j h hj => ?_
                by_cases hjk : j = m
                · subst hjk; rw [← HS.out, e1]; rfl
                · exact hno.out j h (by omega)
            clear t1
            go_wp2
            exact ⟨⟨m + 1, by omega, by go_num, hno2, hbi.alloc hbi.size _⟩, by simp [intOf]; omega⟩
        · have hmy : m = y.length := by omega
          subst hmy
          have hd2 : decide ((y.length : Int) < (y.length : Int)) = false := decide_eq_false (by omega)
          have hno3 : liesIn y x[k] = false := by
            unfold liesIn
            rw [List.any_eq_false]
            intro s hs
            obtain ⟨j, hj, rfl⟩ := List.mem_iff_getElem.1 hs
            have := hno.out j hj hj
            rw [HP.out] at this
            simp only [this]; simp
          have hw3 : withinS x y = false := by
            unfold withinS
            rw [List.all_eq_false]
            exact ⟨x[k], List.getElem_mem hlt, by rw [hno3]; simp⟩
          clear hno3
          go_wp2
          try rw [Exit.noGoto_ret]
          go_ret
          exact ⟨by rw [hw3]; rfl, hbw.trans ((hwo hbi).mono hbw.size)⟩
    · have hkx : k = x.length := by omega
      subst hkx
      have hd : decide ((x.length : Int) < (x.length : Int)) = false := decide_eq_false (by omega)
      have hw3 : withinS x y = true := by
        unfold withinS
        rw [List.all_eq_true]
        intro r hr
        obtain ⟨j, hj, rfl⟩ := List.mem_iff_getElem.1 hr
        exact hyes.out j hj hj
      go_wp2
      try rw [Exit.noGoto_ret]
      go_ret
      exact ⟨by rw [hw3]; rfl, hbw.trans (hb.mono hbw.size)⟩

def okB (l : List S27) : Bool := l.all (fun r => decide (0 ≤ r.f0 ∧ r.f0 ≤ 4294967295 ∧ 0 ≤ r.f1 ∧ r.f1 ≤ 4294967295))
theorem okB_iff (l : List S27) : okB l = true ↔ OkS l := by
  unfold okB OkS
  rw [List.all_eq_true]
  exact ⟨fun h r hr => by simpa using h r hr, fun h r hr => by simpa using h r hr⟩
def dom (l : List S27) : Bool := decide (l.length ≤ 1000000000) && okB l
theorem dom_iff (l : List S27) : dom l = true ↔ l.length ≤ 1000000000 ∧ OkS l := by
  unfold dom
  rw [Bool.and_eq_true, okB_iff, decide_eq_true_iff]

end Go.Proofs.Ythedfnhbhlobiaa.Asn
