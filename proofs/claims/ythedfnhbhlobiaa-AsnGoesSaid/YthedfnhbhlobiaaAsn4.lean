/- asn.Join, walked over its sort. -/
import Derived.Test.YthedfnhbhlobiaaAsn2
import Derived.Deep.QuietTactic
import Derived.BigQuiet
import Derived.RegionTactic
import Derived.ChangeAlike
import Derived.WalkMore
set_option linter.unusedVariables false
namespace Go.Proofs.Ythedfnhbhlobiaa.Asn
open Go.RowKit Go.Proofs.YthedfnhbhlobiaaW.PrintWords Go.Proofs.YthedfnhbhlobiaaW.PrintLast Go.Proofs.YthedfnhbhlobiaaW.PrintMore Go.Proofs.Ythedfnhbhlobiaa.PAsn
attribute [local go_sem] max2_int min2_int max_two min_two

def lastS (out : List S27) : S27 := out.getD (out.length - 1) z27
def stepS (out : List S27) (r : S27) : List S27 :=
  if r.f1 < r.f0 then out
  else if 0 < out.length ∧ ((lastS out).f1 = 4294967295 ∨ r.f0 ≤ (lastS out).f1 + 1) then out.set (out.length - 1) ⟨(lastS out).f0, if (lastS out).f1 < r.f1 then r.f1 else (lastS out).f1⟩
  else out ++ [r]
def OkS (l : List S27) : Prop := ∀ r, r ∈ l → 0 ≤ r.f0 ∧ r.f0 ≤ 4294967295 ∧ 0 ≤ r.f1 ∧ r.f1 ≤ 4294967295
/-- What the sort leaves. -/
def Sorted (l : List S27) (w w1 : World) (base g : Nat) : Prop := ∃ d : List S27, d.Perm l ∧ d.Pairwise (fun a b => a.f0 ≤ b.f0) ∧ Kd.C k27 w1 (some ⟨g, 0, none⟩) d.length d ∧ g < w1.heap.size ∧ Below base w w1

def JoinPost (l : List S27) (w : World) (e : Ending) (w' : World) : Prop := ∃ (v : Value) (d : List S27), e = .returned v ∧ d.Perm l ∧ d.Pairwise (fun a b => a.f0 ≤ b.f0) ∧ Kd.R k27 27 w' w.heap.size (fun _ => True) v (d.foldl stepS []) ∧ Below w.heap.size w w'
theorem fold_take (d : List S27) (k : Nat) (h : k < d.length) : (d.take (k + 1)).foldl stepS [] = stepS ((d.take k).foldl stepS []) d[k] := by
  rw [List.take_succ_eq_append_getElem h, List.foldl_append]
  rfl
theorem C_block {w w1 : World} {g n : Nat} {xs : List S27} (h : Kd.C k27 w (some ⟨g, 0, none⟩) n xs) (hb : w1.heap[g]? = w.heap[g]?) : Kd.C k27 w1 (some ⟨g, 0, none⟩) n xs := by
  refine ⟨h.1, h.2.1, fun hn => ?_⟩
  obtain ⟨ad, e, hc⟩ := h.2.2 hn
  injection e with e
  subst e
  refine ⟨_, rfl, fun j p hj => ?_⟩
  obtain ⟨c, h1, h2, h3⟩ := hc j p hj
  have := k27_open h2
  subst this
  refine ⟨_, h1, k27_mk _ p, fun i u hu => ?_⟩
  have h4 := h3 i u hu
  rw [World.cell?_of_block (w := w) (w' := w1)]
  · exact h4
  · have : ((⟨g, 0, none⟩ : Addr).add (j * k27.sz + i)).block = g := by unfold Addr.add; split <;> rfl
    rw [this, hb]

theorem ok_snoc {out : List S27} {p : S27} (h : OkS out) (hp : 0 ≤ p.f0 ∧ p.f0 ≤ 4294967295 ∧ 0 ≤ p.f1 ∧ p.f1 ≤ 4294967295) : OkS (out ++ [p]) := by
  intro r hr
  rcases List.mem_append.1 hr with hr | hr
  · exact h r hr
  · simp at hr
    subst hr
    exact hp
theorem ok_set {out : List S27} {p : S27} (h : OkS out) (hp : 0 ≤ p.f0 ∧ p.f0 ≤ 4294967295 ∧ 0 ≤ p.f1 ∧ p.f1 ≤ 4294967295) (m : Nat) : OkS (out.set m p) := by
  intro r hr
  rcases List.mem_or_eq_of_mem_set hr with hr | hr
  · exact h r hr
  · subst hr
    exact hp
theorem ownB {w : World} {base g : Nat} {v : Value} {xs : List S27} (h : Kd.R k27 27 w base (fun b => b ≠ g) v xs) : some g ≠ v.ownBlock := fun e => h.1 g e.symm rfl
theorem frozenB {w : World} {b : Nat} {cs : Array Value} {T : TypeId} (hb : w.heap[b]? = some (.cells cs T (0, 0))) (j : Nat) : w.frozen? ⟨b, j, none⟩ = false := by simp [World.frozen?, hb]
theorem add_at (g n : Nat) : (⟨g, 0, none⟩ : Addr).add n = ⟨g, n, none⟩ := by unfold Addr.add; split <;> simp_all
theorem cellsS {w : World} {g n : Nat} {xs : List S27} (h : Kd.C k27 w (some ⟨g, 0, none⟩) n xs) (k : Nat) (hk : k < xs.length) :
    w.cell? ⟨g, k * 2, none⟩ = some (.int .u32 xs[k].f0) ∧ w.cell? ⟨g, k * 2 + 1, none⟩ = some (.int .u32 xs[k].f1) := by
  have hn := h.1
  obtain ⟨ad, ha, c0, c1⟩ := at_T27 h (k : Int) (by omega) (by omega)
  have e1 := (Option.some.inj ha).symm
  subst e1
  rw [rdS hk] at c0 c1
  simp only [Int.toNat_natCast, add_at] at c0 c1
  exact ⟨c0, c1⟩

theorem putS {W : World} {base g n cap : Nat} {ok : Nat → Prop} {out : List S27} (h : Kd.R k27 27 W base ok (.slice (some ⟨g, 0, none⟩) n cap) out) (m : Nat) (hm : m < out.length) (q : S27) (hq : q = out[m]) (z : Int) :
    Kd.R k27 27 (W.setCell ⟨g, m * 2 + 1, none⟩ (.int .u32 z)) base ok (.slice (some ⟨g, 0, none⟩) n cap) (out.set m ⟨q.f0, z⟩) ∧ W.grownBy (W.setCell ⟨g, m * 2 + 1, none⟩ (.int .u32 z)) (some g) := by
  obtain ⟨hn, hnc, hc⟩ := Kd.R_reads' h
  have hcl := cellsS (n := n) (by subst hn; exact hc) m hm
  rw [← hq] at hcl
  have := Kd.R_seg h (m : Int) (by omega) (by omega) (c := [.int .u32 q.f0, .int .u32 q.f1]) (seg := [.int .u32 z]) (j := 1) (x' := ⟨q.f0, z⟩) (okp := fun _ => False) rfl (fun j u hu => by
      match j with
      | 0 => simp at hu; subst hu; exact hcl.1
      | 1 => simp at hu; subst hu; exact hcl.2
      | j + 2 => simp at hu) (Nat.le_refl 2) (k27_mkM _ _ _ ⟨q.f0, z⟩) (fun _ hk => hk.elim)
  exact this

set_option maxHeartbeats 2000000 in
set_option maxRecDepth 100000 in
theorem join_walk (A : Option Addr) (c : Nat) (l : List S27) (w : World) (hr : Kd.C k27 w A l.length l) (hc : l.length ≤ c) (hl : l.length ≤ 1000000000) (hok : OkS l)
    (hsort : ∀ (g cap base : Nat) (w : World), Kd.R k27 27 w base (fun _ => True) (.slice (some ⟨g, 0, none⟩) l.length cap) l →
      Calls Try.prog 18 #[.slice (some ⟨g, 0, none⟩) l.length cap, .func (.func 19) #[] #[]] w fun e w' => e = .returned (.tuple #[]) ∧ Sorted l w w' base g)
    (hpos : 0 < l.length) :
    Calls Try.prog 8 #[.slice A l.length c] w (JoinPost l w) := by
  have HS := Aside0.mk hsort
  clear hsort
  go_enter Try.func8, Try.ntmps8
  go_wp2
  go_step3
  go_wp2_with fail
  refine (clone_walk A c l w hr hc hl).mono ?_
  rintro e w1 ⟨v, rfl, ho1, hb1⟩
  obtain ⟨g, cap, rfl, hgB, hgl, _⟩ := Kd.R_form ho1 hpos
  go_wp2_with fail
  refine (HS.out g cap w.heap.size w1 ho1).mono ?_
  rintro e w2 ⟨rfl, d, hperm, hpw, hcd, hg2, hb12⟩
  have hb2 := hb1.trans hb12
  have hdl : d.length = l.length := hperm.length_eq
  have HD := Aside0.mk hperm
  have HP := Aside0.mk hpw
  have HC := Aside0.mk hcd
  have hokd : OkS d := fun r h => hok r (hperm.mem_iff.1 h)
  rw [← hdl]
  have hld : d.length ≤ 1000000000 := by omega
  clear hperm hpw hcd hdl hr ho1 hok hb1 hb12 HS hc hl hpos
  go_wp2
  go_step3
  go_wp2
  go_loopw [4, 14] (fun ov i wr => ∃ (k : Nat) (out : List S27), k ≤ d.length ∧ i = .int .i64 k ∧ Hid (out = (d.take k).foldl stepS []) ∧ OkS out ∧ out.length ≤ k ∧ Aside0 (Kd.R k27 27 wr w.heap.size (fun b => b ≠ g) ov out) ∧ Hid (wr.heap[g]? = w2.heap[g]?) ∧ g < wr.heap.size ∧ Below w.heap.size w wr)
    (fun _ i _ => d.length - (intOf i).toNat)
  case atStart => exact ⟨0, [], by omega, rfl, rfl, (fun r h => by cases h), by simp, ⟨Kd.R_nil _ _ _ _ _⟩, rfl, hg2, hb2⟩
  case round =>
    obtain ⟨k, out, hk, rfl, hout, hoko, hlo, ho, hgr, hgw, hb⟩ := hrel
    by_cases hlt : k < d.length
    · obtain ⟨c0, c1⟩ := cellsS (C_block HC.out hgr.out) k hlt
      obtain ⟨p, hp⟩ : ∃ p, p = d[k] := ⟨_, rfl⟩
      have hop := hokd d[k] (List.getElem_mem hlt)
      rw [← hp] at c0 c1 hop
      have hft := fold_take d k hlt
      rw [← hout.out, ← hp] at hft
      have HF := Lib.hid hft
      obtain ⟨p0, p1, p2, p3⟩ := hop
      have hd : decide ((k : Int) < (d.length : Int)) = true := decide_eq_true (by omega)
      clear hp hout hft
      by_cases hpp : p.f1 < p.f0
      · have hs : stepS out p = out := by unfold stepS; rw [if_pos hpp]
        rw [hs] at HF
        go_wp2
        exact ⟨⟨k + 1, out, by omega, by go_num, HF.symm, hoko, by omega, ⟨Kd.R_alloc ho.out _⟩, (Below.heap_alloc wr _ g hgw).trans hgr.out, by simp; omega, below_alloc hb _⟩, by simp [intOf]; omega⟩
      have hpd : decide (p.f1 < p.f0) = false := decide_eq_false hpp
      obtain ⟨A4, c4, e4⟩ := Kd.R_slice ho.out
      subst e4
      have hnb := ownB ho.out
      by_cases h0 : out.length = 0
      · have hout0 : out = [] := List.eq_nil_of_length_eq_zero h0
        have hs : stepS out p = out ++ [p] := by unfold stepS; rw [if_neg hpp, if_neg (fun h => by omega)]
        rw [hs] at HF
        have hok2 : OkS (out ++ [p]) := ok_snoc hoko ⟨p0, p1, p2, p3⟩
        subst hout0
        clear h0 hs
        go_wp2
        go_quiet (fail)
        go_wp2_with (((with_reducible refine at_dst 62 ?_); go_must (refine Kd.R_append k27 (w0 := w) w.heap.size rfl (.tmp 59) (.tmp 61) 22 27 (.agg #[.int .u32 0, .int .u32 0]) 8 rfl Try.underlying22 info27 rfl (by decide) (by omega) (.slice A4 0 c4) [] p [.int .u32 p.f0, .int .u32 p.f1] (fun b => b ≠ g) (fun _ => False) (by rfl) (by first | rfl | (simp [Act.eval]; done)) (k27_mkM _ _ _ p) (fun _ h => h.elim) (fun b hb9 => by simp at hb9; omega) (by (with_reducible repeat (first | apply Kd.R_alloc | apply Kd.R_drewN | apply Kd.R_drew)); exact ho.out) (by repeat (first | exact hb | apply below_alloc | apply pw_below_drewN | apply below_drew1)) (by have := hb.size; simp; omega) (by omega) ?_); intro v3 w3 ho3 hb3 hg3 hat3; have HO3 := Aside0.mk ho3; have HB3 := Aside0.mk hb3; have HG3 := Aside0.mk hg3; clear ho3 hb3 hg3 hat3))
        exact ⟨⟨k + 1, [] ++ [p], by omega, by go_num, HF.symm, hok2, by simp, ⟨HO3.out⟩, (HG3.out.block g (by simp; omega) (by exact hnb)).trans ((Below.heap_alloc wr _ g hgw).trans hgr.out), by have := HG3.out.size; simp at this; omega, HB3.out⟩, by simp [intOf]; omega⟩
      · obtain ⟨gb, cap4, e4, hgbB, hgbl, cells, hcells⟩ := Kd.R_form ho.out (by omega)
        have e5 := e4
        injection e4 with e4 _ e6
        subst e4
        subst e6
        obtain ⟨m, hm⟩ : ∃ m, out.length = m + 1 := ⟨out.length - 1, by omega⟩
        have hml : m < out.length := by omega
        have hlast : lastS out = out[m] := by
          unfold lastS
          rw [hm, Nat.add_sub_cancel, List.getD_eq_getElem?_getD, List.getElem?_eq_getElem hml]
          rfl
        have hr4 := (Kd.R_reads' ho.out).2.2
        obtain ⟨q0, q1⟩ := cellsS hr4 m hml
        have hqo := hoko out[m] (List.getElem_mem hml)
        obtain ⟨q, hq⟩ : ∃ q, q = out[m] := ⟨_, rfl⟩
        rw [← hq] at q0 q1 hqo hlast
        obtain ⟨z0, z1, z2, z3⟩ := hqo
        have hne : gb ≠ g := fun e => hnb (by simp [Value.ownBlock, e])
        have hfz : wr.frozen? ⟨gb, m * 2 + 1, none⟩ = false := frozenB hcells _
        have q0' : ∀ o, (wr.alloc o).cell? ⟨gb, m * 2, none⟩ = some (.int .u32 q.f0) := fun o => by rw [World.cell?_alloc_lt _ _ _ hgbl]; exact q0
        have q1' : ∀ o, (wr.alloc o).cell? ⟨gb, m * 2 + 1, none⟩ = some (.int .u32 q.f1) := fun o => by rw [World.cell?_alloc_lt _ _ _ hgbl]; exact q1
        have HM := Lib.hid hm
        have HO := Aside0.mk ho.out
        rw [hm] at HO
        rw [hm]
        have HQ := Lib.hid hlast
        have HQ2 := Lib.hid hq
        clear hm hq hlast ho hr4 e5 hcells h0
        by_cases hM : q.f1 = 4294967295
        · have hs : stepS out p = out.set m ⟨q.f0, if q.f1 < p.f1 then p.f1 else q.f1⟩ := by
            unfold stepS
            rw [if_neg hpp, HQ.out, if_pos ⟨by omega, .inl hM⟩, HM.out, Nat.add_sub_cancel]
          rw [hs] at HF
          have hd1 : (q.f1 == 4294967295) = true := beq_iff_eq.2 hM
          clear hs hM
          go_wp2
          go_quiet (fail)
          go_wp2
          go_region
          all_goals go_wp2
          obtain ⟨o9, hW⟩ : ∃ W, W = (wr.alloc (.cells #[.int .u32 p.f0, .int .u32 p.f1] 27)).drewN (nq + 1) := ⟨_, rfl⟩
          rw [← hW]
          have HR9 : Kd.R k27 27 o9 w.heap.size (fun b => b ≠ g) (.slice (some ⟨gb, 0, none⟩) (m + 1) c4) out := by rw [hW]; exact Kd.R_drewN (Kd.R_alloc HO.out _) _
          have HB9 : Below w.heap.size w o9 := by rw [hW]; exact pw_below_drewN (below_alloc hb _) _
          have hs9 : wr.heap.size < o9.heap.size := by rw [hW]; simp
          have hg9 : o9.heap[g]? = wr.heap[g]? := by rw [hW]; exact Below.heap_alloc wr _ g hgw
          clear hW
          obtain ⟨h1, h2⟩ := putS HR9 m hml q HQ2.out (if q.f1 < p.f1 then p.f1 else q.f1)
          refine ⟨⟨k + 1, _, by omega, by go_num, HF.symm, ok_set hoko (p := ⟨q.f0, if q.f1 < p.f1 then p.f1 else q.f1⟩) ⟨z0, z1, ?_, ?_⟩ m, by simp; omega, ⟨h1⟩, (h2.block g (by omega) (fun e => hne (by injection e with e; exact e.symm))).trans (hg9.trans hgr.out), by have := h2.size; omega, HB9.setCell (p := ⟨gb, m * 2 + 1, none⟩) hgbB _⟩, by simp [intOf]; omega⟩
          all_goals (dsimp only; split <;> assumption)
        · have hd1 : (q.f1 == 4294967295) = false := beq_eq_false_iff_ne.2 hM
          by_cases hL : p.f0 ≤ q.f1 + 1
          · have hs : stepS out p = out.set m ⟨q.f0, if q.f1 < p.f1 then p.f1 else q.f1⟩ := by
              unfold stepS
              rw [if_neg hpp, HQ.out, if_pos ⟨by omega, .inr hL⟩, HM.out, Nat.add_sub_cancel]
            rw [hs] at HF
            have hd2 : decide (p.f0 ≤ (q.f1 + 1) % 4294967296) = true := decide_eq_true (by omega)
            clear hs
            go_wp2
            go_quiet (fail)
            go_wp2
            go_region
            all_goals go_wp2
            obtain ⟨o9, hW⟩ : ∃ W, W = (wr.alloc (.cells #[.int .u32 p.f0, .int .u32 p.f1] 27)).drewN (nq + 1) := ⟨_, rfl⟩
            rw [← hW]
            have HR9 : Kd.R k27 27 o9 w.heap.size (fun b => b ≠ g) (.slice (some ⟨gb, 0, none⟩) (m + 1) c4) out := by rw [hW]; exact Kd.R_drewN (Kd.R_alloc HO.out _) _
            have HB9 : Below w.heap.size w o9 := by rw [hW]; exact pw_below_drewN (below_alloc hb _) _
            have hs9 : wr.heap.size < o9.heap.size := by rw [hW]; simp
            have hg9 : o9.heap[g]? = wr.heap[g]? := by rw [hW]; exact Below.heap_alloc wr _ g hgw
            clear hW
            obtain ⟨h1, h2⟩ := putS HR9 m hml q HQ2.out (if q.f1 < p.f1 then p.f1 else q.f1)
            refine ⟨⟨k + 1, _, by omega, by go_num, HF.symm, ok_set hoko (p := ⟨q.f0, if q.f1 < p.f1 then p.f1 else q.f1⟩) ⟨z0, z1, ?_, ?_⟩ m, by simp; omega, ⟨h1⟩, (h2.block g (by omega) (fun e => hne (by injection e with e; exact e.symm))).trans (hg9.trans hgr.out), by have := h2.size; omega, HB9.setCell (p := ⟨gb, m * 2 + 1, none⟩) hgbB _⟩, by simp [intOf]; omega⟩
            all_goals (dsimp only; split <;> assumption)
          · have hs : stepS out p = out ++ [p] := by
              unfold stepS
              rw [if_neg hpp, HQ.out, if_neg (fun h => h.2.elim hM hL)]
            rw [hs] at HF
            have hd2 : decide (p.f0 ≤ (q.f1 + 1) % 4294967296) = false := decide_eq_false (by omega)
            have hok2 : OkS (out ++ [p]) := ok_snoc hoko ⟨p0, p1, p2, p3⟩
            have hml2 : m + 1 ≤ 1000000000 := by have := HM.out; omega
            have hml3 : out.length = m + 1 := HM.out
            clear hs hM hL
            go_wp2
            go_quiet (fail)
            go_wp2_with (((with_reducible refine at_dst 62 ?_); go_must (refine Kd.R_append k27 (w0 := w) w.heap.size rfl (.tmp 59) (.tmp 61) 22 27 (.agg #[.int .u32 0, .int .u32 0]) 8 rfl Try.underlying22 info27 rfl (by decide) (by omega) (.slice (some ⟨gb, 0, none⟩) (m + 1) c4) out p [.int .u32 p.f0, .int .u32 p.f1] (fun b => b ≠ g) (fun _ => False) (by rfl) (by first | rfl | (simp [Act.eval]; done)) (k27_mkM _ _ _ p) (fun _ h => h.elim) (fun b hb9 => by simp at hb9; omega) (by (with_reducible repeat (first | apply Kd.R_alloc | apply Kd.R_drewN | apply Kd.R_drew)); exact HO.out) (by repeat (first | exact hb | apply below_alloc | apply pw_below_drewN | apply below_drew1)) (by have := hb.size; simp; omega) (by omega) ?_); intro v3 w3 ho3 hb3 hg3 hat3; have HO3 := Aside0.mk ho3; have HB3 := Aside0.mk hb3; have HG3 := Aside0.mk hg3; clear ho3 hb3 hg3 hat3))
            exact ⟨⟨k + 1, out ++ [p], by omega, by go_num, HF.symm, hok2, by simp; omega, ⟨HO3.out⟩, (HG3.out.block g (by simp; omega) (by exact hnb)).trans ((Below.heap_alloc wr _ g hgw).trans hgr.out), by have := HG3.out.size; simp at this; omega, HB3.out⟩, by simp [intOf]; omega⟩
    · have hkd : k = d.length := by omega
      subst hkd
      have ht : (d.take d.length).foldl stepS [] = d.foldl stepS [] := by rw [List.take_length]
      have hd : decide ((d.length : Int) < (d.length : Int)) = false := decide_eq_false (by omega)
      go_wp2
      try rw [Exit.noGoto_ret]
      go_ret
      exact ⟨_, d, rfl, HD.out, HP.out, by rw [← ht, ← hout.out]; exact Kd.R_mono ho.out (fun _ _ => trivial), hb⟩

end Go.Proofs.Ythedfnhbhlobiaa.Asn
