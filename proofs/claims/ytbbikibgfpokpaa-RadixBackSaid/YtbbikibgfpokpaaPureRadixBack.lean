/- RadixBack, the plain law: bytes are read from their text as they were; what is read has just that text. No conditions. -/
import Derived.Test.YtbbikibgfpokpaaRadQ
set_option linter.unusedVariables false
namespace Go.Proofs.Ytbbikibgfpokpaa.Pure
open Go.RowKit Go.Proofs.Ytbbikibgfpokpaa.PRad Go.Proofs.YtbbikibgfpokpaaW.PrintWords Go.Proofs.YtbbikibgfpokpaaW.PrintLast Go.Proofs.Ytbbikibgfpokpaa.Rad

theorem RadixBack : lanyardlaw02_RadixBack.Pure := by
  intro l0 a1 hm h8 hw ha
  have hb : Byt l0 := fun x hx => by have := hw x hx; simp [Lit.wf, IntKind.min, IntKind.max, IntKind.signed, IntKind.bits] at this; omega
  unfold lanyardlaw02_RadixBack.f lanyardlaw02_awake.f
  simp only [Option.bind_some]
  by_cases g0 : (l0.length : Int) > 1000
  · exact ⟨1, by rw [if_pos g0]; simp [lanyardlaw02_RadixBack.j0]⟩
  by_cases g1 : (a1.size : Int) > 1000
  · exact ⟨1, by rw [if_neg g0, decide_eq_true g1]; simp [lanyardlaw02_RadixBack.j0]⟩
  have hlen := enc_length l0
  have hdec := decode_enc l0 hb (by omega) 2000 (by omega)
  obtain ⟨r, ok, hd, ht⟩ := decode_any a1 ha
  have hd2 := decode_up _ _ _ hd (2000 - (a1.size + 1))
  rw [show a1.size + 1 + (2000 - (a1.size + 1)) = 2000 by omega] at hd2
  have hsz : decide ((a1.size : Int) > 1000) = false := decide_eq_false g1
  refine ⟨2001, ?_⟩
  rw [if_neg g0, hsz]
  simp only [lanyardlaw02_RadixBack.j0]
  have he : radix_Encode.f l0 = some (strOfNums (enc l0)) := by unfold radix_Encode.f; rw [if_pos ⟨by omega, hb⟩]
  have hwl : wrap64 (wrap64 (Int.tdiv (wrap64 ((l0.length : Int) + 2)) 3) * 4) = ((strOfNums (enc l0)).size : Int) := by
    rw [strOfNums_size, hlen]
    have e1 : wrap64 ((l0.length : Int) + 2) = (l0.length : Int) + 2 := by unfold wrap64; omega
    rw [e1, Int.tdiv_eq_ediv_of_nonneg (by omega)]
    have e2 : wrap64 (((l0.length : Int) + 2) / 3) = ((l0.length : Int) + 2) / 3 := by unfold wrap64; omega
    rw [e2]
    unfold wrap64
    omega
  rw [he]
  simp only [Option.bind_some]
  rw [hdec]
  simp only [Option.bind_some]
  rw [hd2]
  simp only [Option.bind_some, hwl, beq_self_eq_true, if_true]
  rcases ht with ⟨rfl, l, hl, hel, hrl⟩ | ⟨rfl, rfl, _⟩
  · rw [List.nil_append] at hrl
    subst hrl
    have hll : r.length ≤ 1000000000 := by
      have := congrArg List.length hel
      rw [enc_length, bytesOf_length] at this
      omega
    have he2 : radix_Encode.f r = some (strOfNums (enc r)) := by unfold radix_Encode.f; rw [if_pos ⟨hll, hl⟩]
    simp only [if_true]
    rw [he2]
    simp only [Option.bind_some]
    rw [hel, strOfNums_bytesOf]
    simp
  · simp

end Go.Proofs.Ytbbikibgfpokpaa.Pure
