/- MatchAssigns in plain Lean. -/
import Derived.Test.YtamloclgignfgaaPAx24
import Derived.Test.YtamloclgignfgaaRowA
import Derived.Test.YtamloclgignfgaaMG
import Derived.Test.YtamloclgignfgaaAl
namespace Go.Proofs.Ytamloclgignfgaa.PA
open Go.RowKit Go.Proofs.YtamloclgignfgaaW.PrintWords Go.Proofs.YtamloclgignfgaaW.PrintLast Go.Proofs.YtamloclgignfgaaW.PrintMore
set_option linter.unusedVariables false
set_option linter.unusedSimpArgs false

theorem MatchAssigns_pure (a0 : Int) (l1 : List S40) (h0 : I64 a0) (h1 : (∀ e ∈ l1, I64 e.f0 ∧ I64 e.f1 ∧ I64 e.f2) ∧ l1.length ≤ 9223372036854775807) : ∃ k, orrerylaw19_MatchAssigns.f k a0 l1 = some true := by
  refine Ev.rounds (g := fun k => orrerylaw19_MatchAssigns.f k a0 l1) ?_
  unfold orrerylaw19_MatchAssigns.f match_Most.f
  have hR := Ev_Right a0 a0 l1 h1.2
  by_cases hb : rightB a0 a0 l1 = true
  · rw [hb] at hR
    obtain ⟨⟨ha0, ha1, _, _, hlen⟩, hed⟩ := rightB_iff a0 a0 l1 hb
    have hE : Edges a0.toNat a0.toNat l1 := fun e he => by have := hed e he; omega
    have hG := tabL_grid l1 hE
    have han : (a0.toNat : Int) = a0 := Int.toNat_of_nonneg ha0
    rcases Ev_Assign hb with ⟨L, p, q, O, hA⟩ | ⟨hno, hA⟩
    · refine Ev.bind hA (Ev.bind hR ?_)
      simp only [if_true]
      refine Ev.bind (Ev_Table hb) ?_
      have hLl := O.T.len
      obtain ⟨b, hb', hbi⟩ := Ev_Matching hG (by omega) L (by omega)
      rw [hbi.2 O.T.mat, han] at hb'
      refine Ev.bind hb' ?_
      simp only [if_true]
      have hs := Ev_Size L (by omega)
      rw [(sizeN_full hLl).2 (fun i a b => (O.T.rg i a b).1), han] at hs
      refine Ev.bind hs ?_
      simp only [if_true]
      exact Ev.bind (Ev_Better O) (Ev.now _)
    · refine Ev.bind hA (Ev.bind hR ?_)
      simp only [if_true]
      refine Ev.bind (Ev_Table hb) ?_
      simp only [show ¬ ((190 : Int) = 0) by omega, if_false, if_pos hb, Option.bind_some, if_true, List.length_nil, show ((0 : Nat) : Int) = 0 from rfl]
      obtain ⟨_, hM, D, hD⟩ := most_good hb
      have hml : (mostL a0.toNat a0.toNat l1).length = a0.toNat := by rw [hM.1, hG.1]
      obtain ⟨b, hb', hbi⟩ := Ev_Matching hG (by omega) (mostL a0.toNat a0.toNat l1) (by omega)
      rw [hbi.2 hM, han] at hb'
      refine Ev.bind hb' ?_
      simp only [if_true]
      have hMo := Ev_More hG (by omega) (by omega) _ hM D hD
      rw [han] at hMo
      refine Ev.bind hMo ?_
      simp only [Bool.false_eq_true, if_false]
      refine Ev.bind (Ev_Size _ (by omega)) ?_
      have hlt : sizeN (mostL a0.toNat a0.toNat l1) < a0.toNat := by
        have h3 := sizeN_le (mostL a0.toNat a0.toNat l1)
        by_cases e : sizeN (mostL a0.toNat a0.toNat l1) = a0.toNat
        · exact absurd (hM.whole (by omega) hlen hE ((sizeN_full hml).1 e)) (hno _)
        · omega
      rw [decide_eq_true (show (sizeN (mostL a0.toNat a0.toNat l1) : Int) < a0 by omega)]
      exact Ev.now _
  · have hbf : rightB a0 a0 l1 = false := by simpa using hb
    rw [hbf] at hR
    refine Ev.bind (Ev_AssignBad hbf) (Ev.bind hR ?_)
    simp
    exact Ev.now _
end Go.Proofs.Ytamloclgignfgaa.PA
