/- OffsetLeast in plain Lean. -/
import Derived.Test.YtamloclgignfgaaPAx15
import Derived.Test.YtamloclgignfgaaRowA
import Derived.Test.YtamloclgignfgaaOb
namespace Go.Proofs.Ytamloclgignfgaa.PA
open Go.RowKit Go.Proofs.YtamloclgignfgaaW.PrintWords Go.Proofs.YtamloclgignfgaaW.PrintLast Go.Proofs.YtamloclgignfgaaW.PrintMore
set_option linter.unusedVariables false
set_option linter.unusedSimpArgs false

theorem OffsetLeast_pure (a0 : Int) (l1 : List S40) (l2 : List Int) (h0 : I64 a0) (h1 : (∀ e ∈ l1, I64 e.f0 ∧ I64 e.f1 ∧ I64 e.f2) ∧ l1.length ≤ 9223372036854775807) (h2 : (∀ x ∈ l2, I64 x) ∧ l2.length ≤ 9223372036854775807) : ∃ k, orrerylaw20_OffsetLeast.f k a0 l1 l2 = some true := by
  refine Ev.rounds (g := fun k => orrerylaw20_OffsetLeast.f k a0 l1 l2) ?_
  unfold orrerylaw20_OffsetLeast.f
  have hT := Ev_Told a0 l1 l2 h1.2
  by_cases hb : toldB a0 l1 l2 = true
  · obtain ⟨o, ho, hL, hO⟩ := Ev_LeastOff hb
    rw [hb] at hT
    refine Ev.bind hO (Ev.bind hT ?_)
    simp only [if_true]
    refine Ev.bind (Ev_Table (toldB_right hb)) (Ev.bind hL ?_)
    obtain ⟨ha, T⟩ := toldB_whole hb
    have hn := T.hn
    rcases o with _ | ⟨c, d⟩
    · simp [outL, outO]; exact Ev.now _
    · have hd := ho.2.2.1.1
      have hc := ho.1
      simp only [outL, outO, if_true]
      exact Ev.bind (Ev_Ints c (by omega)) (by simp only [if_true]; exact Ev.bind (Ev_Ints d (by omega)) (Ev.now _))
  · have hbf : toldB a0 l1 l2 = false := by simpa using hb
    rw [hbf] at hT
    refine Ev.bind (Ev_OffBad hbf) (Ev.bind hT ?_)
    simp
    exact Ev.now _
end Go.Proofs.Ytamloclgignfgaa.PA
