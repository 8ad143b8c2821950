/- OffsetHeaviest in plain Lean. -/
import Derived.Test.YtamloclgignfgaaPAx37
import Derived.Test.YtamloclgignfgaaRowA
import Derived.Test.YtamloclgignfgaaOb
import Derived.Test.YtamloclgignfgaaOv
import Derived.Test.YtamloclgignfgaaAm
namespace Go.Proofs.Ytamloclgignfgaa.PA
open Go.RowKit Go.Proofs.YtamloclgignfgaaW.PrintWords Go.Proofs.YtamloclgignfgaaW.PrintLast Go.Proofs.YtamloclgignfgaaW.PrintMore
set_option linter.unusedVariables false
set_option linter.unusedSimpArgs false

theorem Fit.dn {n : Nat} {l : List S40} {L : List Int} (T : Whole n l L) {c d : Int → Int} (h : Fit (wt l) n L c d) : ∀ j : Int, 0 ≤ j → j < (n : Int) → 0 ≤ d j := fun j a b => by
  obtain ⟨i, i0, i1, rfl⟩ := T.onto a b
  exact h.d0 i i0 i1
theorem Fit.sum {n : Nat} {l : List S40} {L : List Int} (T : Whole n l L) {c d : Int → Int} (h : Fit (wt l) n L c d) : wsum n l L = (L.map d).sum + sm (fun i => - c i) n := by
  unfold wsum
  have h1 := sm_list d L
  rw [T.len] at h1
  rw [← h1, ← sm_add (fun i => d (rd L i)) (fun i => - c i) n]
  exact sm_congr n (fun i a b => by have := h.eq i a b; omega)
/-- What fits one whole matching: another one is no heavier, and as heavy only if it fits that, too. -/
theorem Fit.other {n : Nat} {l : List S40} {L L' : List Int} (T : Whole n l L) (T' : Whole n l L') {c d : Int → Int} (h : Fit (wt l) n L c d) : wsum n l L' ≤ wsum n l L ∧ (wsum n l L ≤ wsum n l L' → Fit (wt l) n L' c d) := by
  have hd := h.dn T
  have hs := T.sum_eq T' d hd
  have h1 := sm_list d L'
  rw [T'.len] at h1
  have hsum : wsum n l L = sm (fun i => d (rd L' i) + - c i) n := by rw [h.sum T, hs, ← h1, sm_add (fun i => d (rd L' i)) (fun i => - c i) n]
  have hle : ∀ i : Int, 0 ≤ i → i < (n : Int) → wt l i (rd L' i) ≤ d (rd L' i) + - c i := fun i a b => by
    obtain ⟨r0, r1, r2⟩ := T'.rg i a b
    have := h.le i _ a b r0 r1 r2
    omega
  refine ⟨by rw [hsum]; exact sm_le n hle, fun hh => ⟨h.c0, fun i a b => hd _ (T'.rg i a b).1 (T'.rg i a b).2.1, fun i a b => ?_, h.le⟩⟩
  have h2 := hle i a b
  by_cases e : wt l i (rd L' i) < d (rd L' i) + - c i
  · have h3 := sm_lt n hle i a b e
    rw [hsum] at hh
    unfold wsum at hh
    omega
  · omega
theorem OffsetHeaviest_pure (a0 : Int) (l1 : List S40) (l2 : List Int) (h0 : I64 a0) (h1 : (∀ e ∈ l1, I64 e.f0 ∧ I64 e.f1 ∧ I64 e.f2) ∧ l1.length ≤ 9223372036854775807) (h2 : (∀ x ∈ l2, I64 x) ∧ l2.length ≤ 9223372036854775807) : ∃ k, orrerylaw20_OffsetHeaviest.f k a0 l1 l2 = some true := by
  refine Ev.rounds (g := fun k => orrerylaw20_OffsetHeaviest.f k a0 l1 l2) ?_
  unfold orrerylaw20_OffsetHeaviest.f orrerylaw20_alive.f
  simp only [Option.bind_some, if_true]
  have jt : ∀ L, Ev (fun k => orrerylaw20_OffsetHeaviest.j0 k a0 l1 l2 L true) true := fun L => Ev.step (f := fun _ => some true) (fun k => by simp [orrerylaw20_OffsetHeaviest.j0]) (Ev.now _)
  by_cases hb : rightB a0 a0 l1 = true
  · rcases Ev_Assign hb with ⟨L, p, q, O, hA⟩ | ⟨_, hA⟩
    · refine Ev.bind hA ?_
      simp only [if_true]
      by_cases c30 : a0 > 30
      · rw [decide_eq_true c30]; exact jt L
      rw [decide_eq_false c30]
      obtain ⟨⟨ha0, ha1, _, _, hlen⟩, hed⟩ := rightB_iff a0 a0 l1 hb
      have T := O.T
      have hn := T.hn
      obtain ⟨o, ho, _, hO⟩ := Ev_LeastOff (toldB_of ha0 T)
      have j1 : Ev (fun k => orrerylaw20_OffsetHeaviest.j1 k a0 l1 l2 L (outO o).1 (outO o).2.1 (outO o).2.2 false) true := by
        have hT := Ev_Told a0 l1 l2 h1.2
        by_cases hb2 : toldB a0 l1 l2 = true
        · rw [hb2] at hT
          obtain ⟨_, T'⟩ := toldB_whole hb2
          obtain ⟨o', ho', _, hO'⟩ := Ev_LeastOff hb2
          refine Ev.step (f := fun k => (orreryref20_Told.f k a0 l1 l2).bind fun t637 => (if t637 = true then ((offset_Offsets.f k a0 l1 l2).bind fun bt638 => ((orreryref19_Table.f k a0 a0 l1).bind fun t645 => ((orreryref19_Sum.f k t645 l2).bind fun t648 => ((orreryref19_Sum.f k t645 L).bind fun t649 => (if t648 < t649 then (some (bt638.2.2 == 2)) else (if bt638.2.2 = (outO o).2.2 then ((orreryref17_Ints.f k (outO o).1 bt638.1).bind fun t650 => (if t650 = true then ((orreryref17_Ints.f k (outO o).2.1 bt638.2.1).bind fun t651 => (some t651)) else (some false))) else (some false))))))) else (some true))) (fun k => by simp [orrerylaw20_OffsetHeaviest.j1]) (Ev.bind hT ?_)
          simp only [if_true]
          refine Ev.bind hO' (Ev.bind (Ev_Table hb) (Ev.bind (Ev_Sum T') (Ev.bind (Ev_Sum T) ?_)))
          by_cases hlt : wsum a0.toNat l1 l2 < wsum a0.toNat l1 L
          · simp only [if_pos hlt]
            rcases o' with _ | ⟨c', d'⟩
            · exact Ev.now _
            · exfalso
              obtain ⟨_, _, hV'⟩ := ho'.small T'
              have := ((RowV.fit T' hV').other T' T).1
              omega
          · simp only [if_neg hlt]
            have hbest := O.best T'
            have key : o' = o := by
              rcases o with _ | ⟨c, d⟩
              · rcases o' with _ | ⟨c', d'⟩
                · rfl
                · exfalso
                  obtain ⟨_, _, hV'⟩ := ho'.small T'
                  obtain ⟨i, a, b, w⟩ := ho _ _ (((RowV.fit T' hV').other T' T).2 (by omega))
                  have := ho'.2.1 i a b
                  omega
              · obtain ⟨hc, hd, hV⟩ := ho.small T
                have hf := ((RowV.fit T hV).other T T').2 (by omega)
                rcases o' with _ | ⟨c', d'⟩
                · exfalso
                  obtain ⟨i, a, b, w⟩ := ho' _ _ hf
                  have := ho.2.1 i a b
                  omega
                · obtain ⟨hc', hd', hV'⟩ := ho'.small T'
                  have hf' := ((RowV.fit T' hV').other T' T).2 (by omega)
                  have e1 : c' = c := ext_rd hc'.1 hc.1 (fun i a b => Int.le_antisymm (ho'.2.2.2.2 _ _ hf i a b) (ho.2.2.2.2 _ _ hf' i a b))
                  subst e1
                  rw [IsD.one ho'.2.2.1 ho.2.2.1]
            subst key
            simp only [if_true]
            have hl1 : (outO o').1.length ≤ 64 ∧ (outO o').2.1.length ≤ 64 := by
              rcases o' with _ | ⟨c', d'⟩
              · simp [outO]
              · obtain ⟨hc', hd', _⟩ := ho'.small T'
                simp only [outO]
                rw [hc'.1, hd'.1]; omega
            refine Ev.bind (Ev_Ints _ hl1.1) ?_
            simp only [if_true]
            exact Ev.bind (Ev_Ints _ hl1.2) (Ev.now _)
        · have hbf : toldB a0 l1 l2 = false := by simpa using hb2
          rw [hbf] at hT
          refine Ev.step (fun k => by simp only [orrerylaw20_OffsetHeaviest.j1]; rw [if_neg (by simp)]) (Ev.bind hT ?_)
          simp only [Bool.false_eq_true, if_false]
          exact Ev.now _
      refine Ev.step (fun k => by simp only [orrerylaw20_OffsetHeaviest.j0]; rw [if_neg (by simp)]) (Ev.bind hO ?_)
      rcases o with _ | ⟨c, d⟩
      · simp only [outO, show ¬ ((2 : Int) = 0) by omega, if_false, bne_self_eq_false]; exact j1
      · simp only [outO, if_true]; exact j1
    · refine Ev.bind hA ?_
      simp only [show ¬ ((190 : Int) = 0) by omega, if_false]
      exact jt _
  · have hbf : rightB a0 a0 l1 = false := by simpa using hb
    refine Ev.bind (Ev_AssignBad hbf) ?_
    simp only [show ¬ ((170 : Int) = 0) by omega, if_false]
    exact jt _
end Go.Proofs.Ytamloclgignfgaa.PA
