import Derived.Test.YtamloclgignfgaaM
import Derived.Test.YtamloclgignfgaaQM
namespace Go.Proofs.Ytamloclgignfgaa.PA
open Go.RowKit Go.Proofs.YtamloclgignfgaaW.PrintWords Go.Proofs.YtamloclgignfgaaW.PrintLast Go.Proofs.YtamloclgignfgaaW.PrintMore
set_option linter.unusedVariables false
set_option linter.unusedSimpArgs false

/-- What Kuhn's way tells: a matching whose dead columns are known. -/
theorem most_good {a b : Int} {l : List S40} (h : rightB a b l = true) :
    Grid a.toNat b.toNat (tabL a.toNat b.toNat l) ∧ IsMat (tabL a.toNat b.toNat l) b.toNat (mostL a.toNat b.toNat l) ∧ ∃ D, DeadIn (tabL a.toNat b.toNat l) a.toNat b.toNat (mostL a.toNat b.toNat l) D := by
  obtain ⟨⟨ha0, ha1, hb0, hb1, hlen⟩, hed⟩ := rightB_iff a b l h
  generalize hn : a.toNat = n
  generalize hm : b.toNat = m
  have hE : Edges n m l := fun e he => by have := hed e he; omega
  have hG := tabL_grid l hE
  have hnl : (nextOf (List.replicate n []) l).length = n := by rw [nextOf_len]; simp
  have hro := nextOf_ok m l (List.replicate n []) (fun row hr => by rw [List.eq_of_mem_replicate hr]; intro j hj; cases hj) (fun e he => by have := hE e he; exact ⟨this.2.2.1, this.2.2.2.1⟩)
  have I := kuhn_inv hro hnl n (Nat.le_refl _)
  have adj : ∀ i j : Int, 0 ≤ i → i < (n : Int) → 0 ≤ j → j < (m : Int) → (j ∈ rd_L3 (nextOf (List.replicate n []) l) i ↔ 0 ≤ rd (rd_L3 (tabL n m l) i) j) := fun i j i0 i1 j0 j1 => by
    rw [mem_next (fun e he => ⟨(hE e he).1, (hE e he).2.1⟩) i0 j, tab_at hE i0 i1 j0 j1, wt_nonneg (fun e he => (hE e he).2.2.2.2.1)]
  unfold mostL
  generalize kuhn (nextOf (List.replicate n []) l) m n 0 (List.replicate m (-1)) = o at I
  have hol := I.len
  have spec := outOf_spec n o 0 (List.replicate n (-1)) (by simp) I.lt
  have hL : (outOf o 0 (List.replicate n (-1))).length = n := by rw [outOf_len]; simp
  generalize outOf o 0 (List.replicate n (-1)) = L at spec hL
  have hrep : ∀ i : Int, 0 ≤ i → i < (n : Int) → rd (List.replicate n (-1)) i = -1 := fun i i0 i1 => by
    unfold rd; rw [List.getD_eq_getElem?_getD, List.getElem?_replicate, if_pos (by omega)]; rfl
  have spec' : ∀ i : Int, 0 ≤ i → i < (n : Int) → (o.count i = 0 ∧ rd L i = -1) ∨ (0 ≤ rd L i ∧ rd L i < (m : Int) ∧ rd o (rd L i) = i) := fun i i0 i1 => by
    rcases spec i i0 i1 with ⟨h1, h2⟩ | ⟨k, h1, h2, h3⟩
    · exact .inl ⟨List.count_eq_zero.2 h1, by rw [h2, hrep i i0 i1]⟩
    · right
      have h4 : rd L i = (k : Int) := by rw [h3]; omega
      rw [h4]; exact ⟨by omega, by omega, h2⟩
  refine ⟨hG, ⟨by rw [hL, hG.1], fun i i0 i1 => ?_, fun i i' i0 ii i1 e => ?_⟩, ?_⟩
  · rcases spec' i i0 (by omega) with ⟨_, h2⟩ | ⟨h1, h2, h3⟩
    · exact .inl h2
    · right
      refine ⟨h1, h2, ?_⟩
      rw [← adj i (rd L i) i0 (by omega) h1 h2]
      have h5 := I.edge (rd L i) h1 h2 (by omega)
      rwa [h3] at h5
  · rcases spec' i i0 (by omega) with ⟨_, h2⟩ | ⟨h1, h2, h3⟩
    · exact h2
    · rcases spec' i' (by omega) (by omega) with ⟨_, h4⟩ | ⟨_, _, h4⟩
      · rw [e]; exact h4
      · rw [← e, h3] at h4; omega
  · obtain ⟨D, hD, hDr⟩ := I.dead
    refine ⟨D, fun i i0 i1 hneg j j0 j1 hj => ?_, fun j hj => ?_⟩
    · rcases spec' i i0 i1 with ⟨h1, _⟩ | ⟨h1, _, _⟩
      · exact hDr i i0 i1 h1 j ((adj i j i0 i1 j0 j1).2 hj)
      · omega
    · obtain ⟨j0, j1, h1, h2⟩ := hD j hj
      have h3 : rd o j < (n : Int) := I.lt _ (rd_mem o j j0 (by omega))
      refine ⟨j0, rd o j, h1, h3, ?_, fun j' a b c => h2 j' ((adj _ j' h1 h3 a b).2 c)⟩
      rcases spec' (rd o j) h1 h3 with ⟨h4, _⟩ | ⟨h4, h5, h6⟩
      · have := count_of_rd j0 (by omega) (rfl : rd o j = rd o j); omega
      · exact one_place (I.one (rd o j) h1) h4 (by omega) j0 (by omega) h6 rfl

end Go.Proofs.Ytamloclgignfgaa.PA
