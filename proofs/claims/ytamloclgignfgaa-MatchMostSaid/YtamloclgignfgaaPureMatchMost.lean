/- MatchMost in plain Lean: what Kuhn's way tells is a matching, and no way of edges makes it greater. -/
import Derived.Test.YtamloclgignfgaaPAx5
import Derived.Test.YtamloclgignfgaaRowA
import Derived.Test.YtamloclgignfgaaQ
namespace Go.Proofs.Ytamloclgignfgaa.PA
open Go.RowKit Go.Proofs.YtamloclgignfgaaW.PrintWords Go.Proofs.YtamloclgignfgaaW.PrintLast Go.Proofs.YtamloclgignfgaaW.PrintMore
set_option linter.unusedVariables false
set_option linter.unusedSimpArgs false

/-- A weight is noted. -/
def wS (i j : Int) (w : Int) (e : S40) : Int := if e.f0 = i ∧ e.f1 = j ∧ e.f2 > w then e.f2 else w
/-- The greatest weight between a row and a column; -1: there is no edge. -/
def wt (l : List S40) (i j : Int) : Int := l.foldl (wS i j) (-1)
theorem tabS_at {n m : Nat} {t : List (List Int)} (ht : Grid n m t) (e : S40) (he : 0 ≤ e.f0 ∧ e.f0 < (n : Int) ∧ 0 ≤ e.f1 ∧ e.f1 < (m : Int)) (i j : Int) (i0 : 0 ≤ i) (i1 : i < (n : Int)) (j0 : 0 ≤ j) (j1 : j < (m : Int)) :
    rd (rd_L3 (tabS t e) i) j = wS i j (rd (rd_L3 t i) j) e := by
  have hr := ht.row he.1 he.2.1
  have hl := ht.1
  unfold tabS wS
  by_cases c : e.f2 > rd (rd_L3 t e.f0) e.f1
  · rw [if_pos c, rd_L3_set t e.f0 i _ he.1 (by omega) i0]
    by_cases q : e.f0 = i
    · rw [if_pos q, rd_set _ e.f1 j _ he.2.2.1 (by omega) j0]
      by_cases q' : e.f1 = j
      · rw [if_pos q', if_pos ⟨q, q', by rw [← q, ← q']; exact c⟩]
      · rw [if_neg q', if_neg (fun h => q' h.2.1), q]
    · rw [if_neg q, if_neg (fun h => q h.1)]
  · rw [if_neg c]
    by_cases q : e.f0 = i ∧ e.f1 = j ∧ e.f2 > rd (rd_L3 t i) j
    · obtain ⟨q1, q2, q3⟩ := q; rw [q1, q2] at c; exact absurd q3 c
    · rw [if_neg q]
theorem tab_at_from {n m : Nat} (l : List S40) (hl : Edges n m l) : ∀ (t : List (List Int)), Grid n m t → ∀ i j : Int, 0 ≤ i → i < (n : Int) → 0 ≤ j → j < (m : Int) → rd (rd_L3 (l.foldl tabS t) i) j = l.foldl (wS i j) (rd (rd_L3 t i) j) := by
  induction l with
  | nil => intro t _ i j _ _ _ _; rfl
  | cons e l ih =>
    intro t ht i j i0 i1 j0 j1
    have he := hl e List.mem_cons_self
    show rd (rd_L3 (l.foldl tabS (tabS t e)) i) j = l.foldl (wS i j) (wS i j (rd (rd_L3 t i) j) e)
    rw [ih (fun x hx => hl x (List.mem_cons_of_mem _ hx)) _ (tabS_grid ht e ⟨he.1, he.2.1⟩) i j i0 i1 j0 j1, tabS_at ht e ⟨he.1, he.2.1, he.2.2.1, he.2.2.2.1⟩ i j i0 i1 j0 j1]
theorem tab_at {n m : Nat} {l : List S40} (hl : Edges n m l) {i j : Int} (i0 : 0 ≤ i) (i1 : i < (n : Int)) (j0 : 0 ≤ j) (j1 : j < (m : Int)) : rd (rd_L3 (tabL n m l) i) j = wt l i j := by
  unfold tabL wt
  rw [tab_at_from l hl _ (grid0 n m) i j i0 i1 j0 j1]
  congr 1
  unfold rd rd_L3
  simp only [List.getD_eq_getElem?_getD]
  rw [List.getElem?_replicate, if_pos (by omega)]
  simp only [Option.getD_some]
  rw [List.getElem?_replicate, if_pos (by omega)]; rfl
theorem wt_from (l : List S40) (i j : Int) (hl : ∀ e ∈ l, 0 ≤ e.f2) : ∀ w, 0 ≤ l.foldl (wS i j) w ↔ 0 ≤ w ∨ ∃ e ∈ l, e.f0 = i ∧ e.f1 = j := by
  induction l with
  | nil => intro w; simp
  | cons e l ih =>
    intro w
    have he := hl e List.mem_cons_self
    show 0 ≤ l.foldl (wS i j) (wS i j w e) ↔ _
    rw [ih (fun x hx => hl x (List.mem_cons_of_mem _ hx))]
    unfold wS
    constructor
    · rintro (h | ⟨x, hx, h⟩)
      · split at h
        · rename_i q; exact .inr ⟨e, List.mem_cons_self, q.1, q.2.1⟩
        · exact .inl h
      · exact .inr ⟨x, List.mem_cons_of_mem _ hx, h⟩
    · rintro (h | ⟨x, hx, h⟩)
      · left; split
        · exact he
        · exact h
      · rcases List.mem_cons.1 hx with rfl | hx
        · left
          by_cases q : x.f2 > w
          · rw [if_pos ⟨h.1, h.2, q⟩]; exact he
          · rw [if_neg (fun q' => q q'.2.2)]; omega
        · exact .inr ⟨x, hx, h⟩
theorem wt_nonneg {l : List S40} (hl : ∀ e ∈ l, 0 ≤ e.f2) (i j : Int) : 0 ≤ wt l i j ↔ ∃ e ∈ l, e.f0 = i ∧ e.f1 = j := by
  unfold wt
  rw [wt_from l i j hl]
  constructor
  · rintro (h | h)
    · omega
    · exact h
  · exact .inr
theorem mem_next_from (l : List S40) (i : Int) (i0 : 0 ≤ i) : ∀ (rows : List (List Int)), (∀ e ∈ l, 0 ≤ e.f0 ∧ e.f0 < (rows.length : Int)) → ∀ j, j ∈ rd_L3 (nextOf rows l) i ↔ j ∈ rd_L3 rows i ∨ ∃ e ∈ l, e.f0 = i ∧ e.f1 = j := by
  induction l with
  | nil => intro rows _ j; simp [nextOf]
  | cons e l ih =>
    intro rows hl j
    have he := hl e List.mem_cons_self
    unfold nextOf
    rw [ih _ (fun x hx => by have := hl x (List.mem_cons_of_mem _ hx); simpa using this) j, rd_L3_set rows e.f0 i _ he.1 he.2 i0]
    by_cases q : e.f0 = i
    · rw [if_pos q, List.mem_append, q]
      constructor
      · rintro ((h | h) | ⟨x, hx, h⟩)
        · exact .inl h
        · exact .inr ⟨e, List.mem_cons_self, q, (List.mem_singleton.1 h).symm⟩
        · exact .inr ⟨x, List.mem_cons_of_mem _ hx, h⟩
      · rintro (h | ⟨x, hx, h⟩)
        · exact .inl (.inl h)
        · rcases List.mem_cons.1 hx with rfl | hx
          · exact .inl (.inr (List.mem_singleton.2 h.2.symm))
          · exact .inr ⟨x, hx, h⟩
    · rw [if_neg q]
      constructor
      · rintro (h | ⟨x, hx, h⟩)
        · exact .inl h
        · exact .inr ⟨x, List.mem_cons_of_mem _ hx, h⟩
      · rintro (h | ⟨x, hx, h⟩)
        · exact .inl h
        · rcases List.mem_cons.1 hx with rfl | hx
          · exact absurd h.1 q
          · exact .inr ⟨x, hx, h⟩
theorem mem_next {n : Nat} {l : List S40} (hl : ∀ e ∈ l, 0 ≤ e.f0 ∧ e.f0 < (n : Int)) {i : Int} (i0 : 0 ≤ i) (j : Int) : j ∈ rd_L3 (nextOf (List.replicate n []) l) i ↔ ∃ e ∈ l, e.f0 = i ∧ e.f1 = j := by
  rw [mem_next_from l i i0 _ (by simpa using hl) j]
  constructor
  · rintro (h | h)
    · exfalso
      unfold rd_L3 at h
      rw [List.getD_eq_getElem?_getD, List.getElem?_replicate] at h
      split at h <;> simp at h
    · exact h
  · exact .inr
theorem one_place {o : List Int} {r j k : Int} (h : o.count r ≤ 1) (j0 : 0 ≤ j) (j1 : j < o.length) (k0 : 0 ≤ k) (k1 : k < o.length) (hj : rd o j = r) (hk : rd o k = r) : j = k := by
  by_cases q : j = k
  · exact q
  exfalso
  have h1 := count_set_rd o j (r + 1) r j0 j1
  rw [if_pos hj, if_neg (by omega)] at h1
  have h2 : rd (o.set j.toNat (r + 1)) k = r := by rw [rd_set o j k _ j0 j1 k0, if_neg q]; exact hk
  have h4 := rd_mem (o.set j.toNat (r + 1)) k k0 (by simpa using k1)
  rw [h2] at h4
  have h3 : 0 < (o.set j.toNat (r + 1)).count r := List.count_pos_iff.2 h4
  omega
theorem count_of_rd {o : List Int} {r j : Int} (j0 : 0 ≤ j) (j1 : j < o.length) (h : rd o j = r) : 0 < o.count r := List.count_pos_iff.2 (by rw [← h]; exact rd_mem _ j j0 j1)

/-- What Kuhn's way tells: a matching whose dead columns are known. -/
theorem most_good {a b : Int} {l : List S40} (h : rightB a b l = true) :
    Grid a.toNat b.toNat (tabL a.toNat b.toNat l) ∧ IsMat (tabL a.toNat b.toNat l) b.toNat (mostL a.toNat b.toNat l) ∧ ∃ D, DeadIn (tabL a.toNat b.toNat l) a.toNat b.toNat (mostL a.toNat b.toNat l) D := by
  obtain ⟨⟨ha0, ha1, hb0, hb1, hlen⟩, hed⟩ := rightB_iff a b l h
  generalize hn : a.toNat = n
  generalize hm : b.toNat = m
  have hE : Edges n m l := fun e he => by have := hed e he; omega
  have hG := tabL_grid l hE
  have hnl : (nextOf (List.replicate n []) l).length = n := by rw [nextOf_len]; simp
  have hro := nextOf_ok m l (List.replicate n []) (fun row hr => by rw [List.eq_of_mem_replicate hr]; intro j hj; cases hj) (fun e he => by have := hE e he; exact ⟨this.2.2.1, this.2.2.2.1⟩)
  have I := kuhn_inv hro hnl n (Nat.le_refl _)
  have adj : ∀ i j : Int, 0 ≤ i → i < (n : Int) → 0 ≤ j → j < (m : Int) → (j ∈ rd_L3 (nextOf (List.replicate n []) l) i ↔ 0 ≤ rd (rd_L3 (tabL n m l) i) j) := fun i j i0 i1 j0 j1 => by
    rw [mem_next (fun e he => ⟨(hE e he).1, (hE e he).2.1⟩) i0 j, tab_at hE i0 i1 j0 j1, wt_nonneg (fun e he => (hE e he).2.2.2.2.1)]
  unfold mostL
  generalize kuhn (nextOf (List.replicate n []) l) m n 0 (List.replicate m (-1)) = o at I
  have hol := I.len
  have spec := outOf_spec n o 0 (List.replicate n (-1)) (by simp) I.lt
  have hL : (outOf o 0 (List.replicate n (-1))).length = n := by rw [outOf_len]; simp
  generalize outOf o 0 (List.replicate n (-1)) = L at spec hL
  have hrep : ∀ i : Int, 0 ≤ i → i < (n : Int) → rd (List.replicate n (-1)) i = -1 := fun i i0 i1 => by
    unfold rd; rw [List.getD_eq_getElem?_getD, List.getElem?_replicate, if_pos (by omega)]; rfl
  have spec' : ∀ i : Int, 0 ≤ i → i < (n : Int) → (o.count i = 0 ∧ rd L i = -1) ∨ (0 ≤ rd L i ∧ rd L i < (m : Int) ∧ rd o (rd L i) = i) := fun i i0 i1 => by
    rcases spec i i0 i1 with ⟨h1, h2⟩ | ⟨k, h1, h2, h3⟩
    · exact .inl ⟨List.count_eq_zero.2 h1, by rw [h2, hrep i i0 i1]⟩
    · right
      have h4 : rd L i = (k : Int) := by rw [h3]; omega
      rw [h4]; exact ⟨by omega, by omega, h2⟩
  refine ⟨hG, ⟨by rw [hL, hG.1], fun i i0 i1 => ?_, fun i i' i0 ii i1 e => ?_⟩, ?_⟩
  · rcases spec' i i0 (by omega) with ⟨_, h2⟩ | ⟨h1, h2, h3⟩
    · exact .inl h2
    · right
      refine ⟨h1, h2, ?_⟩
      rw [← adj i (rd L i) i0 (by omega) h1 h2]
      have h5 := I.edge (rd L i) h1 h2 (by omega)
      rwa [h3] at h5
  · rcases spec' i i0 (by omega) with ⟨_, h2⟩ | ⟨h1, h2, h3⟩
    · exact h2
    · rcases spec' i' (by omega) (by omega) with ⟨_, h4⟩ | ⟨_, _, h4⟩
      · rw [e]; exact h4
      · rw [← e, h3] at h4; omega
  · obtain ⟨D, hD, hDr⟩ := I.dead
    refine ⟨D, fun i i0 i1 hneg j j0 j1 hj => ?_, fun j hj => ?_⟩
    · rcases spec' i i0 i1 with ⟨h1, _⟩ | ⟨h1, _, _⟩
      · exact hDr i i0 i1 h1 j ((adj i j i0 i1 j0 j1).2 hj)
      · omega
    · obtain ⟨j0, j1, h1, h2⟩ := hD j hj
      have h3 : rd o j < (n : Int) := I.lt _ (rd_mem o j j0 (by omega))
      refine ⟨j0, rd o j, h1, h3, ?_, fun j' a b c => h2 j' ((adj _ j' h1 h3 a b).2 c)⟩
      rcases spec' (rd o j) h1 h3 with ⟨h4, _⟩ | ⟨h4, h5, h6⟩
      · have := count_of_rd j0 (by omega) (rfl : rd o j = rd o j); omega
      · exact one_place (I.one (rd o j) h1) h4 (by omega) j0 (by omega) h6 rfl

theorem MatchMost_pure (a0 a1 : Int) (l2 : List S40) (h0 : I64 a0) (h1 : I64 a1) (h2 : (∀ e ∈ l2, I64 e.f0 ∧ I64 e.f1 ∧ I64 e.f2) ∧ l2.length ≤ 9223372036854775807) : ∃ k, orrerylaw19_MatchMost.f k a0 a1 l2 = some true := by
  refine Ev.rounds (g := fun k => orrerylaw19_MatchMost.f k a0 a1 l2) ?_
  unfold orrerylaw19_MatchMost.f match_Most.f
  have hR := Ev_Right a0 a1 l2 h2.2
  by_cases hb : rightB a0 a1 l2 = true
  · rw [hb] at hR
    simp only [if_pos hb, Option.bind_some]
    refine Ev.bind hR ?_
    simp only [if_true]
    refine Ev.bind (Ev_Table hb) ?_
    obtain ⟨⟨ha0, ha1, hb0, hb1, hlen⟩, hed⟩ := rightB_iff a0 a1 l2 hb
    obtain ⟨hG, hM, D, hD⟩ := most_good hb
    have hll : (mostL a0.toNat a1.toNat l2).length ≤ 9223372036854775807 := by rw [hM.1, hG.1]; omega
    obtain ⟨b, hb', hbi⟩ := Ev_Matching hG (by omega) (mostL a0.toNat a1.toNat l2) hll
    rw [hbi.2 hM, Int.toNat_of_nonneg hb0] at hb'
    refine Ev.bind hb' ?_
    simp only [if_true]
    have hMo := Ev_More hG (by omega) (by omega) _ hM D hD
    rw [Int.toNat_of_nonneg hb0] at hMo
    refine Ev.bind hMo ?_
    exact Ev.now _
  · have hbf : rightB a0 a1 l2 = false := by simpa using hb
    rw [hbf] at hR
    simp only [if_neg hb, Option.bind_some]
    refine Ev.bind hR ?_
    simp
    exact Ev.now _
end Go.Proofs.Ytamloclgignfgaa.PA
