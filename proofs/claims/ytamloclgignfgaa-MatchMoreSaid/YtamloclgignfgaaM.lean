import Derived.Test.YtamloclgignfgaaQ
namespace Go.Proofs.Ytamloclgignfgaa.PA
open Go.RowKit Go.Proofs.YtamloclgignfgaaW.PrintWords Go.Proofs.YtamloclgignfgaaW.PrintLast Go.Proofs.YtamloclgignfgaaW.PrintMore
set_option linter.unusedVariables false
set_option linter.unusedSimpArgs false

/-- A weight is noted. -/
def wS (i j : Int) (w : Int) (e : S40) : Int := if e.f0 = i ∧ e.f1 = j ∧ e.f2 > w then e.f2 else w
/-- The greatest weight between a row and a column; -1: there is no edge. -/
def wt (l : List S40) (i j : Int) : Int := l.foldl (wS i j) (-1)
theorem tabS_at {n m : Nat} {t : List (List Int)} (ht : Grid n m t) (e : S40) (he : 0 ≤ e.f0 ∧ e.f0 < (n : Int) ∧ 0 ≤ e.f1 ∧ e.f1 < (m : Int)) (i j : Int) (i0 : 0 ≤ i) (i1 : i < (n : Int)) (j0 : 0 ≤ j) (j1 : j < (m : Int)) :
    rd (rd_L3 (tabS t e) i) j = wS i j (rd (rd_L3 t i) j) e := by
  have hr := ht.row he.1 he.2.1
  have hl := ht.1
  unfold tabS wS
  by_cases c : e.f2 > rd (rd_L3 t e.f0) e.f1
  · rw [if_pos c, rd_L3_set t e.f0 i _ he.1 (by omega) i0]
    by_cases q : e.f0 = i
    · rw [if_pos q, rd_set _ e.f1 j _ he.2.2.1 (by omega) j0]
      by_cases q' : e.f1 = j
      · rw [if_pos q', if_pos ⟨q, q', by rw [← q, ← q']; exact c⟩]
      · rw [if_neg q', if_neg (fun h => q' h.2.1), q]
    · rw [if_neg q, if_neg (fun h => q h.1)]
  · rw [if_neg c]
    by_cases q : e.f0 = i ∧ e.f1 = j ∧ e.f2 > rd (rd_L3 t i) j
    · obtain ⟨q1, q2, q3⟩ := q; rw [q1, q2] at c; exact absurd q3 c
    · rw [if_neg q]
theorem tab_at_from {n m : Nat} (l : List S40) (hl : Edges n m l) : ∀ (t : List (List Int)), Grid n m t → ∀ i j : Int, 0 ≤ i → i < (n : Int) → 0 ≤ j → j < (m : Int) → rd (rd_L3 (l.foldl tabS t) i) j = l.foldl (wS i j) (rd (rd_L3 t i) j) := by
  induction l with
  | nil => intro t _ i j _ _ _ _; rfl
  | cons e l ih =>
    intro t ht i j i0 i1 j0 j1
    have he := hl e List.mem_cons_self
    show rd (rd_L3 (l.foldl tabS (tabS t e)) i) j = l.foldl (wS i j) (wS i j (rd (rd_L3 t i) j) e)
    rw [ih (fun x hx => hl x (List.mem_cons_of_mem _ hx)) _ (tabS_grid ht e ⟨he.1, he.2.1⟩) i j i0 i1 j0 j1, tabS_at ht e ⟨he.1, he.2.1, he.2.2.1, he.2.2.2.1⟩ i j i0 i1 j0 j1]
theorem tab_at {n m : Nat} {l : List S40} (hl : Edges n m l) {i j : Int} (i0 : 0 ≤ i) (i1 : i < (n : Int)) (j0 : 0 ≤ j) (j1 : j < (m : Int)) : rd (rd_L3 (tabL n m l) i) j = wt l i j := by
  unfold tabL wt
  rw [tab_at_from l hl _ (grid0 n m) i j i0 i1 j0 j1]
  congr 1
  unfold rd rd_L3
  simp only [List.getD_eq_getElem?_getD]
  rw [List.getElem?_replicate, if_pos (by omega)]
  simp only [Option.getD_some]
  rw [List.getElem?_replicate, if_pos (by omega)]; rfl
theorem wt_from (l : List S40) (i j : Int) (hl : ∀ e ∈ l, 0 ≤ e.f2) : ∀ w, 0 ≤ l.foldl (wS i j) w ↔ 0 ≤ w ∨ ∃ e ∈ l, e.f0 = i ∧ e.f1 = j := by
  induction l with
  | nil => intro w; simp
  | cons e l ih =>
    intro w
    have he := hl e List.mem_cons_self
    show 0 ≤ l.foldl (wS i j) (wS i j w e) ↔ _
    rw [ih (fun x hx => hl x (List.mem_cons_of_mem _ hx))]
    unfold wS
    constructor
    · rintro (h | ⟨x, hx, h⟩)
      · split at h
        · rename_i q; exact .inr ⟨e, List.mem_cons_self, q.1, q.2.1⟩
        · exact .inl h
      · exact .inr ⟨x, List.mem_cons_of_mem _ hx, h⟩
    · rintro (h | ⟨x, hx, h⟩)
      · left; split
        · exact he
        · exact h
      · rcases List.mem_cons.1 hx with rfl | hx
        · left
          by_cases q : x.f2 > w
          · rw [if_pos ⟨h.1, h.2, q⟩]; exact he
          · rw [if_neg (fun q' => q q'.2.2)]; omega
        · exact .inr ⟨x, hx, h⟩
theorem wt_nonneg {l : List S40} (hl : ∀ e ∈ l, 0 ≤ e.f2) (i j : Int) : 0 ≤ wt l i j ↔ ∃ e ∈ l, e.f0 = i ∧ e.f1 = j := by
  unfold wt
  rw [wt_from l i j hl]
  constructor
  · rintro (h | h)
    · omega
    · exact h
  · exact .inr
theorem mem_next_from (l : List S40) (i : Int) (i0 : 0 ≤ i) : ∀ (rows : List (List Int)), (∀ e ∈ l, 0 ≤ e.f0 ∧ e.f0 < (rows.length : Int)) → ∀ j, j ∈ rd_L3 (nextOf rows l) i ↔ j ∈ rd_L3 rows i ∨ ∃ e ∈ l, e.f0 = i ∧ e.f1 = j := by
  induction l with
  | nil => intro rows _ j; simp [nextOf]
  | cons e l ih =>
    intro rows hl j
    have he := hl e List.mem_cons_self
    unfold nextOf
    rw [ih _ (fun x hx => by have := hl x (List.mem_cons_of_mem _ hx); simpa using this) j, rd_L3_set rows e.f0 i _ he.1 he.2 i0]
    by_cases q : e.f0 = i
    · rw [if_pos q, List.mem_append, q]
      constructor
      · rintro ((h | h) | ⟨x, hx, h⟩)
        · exact .inl h
        · exact .inr ⟨e, List.mem_cons_self, q, (List.mem_singleton.1 h).symm⟩
        · exact .inr ⟨x, List.mem_cons_of_mem _ hx, h⟩
      · rintro (h | ⟨x, hx, h⟩)
        · exact .inl (.inl h)
        · rcases List.mem_cons.1 hx with rfl | hx
          · exact .inl (.inr (List.mem_singleton.2 h.2.symm))
          · exact .inr ⟨x, hx, h⟩
    · rw [if_neg q]
      constructor
      · rintro (h | ⟨x, hx, h⟩)
        · exact .inl h
        · exact .inr ⟨x, List.mem_cons_of_mem _ hx, h⟩
      · rintro (h | ⟨x, hx, h⟩)
        · exact .inl h
        · rcases List.mem_cons.1 hx with rfl | hx
          · exact absurd h.1 q
          · exact .inr ⟨x, hx, h⟩
theorem mem_next {n : Nat} {l : List S40} (hl : ∀ e ∈ l, 0 ≤ e.f0 ∧ e.f0 < (n : Int)) {i : Int} (i0 : 0 ≤ i) (j : Int) : j ∈ rd_L3 (nextOf (List.replicate n []) l) i ↔ ∃ e ∈ l, e.f0 = i ∧ e.f1 = j := by
  rw [mem_next_from l i i0 _ (by simpa using hl) j]
  constructor
  · rintro (h | h)
    · exfalso
      unfold rd_L3 at h
      rw [List.getD_eq_getElem?_getD, List.getElem?_replicate] at h
      split at h <;> simp at h
    · exact h
  · exact .inr
theorem one_place {o : List Int} {r j k : Int} (h : o.count r ≤ 1) (j0 : 0 ≤ j) (j1 : j < o.length) (k0 : 0 ≤ k) (k1 : k < o.length) (hj : rd o j = r) (hk : rd o k = r) : j = k := by
  by_cases q : j = k
  · exact q
  exfalso
  have h1 := count_set_rd o j (r + 1) r j0 j1
  rw [if_pos hj, if_neg (by omega)] at h1
  have h2 : rd (o.set j.toNat (r + 1)) k = r := by rw [rd_set o j k _ j0 j1 k0, if_neg q]; exact hk
  have h4 := rd_mem (o.set j.toNat (r + 1)) k k0 (by simpa using k1)
  rw [h2] at h4
  have h3 : 0 < (o.set j.toNat (r + 1)).count r := List.count_pos_iff.2 h4
  omega
theorem count_of_rd {o : List Int} {r j : Int} (j0 : 0 ≤ j) (j1 : j < o.length) (h : rd o j = r) : 0 < o.count r := List.count_pos_iff.2 (by rw [← h]; exact rd_mem _ j j0 j1)

end Go.Proofs.Ytamloclgignfgaa.PA
