/- What match.table tells, in plain Lean. -/
import Derived.Test.YtamloclgignfgaaPAx19
import Derived.Test.YtamloclgignfgaaOa
namespace Go.Proofs.Ytamloclgignfgaa.PA
open Go.RowKit Go.Proofs.YtamloclgignfgaaW.PrintWords Go.Proofs.YtamloclgignfgaaW.PrintLast Go.Proofs.YtamloclgignfgaaW.PrintMore
set_option linter.unusedVariables false
set_option linter.unusedSimpArgs false

/-- A weight is noted in a table of match's. -/
def tabM (t : List (List Int)) (e : S40) : List (List Int) := t.set e.f0.toNat ((rd_L3 t e.f0).set e.f1.toNat (mx (rd (rd_L3 t e.f0) e.f1) e.f2))
def tabN (n : Nat) (l : List S40) : List (List Int) := l.foldl tabM (List.replicate n (List.replicate n (-1073741824)))
/-- The weight, as match says it. -/
def wz (l : List S40) (i j : Int) : Int := if 0 ≤ wt l i j then wt l i j else -1073741824
theorem tabM_grid {n m : Nat} {t : List (List Int)} (h : Grid n m t) (e : S40) (he : 0 ≤ e.f0 ∧ e.f0 < (n : Int)) : Grid n m (tabM t e) := by
  unfold tabM
  refine ⟨by simp [h.1], fun r hr => ?_⟩
  rcases List.mem_or_eq_of_mem_set hr with h1 | h1
  · exact h.2 r h1
  · rw [h1, List.length_set]; exact h.row he.1 he.2
theorem tabM_at {n m : Nat} {t : List (List Int)} (ht : Grid n m t) (e : S40) (he : 0 ≤ e.f0 ∧ e.f0 < (n : Int) ∧ 0 ≤ e.f1 ∧ e.f1 < (m : Int)) (i j : Int) (i0 : 0 ≤ i) (i1 : i < (n : Int)) (j0 : 0 ≤ j) (j1 : j < (m : Int)) :
    rd (rd_L3 (tabM t e) i) j = if e.f0 = i ∧ e.f1 = j then mx (rd (rd_L3 t i) j) e.f2 else rd (rd_L3 t i) j := by
  have hr := ht.row he.1 he.2.1
  have hl := ht.1
  unfold tabM
  rw [rd_L3_set t e.f0 i _ he.1 (by omega) i0]
  by_cases q : e.f0 = i
  · rw [if_pos q, rd_set _ e.f1 j _ he.2.2.1 (by omega) j0]
    by_cases q' : e.f1 = j
    · rw [if_pos q', if_pos ⟨q, q'⟩, q, q']
    · rw [if_neg q', if_neg (fun h => q' h.2), q]
  · rw [if_neg q, if_neg (fun h => q h.1)]
theorem tabN_from {n m : Nat} (l : List S40) (hl : Edges n m l) : ∀ (t : List (List Int)), Grid n m t → Grid n m (l.foldl tabM t) ∧ ∀ i j : Int, 0 ≤ i → i < (n : Int) → 0 ≤ j → j < (m : Int) → ∀ w : Int, ((w = -1 ∧ rd (rd_L3 t i) j = -1073741824) ∨ (0 ≤ w ∧ rd (rd_L3 t i) j = w)) →
    (l.foldl (wS i j) w = -1 ∧ rd (rd_L3 (l.foldl tabM t) i) j = -1073741824) ∨ (0 ≤ l.foldl (wS i j) w ∧ rd (rd_L3 (l.foldl tabM t) i) j = l.foldl (wS i j) w) := by
  induction l with
  | nil => intro t ht; exact ⟨ht, fun i j _ _ _ _ w h => h⟩
  | cons e l ih =>
    intro t ht
    have he := hl e List.mem_cons_self
    obtain ⟨h1, h2⟩ := ih (fun x hx => hl x (List.mem_cons_of_mem _ hx)) (tabM t e) (tabM_grid ht e ⟨he.1, he.2.1⟩)
    refine ⟨h1, fun i j i0 i1 j0 j1 w hw => h2 i j i0 i1 j0 j1 (wS i j w e) ?_⟩
    rw [tabM_at ht e ⟨he.1, he.2.1, he.2.2.1, he.2.2.2.1⟩ i j i0 i1 j0 j1]
    unfold wS mx
    by_cases q : e.f0 = i ∧ e.f1 = j
    · rw [if_pos q]
      by_cases q' : e.f2 > w
      · rw [if_pos ⟨q.1, q.2, q'⟩]
        right
        rcases hw with ⟨a, b⟩ | ⟨a, b⟩
        · rw [b, if_pos (by omega)]; omega
        · rw [b, if_pos (by omega)]; omega
      · rw [if_neg (fun h => q' h.2.2)]
        right
        rcases hw with ⟨a, b⟩ | ⟨a, b⟩
        · omega
        · rw [b, if_neg (by omega)]; omega
    · rw [if_neg q, if_neg (fun h => q ⟨h.1, h.2.1⟩)]; exact hw
theorem tabN_grid {n : Nat} {l : List S40} (hl : Edges n n l) : Grid n n (tabN n l) := (tabN_from l hl _ ⟨by simp, fun r hr => by rw [List.eq_of_mem_replicate hr]; simp⟩).1
theorem tabN_at {n : Nat} {l : List S40} (hl : Edges n n l) {i j : Int} (i0 : 0 ≤ i) (i1 : i < (n : Int)) (j0 : 0 ≤ j) (j1 : j < (n : Int)) : rd (rd_L3 (tabN n l) i) j = wz l i j := by
  have h := (tabN_from l hl (List.replicate n (List.replicate n (-1073741824))) ⟨by simp, fun r hr => by rw [List.eq_of_mem_replicate hr]; simp⟩).2 i j i0 i1 j0 j1 (-1) (.inl ⟨rfl, by
    have : rd_L3 (List.replicate n (List.replicate n (-1073741824))) i = List.replicate n (-1073741824) := by
      unfold rd_L3; rw [List.getD_eq_getElem?_getD, List.getElem?_replicate, if_pos (by omega)]; rfl
    rw [this, rd_rep j0 j1]⟩)
  unfold tabN wz wt
  rcases h with ⟨a, b⟩ | ⟨a, b⟩
  · rw [b, if_neg (by omega)]
  · rw [b, if_pos a]
theorem wz_cases {n : Nat} {l : List S40} (hl : Edges n n l) (i j : Int) : (0 ≤ wt l i j ∧ wz l i j = wt l i j ∧ wt l i j ≤ 100) ∨ (wt l i j < 0 ∧ wz l i j = -1073741824) := by
  unfold wz
  by_cases h : 0 ≤ wt l i j
  · exact .inl ⟨h, by rw [if_pos h], wt_le hl i j⟩
  · exact .inr ⟨by omega, by rw [if_neg h]⟩

theorem tableM_l2 {n : Nat} (l : List S40) (hn : l.length ≤ 4096) (hl : Edges n n l) : ∀ (d i : Nat) (t : List (List Int)), i + d = l.length → Grid n n t → Ev (fun k => match_table.l2 k t l (l.length : Int) (i : Int)) ((l.drop i).foldl tabM t) := by
  intro d
  induction d with
  | zero =>
    intro i t hi ht
    rw [List.drop_eq_nil_of_le (by omega)]
    refine Ev.step (f := fun _ => some t) (fun k => ?_) (Ev.now _)
    simp only [match_table.l2]; rw [if_neg (by omega)]
  | succ d ih =>
    intro i t hi ht
    have hm : rd_T40 l (i : Int) ∈ l := by
      unfold rd_T40; rw [List.getD_eq_getElem?_getD, Int.toNat_natCast, List.getElem?_eq_getElem (by omega)]; exact List.getElem_mem _
    rw [drop_rd (show i < l.length by omega), List.foldl_cons]
    generalize hx : rd_T40 l (i : Int) = e at hm
    have he := hl e hm
    have hr := ht.row he.1 he.2.1
    refine Ev.step (fun k => ?_) (ih (i + 1) (tabM t e) (by omega) (tabM_grid ht e ⟨he.1, he.2.1⟩))
    simp only [match_table.l2]
    rw [if_pos (by omega), if_pos (by omega), if_pos (by omega), hx, if_pos he.1, if_pos (by rw [ht.1]; omega), if_pos he.2.2.1, if_pos (by rw [hr]; omega), w64 (by omega) (by omega), show (i : Int) + 1 = ((i + 1 : Nat) : Int) by omega]
    rfl
/-- The table after i rows (of n), the next row filled up to j. -/
def halfT (n i : Nat) : List (List Int) := List.replicate i (List.replicate n (-1073741824)) ++ List.replicate (n - i) []
theorem halfT_set (n i : Nat) (h : i < n) (r : List Int) : (halfT n i).set i r = List.replicate i (List.replicate n (-1073741824)) ++ r :: List.replicate (n - (i + 1)) [] := by
  unfold halfT
  rw [List.set_append_right _ _ (by simp), List.length_replicate, Nat.sub_self, show n - i = (n - (i + 1)) + 1 by omega, List.replicate_succ, List.set_cons_zero]
theorem half_row (n i : Nat) (r : List Int) : rd_L3 (List.replicate i (List.replicate n (-1073741824)) ++ r :: List.replicate (n - (i + 1)) []) (i : Int) = r := by
  unfold rd_L3
  rw [List.getD_eq_getElem?_getD, Int.toNat_natCast, List.getElem?_append_right (by simp), List.length_replicate, Nat.sub_self]; rfl
theorem half_put (n i : Nat) (r r' : List Int) : (List.replicate i (List.replicate n (-1073741824)) ++ r :: List.replicate (n - (i + 1)) []).set i r' = List.replicate i (List.replicate n (-1073741824)) ++ r' :: List.replicate (n - (i + 1)) [] := by
  rw [List.set_append_right _ _ (by simp), List.length_replicate, Nat.sub_self, List.set_cons_zero]
theorem half_len (n i : Nat) (h : i < n) (r : List Int) : (List.replicate i (List.replicate n (-1073741824)) ++ r :: List.replicate (n - (i + 1)) []).length = n := by simp; omega
theorem half_full (n i : Nat) (h : i < n) : List.replicate i (List.replicate n (-1073741824)) ++ List.replicate n (-1073741824) :: List.replicate (n - (i + 1)) [] = halfT n (i + 1) := by
  unfold halfT; rw [List.replicate_succ', List.append_assoc]; rfl
theorem tableM_l1 {n : Nat} (hn : n ≤ 64) (l : List S40) (i : Nat) (hi : i < n) (R : List (List Int)) (h : Ev (fun k => match_table.l0 k (n : Int) l (halfT n (i + 1)) (n : Int) ((i + 1 : Nat) : Int)) R) :
    ∀ (d j : Nat), j + d = n → Ev (fun k => match_table.l1 k (n : Int) l (List.replicate i (List.replicate n (-1073741824)) ++ (List.replicate j (-1073741824) ++ List.replicate (n - j) 0) :: List.replicate (n - (i + 1)) []) (i : Int) (n : Int) (i : Int) (n : Int) (j : Int)) R := by
  intro d
  induction d with
  | zero =>
    intro j hj
    have : j = n := by omega
    subst this
    refine Ev.step (fun k => ?_) h
    simp only [match_table.l1]
    rw [if_neg (by omega), w64 (by omega) (by omega), show (i : Int) + 1 = ((i + 1 : Nat) : Int) by omega, Nat.sub_self, List.replicate_zero, List.append_nil, half_full j i hi]
  | succ d ih =>
    intro j hj
    have hlr : (List.replicate j (-1073741824 : Int) ++ List.replicate (n - j) 0).length = n := by simp; omega
    refine Ev.step (fun k => ?_) (ih (j + 1) (by omega))
    simp only [match_table.l1]
    rw [if_pos (by omega), if_pos (by omega), if_pos (by rw [half_len n i hi]; omega), if_pos (by omega), half_row, if_pos (by rw [hlr]; omega), Int.toNat_natCast, Int.toNat_natCast, half_put, put_nx j n (-1073741824) 0 (by omega), w64 (by omega) (by omega), show (j : Int) + 1 = ((j + 1 : Nat) : Int) by omega]
theorem tableM_l0 {n : Nat} (hn : n ≤ 64) (l : List S40) (hl : l.length ≤ 4096) (he : Edges n n l) : ∀ (d i : Nat), i + d = n → Ev (fun k => match_table.l0 k (n : Int) l (halfT n i) (n : Int) (i : Int)) (tabN n l) := by
  intro d
  induction d with
  | zero =>
    intro i hi
    have : i = n := by omega
    subst this
    have h1 := tableM_l2 l hl he l.length 0 (List.replicate i (List.replicate i (-1073741824))) (by omega) ⟨by simp, fun r hr => by rw [List.eq_of_mem_replicate hr]; simp⟩
    refine Ev.step (fun k => ?_) h1
    simp only [match_table.l0]
    rw [if_neg (by omega)]
    unfold halfT
    rw [Nat.sub_self, List.replicate_zero, List.append_nil]; rfl
  | succ d ih =>
    intro i hi
    have h1 := tableM_l1 hn l i (by omega) _ (ih (i + 1) (by omega)) n 0 (by omega)
    refine Ev.step (fun k => ?_) h1
    simp only [match_table.l0]
    rw [if_pos (by omega), if_pos (by omega), if_pos (by omega), if_pos (by omega), if_pos (by unfold halfT; simp; omega), Option.bind_some, Int.toNat_natCast, Int.toNat_natCast, halfT_set n i (by omega), half_row, List.length_replicate, Nat.sub_zero, List.replicate_zero, List.nil_append]; rfl
theorem Ev_tableM {n : Nat} (hn : n ≤ 64) {l : List S40} (hl : l.length ≤ 4096) (he : Edges n n l) : Ev (fun k => match_table.f k (n : Int) l) (tabN n l) := by
  unfold match_table.f
  simp only [if_pos (show (0 : Int) ≤ (n : Int) by omega), Int.toNat_natCast, if_pos (show n ≤ 11728124029610 by omega), Option.bind_some, List.length_replicate]
  have h1 := tableM_l0 hn l hl he n 0 (by omega)
  unfold halfT at h1
  rw [List.replicate_zero, List.nil_append, Nat.sub_zero] at h1
  exact h1
end Go.Proofs.Ytamloclgignfgaa.PA
