import Derived.Test.YtamloclgignfgaaGd
namespace Go.Proofs.Ytamloclgignfgaa.PA
open Go.RowKit Go.Proofs.YtamloclgignfgaaW.PrintWords Go.Proofs.YtamloclgignfgaaW.PrintLast Go.Proofs.YtamloclgignfgaaW.PrintMore
set_option linter.unusedVariables false
set_option linter.unusedSimpArgs false

/-! What match.Most computes. -/
/-- The columns of each row, in the edges' order. -/
def nextOf (rows : List (List Int)) : List S40 → List (List Int)
  | [] => rows
  | e :: l => nextOf (rows.set e.f0.toNat (rd_L3 rows e.f0 ++ [e.f1])) l
/-- One row after the other is given a column, if that can be. -/
def kuhn (rows : List (List Int)) (m : Nat) : Nat → Int → List Int → List Int
  | 0, _, o => o
  | d + 1, i, o => kuhn rows m d (i + 1) (findF rows (m + 1) i (List.replicate m false) o).2.2
/-- Of the columns' rows the rows' columns. -/
def outOf : List Int → Int → List Int → List Int
  | [], _, out => out
  | i :: l, j, out => outOf l (j + 1) (if i ≥ 0 then out.set i.toNat j else out)
def mostL (n m : Nat) (l : List S40) : List Int :=
  outOf (kuhn (nextOf (List.replicate n []) l) m n 0 (List.replicate m (-1))) 0 (List.replicate n (-1))
def match_Most.f (a0 a1 : Int) (l2 : List S40) : Option (List Int × Int) :=
  some (if rightB a0 a1 l2 = true then (mostL a0.toNat a1.toNat l2, 0) else ([], 170))

theorem rightB_iff (a b : Int) (l : List S40) (h : rightB a b l = true) : (0 ≤ a ∧ a ≤ 64 ∧ 0 ≤ b ∧ b ≤ 64 ∧ l.length ≤ 4096) ∧ ∀ e ∈ l, 0 ≤ e.f0 ∧ e.f0 < a ∧ 0 ≤ e.f1 ∧ e.f1 < b ∧ 0 ≤ e.f2 ∧ e.f2 ≤ 100 := by
  unfold rightB at h
  split at h; · cases h
  split at h; · cases h
  split at h; · cases h
  split at h; · cases h
  split at h; · cases h
  refine ⟨by omega, fun e he => ?_⟩
  have h1 : l.any (badE a b) = false := by simpa using h
  have h2 := List.any_eq_false.1 h1 e he
  unfold badE at h2
  split at h2; · exact absurd rfl h2
  split at h2; · exact absurd rfl h2
  split at h2; · exact absurd rfl h2
  split at h2; · exact absurd rfl h2
  split at h2; · exact absurd rfl h2
  have h3 : ¬ e.f2 > 100 := by simpa using h2
  omega

theorem nextOf_len (l : List S40) : ∀ rows, (nextOf rows l).length = rows.length := by
  induction l with
  | nil => intro rows; rfl
  | cons e l ih => intro rows; unfold nextOf; rw [ih]; simp
theorem nextOf_snoc (l : List S40) (e : S40) : ∀ rows, nextOf rows (l ++ [e]) = (nextOf rows l).set e.f0.toNat (rd_L3 (nextOf rows l) e.f0 ++ [e.f1]) := by
  induction l with
  | nil => intro rows; rfl
  | cons x l ih => intro rows; show nextOf _ (l ++ [e]) = _; rw [ih]; rfl
/-- No row is longer than the edges are many. -/
theorem nextOf_short (l : List S40) : ∀ (rows : List (List Int)) (b : Nat), (∀ row ∈ rows, row.length ≤ b) → ∀ row ∈ nextOf rows l, row.length ≤ b + l.length := by
  induction l with
  | nil => intro rows b h row hr; exact h row hr
  | cons e l ih =>
    intro rows b h row hr
    have := ih (rows.set e.f0.toNat (rd_L3 rows e.f0 ++ [e.f1])) (b + 1) (fun x hx => by
      rcases List.mem_or_eq_of_mem_set hx with h1 | h1
      · have := h x h1; omega
      · subst h1
        have : (rd_L3 rows e.f0).length ≤ b := by
          unfold rd_L3
          rw [List.getD_eq_getElem?_getD]
          cases hg : rows[e.f0.toNat]? with
          | none => simp
          | some r => exact h r (List.mem_of_getElem? hg)
        simp; omega) row hr
    simp only [List.length_cons]
    omega
theorem rd_L3_short (rows : List (List Int)) (i : Int) (b : Nat) (h : ∀ row ∈ rows, row.length ≤ b) : (rd_L3 rows i).length ≤ b := by
  unfold rd_L3
  rw [List.getD_eq_getElem?_getD]
  cases hg : rows[i.toNat]? with
  | none => simp
  | some r => exact h r (List.mem_of_getElem? hg)
theorem nextOf_ok (m : Nat) (l : List S40) : ∀ (rows : List (List Int)), (∀ row ∈ rows, RowOk m row) → (∀ e ∈ l, 0 ≤ e.f1 ∧ e.f1 < (m : Int)) → ∀ row ∈ nextOf rows l, RowOk m row := by
  induction l with
  | nil => intro rows h _ row hr; exact h row hr
  | cons e l ih =>
    intro rows h he row hr
    refine ih (rows.set e.f0.toNat (rd_L3 rows e.f0 ++ [e.f1])) (fun x hx => ?_) (fun x hx => he x (List.mem_cons_of_mem _ hx)) row hr
    rcases List.mem_or_eq_of_mem_set hx with h1 | h1
    · exact h x h1
    · subst h1
      intro j hj
      rcases List.mem_append.1 hj with h2 | h2
      · unfold rd_L3 at h2
        rw [List.getD_eq_getElem?_getD] at h2
        cases hg : rows[e.f0.toNat]? with
        | none => rw [hg] at h2; simp at h2
        | some r => rw [hg] at h2; exact h r (List.mem_of_getElem? hg) j h2
      · rw [List.mem_singleton.1 h2]; exact he e List.mem_cons_self
/-- While the rows are given columns. -/
theorem kuhn_good {n m : Nat} {rows : List (List Int)} (hrows : ∀ row ∈ rows, RowOk m row) : ∀ (d : Nat) (i : Int) (o : List Int), 0 ≤ i → i + d ≤ (n : Int) → o.length = m → (∀ x ∈ o, x < (n : Int)) →
    (kuhn rows m d i o).length = m ∧ ∀ x ∈ kuhn rows m d i o, x < (n : Int) := by
  intro d
  induction d with
  | zero => intro i o _ _ h1 h2; exact ⟨h1, h2⟩
  | succ d ih =>
    intro i o h0 hi h1 h2
    have hk := (findF_keeps hrows (m + 1) i (List.replicate m false) o h0 (by omega) ⟨by simp, h1, h2⟩).1
    exact ih (i + 1) _ (by omega) (by omega) hk.2.1 hk.2.2
theorem kuhn_snoc (rows : List (List Int)) (m : Nat) : ∀ (d : Nat) (i : Int) (o : List Int), kuhn rows m (d + 1) i o = (findF rows (m + 1) (i + d) (List.replicate m false) (kuhn rows m d i o)).2.2 := by
  intro d
  induction d with
  | zero => intro i o; simp [kuhn]
  | succ d ih =>
    intro i o
    rw [kuhn, ih, kuhn]
    rw [show i + 1 + (d : Int) = i + ((d + 1 : Nat) : Int) by omega]
theorem outOf_len (l : List Int) : ∀ j out, (outOf l j out).length = out.length := by
  induction l with
  | nil => intro j out; rfl
  | cons i l ih => intro j out; unfold outOf; rw [ih]; split <;> simp
theorem outOf_snoc (l : List Int) (x : Int) : ∀ j out, outOf (l ++ [x]) j out = if x ≥ 0 then (outOf l j out).set x.toNat (j + l.length) else outOf l j out := by
  induction l with
  | nil => intro j out; simp [outOf]
  | cons i l ih => intro j out; show outOf (l ++ [x]) _ _ = _; rw [ih]; simp only [outOf, List.length_cons]; rw [show j + 1 + (l.length : Int) = j + ((l.length + 1 : Nat) : Int) by omega]
end Go.Proofs.Ytamloclgignfgaa.PA
