/- Several texts of this claim, one behind the other. -/
import Derived.Test.YtlaneafplmbcnaaGe
import Derived.Test.YtlaneafplmbcnaaPOx46
import Derived.Test.YtlaneafplmbcnaaPOx48
import Derived.Test.YtlaneafplmbcnaaPOx47
namespace Go.Proofs.Ytlaneafplmbcnaa.PO
open Go.Proofs.YtlaneafplmbcnaaW.PrintWords
set_option linter.unusedVariables false
set_option linter.unusedSimpArgs false

theorem rd_set (o : List Int) (j j' x : Int) (h0 : 0 ≤ j) (h1 : j < o.length) (h2 : 0 ≤ j') : rd (o.set j.toNat x) j' = if j = j' then x else rd o j' := by
  unfold rd
  rw [List.getD_eq_getElem?_getD, List.getD_eq_getElem?_getD, List.getElem?_set]
  by_cases e : j = j'
  · subst e; rw [if_pos rfl, if_pos rfl, if_pos (by omega)]; rfl
  · rw [if_neg (by omega), if_neg e]
theorem sn_set (s : List Bool) (j j' : Int) (h0 : 0 ≤ j) (h1 : j < s.length) (h2 : 0 ≤ j') : rdOf false (s.set j.toNat true) j' = if j = j' then true else rdOf false s j' := by
  unfold rdOf
  rw [List.getD_eq_getElem?_getD, List.getD_eq_getElem?_getD, List.getElem?_set]
  by_cases e : j = j'
  · subst e; rw [if_pos rfl, if_pos rfl, if_pos (by omega)]; rfl
  · rw [if_neg (by omega), if_neg e]
/-- A set of columns out of which no way leads. -/
def Closed (rows : List (List Int)) (m : Nat) (o : List Int) (D : Int → Prop) : Prop :=
  ∀ j, D j → 0 ≤ j ∧ j < (m : Int) ∧ 0 ≤ rd o j ∧ ∀ j' ∈ rd_L3 rows (rd o j), D j'

/-- What holds when k rows have been asked. -/
structure KInv (rows : List (List Int)) (n m k : Nat) (o : List Int) : Prop where
  len : o.length = m
  lt : ∀ x ∈ o, x < (n : Int)
  one : ∀ r, 0 ≤ r → o.count r ≤ 1
  late : ∀ r, (k : Int) ≤ r → o.count r = 0
  edge : ∀ j, 0 ≤ j → j < (m : Int) → 0 ≤ rd o j → j ∈ rd_L3 rows (rd o j)
  dead : ∃ D, Closed rows m o D ∧ ∀ r, 0 ≤ r → r < (k : Int) → o.count r = 0 → ∀ j ∈ rd_L3 rows r, D j

end Go.Proofs.Ytlaneafplmbcnaa.PO

namespace Go.Proofs.Ytlaneafplmbcnaa.PO
open Go.RowKit Go.Proofs.YtlaneafplmbcnaaW.PrintWords Go.Proofs.YtlaneafplmbcnaaW.PrintLast Go.Proofs.YtlaneafplmbcnaaW.PrintMore
set_option linter.unusedVariables false
set_option linter.unusedSimpArgs false

theorem w64 {n : Int} (h0 : -9223372036854775808 ≤ n) (h1 : n ≤ 9223372036854775807) : wrap64 n = n := by unfold wrap64; omega
theorem put_nx (k m : Nat) (x y : Int) (h : k < m) : (List.replicate k x ++ List.replicate (m - k) y).set k x = List.replicate (k + 1) x ++ List.replicate (m - (k + 1)) y := by
  rw [List.set_append_right _ _ (by simp), List.length_replicate, Nat.sub_self, show m - k = (m - (k + 1)) + 1 by omega, List.replicate_succ, List.set_cons_zero, List.replicate_succ', List.append_assoc]
  rfl
theorem drop_rd {l : List S33} {i : Nat} (h : i < l.length) : l.drop i = rd_T33 l (i : Int) :: l.drop (i + 1) := by
  rw [List.drop_eq_getElem_cons h]
  congr 1
  simp [rd_T33, List.getD_eq_getElem?_getD, List.getElem?_eq_getElem h]
theorem drop_rdI {l : List Int} {i : Nat} (h : i < l.length) : l.drop i = rd l (i : Int) :: l.drop (i + 1) := by
  rw [List.drop_eq_getElem_cons h]
  congr 1
  simp [rd, List.getD_eq_getElem?_getD, List.getElem?_eq_getElem h]
theorem rd_L3_mem {t : List (List Int)} {i : Int} (h0 : 0 ≤ i) (h1 : i < t.length) : rd_L3 t i ∈ t := by
  unfold rd_L3
  rw [List.getD_eq_getElem?_getD, List.getElem?_eq_getElem (show i.toNat < t.length by omega)]
  exact List.getElem_mem _
theorem rd_L3_set (t : List (List Int)) (i i' : Int) (r : List Int) (h0 : 0 ≤ i) (h1 : i < t.length) (h2 : 0 ≤ i') : rd_L3 (t.set i.toNat r) i' = if i = i' then r else rd_L3 t i' := by
  unfold rd_L3
  rw [List.getD_eq_getElem?_getD, List.getD_eq_getElem?_getD, List.getElem?_set]
  by_cases e : i = i'
  · subst e; rw [if_pos rfl, if_pos rfl, if_pos (by omega)]; rfl
  · rw [if_neg (by omega), if_neg e]

theorem Right_l0 (a b : Int) (l : List S33) (hl : l.length ≤ 9223372036854775807) : ∀ (d i : Nat), i + d = l.length → Ev (fun k => orreryref19_Right.l0 k a b l (l.length : Int) (i : Int)) (!((l.drop i).any (badE a b))) := by
  intro d
  induction d with
  | zero =>
    intro i hi
    refine Ev.step (f := fun _ => some true) (fun k => ?_) ?_
    · simp only [orreryref19_Right.l0]; rw [if_neg (by omega)]
    · rw [List.drop_eq_nil_of_le (by omega)]; exact Ev.now _
  | succ d ih =>
    intro i hi
    rw [drop_rd (show i < l.length by omega)]
    generalize he : rd_T33 l (i : Int) = e
    refine Ev.step (f := fun k => if badE a b e = true then some false else orreryref19_Right.l0 k a b l (l.length : Int) ((i + 1 : Nat) : Int)) (fun k => ?_) ?_
    · simp only [orreryref19_Right.l0]
      rw [if_pos (by omega), if_pos (by omega), if_pos (by omega), he, w64 (by omega) (by omega), show (i : Int) + 1 = ((i + 1 : Nat) : Int) by omega]
      unfold badE
      by_cases c1 : e.f0 < 0
      · simp [c1]
      rw [if_neg c1, if_neg c1]
      by_cases c2 : e.f0 ≥ a
      · simp [c2]
      rw [if_neg c2, if_neg c2]
      by_cases c3 : e.f1 < 0
      · simp [c3]
      rw [if_neg c3, if_neg c3]
      by_cases c4 : e.f1 ≥ b
      · simp [c4]
      rw [if_neg c4, if_neg c4]
      by_cases c5 : e.f2 < 0
      · simp [c5]
      rw [if_neg c5, if_neg c5]
      by_cases c6 : e.f2 > 100
      · simp [c6]
      · simp [c6]
    · cases hb : badE a b e with
      | true => simp only [List.any_cons, hb, if_true]; exact Ev.now _
      | false => simpa [List.any_cons, hb] using ih (i + 1) (by omega)
theorem Ev_Right (a b : Int) (l : List S33) (hl : l.length ≤ 9223372036854775807) : Ev (fun k => orreryref19_Right.f k a b l) (rightB a b l) := by
  have hj : Ev (fun k => orreryref19_Right.j0 k a b l true) false := Ev.step (f := fun _ => some false) (fun k => by simp [orreryref19_Right.j0]) (Ev.now _)
  unfold orreryref19_Right.f rightB
  by_cases c1 : a < 0
  · simp only [if_pos c1]; exact hj
  simp only [if_neg c1]
  by_cases c2 : b < 0
  · simp only [if_pos c2]; exact hj
  simp only [if_neg c2]
  by_cases c3 : a > 64
  · simp only [if_pos c3]; exact hj
  simp only [if_neg c3]
  by_cases c4 : b > 64
  · simp only [if_pos c4]; exact hj
  simp only [if_neg c4]
  by_cases c5 : l.length > 4096
  · rw [decide_eq_true (show (l.length : Int) > 4096 by omega)]; simp only [if_pos c5]; exact hj
  · rw [decide_eq_false (show ¬ (l.length : Int) > 4096 by omega)]; simp only [if_neg c5]
    refine Ev.step (f := fun k => orreryref19_Right.l0 k a b l (l.length : Int) ((0 : Nat) : Int)) (fun k => ?_) ?_
    · simp only [orreryref19_Right.j0]; rw [if_neg (by decide)]; rfl
    · simpa using Right_l0 a b l hl l.length 0 (by omega)

/-- An edge is noted. -/
def tabS (t : List (List Int)) (e : S33) : List (List Int) := if e.f2 > rd (rd_L3 t e.f0) e.f1 then t.set e.f0.toNat ((rd_L3 t e.f0).set e.f1.toNat e.f2) else t
/-- All weights. -/
def tabL (n m : Nat) (l : List S33) : List (List Int) := l.foldl tabS (List.replicate n (List.replicate m (-1)))
/-- n rows of m numbers. -/
def Grid (n m : Nat) (t : List (List Int)) : Prop := t.length = n ∧ ∀ r ∈ t, r.length = m
def Edges (n m : Nat) (l : List S33) : Prop := ∀ e ∈ l, 0 ≤ e.f0 ∧ e.f0 < (n : Int) ∧ 0 ≤ e.f1 ∧ e.f1 < (m : Int) ∧ 0 ≤ e.f2 ∧ e.f2 ≤ 100
theorem Grid.row {n m : Nat} {t : List (List Int)} (h : Grid n m t) {i : Int} (h0 : 0 ≤ i) (h1 : i < (n : Int)) : (rd_L3 t i).length = m := h.2 _ (rd_L3_mem h0 (by rw [h.1]; exact h1))
theorem tabS_grid {n m : Nat} {t : List (List Int)} (h : Grid n m t) (e : S33) (he : 0 ≤ e.f0 ∧ e.f0 < (n : Int)) : Grid n m (tabS t e) := by
  unfold tabS
  split
  · refine ⟨by simp [h.1], fun r hr => ?_⟩
    rcases List.mem_or_eq_of_mem_set hr with h1 | h1
    · exact h.2 r h1
    · rw [h1, List.length_set]; exact h.row he.1 he.2
  · exact h
theorem grid0 (n m : Nat) : Grid n m (List.replicate n (List.replicate m (-1))) := ⟨by simp, fun r hr => by rw [List.eq_of_mem_replicate hr]; simp⟩
theorem tabL_grid_from {n m : Nat} (l : List S33) (hl : Edges n m l) : ∀ t, Grid n m t → Grid n m (l.foldl tabS t) := by
  induction l with
  | nil => intro t h; exact h
  | cons e l ih => intro t h; exact ih (fun x hx => hl x (List.mem_cons_of_mem _ hx)) _ (tabS_grid h e ⟨(hl e List.mem_cons_self).1, (hl e List.mem_cons_self).2.1⟩)
theorem tabL_grid {n m : Nat} (l : List S33) (hl : Edges n m l) : Grid n m (tabL n m l) := tabL_grid_from l hl _ (grid0 n m)
theorem Table_l2 {n m : Nat} (l : List S33) (hn : l.length ≤ 4096) (hl : Edges n m l) : ∀ (d i : Nat) (t : List (List Int)), i + d = l.length → Grid n m t → Ev (fun k => orreryref19_Table.l2 k t l (l.length : Int) (i : Int)) ((l.drop i).foldl tabS t) := by
  intro d
  induction d with
  | zero =>
    intro i t hi _
    refine Ev.step (f := fun _ => some t) (fun k => ?_) ?_
    · simp only [orreryref19_Table.l2]; rw [if_neg (by omega)]
    · rw [List.drop_eq_nil_of_le (by omega)]; exact Ev.now _
  | succ d ih =>
    intro i t hi hg
    have hmem : rd_T33 l (i : Int) ∈ l := List.mem_of_mem_drop (i := i) (by rw [drop_rd (show i < l.length by omega)]; exact List.mem_cons_self)
    rw [drop_rd (show i < l.length by omega)]
    generalize he : rd_T33 l (i : Int) = e at hmem
    have hb := hl e hmem
    refine Ev.step (f := fun k => orreryref19_Table.l2 k (tabS t e) l (l.length : Int) ((i + 1 : Nat) : Int)) (fun k => ?_) (ih (i + 1) _ (by omega) (tabS_grid hg e ⟨hb.1, hb.2.1⟩))
    simp only [orreryref19_Table.l2]
    rw [if_pos (by omega), if_pos (by omega), if_pos (by omega), he, if_pos hb.1, if_pos (by rw [hg.1]; exact hb.2.1), if_pos hb.2.2.1, if_pos (by rw [hg.row hb.1 hb.2.1]; exact hb.2.2.2.1), w64 (by omega) (by omega), show (i : Int) + 1 = ((i + 1 : Nat) : Int) by omega]
    unfold tabS
    split <;> rfl
theorem Table_l1 {m : Nat} (hm : m ≤ 64) (a b : Int) (l : List S33) (R : List (List Int)) (x7 : List (List Int)) (x8 : Int) (h7 : x7.length ≤ 64)
    (hc : Ev (fun k => orreryref19_Table.l0 k a b l (x7 ++ [List.replicate m (-1)]) (wrap64 (x8 + 1))) R) :
    ∀ (d j : Nat), j + d = m → Ev (fun k => orreryref19_Table.l1 k a b l x7 x8 (List.replicate j (-1) ++ List.replicate (m - j) 0) (m : Int) (j : Int)) R := by
  intro d
  induction d with
  | zero =>
    intro j hj
    have hjm : j = m := by omega
    subst hjm
    refine Ev.step (fun k => ?_) hc
    simp only [orreryref19_Table.l1]
    rw [if_neg (by omega), if_pos (by omega)]
    simp
  | succ d ih =>
    intro j hj
    refine Ev.step (fun k => ?_) (ih (j + 1) (by omega))
    simp only [orreryref19_Table.l1]
    rw [if_pos (by omega), if_pos (by omega), if_pos (by simp; omega), w64 (by omega) (by omega), show (j : Int) + 1 = ((j + 1 : Nat) : Int) by omega, Int.toNat_natCast, put_nx j m (-1) 0 (by omega)]
theorem Table_l0 {n m : Nat} (hn : n ≤ 64) (hm : m ≤ 64) (l : List S33) (hl : l.length ≤ 4096) (he : Edges n m l) : ∀ (d i : Nat), i + d = n → Ev (fun k => orreryref19_Table.l0 k (n : Int) (m : Int) l (List.replicate i (List.replicate m (-1))) (i : Int)) (tabL n m l) := by
  intro d
  induction d with
  | zero =>
    intro i hi
    have hin : i = n := by omega
    subst hin
    refine Ev.step (fun k => ?_) (Table_l2 l hl he l.length 0 _ (by omega) (grid0 i m))
    simp only [orreryref19_Table.l0]
    rw [if_neg (by omega)]
    rfl
  | succ d ih =>
    intro i hi
    have h1 := Table_l1 hm (n : Int) (m : Int) l (tabL n m l) (List.replicate i (List.replicate m (-1))) (i : Int) (by simp; omega)
      (by
        rw [w64 (by omega) (by omega), show (i : Int) + 1 = ((i + 1 : Nat) : Int) by omega, ← List.replicate_succ']
        exact ih (i + 1) (by omega)) m 0 (by omega)
    refine Ev.step (fun k => ?_) h1
    simp only [orreryref19_Table.l0]
    rw [if_pos (by omega), if_pos (by omega), if_pos (by omega)]
    simp
theorem Ev_Table {a b : Int} {l : List S33} (h : rightB a b l = true) : Ev (fun k => orreryref19_Table.f k a b l) (tabL a.toNat b.toNat l) := by
  obtain ⟨⟨ha0, ha1, hb0, hb1, hlen⟩, hed⟩ := rightB_iff a b l h
  have h1 := Table_l0 (n := a.toNat) (m := b.toNat) (by omega) (by omega) l hlen (fun e he => by have := hed e he; omega) a.toNat 0 (by omega)
  rw [Int.toNat_of_nonneg ha0, Int.toNat_of_nonneg hb0] at h1
  unfold orreryref19_Table.f
  exact h1
/-- What Matching says of what is still to come. -/
def matL (t : List (List Int)) (m : Int) : List Int → Nat → List Int → Bool
  | [], _, _ => true
  | x :: l, i, u => if x = -1 then matL t m l (i + 1) u else if x < 0 then false else if x ≥ m then false else if rd (rd_L3 t (i : Int)) x < 0 then false else if rd u x = 1 then false else matL t m l (i + 1) (u.set x.toNat 1)

theorem Matching_l0 {n m : Nat} {t : List (List Int)} (ht : Grid n m t) (l : List Int) (hl : l.length = n) (hn : l.length ≤ 9223372036854775807) : ∀ (d i : Nat) (u : List Int), i + d = l.length → u.length = m →
    Ev (fun k => orreryref19_Matching.l0 k t (m : Int) u l (l.length : Int) (i : Int)) (matL t m (l.drop i) i u) := by
  intro d
  induction d with
  | zero =>
    intro i u hi _
    refine Ev.step (f := fun _ => some true) (fun k => ?_) ?_
    · simp only [orreryref19_Matching.l0]; rw [if_neg (by omega)]
    · rw [List.drop_eq_nil_of_le (by omega)]; exact Ev.now _
  | succ d ih =>
    intro i u hi hu
    rw [drop_rdI (show i < l.length by omega)]
    generalize hx : rd l (i : Int) = x
    have hno : Ev (fun _ : Nat => some false) false := Ev.now _
    unfold matL
    by_cases c1 : x = -1
    · rw [if_pos c1]
      refine Ev.step (fun k => ?_) (ih (i + 1) u (by omega) hu)
      simp only [orreryref19_Matching.l0]
      rw [if_pos (by omega), if_pos (by omega), if_pos (by omega), hx, if_pos c1, w64 (by omega) (by omega), show (i : Int) + 1 = ((i + 1 : Nat) : Int) by omega]
    rw [if_neg c1]
    by_cases c2 : x < 0
    · rw [if_pos c2]
      refine Ev.step (fun k => ?_) hno
      simp only [orreryref19_Matching.l0]
      rw [if_pos (by omega), if_pos (by omega), if_pos (by omega), hx, if_neg c1, if_pos c2]
    rw [if_neg c2]
    by_cases c3 : x ≥ (m : Int)
    · rw [if_pos c3]
      refine Ev.step (fun k => ?_) hno
      simp only [orreryref19_Matching.l0]
      rw [if_pos (by omega), if_pos (by omega), if_pos (by omega), hx, if_neg c1, if_neg c2, if_pos c3]
    rw [if_neg c3]
    have hrow := ht.row (i := (i : Int)) (by omega) (by omega)
    by_cases c4 : rd (rd_L3 t (i : Int)) x < 0
    · rw [if_pos c4]
      refine Ev.step (fun k => ?_) hno
      simp only [orreryref19_Matching.l0]
      rw [if_pos (by omega), if_pos (by omega), if_pos (by omega), hx, if_neg c1, if_neg c2, if_neg c3, if_pos (by rw [ht.1]; omega), if_pos (by omega), if_pos (by rw [hrow]; omega), if_pos c4]
    rw [if_neg c4]
    by_cases c5 : rd u x = 1
    · rw [if_pos c5]
      refine Ev.step (fun k => ?_) hno
      simp only [orreryref19_Matching.l0]
      rw [if_pos (by omega), if_pos (by omega), if_pos (by omega), hx, if_neg c1, if_neg c2, if_neg c3, if_pos (by rw [ht.1]; omega), if_pos (by omega), if_pos (by rw [hrow]; omega), if_neg c4, if_pos (by rw [hu]; omega), if_pos c5]
    · rw [if_neg c5]
      refine Ev.step (fun k => ?_) (ih (i + 1) (u.set x.toNat 1) (by omega) (by simp [hu]))
      simp only [orreryref19_Matching.l0]
      rw [if_pos (by omega), if_pos (by omega), if_pos (by omega), hx, if_neg c1, if_neg c2, if_neg c3, if_pos (by rw [ht.1]; omega), if_pos (by omega), if_pos (by rw [hrow]; omega), if_neg c4, if_pos (by rw [hu]; omega), if_neg c5, w64 (by omega) (by omega), show (i : Int) + 1 = ((i + 1 : Nat) : Int) by omega]
/-- What it says, in words. -/
theorem matL_iff {n m : Nat} {t : List (List Int)} (ht : Grid n m t) (l : List Int) (hl : l.length = n) : ∀ (d i : Nat) (u : List Int), i + d = l.length → u.length = m → (∀ x : Int, 0 ≤ x → x < (m : Int) → (rd u x = 1 ↔ ∃ k : Int, 0 ≤ k ∧ k < (i : Int) ∧ rd l k = x)) →
    (matL t m (l.drop i) i u = true ↔ (∀ k : Int, (i : Int) ≤ k → k < (l.length : Int) → rd l k = -1 ∨ (0 ≤ rd l k ∧ rd l k < (m : Int) ∧ 0 ≤ rd (rd_L3 t k) (rd l k))) ∧ ∀ k k' : Int, 0 ≤ k → k < k' → (i : Int) ≤ k' → k' < (l.length : Int) → rd l k = rd l k' → rd l k' = -1) := by
  intro d
  induction d with
  | zero =>
    intro i u hi _ _
    rw [List.drop_eq_nil_of_le (by omega)]
    simp only [matL, true_iff]
    exact ⟨fun k h0 h1 => by omega, fun k k' _ _ h0 h1 => by omega⟩
  | succ d ih =>
    intro i u hi hu huu
    rw [drop_rdI (show i < l.length by omega)]
    generalize hx : rd l (i : Int) = x
    unfold matL
    have splitA : ∀ (P : Int → Prop), (∀ k : Int, (i : Int) ≤ k → k < (l.length : Int) → P k) ↔ P (i : Int) ∧ ∀ k : Int, ((i + 1 : Nat) : Int) ≤ k → k < (l.length : Int) → P k := fun P =>
      ⟨fun h => ⟨h _ (by omega) (by omega), fun k h0 h1 => h k (by omega) h1⟩, fun h k h0 h1 => by
        by_cases e : k = (i : Int)
        · rw [e]; exact h.1
        · exact h.2 k (by omega) h1⟩
    rw [splitA, hx]
    have splitB : (∀ k k' : Int, 0 ≤ k → k < k' → (i : Int) ≤ k' → k' < (l.length : Int) → rd l k = rd l k' → rd l k' = -1) ↔ (∀ k : Int, 0 ≤ k → k < (i : Int) → rd l k = x → x = -1) ∧ ∀ k k' : Int, 0 ≤ k → k < k' → ((i + 1 : Nat) : Int) ≤ k' → k' < (l.length : Int) → rd l k = rd l k' → rd l k' = -1 :=
      ⟨fun h => ⟨fun k h0 h1 h2 => by have := h k (i : Int) h0 h1 (by omega) (by omega) (by rw [h2, hx]); rwa [hx] at this, fun k k' h0 h1 h2 h3 h4 => h k k' h0 h1 (by omega) h3 h4⟩, fun h k k' h0 h1 h2 h3 h4 => by
        by_cases e : k' = (i : Int)
        · subst e; rw [hx] at h4 ⊢; exact h.1 k h0 h1 h4
        · exact h.2 k k' h0 h1 (by omega) h3 h4⟩
    rw [splitB]
    by_cases c1 : x = -1
    · rw [if_pos c1, ih (i + 1) u (by omega) hu (fun y h0 h1 => by
        rw [huu y h0 h1]
        exact ⟨fun ⟨k, a, b, c⟩ => ⟨k, a, by omega, c⟩, fun ⟨k, a, b, c⟩ => ⟨k, a, by
          by_cases e : k = (i : Int)
          · rw [e, hx] at c; omega
          · omega, c⟩⟩)]
      simp [c1]
    rw [if_neg c1]
    by_cases c2 : x < 0
    · rw [if_pos c2]; simp only [Bool.false_eq_true, false_iff]; intro h; have := h.1.1; omega
    rw [if_neg c2]
    by_cases c3 : x ≥ (m : Int)
    · rw [if_pos c3]; simp only [Bool.false_eq_true, false_iff]; intro h; have := h.1.1; omega
    rw [if_neg c3]
    by_cases c4 : rd (rd_L3 t (i : Int)) x < 0
    · rw [if_pos c4]; simp only [Bool.false_eq_true, false_iff]; intro h; have := h.1.1; omega
    rw [if_neg c4]
    by_cases c5 : rd u x = 1
    · rw [if_pos c5]
      simp only [Bool.false_eq_true, false_iff]
      intro h
      obtain ⟨k, a, b, c⟩ := (huu x (by omega) (by omega)).1 c5
      exact c1 (h.2.1 k a b c)
    · rw [if_neg c5, ih (i + 1) (u.set x.toNat 1) (by omega) (by simp [hu]) (fun y h0 h1 => by
        rw [rd_set u x y 1 (by omega) (by omega) h0]
        by_cases e : x = y
        · rw [if_pos e]; simp only [true_iff]; exact ⟨(i : Int), by omega, by omega, by rw [hx, e]⟩
        · rw [if_neg e, huu y h0 h1]
          exact ⟨fun ⟨k, a, b, c⟩ => ⟨k, a, by omega, c⟩, fun ⟨k, a, b, c⟩ => ⟨k, a, by
            by_cases e' : k = (i : Int)
            · rw [e', hx] at c; exact absurd c e
            · omega, c⟩⟩)]
      have hA : x = -1 ∨ (0 ≤ x ∧ x < (m : Int) ∧ 0 ≤ rd (rd_L3 t (i : Int)) x) := .inr ⟨by omega, by omega, by omega⟩
      have hB : ∀ k : Int, 0 ≤ k → k < (i : Int) → rd l k = x → x = -1 := fun k a b c => absurd ((huu x (by omega) (by omega)).2 ⟨k, a, b, c⟩) c5
      exact ⟨fun h => ⟨⟨hA, h.1⟩, hB, h.2⟩, fun h => ⟨h.1.2, h.2.2⟩⟩
end Go.Proofs.Ytlaneafplmbcnaa.PO
