/- Several texts of this claim, one behind the other. -/
import Derived.Test.YtlaneafplmbcnaaPOx66
import Derived.Test.YtlaneafplmbcnaaOb
import Derived.Test.YtlaneafplmbcnaaPOx67
import Derived.Test.YtlaneafplmbcnaaPOx68
namespace Go.Proofs.Ytlaneafplmbcnaa.PO
open Go.RowKit Go.Proofs.YtlaneafplmbcnaaW.PrintWords Go.Proofs.YtlaneafplmbcnaaW.PrintLast Go.Proofs.YtlaneafplmbcnaaW.PrintMore
set_option linter.unusedVariables false
set_option linter.unusedSimpArgs false

/-- A weight is noted in a table of match's. -/
def tabM (t : List (List Int)) (e : S33) : List (List Int) := t.set e.f0.toNat ((rd_L3 t e.f0).set e.f1.toNat (mx (rd (rd_L3 t e.f0) e.f1) e.f2))
def tabN (n : Nat) (l : List S33) : List (List Int) := l.foldl tabM (List.replicate n (List.replicate n (-1073741824)))
/-- The weight, as match says it. -/
def wz (l : List S33) (i j : Int) : Int := if 0 ≤ wt l i j then wt l i j else -1073741824
theorem tabM_grid {n m : Nat} {t : List (List Int)} (h : Grid n m t) (e : S33) (he : 0 ≤ e.f0 ∧ e.f0 < (n : Int)) : Grid n m (tabM t e) := by
  unfold tabM
  refine ⟨by simp [h.1], fun r hr => ?_⟩
  rcases List.mem_or_eq_of_mem_set hr with h1 | h1
  · exact h.2 r h1
  · rw [h1, List.length_set]; exact h.row he.1 he.2
theorem tabM_at {n m : Nat} {t : List (List Int)} (ht : Grid n m t) (e : S33) (he : 0 ≤ e.f0 ∧ e.f0 < (n : Int) ∧ 0 ≤ e.f1 ∧ e.f1 < (m : Int)) (i j : Int) (i0 : 0 ≤ i) (i1 : i < (n : Int)) (j0 : 0 ≤ j) (j1 : j < (m : Int)) :
    rd (rd_L3 (tabM t e) i) j = if e.f0 = i ∧ e.f1 = j then mx (rd (rd_L3 t i) j) e.f2 else rd (rd_L3 t i) j := by
  have hr := ht.row he.1 he.2.1
  have hl := ht.1
  unfold tabM
  rw [rd_L3_set t e.f0 i _ he.1 (by omega) i0]
  by_cases q : e.f0 = i
  · rw [if_pos q, rd_set _ e.f1 j _ he.2.2.1 (by omega) j0]
    by_cases q' : e.f1 = j
    · rw [if_pos q', if_pos ⟨q, q'⟩, q, q']
    · rw [if_neg q', if_neg (fun h => q' h.2), q]
  · rw [if_neg q, if_neg (fun h => q h.1)]
theorem tabN_from {n m : Nat} (l : List S33) (hl : Edges n m l) : ∀ (t : List (List Int)), Grid n m t → Grid n m (l.foldl tabM t) ∧ ∀ i j : Int, 0 ≤ i → i < (n : Int) → 0 ≤ j → j < (m : Int) → ∀ w : Int, ((w = -1 ∧ rd (rd_L3 t i) j = -1073741824) ∨ (0 ≤ w ∧ rd (rd_L3 t i) j = w)) →
    (l.foldl (wS i j) w = -1 ∧ rd (rd_L3 (l.foldl tabM t) i) j = -1073741824) ∨ (0 ≤ l.foldl (wS i j) w ∧ rd (rd_L3 (l.foldl tabM t) i) j = l.foldl (wS i j) w) := by
  induction l with
  | nil => intro t ht; exact ⟨ht, fun i j _ _ _ _ w h => h⟩
  | cons e l ih =>
    intro t ht
    have he := hl e List.mem_cons_self
    obtain ⟨h1, h2⟩ := ih (fun x hx => hl x (List.mem_cons_of_mem _ hx)) (tabM t e) (tabM_grid ht e ⟨he.1, he.2.1⟩)
    refine ⟨h1, fun i j i0 i1 j0 j1 w hw => h2 i j i0 i1 j0 j1 (wS i j w e) ?_⟩
    rw [tabM_at ht e ⟨he.1, he.2.1, he.2.2.1, he.2.2.2.1⟩ i j i0 i1 j0 j1]
    unfold wS mx
    by_cases q : e.f0 = i ∧ e.f1 = j
    · rw [if_pos q]
      by_cases q' : e.f2 > w
      · rw [if_pos ⟨q.1, q.2, q'⟩]
        right
        rcases hw with ⟨a, b⟩ | ⟨a, b⟩
        · rw [b, if_pos (by omega)]; omega
        · rw [b, if_pos (by omega)]; omega
      · rw [if_neg (fun h => q' h.2.2)]
        right
        rcases hw with ⟨a, b⟩ | ⟨a, b⟩
        · omega
        · rw [b, if_neg (by omega)]; omega
    · rw [if_neg q, if_neg (fun h => q ⟨h.1, h.2.1⟩)]; exact hw
theorem tabN_grid {n : Nat} {l : List S33} (hl : Edges n n l) : Grid n n (tabN n l) := (tabN_from l hl _ ⟨by simp, fun r hr => by rw [List.eq_of_mem_replicate hr]; simp⟩).1
theorem tabN_at {n : Nat} {l : List S33} (hl : Edges n n l) {i j : Int} (i0 : 0 ≤ i) (i1 : i < (n : Int)) (j0 : 0 ≤ j) (j1 : j < (n : Int)) : rd (rd_L3 (tabN n l) i) j = wz l i j := by
  have h := (tabN_from l hl (List.replicate n (List.replicate n (-1073741824))) ⟨by simp, fun r hr => by rw [List.eq_of_mem_replicate hr]; simp⟩).2 i j i0 i1 j0 j1 (-1) (.inl ⟨rfl, by
    have : rd_L3 (List.replicate n (List.replicate n (-1073741824))) i = List.replicate n (-1073741824) := by
      unfold rd_L3; rw [List.getD_eq_getElem?_getD, List.getElem?_replicate, if_pos (by omega)]; rfl
    rw [this, rd_rep j0 j1]⟩)
  unfold tabN wz wt
  rcases h with ⟨a, b⟩ | ⟨a, b⟩
  · rw [b, if_neg (by omega)]
  · rw [b, if_pos a]
theorem wz_cases {n : Nat} {l : List S33} (hl : Edges n n l) (i j : Int) : (0 ≤ wt l i j ∧ wz l i j = wt l i j ∧ wt l i j ≤ 100) ∨ (wt l i j < 0 ∧ wz l i j = -1073741824) := by
  unfold wz
  by_cases h : 0 ≤ wt l i j
  · exact .inl ⟨h, by rw [if_pos h], wt_le hl i j⟩
  · exact .inr ⟨by omega, by rw [if_neg h]⟩

theorem tableM_l2 {n : Nat} (l : List S33) (hn : l.length ≤ 4096) (hl : Edges n n l) : ∀ (d i : Nat) (t : List (List Int)), i + d = l.length → Grid n n t → Ev (fun k => match_table.l2 k t l (l.length : Int) (i : Int)) ((l.drop i).foldl tabM t) := by
  intro d
  induction d with
  | zero =>
    intro i t hi ht
    rw [List.drop_eq_nil_of_le (by omega)]
    refine Ev.step (f := fun _ => some t) (fun k => ?_) (Ev.now _)
    simp only [match_table.l2]; rw [if_neg (by omega)]
  | succ d ih =>
    intro i t hi ht
    have hm : rd_T33 l (i : Int) ∈ l := by
      unfold rd_T33; rw [List.getD_eq_getElem?_getD, Int.toNat_natCast, List.getElem?_eq_getElem (by omega)]; exact List.getElem_mem _
    rw [drop_rd (show i < l.length by omega), List.foldl_cons]
    generalize hx : rd_T33 l (i : Int) = e at hm
    have he := hl e hm
    have hr := ht.row he.1 he.2.1
    refine Ev.step (fun k => ?_) (ih (i + 1) (tabM t e) (by omega) (tabM_grid ht e ⟨he.1, he.2.1⟩))
    simp only [match_table.l2]
    rw [if_pos (by omega), if_pos (by omega), if_pos (by omega), hx, if_pos he.1, if_pos (by rw [ht.1]; omega), if_pos he.2.2.1, if_pos (by rw [hr]; omega), w64 (by omega) (by omega), show (i : Int) + 1 = ((i + 1 : Nat) : Int) by omega]
    rfl
/-- The table after i rows (of n), the next row filled up to j. -/
def halfT (n i : Nat) : List (List Int) := List.replicate i (List.replicate n (-1073741824)) ++ List.replicate (n - i) []
theorem halfT_set (n i : Nat) (h : i < n) (r : List Int) : (halfT n i).set i r = List.replicate i (List.replicate n (-1073741824)) ++ r :: List.replicate (n - (i + 1)) [] := by
  unfold halfT
  rw [List.set_append_right _ _ (by simp), List.length_replicate, Nat.sub_self, show n - i = (n - (i + 1)) + 1 by omega, List.replicate_succ, List.set_cons_zero]
theorem half_row (n i : Nat) (r : List Int) : rd_L3 (List.replicate i (List.replicate n (-1073741824)) ++ r :: List.replicate (n - (i + 1)) []) (i : Int) = r := by
  unfold rd_L3
  rw [List.getD_eq_getElem?_getD, Int.toNat_natCast, List.getElem?_append_right (by simp), List.length_replicate, Nat.sub_self]; rfl
theorem half_put (n i : Nat) (r r' : List Int) : (List.replicate i (List.replicate n (-1073741824)) ++ r :: List.replicate (n - (i + 1)) []).set i r' = List.replicate i (List.replicate n (-1073741824)) ++ r' :: List.replicate (n - (i + 1)) [] := by
  rw [List.set_append_right _ _ (by simp), List.length_replicate, Nat.sub_self, List.set_cons_zero]
theorem half_len (n i : Nat) (h : i < n) (r : List Int) : (List.replicate i (List.replicate n (-1073741824)) ++ r :: List.replicate (n - (i + 1)) []).length = n := by simp; omega
theorem half_full (n i : Nat) (h : i < n) : List.replicate i (List.replicate n (-1073741824)) ++ List.replicate n (-1073741824) :: List.replicate (n - (i + 1)) [] = halfT n (i + 1) := by
  unfold halfT; rw [List.replicate_succ', List.append_assoc]; rfl
theorem tableM_l1 {n : Nat} (hn : n ≤ 64) (l : List S33) (i : Nat) (hi : i < n) (R : List (List Int)) (h : Ev (fun k => match_table.l0 k (n : Int) l (halfT n (i + 1)) (n : Int) ((i + 1 : Nat) : Int)) R) :
    ∀ (d j : Nat), j + d = n → Ev (fun k => match_table.l1 k (n : Int) l (List.replicate i (List.replicate n (-1073741824)) ++ (List.replicate j (-1073741824) ++ List.replicate (n - j) 0) :: List.replicate (n - (i + 1)) []) (i : Int) (n : Int) (i : Int) (n : Int) (j : Int)) R := by
  intro d
  induction d with
  | zero =>
    intro j hj
    have : j = n := by omega
    subst this
    refine Ev.step (fun k => ?_) h
    simp only [match_table.l1]
    rw [if_neg (by omega), w64 (by omega) (by omega), show (i : Int) + 1 = ((i + 1 : Nat) : Int) by omega, Nat.sub_self, List.replicate_zero, List.append_nil, half_full j i hi]
  | succ d ih =>
    intro j hj
    have hlr : (List.replicate j (-1073741824 : Int) ++ List.replicate (n - j) 0).length = n := by simp; omega
    refine Ev.step (fun k => ?_) (ih (j + 1) (by omega))
    simp only [match_table.l1]
    rw [if_pos (by omega), if_pos (by omega), if_pos (by rw [half_len n i hi]; omega), if_pos (by omega), half_row, if_pos (by rw [hlr]; omega), Int.toNat_natCast, Int.toNat_natCast, half_put, put_nx j n (-1073741824) 0 (by omega), w64 (by omega) (by omega), show (j : Int) + 1 = ((j + 1 : Nat) : Int) by omega]
theorem tableM_l0 {n : Nat} (hn : n ≤ 64) (l : List S33) (hl : l.length ≤ 4096) (he : Edges n n l) : ∀ (d i : Nat), i + d = n → Ev (fun k => match_table.l0 k (n : Int) l (halfT n i) (n : Int) (i : Int)) (tabN n l) := by
  intro d
  induction d with
  | zero =>
    intro i hi
    have : i = n := by omega
    subst this
    have h1 := tableM_l2 l hl he l.length 0 (List.replicate i (List.replicate i (-1073741824))) (by omega) ⟨by simp, fun r hr => by rw [List.eq_of_mem_replicate hr]; simp⟩
    refine Ev.step (fun k => ?_) h1
    simp only [match_table.l0]
    rw [if_neg (by omega)]
    unfold halfT
    rw [Nat.sub_self, List.replicate_zero, List.append_nil]; rfl
  | succ d ih =>
    intro i hi
    have h1 := tableM_l1 hn l i (by omega) _ (ih (i + 1) (by omega)) n 0 (by omega)
    refine Ev.step (fun k => ?_) h1
    simp only [match_table.l0]
    rw [if_pos (by omega), if_pos (by omega), if_pos (by omega), if_pos (by omega), if_pos (by unfold halfT; simp; omega), Option.bind_some, Int.toNat_natCast, Int.toNat_natCast, halfT_set n i (by omega), half_row, List.length_replicate, Nat.sub_zero, List.replicate_zero, List.nil_append]; rfl
theorem Ev_tableM {n : Nat} (hn : n ≤ 64) {l : List S33} (hl : l.length ≤ 4096) (he : Edges n n l) : Ev (fun k => match_table.f k (n : Int) l) (tabN n l) := by
  unfold match_table.f
  simp only [if_pos (show (0 : Int) ≤ (n : Int) by omega), Int.toNat_natCast, if_pos (show n ≤ 11728124029610 by omega), Option.bind_some, List.length_replicate]
  have h1 := tableM_l0 hn l hl he n 0 (by omega)
  unfold halfT at h1
  rw [List.replicate_zero, List.nil_append, Nat.sub_zero] at h1
  exact h1
end Go.Proofs.Ytlaneafplmbcnaa.PO

namespace Go.Proofs.Ytlaneafplmbcnaa.PO
open Go.RowKit Go.Proofs.YtlaneafplmbcnaaW.PrintWords Go.Proofs.YtlaneafplmbcnaaW.PrintLast Go.Proofs.YtlaneafplmbcnaaW.PrintMore
set_option linter.unusedVariables false
set_option linter.unusedSimpArgs false

/-- r rows have columns. -/
structure Mt (n r : Nat) (l : List S33) (out of : List Int) : Prop where
  hn : n ≤ 64
  hl : l.length ≤ 4096
  hE : Edges n n l
  rn : r ≤ n
  ol : out.length = n
  fl : of.length = n
  row : ∀ i : Int, 0 ≤ i → i < (r : Int) → 0 ≤ rd out i ∧ rd out i < (n : Int) ∧ 0 ≤ wt l i (rd out i) ∧ rd of (rd out i) = i
  col : ∀ j : Int, 0 ≤ j → j < (n : Int) → rd of j < 0 ∨ (0 ≤ rd of j ∧ rd of j < (r : Int) ∧ rd out (rd of j) = j)
/-- Prices that show that no matching of these rows is heavier. -/
structure Du (n r : Nat) (l : List S33) (out of : List Int) (p q : Int → Int) : Prop where
  le : ∀ i j : Int, 0 ≤ i → i < (r : Int) → 0 ≤ j → j < (n : Int) → 0 ≤ wt l i j → wt l i j ≤ p i + q j
  ti : ∀ i : Int, 0 ≤ i → i < (r : Int) → wt l i (rd out i) = p i + q (rd out i)
  q0 : ∀ j : Int, 0 ≤ j → j < (n : Int) → 0 ≤ q j
  qf : ∀ j : Int, 0 ≤ j → j < (n : Int) → rd of j < 0 → q j = 0
  pb : ∀ i : Int, 0 ≤ i → i < (r : Int) → -120000000 * (r : Int) ≤ p i ∧ p i ≤ 120000000 * (r : Int)

/-- x is above j: more is won on the way to it, or as much, and that sooner. -/
def Ab (best : List Int) (q : Int → Int) (τ : Int → Nat) (j x : Int) : Prop :=
  rd best x ≠ -1073741824 ∧ (rd best j - q j < rd best x - q x ∨ (rd best x - q x = rd best j - q j ∧ τ x < τ j))
instance (best : List Int) (q : Int → Int) (τ : Int → Nat) (j x : Int) : Decidable (Ab best q τ j x) := by unfold Ab; infer_instance
/-- Behind j the way goes to k, by the row that has k. -/
structure Behind (r : Nat) (l : List S33) (out : List Int) (q : Int → Int) (best : List Int) (τ σ : Int → Nat) (j i : Int) : Prop where
  i0 : 0 ≤ i
  i1 : i < (r : Int)
  ed : 0 ≤ wt l i j
  ne : rd out i ≠ j
  le : rd best j ≤ rd best (rd out i) - wt l i (rd out i) + wt l i j
  ab : Ab best q τ j (rd out i)
  sg : σ j ≤ σ (rd out i) + 1
/-- The two rows, on their way. -/
structure BI (n r : Nat) (l : List S33) (out of : List Int) (q : Int → Int) (best bys : List Int) (τ σ : Int → Nat) (N S : Nat) : Prop where
  bl : best.length = n
  yl : bys.length = n
  ge : ∀ j : Int, 0 ≤ j → j < (n : Int) → 0 ≤ wt l (r : Int) j → wt l (r : Int) j ≤ rd best j
  un : ∀ j : Int, 0 ≤ j → j < (n : Int) → rd best j = -1073741824 ∨ (-(200 * ((N : Int) + 1)) ≤ rd best j ∧ rd best j ≤ 200 * ((N : Int) + 1))
  pr : ∀ j : Int, 0 ≤ j → j < (n : Int) → rd best j ≠ -1073741824 → (rd bys j = (r : Int) ∧ 0 ≤ wt l (r : Int) j ∧ rd best j = wt l (r : Int) j ∧ σ j = 0) ∨ Behind r l out q best τ σ j (rd bys j)
  tb : ∀ j : Int, 0 ≤ j → j < (n : Int) → τ j ≤ N
  sb : ∀ j : Int, 0 ≤ j → j < (n : Int) → σ j ≤ S
theorem BI.more {n r : Nat} {l : List S33} {out of : List Int} {q : Int → Int} {best bys : List Int} {τ σ : Int → Nat} {N S N' S' : Nat} (h : BI n r l out of q best bys τ σ N S) (hN : N ≤ N') (hS : S ≤ S') : BI n r l out of q best bys τ σ N' S' :=
  ⟨h.bl, h.yl, h.ge, fun j a b => by rcases h.un j a b with h1 | h1; exact .inl h1; exact .inr (by omega), h.pr, fun j a b => Nat.le_trans (h.tb j a b) hN, fun j a b => Nat.le_trans (h.sb j a b) hS⟩

theorem BI.upd {n r : Nat} {l : List S33} {out of : List Int} {p q : Int → Int} {best bys : List Int} {τ σ : Int → Nat} {N S : Nat} (M : Mt n r l out of) (D : Du n r l out of p q) (h : BI n r l out of q best bys τ σ N S) (hN : N ≤ 300000)
    {k j i : Int} (k0 : 0 ≤ k) (k1 : k < (n : Int)) (j0 : 0 ≤ j) (j1 : j < (n : Int)) (i0 : 0 ≤ i) (i1 : i < (r : Int)) (hk : rd out i = k) (hkr : rd best k ≠ -1073741824) (hjk : j ≠ k) (hw : 0 ≤ wt l i j) (hx : rd best j < rd best k - wt l i k + wt l i j) {s : Nat} (hs : s ≤ σ k + 1) (hs' : σ j ≤ s) (hS : s ≤ S) :
    BI n r l out of q (best.set j.toNat (rd best k - wt l i k + wt l i j)) (bys.set j.toNat i) (fun x => if x = j then N + 1 else τ x) (fun x => if x = j then s else σ x) (N + 1) S := by
  have hb : ∀ x : Int, 0 ≤ x → rd (best.set j.toNat (rd best k - wt l i k + wt l i j)) x = if j = x then rd best k - wt l i k + wt l i j else rd best x := fun x x0 => rd_set best j x _ j0 (by rw [h.bl]; exact j1) x0
  have hy : ∀ x : Int, 0 ≤ x → rd (bys.set j.toNat i) x = if j = x then i else rd bys x := fun x x0 => rd_set bys j x _ j0 (by rw [h.yl]; exact j1) x0
  have hwik := M.row i i0 i1
  rw [hk] at hwik
  have wb1 := wt_le M.hE i k
  have wb2 := wt_le M.hE i j
  have hku : -(200 * ((N : Int) + 1)) ≤ rd best k ∧ rd best k ≤ 200 * ((N : Int) + 1) := by
    rcases h.un k k0 k1 with h1 | h1
    · exact absurd h1 hkr
    · exact h1
  have hne : rd best k - wt l i k + wt l i j ≠ -1073741824 := by omega
  have hti := D.ti i i0 i1
  rw [hk] at hti
  have hle := D.le i j i0 i1 j0 j1 hw
  have htk := h.tb k k0 k1
  refine ⟨by simp [h.bl], by simp [h.yl], fun x x0 x1 hwx => ?_, fun x x0 x1 => ?_, fun x x0 x1 hxr => ?_, fun x x0 x1 => ?_, fun x x0 x1 => ?_⟩
  · rw [hb x x0]
    have := h.ge x x0 x1 hwx
    split
    · rename_i e; rw [← e] at this ⊢; omega
    · exact this
  · rw [hb x x0]
    split
    · right; omega
    · rcases h.un x x0 x1 with h1 | h1
      · exact .inl h1
      · right; omega
  · rw [hb x x0] at hxr
    rw [hy x x0]
    by_cases e : j = x
    · subst e
      right
      rw [if_pos rfl]
      refine ⟨i0, i1, hw, by rw [hk]; exact fun h => hjk h.symm, ?_, ?_, ?_⟩
      · rw [hb j x0, if_pos rfl, hk, hb k k0, if_neg hjk]; exact Int.le_refl _
      · unfold Ab
        rw [hk, hb k k0, if_neg hjk, hb j x0, if_pos rfl]
        simp only [if_true, if_neg (fun h : k = j => hjk h.symm)]
        refine ⟨hkr, ?_⟩
        by_cases e2 : rd best k - q k = rd best k - wt l i k + wt l i j - q j
        · right; exact ⟨e2, by omega⟩
        · left; omega
      · rw [hk]; simp only [if_true, if_neg (fun h : k = j => hjk h.symm)]; exact hs
    · rw [if_neg e] at hxr ⊢
      rcases h.pr x x0 x1 hxr with ⟨a, b, c, d⟩ | B
      · left
        rw [hb x x0, if_neg e]
        simp only [if_neg (fun h : x = j => e h.symm)]
        exact ⟨a, b, c, d⟩
      · right
        have hr := M.row _ B.i0 B.i1
        refine ⟨B.i0, B.i1, B.ed, B.ne, ?_, ?_, ?_⟩
        · rw [hb x x0, if_neg e, hb _ hr.1]
          have := B.le
          split
          · rename_i e2; rw [← e2] at this ⊢; omega
          · exact this
        · have hab := B.ab
          unfold Ab at hab ⊢
          rw [hb x x0, if_neg e, hb _ hr.1]
          simp only [if_neg (fun h : x = j => e h.symm)]
          by_cases e2 : j = rd out (rd bys x)
          · rw [if_pos e2]
            refine ⟨hne, .inl ?_⟩
            rw [← e2] at hab ⊢
            omega
          · rw [if_neg e2, if_neg (fun h => e2 h.symm)]; exact hab
        · have := B.sg
          simp only [if_neg (fun h : x = j => e h.symm)]
          split
          · rename_i e2; rw [e2] at this; omega
          · exact this
  · show (if x = j then N + 1 else τ x) ≤ N + 1
    split
    · exact Nat.le_refl _
    · have := h.tb x x0 x1; omega
  · show (if x = j then s else σ x) ≤ S
    split
    · exact hS
    · exact h.sb x x0 x1

theorem countP_lt {P Q : Nat → Bool} : ∀ (l : List Nat), (∀ x ∈ l, P x = true → Q x = true) → (∃ y ∈ l, Q y = true ∧ P y = false) → l.countP P < l.countP Q := by
  intro l
  induction l with
  | nil => intro _ ⟨y, hy, _⟩; cases hy
  | cons a l ih =>
    intro h ⟨y, hy, h1, h2⟩
    have hmono : l.countP P ≤ l.countP Q := List.countP_mono_left (fun x hx => h x (List.mem_cons_of_mem _ hx))
    rw [List.countP_cons, List.countP_cons]
    rcases List.mem_cons.1 hy with rfl | hy
    · rw [h1, h2]; simp; omega
    · have := ih (fun x hx => h x (List.mem_cons_of_mem _ hx)) ⟨y, hy, h1, h2⟩
      have h3 := h a List.mem_cons_self
      cases hP : P a with
      | true => rw [h3 hP]; simp; omega
      | false => cases Q a <;> simp <;> omega
/-- How many columns are above. -/
def upN (n : Nat) (best : List Int) (q : Int → Int) (τ : Int → Nat) (j : Int) : Nat := (List.range n).countP (fun x : Nat => decide (Ab best q τ j (x : Int)))
theorem upN_lt {n : Nat} {best : List Int} {q : Int → Int} {τ : Int → Nat} {j k : Int} (k0 : 0 ≤ k) (k1 : k < (n : Int)) (h : Ab best q τ j k) : upN n best q τ k < upN n best q τ j := by
  refine countP_lt _ (fun x _ hx => ?_) ⟨k.toNat, List.mem_range.2 (by omega), ?_, ?_⟩
  · have hx' := of_decide_eq_true hx
    refine decide_eq_true ?_
    unfold Ab at h hx' ⊢
    refine ⟨hx'.1, ?_⟩
    omega
  · refine decide_eq_true ?_
    rw [Int.toNat_of_nonneg k0]; exact h
  · refine decide_eq_false ?_
    rw [Int.toNat_of_nonneg k0]
    unfold Ab
    omega
theorem upN_n {n : Nat} {best : List Int} {q : Int → Int} {τ : Int → Nat} {j : Int} (j0 : 0 ≤ j) (j1 : j < (n : Int)) : upN n best q τ j < n := by
  have h := countP_lt (P := fun x : Nat => decide (Ab best q τ j (x : Int))) (Q := fun _ => true) (List.range n) (fun _ _ _ => rfl) ⟨j.toNat, List.mem_range.2 (by omega), rfl, by
    refine decide_eq_false ?_
    rw [Int.toNat_of_nonneg j0]
    unfold Ab
    omega⟩
  unfold upN
  rw [List.countP_true, List.length_range] at h
  exact h
theorem BI.short {n r : Nat} {l : List S33} {out of : List Int} {q : Int → Int} {best bys : List Int} {τ σ : Int → Nat} {N S : Nat} (M : Mt n r l out of) (h : BI n r l out of q best bys τ σ N S) : ∀ (d : Nat) (j : Int), 0 ≤ j → j < (n : Int) → rd best j ≠ -1073741824 → upN n best q τ j = d → σ j ≤ d := by
  intro d
  induction d using Nat.strongRecOn with
  | _ d ih =>
  intro j j0 j1 hr hd
  rcases h.pr j j0 j1 hr with ⟨_, _, _, h1⟩ | B
  · omega
  · have hrow := M.row _ B.i0 B.i1
    have hlt := upN_lt hrow.1 hrow.2.1 B.ab
    have := ih _ (by omega) _ hrow.1 hrow.2.1 B.ab.1 rfl
    have := B.sg
    omega

/-- Nothing more is won by way of k. -/
def CLo (n : Nat) (l : List S33) (of best : List Int) (k : Int) : Prop := ∀ j : Int, 0 ≤ j → j < (n : Int) → j ≠ k → 0 ≤ wt l (rd of k) j → rd best k - wt l (rd of k) k + wt l (rd of k) j ≤ rd best j
/-- Who is not closed has grown of late. -/
def Late (n m : Nat) (l : List S33) (of best : List Int) (σ : Int → Nat) (k : Int) : Prop := ∀ k' : Int, 0 ≤ k' → k' < (n : Int) → rd best k' ≠ -1073741824 → 0 ≤ rd of k' → CLo n l of best k' ∨ (m ≤ σ k' ∧ (k' < k → m + 1 ≤ σ k'))
def Still (n : Nat) (l : List S33) (of best : List Int) (k : Int) : Prop := ∀ k' : Int, 0 ≤ k' → k' < k → k' < (n : Int) → rd best k' ≠ -1073741824 → 0 ≤ rd of k' → CLo n l of best k'

theorem aug_l3 {n r : Nat} {l : List S33} {out of : List Int} {p q : Int → Int} (M : Mt n r l out of) (D : Du n r l out of p q) (m : Nat) (hm : m < n) (k : Nat) (hk : k < n) (hkf : 0 ≤ rd of (k : Int)) (N0 : Nat) (hN0 : N0 + 64 ≤ 300000) :
    ∀ (d j : Nat) (best bys : List Int) (τ σ : Int → Nat) (g : Bool), j + d = n → BI n r l out of q best bys τ σ (N0 + j) (m + 1) → rd best (k : Int) ≠ -1073741824 →
      (∀ j' : Int, 0 ≤ j' → j' < (j : Int) → j' ≠ (k : Int) → 0 ≤ wt l (rd of (k : Int)) j' → rd best (k : Int) - wt l (rd of (k : Int)) (k : Int) + wt l (rd of (k : Int)) j' ≤ rd best j') →
      Late n m l of best σ (k : Int) → (g = false → Still n l of best (k : Int)) →
      ∃ best' bys' τ' σ' g', BI n r l out of q best' bys' τ' σ' (N0 + 64) (m + 1) ∧ Late n m l of best' σ' ((k : Int) + 1) ∧ (g' = false → Still n l of best' ((k : Int) + 1)) ∧
        ∀ R, Ev (fun f => match_augment.l2 f (r : Int) (tabN n l) out of (n : Int) best' bys' g' (n : Int) (m : Int) (n : Int) ((k + 1 : Nat) : Int)) R → Ev (fun f => match_augment.l3 f (r : Int) (tabN n l) out of (n : Int) best bys g (k : Int) (rd of (k : Int)) (n : Int) (m : Int) (n : Int) (k : Int) (n : Int) (j : Int)) R := by
  have hn := M.hn
  have hG := tabN_grid M.hE
  obtain ⟨i0, i1, hik⟩ : 0 ≤ rd of (k : Int) ∧ rd of (k : Int) < (r : Int) ∧ rd out (rd of (k : Int)) = (k : Int) := by
    rcases M.col (k : Int) (by omega) (by omega) with h | h
    · omega
    · exact h
  have hrn := M.rn
  have hrow := hG.row i0 (show rd of (k : Int) < (n : Int) by omega)
  have hwk := M.row _ i0 i1
  rw [hik] at hwk
  have hwkb := wt_le M.hE (rd of (k : Int)) (k : Int)
  have hzk := tabN_at M.hE i0 (show rd of (k : Int) < (n : Int) by omega) (show (0 : Int) ≤ (k : Int) by omega) (show (k : Int) < (n : Int) by omega)
  have hzk' : rd (rd_L3 (tabN n l) (rd of (k : Int))) (k : Int) = wt l (rd of (k : Int)) (k : Int) := by
    rw [hzk]; unfold wz; rw [if_pos hwk.2.2.1]
  intro d
  induction d with
  | zero =>
    intro j best bys τ σ g hj hB hkr hcl hla hst
    have hjn : j = n := by omega
    subst hjn
    have hck : CLo j l of best (k : Int) := fun j' a b c w => hcl j' a b c w
    refine ⟨best, bys, τ, σ, g, hB.more (by omega) (by omega), fun k' a b c e => ?_, fun hg k' a b c e f => ?_, fun R hR => Ev.step (fun f => ?_) hR⟩
    · by_cases q1 : k' = (k : Int)
      · rw [q1]; exact .inl hck
      · rcases hla k' a b c e with h1 | ⟨h1, h2⟩
        · exact .inl h1
        · exact .inr ⟨h1, fun h => h2 (by omega)⟩
    · by_cases q1 : k' = (k : Int)
      · rw [q1]; exact hck
      · exact hst hg k' a (by omega) c e f
    · simp only [match_augment.l3]
      rw [if_neg (by omega), w64 (by omega) (by omega), show (k : Int) + 1 = ((k + 1 : Nat) : Int) by omega]
  | succ d ih =>
    intro j best bys τ σ g hj hB hkr hcl hla hst
    have hbl := hB.bl
    have hyl := hB.yl
    have hzj := tabN_at M.hE i0 (show rd of (k : Int) < (n : Int) by omega) (show (0 : Int) ≤ (j : Int) by omega) (show (j : Int) < (n : Int) by omega)
    have skip : (∀ j' : Int, 0 ≤ j' → j' < ((j + 1 : Nat) : Int) → j' ≠ (k : Int) → 0 ≤ wt l (rd of (k : Int)) j' → rd best (k : Int) - wt l (rd of (k : Int)) (k : Int) + wt l (rd of (k : Int)) j' ≤ rd best j') →
        (∀ f, match_augment.l3 (f + 1) (r : Int) (tabN n l) out of (n : Int) best bys g (k : Int) (rd of (k : Int)) (n : Int) (m : Int) (n : Int) (k : Int) (n : Int) (j : Int) = match_augment.l3 f (r : Int) (tabN n l) out of (n : Int) best bys g (k : Int) (rd of (k : Int)) (n : Int) (m : Int) (n : Int) (k : Int) (n : Int) ((j + 1 : Nat) : Int)) →
        ∃ best' bys' τ' σ' g', BI n r l out of q best' bys' τ' σ' (N0 + 64) (m + 1) ∧ Late n m l of best' σ' ((k : Int) + 1) ∧ (g' = false → Still n l of best' ((k : Int) + 1)) ∧
          ∀ R, Ev (fun f => match_augment.l2 f (r : Int) (tabN n l) out of (n : Int) best' bys' g' (n : Int) (m : Int) (n : Int) ((k + 1 : Nat) : Int)) R → Ev (fun f => match_augment.l3 f (r : Int) (tabN n l) out of (n : Int) best bys g (k : Int) (rd of (k : Int)) (n : Int) (m : Int) (n : Int) (k : Int) (n : Int) (j : Int)) R := fun hc he => by
      obtain ⟨b', y', τ', σ', g', h1, h2, h3, h4⟩ := ih (j + 1) best bys τ σ g (by omega) (hB.more (by omega) (Nat.le_refl _)) hkr hc hla hst
      exact ⟨b', y', τ', σ', g', h1, h2, h3, fun R hR => Ev.step he (h4 R hR)⟩
    rcases wz_cases M.hE (rd of (k : Int)) (j : Int) with ⟨hw0, hwz, hw1⟩ | ⟨hw0, hwz⟩
    · by_cases c1 : (j : Int) = (k : Int)
      · refine skip (fun j' a b c w => ?_) (fun f => ?_)
        · exact hcl j' a (by omega) c w
        · conv => lhs; unfold match_augment.l3
          rw [if_pos (by omega), if_pos i0, if_pos (by rw [hG.1]; omega), if_pos (by omega), if_pos (by rw [hrow]; omega), hzj, hwz, if_pos (by omega), if_pos c1, w64 (by omega) (by omega), show (j : Int) + 1 = ((j + 1 : Nat) : Int) by omega]
      · have hku : -(200 * (((N0 + j : Nat) : Int) + 1)) ≤ rd best (k : Int) ∧ rd best (k : Int) ≤ 200 * (((N0 + j : Nat) : Int) + 1) := by
          rcases hB.un (k : Int) (by omega) (by omega) with h1 | h1
          · exact absurd h1 hkr
          · exact h1
        by_cases c2 : rd best (k : Int) - wt l (rd of (k : Int)) (k : Int) + wt l (rd of (k : Int)) (j : Int) > rd best (j : Int)
        · have hnc : ¬ CLo n l of best (k : Int) := fun h => by
            have := h (j : Int) (by omega) (by omega) c1 hw0
            omega
          have hsk : m ≤ σ (k : Int) := by
            rcases hla (k : Int) (by omega) (by omega) hkr hkf with h1 | h1
            · exact absurd h1 hnc
            · exact h1.1
          have hU := hB.upd M D (by omega) (show (0 : Int) ≤ (k : Int) by omega) (by omega) (show (0 : Int) ≤ (j : Int) by omega) (by omega) i0 i1 hik hkr c1 hw0 c2 (s := m + 1) (by omega) (hB.sb (j : Int) (by omega) (by omega)) (Nat.le_refl _)
          have hb : ∀ x : Int, 0 ≤ x → rd (best.set (j : Int).toNat (rd best (k : Int) - wt l (rd of (k : Int)) (k : Int) + wt l (rd of (k : Int)) (j : Int))) x = if (j : Int) = x then rd best (k : Int) - wt l (rd of (k : Int)) (k : Int) + wt l (rd of (k : Int)) (j : Int) else rd best x := fun x x0 => rd_set best (j : Int) x _ (by omega) (by omega) x0
          have hbk := hb (k : Int) (by omega)
          rw [if_neg c1] at hbk
          have keepC : ∀ k' : Int, 0 ≤ k' → k' ≠ (j : Int) → CLo n l of best k' → CLo n l of (best.set (j : Int).toNat (rd best (k : Int) - wt l (rd of (k : Int)) (k : Int) + wt l (rd of (k : Int)) (j : Int))) k' := fun k' a b h j' a' b' c w => by
            have h1 := h j' a' b' c w
            rw [hb k' a, if_neg (fun h => b h.symm), hb j' a']
            split
            · rename_i e; rw [← e] at h1 ⊢; omega
            · exact h1
          obtain ⟨b', y', τ', σ', g', h1, h2, h3, h4⟩ := ih (j + 1) _ _ _ _ true (by omega) hU (by rw [hbk]; exact hkr) (fun j' a b c w => by
              rw [hbk, hb j' a]
              by_cases e : (j : Int) = j'
              · rw [if_pos e, ← e]; exact Int.le_refl _
              · rw [if_neg e]; exact hcl j' a (by omega) c w) (fun k' a b c e => by
              by_cases q1 : k' = (j : Int)
              · right
                simp only [if_pos q1]
                exact ⟨by omega, fun _ => Nat.le_refl _⟩
              · rw [hb k' a, if_neg (fun h => q1 h.symm)] at c
                simp only [if_neg q1]
                rcases hla k' a b c e with h1 | h1
                · exact .inl (keepC k' a q1 h1)
                · exact .inr h1) (fun h => by cases h)
          refine ⟨b', y', τ', σ', g', h1, h2, h3, fun R hR => Ev.step (fun f => ?_) (h4 R hR)⟩
          conv => lhs; unfold match_augment.l3
          rw [if_pos (by omega), if_pos i0, if_pos (by rw [hG.1]; omega), if_pos (by omega), if_pos (by rw [hrow]; omega), hzj, hwz, if_pos (by omega), if_neg c1, if_pos (by omega), if_pos (by omega), if_pos (by rw [hrow]; omega), if_pos (by omega), hzk', w64 (n := rd best (k : Int) - wt l (rd of (k : Int)) (k : Int)) (by omega) (by omega), w64 (n := rd best (k : Int) - wt l (rd of (k : Int)) (k : Int) + wt l (rd of (k : Int)) (j : Int)) (by omega) (by omega), if_pos c2, if_pos (by omega), w64 (n := (j : Int) + 1) (by omega) (by omega), show (j : Int) + 1 = ((j + 1 : Nat) : Int) by omega]
        · refine skip (fun j' a b c w => ?_) (fun f => ?_)
          · by_cases e : j' = (j : Int)
            · rw [e]; omega
            · exact hcl j' a (by omega) c w
          · conv => lhs; unfold match_augment.l3
            rw [if_pos (by omega), if_pos i0, if_pos (by rw [hG.1]; omega), if_pos (by omega), if_pos (by rw [hrow]; omega), hzj, hwz, if_pos (by omega), if_neg c1, if_pos (by omega), if_pos (by omega), if_pos (by rw [hrow]; omega), if_pos (by omega), hzk', w64 (n := rd best (k : Int) - wt l (rd of (k : Int)) (k : Int)) (by omega) (by omega), w64 (n := rd best (k : Int) - wt l (rd of (k : Int)) (k : Int) + wt l (rd of (k : Int)) (j : Int)) (by omega) (by omega), if_neg c2, w64 (n := (j : Int) + 1) (by omega) (by omega), show (j : Int) + 1 = ((j + 1 : Nat) : Int) by omega]
    · refine skip (fun j' a b c w => ?_) (fun f => ?_)
      · by_cases e : j' = (j : Int)
        · rw [e] at w; omega
        · exact hcl j' a (by omega) c w
      · conv => lhs; unfold match_augment.l3
        rw [if_pos (by omega), if_pos i0, if_pos (by rw [hG.1]; omega), if_pos (by omega), if_pos (by rw [hrow]; omega), hzj, hwz, if_neg (by omega), w64 (n := (j : Int) + 1) (by omega) (by omega), show (j : Int) + 1 = ((j + 1 : Nat) : Int) by omega]
theorem aug_l2 {n r : Nat} {l : List S33} {out of : List Int} {p q : Int → Int} (M : Mt n r l out of) (D : Du n r l out of p q) (m : Nat) (hm : m < n) (N1 : Nat) (hN1 : N1 + 4096 ≤ 290000) :
    ∀ (d k : Nat) (best bys : List Int) (τ σ : Int → Nat) (g : Bool), k + d = n → BI n r l out of q best bys τ σ (N1 + 64 * k) (m + 1) → Late n m l of best σ (k : Int) → (g = false → Still n l of best (k : Int)) →
      ∃ best' bys' τ' σ' g', BI n r l out of q best' bys' τ' σ' (N1 + 4096) (m + 1) ∧ Late n m l of best' σ' (n : Int) ∧ (g' = false → Still n l of best' (n : Int)) ∧
        ∀ R, (g' = true → Ev (fun f => match_augment.l1 f (r : Int) (tabN n l) out of (n : Int) best' bys' (n : Int) ((m + 1 : Nat) : Int)) R) → (g' = false → Ev (fun f => match_augment.j5 f (r : Int) out of (n : Int) best' bys') R) →
          Ev (fun f => match_augment.l2 f (r : Int) (tabN n l) out of (n : Int) best bys g (n : Int) (m : Int) (n : Int) (k : Int)) R := by
  have hn := M.hn
  have hfl := M.fl
  intro d
  induction d with
  | zero =>
    intro k best bys τ σ g hk hB hla hst
    have hkn : k = n := by omega
    subst hkn
    refine ⟨best, bys, τ, σ, g, hB.more (by omega) (Nat.le_refl _), hla, hst, fun R h1 h2 => ?_⟩
    cases g with
    | true =>
      refine Ev.step (fun f => ?_) (h1 rfl)
      simp only [match_augment.l2]
      rw [if_neg (by omega), if_pos trivial, w64 (by omega) (by omega), show (m : Int) + 1 = ((m + 1 : Nat) : Int) by omega]
    | false =>
      refine Ev.step (fun f => ?_) (h2 rfl)
      simp only [match_augment.l2]
      rw [if_neg (by omega), if_neg (by simp)]
  | succ d ih =>
    intro k best bys τ σ g hk hB hla hst
    have hbl := hB.bl
    have skip : (rd best (k : Int) = -1073741824 ∨ rd of (k : Int) < 0) → (∃ b, b = true ∧ ∀ f, match_augment.l2 (f + 1) (r : Int) (tabN n l) out of (n : Int) best bys g (n : Int) (m : Int) (n : Int) (k : Int) = match_augment.j3 f (r : Int) (tabN n l) out of (n : Int) best bys g (k : Int) (rd of (k : Int)) (n : Int) (m : Int) (n : Int) (k : Int) b) →
      ∃ best' bys' τ' σ' g', BI n r l out of q best' bys' τ' σ' (N1 + 4096) (m + 1) ∧ Late n m l of best' σ' (n : Int) ∧ (g' = false → Still n l of best' (n : Int)) ∧
        ∀ R, (g' = true → Ev (fun f => match_augment.l1 f (r : Int) (tabN n l) out of (n : Int) best' bys' (n : Int) ((m + 1 : Nat) : Int)) R) → (g' = false → Ev (fun f => match_augment.j5 f (r : Int) out of (n : Int) best' bys') R) →
          Ev (fun f => match_augment.l2 f (r : Int) (tabN n l) out of (n : Int) best bys g (n : Int) (m : Int) (n : Int) (k : Int)) R := fun hs he => by
      obtain ⟨b, hb, he⟩ := he
      subst hb
      obtain ⟨b', y', τ', σ', g', h1, h2, h3, h4⟩ := ih (k + 1) best bys τ σ g (by omega) (hB.more (by omega) (Nat.le_refl _)) (fun k' a b c e => by
        rcases hla k' a b c e with h1 | ⟨h1, h2⟩
        · exact .inl h1
        · by_cases q1 : k' = (k : Int)
          · rw [q1] at c e; omega
          · exact .inr ⟨h1, fun h => h2 (by omega)⟩) (fun hg k' a b c e f => by
        by_cases q1 : k' = (k : Int)
        · rw [q1] at e f; omega
        · exact hst hg k' a (by omega) c e f)
      refine ⟨b', y', τ', σ', g', h1, h2, h3, fun R hR hR' => Ev.step he (Ev.step (fun f => ?_) (h4 R hR hR'))⟩
      simp only [match_augment.j3]
      rw [if_pos trivial, w64 (by omega) (by omega), show (k : Int) + 1 = ((k + 1 : Nat) : Int) by omega]
    by_cases c1 : rd best (k : Int) ≤ -536870912
    · have hu : rd best (k : Int) = -1073741824 := by
        rcases hB.un (k : Int) (by omega) (by omega) with h1 | h1
        · exact h1
        · omega
      refine skip (.inl hu) ⟨true, rfl, fun f => ?_⟩
      conv => lhs; unfold match_augment.l2
      rw [if_pos (by omega), if_pos (by omega), if_pos (by omega), if_pos (by omega), if_pos c1]
    · by_cases c2 : rd of (k : Int) < 0
      · refine skip (.inr c2) ⟨decide (rd of (k : Int) < 0), decide_eq_true c2, fun f => ?_⟩
        conv => lhs; unfold match_augment.l2
        rw [if_pos (by omega), if_pos (by omega), if_pos (by omega), if_pos (by omega), if_neg c1]
      · obtain ⟨b1, y1, τ1, σ1, g1, h1, h2, h3, h4⟩ := aug_l3 M D m hm k (by omega) (by omega) (N1 + 64 * k) (by omega) n 0 best bys τ σ g (by omega) hB (by omega) (fun j' a b => by omega) hla hst
        obtain ⟨b', y', τ', σ', g', h5, h6, h7, h8⟩ := ih (k + 1) b1 y1 τ1 σ1 g1 (by omega) (h1.more (by omega) (Nat.le_refl _)) (by have := h2; rwa [show (k : Int) + 1 = ((k + 1 : Nat) : Int) by omega] at this) (by have := h3; rwa [show (k : Int) + 1 = ((k + 1 : Nat) : Int) by omega] at this)
        refine ⟨b', y', τ', σ', g', h5, h6, h7, fun R hR hR' => Ev.step (fun f => ?_) (Ev.step (f := fun f => match_augment.l3 f (r : Int) (tabN n l) out of (n : Int) best bys g (k : Int) (rd of (k : Int)) (n : Int) (m : Int) (n : Int) (k : Int) (n : Int) ((0 : Nat) : Int)) (g := fun f => match_augment.j3 f (r : Int) (tabN n l) out of (n : Int) best bys g (k : Int) (rd of (k : Int)) (n : Int) (m : Int) (n : Int) (k : Int) false) (fun f => ?_) (h4 R (h8 R hR hR')))⟩
        · conv => lhs; unfold match_augment.l2
          rw [if_pos (by omega), if_pos (by omega), if_pos (by omega), if_pos (by omega), if_neg c1, decide_eq_false c2]
        · simp only [match_augment.j3]; rw [if_neg (by simp)]; rfl
/-- The passes: at last nothing more is won by any way. -/
theorem aug_l1 {n r : Nat} {l : List S33} {out of : List Int} {p q : Int → Int} (M : Mt n r l out of) (D : Du n r l out of p q) :
    ∀ (d m : Nat) (best bys : List Int) (τ σ : Int → Nat), m + d = n → BI n r l out of q best bys τ σ (4096 * m) m → (∀ k' : Int, 0 ≤ k' → k' < (n : Int) → rd best k' ≠ -1073741824 → 0 ≤ rd of k' → CLo n l of best k' ∨ m ≤ σ k') →
      ∃ best' bys' τ' σ', BI n r l out of q best' bys' τ' σ' 262144 n ∧ (∀ k' : Int, 0 ≤ k' → k' < (n : Int) → rd best' k' ≠ -1073741824 → 0 ≤ rd of k' → CLo n l of best' k') ∧
        ∀ R, Ev (fun f => match_augment.j5 f (r : Int) out of (n : Int) best' bys') R → Ev (fun f => match_augment.l1 f (r : Int) (tabN n l) out of (n : Int) best bys (n : Int) (m : Int)) R := by
  have hn := M.hn
  intro d
  induction d with
  | zero =>
    intro m best bys τ σ hm hB hcl
    have : m = n := by omega
    subst this
    refine ⟨best, bys, τ, σ, hB.more (by omega) (Nat.le_refl _), fun k' a b c e => ?_, fun R hR => Ev.step (fun f => ?_) hR⟩
    · rcases hcl k' a b c e with h1 | h1
      · exact h1
      · have h2 := hB.short M _ k' a b c rfl
        have h3 := upN_n (best := best) (q := q) (τ := τ) a b
        omega
    · simp only [match_augment.l1]; rw [if_neg (by omega)]
  | succ d ih =>
    intro m best bys τ σ hm hB hcl
    obtain ⟨b1, y1, τ1, σ1, g1, h1, h2, h3, h4⟩ := aug_l2 M D m (by omega) (4096 * m) (by omega) n 0 best bys τ σ false (by omega) (hB.more (by omega) (by omega)) (fun k' a b c e => by
      rcases hcl k' a b c e with h1 | h1
      · exact .inl h1
      · exact .inr ⟨h1, fun h => by omega⟩) (fun _ k' a b => by omega)
    have start : ∀ R, (g1 = true → Ev (fun f => match_augment.l1 f (r : Int) (tabN n l) out of (n : Int) b1 y1 (n : Int) ((m + 1 : Nat) : Int)) R) → (g1 = false → Ev (fun f => match_augment.j5 f (r : Int) out of (n : Int) b1 y1) R) → Ev (fun f => match_augment.l1 f (r : Int) (tabN n l) out of (n : Int) best bys (n : Int) (m : Int)) R := fun R ha hb => Ev.step (fun f => by
        simp only [match_augment.l1]; rw [if_pos (by omega)]; rfl) (h4 R ha hb)
    cases g1 with
    | true =>
      obtain ⟨b', y', τ', σ', h5, h6, h7⟩ := ih (m + 1) b1 y1 τ1 σ1 (by omega) (h1.more (by omega) (Nat.le_refl _)) (fun k' a b c e => by
        rcases h2 k' a b c e with h1 | h1
        · exact .inl h1
        · exact .inr (h1.2 b))
      exact ⟨b', y', τ', σ', h5, h6, fun R hR => start R (fun _ => h7 R hR) (fun h => by cases h)⟩
    | false =>
      exact ⟨b1, y1, τ1, σ1, h1.more (by omega) (by omega), fun k' a b c e => h3 rfl k' a b b c e, fun R hR => start R (fun h => by cases h) (fun _ => hR)⟩

theorem aug_l0 {n r : Nat} {l : List S33} {out of : List Int} (hn : n ≤ 64) (hE : Edges n n l) (hr : r < n) : ∀ (d j : Nat) (best bys : List Int), j + d = n → best.length = n → bys.length = n → (∀ x : Int, 0 ≤ x → x < (j : Int) → rd best x = wz l (r : Int) x ∧ rd bys x = (r : Int)) →
    ∃ b y, b.length = n ∧ y.length = n ∧ (∀ x : Int, 0 ≤ x → x < (n : Int) → rd b x = wz l (r : Int) x ∧ rd y x = (r : Int)) ∧ ∀ R, Ev (fun f => match_augment.l1 f (r : Int) (tabN n l) out of (n : Int) b y (n : Int) 0) R → Ev (fun f => match_augment.l0 f (r : Int) (tabN n l) out of (n : Int) best bys (n : Int) (j : Int)) R := by
  have hG := tabN_grid hE
  have hrow := hG.row (i := (r : Int)) (by omega) (by omega)
  intro d
  induction d with
  | zero =>
    intro j best bys hj hb hy h
    have : j = n := by omega
    subst this
    refine ⟨best, bys, hb, hy, h, fun R hR => Ev.step (fun f => ?_) hR⟩
    simp only [match_augment.l0]; rw [if_neg (by omega)]
  | succ d ih =>
    intro j best bys hj hb hy h
    have hz := tabN_at hE (show (0 : Int) ≤ (r : Int) by omega) (show (r : Int) < (n : Int) by omega) (show (0 : Int) ≤ (j : Int) by omega) (show (j : Int) < (n : Int) by omega)
    obtain ⟨b, y, h1, h2, h3, h4⟩ := ih (j + 1) (best.set (j : Int).toNat (wz l (r : Int) (j : Int))) (bys.set (j : Int).toNat (r : Int)) (by omega) (by simp [hb]) (by simp [hy]) (fun x x0 x1 => by
      rw [rd_set best (j : Int) x _ (by omega) (by omega) x0, rd_set bys (j : Int) x _ (by omega) (by omega) x0]
      by_cases e : (j : Int) = x
      · rw [if_pos e, if_pos e, e]; exact ⟨rfl, rfl⟩
      · rw [if_neg e, if_neg e]; exact h x x0 (by omega))
    refine ⟨b, y, h1, h2, h3, fun R hR => Ev.step (fun f => ?_) (h4 R hR)⟩
    simp only [match_augment.l0]
    rw [if_pos (by omega), if_pos (by omega), if_pos (by rw [hG.1]; omega), if_pos (by omega), if_pos (by rw [hrow]; omega), if_pos (by omega), if_pos (by omega), hz, w64 (n := (j : Int) + 1) (by omega) (by omega), show (j : Int) + 1 = ((j + 1 : Nat) : Int) by omega]
theorem BI.start {n r : Nat} {l : List S33} {out of : List Int} {q : Int → Int} (hE : Edges n n l) {b y : List Int} (hb : b.length = n) (hy : y.length = n) (h : ∀ x : Int, 0 ≤ x → x < (n : Int) → rd b x = wz l (r : Int) x ∧ rd y x = (r : Int)) : BI n r l out of q b y (fun _ => 0) (fun _ => 0) 0 0 := by
  refine ⟨hb, hy, fun j a c w => ?_, fun j a c => ?_, fun j a c w => ?_, fun _ _ _ => Nat.le_refl _, fun _ _ _ => Nat.le_refl _⟩
  · rw [(h j a c).1]; unfold wz; rw [if_pos w]; exact Int.le_refl _
  · rw [(h j a c).1]
    rcases wz_cases hE (r : Int) j with ⟨h0, h1, h2⟩ | ⟨h0, h1⟩
    · rw [h1]; right; omega
    · exact .inl h1
  · rw [(h j a c).1] at w
    rcases wz_cases hE (r : Int) j with ⟨h0, h1, h2⟩ | ⟨h0, h1⟩
    · exact .inl ⟨(h j a c).2, h0, by rw [(h j a c).1, h1], rfl⟩
    · exact absurd h1 w

def EndI (of best : List Int) (n : Nat) (e j : Int) : Prop :=
  (e = -1 ∧ ∀ x : Int, 0 ≤ x → x < j → rd of x < 0 → rd best x = -1073741824) ∨
  (0 ≤ e ∧ e < (n : Int) ∧ rd of e < 0 ∧ rd best e ≠ -1073741824 ∧ ∀ x : Int, 0 ≤ x → x < j → rd of x < 0 → rd best x ≠ -1073741824 → rd best x ≤ rd best e)
theorem aug_l4 {n r : Nat} (out : List Int) {of best bys : List Int} (hn : n ≤ 64) (hf : of.length = n) (hb : best.length = n) (hu : ∀ j : Int, 0 ≤ j → j < (n : Int) → rd best j = -1073741824 ∨ -53000000 ≤ rd best j) : ∀ (d j : Nat) (e : Int), j + d = n → EndI of best n e (j : Int) →
    ∃ e', EndI of best n e' (n : Int) ∧ ∀ R, Ev (fun f => if e' < 0 then some (false, out, of) else match_augment.l5 f (r : Int) out of bys e') R → Ev (fun f => match_augment.l4 f (r : Int) out of best bys e (n : Int) (j : Int)) R := by
  intro d
  induction d with
  | zero =>
    intro j e hj h
    have : j = n := by omega
    subst this
    refine ⟨e, h, fun R hR => Ev.step (fun f => ?_) hR⟩
    simp only [match_augment.l4]; rw [if_neg (by omega)]
  | succ d ih =>
    intro j e hj h
    have nx : ((j + 1 : Nat) : Int) = (j : Int) + 1 := by omega
    have go : ∀ e1, EndI of best n e1 ((j : Int) + 1) → (∀ f, match_augment.l4 (f + 1) (r : Int) out of best bys e (n : Int) (j : Int) = match_augment.l4 f (r : Int) out of best bys e1 (n : Int) ((j + 1 : Nat) : Int)) →
        ∃ e', EndI of best n e' (n : Int) ∧ ∀ R, Ev (fun f => if e' < 0 then some (false, out, of) else match_augment.l5 f (r : Int) out of bys e') R → Ev (fun f => match_augment.l4 f (r : Int) out of best bys e (n : Int) (j : Int)) R := fun e1 h1 he => by
      obtain ⟨e', h2, h3⟩ := ih (j + 1) e1 (by omega) (by rw [nx]; exact h1)
      exact ⟨e', h2, fun R hR => Ev.step he (h3 R hR)⟩
    by_cases c1 : rd of (j : Int) < 0
    · by_cases c2 : rd best (j : Int) > -536870912
      · have hne : rd best (j : Int) ≠ -1073741824 := by omega
        by_cases c3 : e < 0
        · refine go (j : Int) (.inr ⟨by omega, by omega, c1, hne, fun x x0 x1 hx hx' => ?_⟩) (fun f => ?_)
          · rcases h with ⟨_, h⟩ | ⟨h, _⟩
            · by_cases e2 : x = (j : Int)
              · rw [e2]; exact Int.le_refl _
              · exact absurd (h x x0 (by omega) hx) hx'
            · omega
          · conv => lhs; unfold match_augment.l4
            rw [if_pos (by omega), if_pos (by omega), if_pos (by omega), if_pos c1, if_pos (by omega), if_pos c2, if_pos c3, w64 (n := (j : Int) + 1) (by omega) (by omega), ← nx]
        · rcases h with ⟨h, _⟩ | ⟨h1, h2, h3, h4, h5⟩
          · omega
          by_cases c4 : rd best (j : Int) > rd best e
          · refine go (j : Int) (.inr ⟨by omega, by omega, c1, hne, fun x x0 x1 hx hx' => ?_⟩) (fun f => ?_)
            · by_cases e2 : x = (j : Int)
              · rw [e2]; exact Int.le_refl _
              · have := h5 x x0 (by omega) hx hx'; omega
            · conv => lhs; unfold match_augment.l4
              rw [if_pos (by omega), if_pos (by omega), if_pos (by omega), if_pos c1, if_pos (by omega), if_pos c2, if_neg c3, if_pos h1, if_pos (by omega), if_pos c4, w64 (n := (j : Int) + 1) (by omega) (by omega), ← nx]
          · refine go e (.inr ⟨h1, h2, h3, h4, fun x x0 x1 hx hx' => ?_⟩) (fun f => ?_)
            · by_cases e2 : x = (j : Int)
              · rw [e2]; omega
              · exact h5 x x0 (by omega) hx hx'
            · conv => lhs; unfold match_augment.l4
              rw [if_pos (by omega), if_pos (by omega), if_pos (by omega), if_pos c1, if_pos (by omega), if_pos c2, if_neg c3, if_pos h1, if_pos (by omega), if_neg c4, w64 (n := (j : Int) + 1) (by omega) (by omega), ← nx]
      · have hu0 : rd best (j : Int) = -1073741824 := by
          rcases hu (j : Int) (by omega) (by omega) with h1 | h1
          · exact h1
          · omega
        refine go e ?_ (fun f => ?_)
        · rcases h with ⟨h1, h2⟩ | ⟨h1, h2, h3, h4, h5⟩
          · refine .inl ⟨h1, fun x x0 x1 hx => ?_⟩
            by_cases e2 : x = (j : Int)
            · rw [e2]; exact hu0
            · exact h2 x x0 (by omega) hx
          · refine .inr ⟨h1, h2, h3, h4, fun x x0 x1 hx hx' => ?_⟩
            by_cases e2 : x = (j : Int)
            · rw [e2] at hx'; exact absurd hu0 hx'
            · exact h5 x x0 (by omega) hx hx'
        · conv => lhs; unfold match_augment.l4
          rw [if_pos (by omega), if_pos (by omega), if_pos (by omega), if_pos c1, if_pos (by omega), if_neg c2, w64 (n := (j : Int) + 1) (by omega) (by omega), ← nx]
    · refine go e ?_ (fun f => ?_)
      · rcases h with ⟨h1, h2⟩ | ⟨h1, h2, h3, h4, h5⟩
        · refine .inl ⟨h1, fun x x0 x1 hx => ?_⟩
          by_cases e2 : x = (j : Int)
          · rw [e2] at hx; exact absurd hx c1
          · exact h2 x x0 (by omega) hx
        · refine .inr ⟨h1, h2, h3, h4, fun x x0 x1 hx hx' => ?_⟩
          by_cases e2 : x = (j : Int)
          · rw [e2] at hx; exact absurd hx c1
          · exact h5 x x0 (by omega) hx hx'
      · conv => lhs; unfold match_augment.l4
        rw [if_pos (by omega), if_pos (by omega), if_pos (by omega), if_neg c1, w64 (n := (j : Int) + 1) (by omega) (by omega), ← nx]

theorem no_whole {n r : Nat} {l : List S33} {out of : List Int} (M : Mt n r l out of) (hr : r < n) (X : Int → Bool) (h1 : ∀ j : Int, 0 ≤ j → j < (n : Int) → 0 ≤ wt l (r : Int) j → X j = true) (h2 : ∀ k : Int, 0 ≤ k → k < (n : Int) → X k = true → 0 ≤ rd of k ∧ ∀ j : Int, 0 ≤ j → j < (n : Int) → 0 ≤ wt l (rd of k) j → X j = true) : ∀ told, ¬ Whole n l told := by
  intro told T
  have hrng : ((List.range n).map (fun k : Nat => (k : Int))).Nodup := by
    unfold List.Nodup
    rw [List.pairwise_map]
    exact (List.nodup_range (n := n)).imp (fun {a b} h e => h (by omega))
  have hKn : (((List.range n).map (fun k : Nat => (k : Int))).filter X).Nodup := List.Pairwise.filter X hrng
  have hKm : ∀ k ∈ ((List.range n).map (fun k : Nat => (k : Int))).filter X, 0 ≤ k ∧ k < (n : Int) ∧ X k = true := fun k hk => by
    obtain ⟨a, b⟩ := List.mem_filter.1 hk
    obtain ⟨y, hy, rfl⟩ := List.mem_map.1 a
    have := List.mem_range.1 hy
    exact ⟨by omega, by omega, b⟩
  have hKi : ∀ j : Int, 0 ≤ j → j < (n : Int) → X j = true → j ∈ ((List.range n).map (fun k : Nat => (k : Int))).filter X := fun j a b c => List.mem_filter.2 ⟨List.mem_map.2 ⟨j.toNat, List.mem_range.2 (by omega), by omega⟩, c⟩
  generalize ((List.range n).map (fun k : Nat => (k : Int))).filter X = Ks at hKn hKm hKi
  have hrow : ∀ k ∈ Ks, 0 ≤ rd of k ∧ rd of k < (r : Int) ∧ rd out (rd of k) = k := fun k hk => by
    obtain ⟨a, b, c⟩ := hKm k hk
    have h3 := (h2 k a b c).1
    rcases M.col k a b with h | h
    · omega
    · exact h
  have inj : ∀ a b : Int, 0 ≤ a → a < (n : Int) → 0 ≤ b → b < (n : Int) → a ≠ b → rd told a ≠ rd told b := fun a b a0 a1 b0 b1 h => by
    by_cases q : a < b
    · exact T.inj a b a0 q b1
    · exact fun e => T.inj b a b0 (by omega) a1 e.symm
  have hnd : (((r : Int) :: Ks.map (rd of)).map (rd told)).Nodup := by
    unfold List.Nodup
    rw [List.pairwise_map, List.pairwise_cons]
    refine ⟨fun b hb => ?_, ?_⟩
    · obtain ⟨k, hk, rfl⟩ := List.mem_map.1 hb
      have := hrow k hk
      exact inj _ _ (by omega) (by omega) (by omega) (by omega) (by omega)
    · rw [List.pairwise_map]
      refine List.Pairwise.imp_of_mem (fun {a b} ha hb h => ?_) hKn
      have h3 := hrow a ha
      have h4 := hrow b hb
      refine inj _ _ (by omega) (by omega) (by omega) (by omega) (fun e => h ?_)
      rw [← h3.2.2, e, h4.2.2]
  have hle := nodup_le _ Ks hnd (fun x hx => by
    obtain ⟨i, hi, rfl⟩ := List.mem_map.1 hx
    rcases List.mem_cons.1 hi with rfl | hi
    · obtain ⟨a, b, c⟩ := T.rg (r : Int) (by omega) (by omega)
      exact hKi _ a b (h1 _ a b c)
    · obtain ⟨k, hk, rfl⟩ := List.mem_map.1 hi
      have h3 := hrow k hk
      obtain ⟨a, b, c⟩ := T.rg (rd of k) (by omega) (by omega)
      obtain ⟨d, e, f⟩ := hKm k hk
      exact hKi _ a b ((h2 k d e f).2 _ a b c))
  simp at hle
  omega
end Go.Proofs.Ytlaneafplmbcnaa.PO

namespace Go.Proofs.Ytlaneafplmbcnaa.PO
open Go.RowKit Go.Proofs.YtlaneafplmbcnaaW.PrintWords Go.Proofs.YtlaneafplmbcnaaW.PrintLast Go.Proofs.YtlaneafplmbcnaaW.PrintMore
set_option linter.unusedVariables false
set_option linter.unusedSimpArgs false

/-- By how much a column's price rises. -/
def rise (best : List Int) (q : Int → Int) (B c : Int) : Int := if rd best c ≠ -1073741824 ∧ B < rd best c - q c then rd best c - q c - B else 0
def qn (best : List Int) (q : Int → Int) (B c : Int) : Int := q c + rise best q B c
def pn (r : Nat) (out best : List Int) (p q : Int → Int) (B i : Int) : Int := if i = (r : Int) then B else p i - rise best q B (rd out i)
theorem rise_of {best : List Int} {q : Int → Int} {B c : Int} (h : rd best c ≠ -1073741824) (hB : B ≤ rd best c - q c) : rise best q B c = rd best c - q c - B := by
  unfold rise
  by_cases e : B < rd best c - q c
  · rw [if_pos ⟨h, e⟩]
  · rw [if_neg (fun h => e h.2)]; omega
theorem rise_cases (best : List Int) (q : Int → Int) (B c : Int) : (rise best q B c = 0 ∧ (rd best c = -1073741824 ∨ rd best c - q c ≤ B)) ∨ (rd best c ≠ -1073741824 ∧ rise best q B c = rd best c - q c - B ∧ 0 < rise best q B c) := by
  unfold rise
  by_cases e : rd best c ≠ -1073741824 ∧ B < rd best c - q c
  · rw [if_pos e]; right; exact ⟨e.1, rfl, by omega⟩
  · rw [if_neg e]; left
    refine ⟨rfl, ?_⟩
    by_cases h : rd best c = -1073741824
    · exact .inl h
    · right
      by_cases h2 : rd best c - q c ≤ B
      · exact h2
      · exact absurd ⟨h, by omega⟩ e

section
variable {n r : Nat} {l : List S33} {out of : List Int} {p q : Int → Int} {best bys : List Int} {τ σ : Int → Nat} {N S : Nat} {e : Int}
/-- All that is known when the search has ended. -/
structure Fin (n r : Nat) (l : List S33) (out of : List Int) (p q : Int → Int) (best bys : List Int) (τ σ : Int → Nat) (e : Int) : Prop where
  M : Mt n r l out of
  D : Du n r l out of p q
  hr : r < n
  B : BI n r l out of q best bys τ σ 262144 n
  C : ∀ k : Int, 0 ≤ k → k < (n : Int) → rd best k ≠ -1073741824 → 0 ≤ rd of k → CLo n l of best k
  e0 : 0 ≤ e
  e1 : e < (n : Int)
  ef : rd of e < 0
  er : rd best e ≠ -1073741824
  em : ∀ x : Int, 0 ≤ x → x < (n : Int) → rd of x < 0 → rd best x ≠ -1073741824 → rd best x ≤ rd best e
theorem Fin.tight (F : Fin n r l out of p q best bys τ σ e) (i : Int) (i0 : 0 ≤ i) (i1 : i < (r : Int)) : wt l i (rd out i) = pn r out best p q (rd best e) i + qn best q (rd best e) (rd out i) := by
  have h := F.D.ti i i0 i1
  unfold pn qn
  rw [if_neg (by omega)]; omega
theorem Fin.le (F : Fin n r l out of p q best bys τ σ e) (i j : Int) (i0 : 0 ≤ i) (i1 : i < ((r + 1 : Nat) : Int)) (j0 : 0 ≤ j) (j1 : j < (n : Int)) (w : 0 ≤ wt l i j) : wt l i j ≤ pn r out best p q (rd best e) i + qn best q (rd best e) j := by
  have hE := F.M.hE
  by_cases h : i = (r : Int)
  · subst h
    have h1 := F.B.ge j j0 j1 w
    unfold pn qn
    rw [if_pos rfl]
    rcases rise_cases best q (rd best e) j with ⟨a, b⟩ | ⟨a, b, c⟩
    · rw [a]
      rcases b with b | b
      · omega
      · omega
    · rw [b]; omega
  · have i1' : i < (r : Int) := by omega
    have h1 := F.D.le i j i0 i1' j0 j1 w
    have hrow := F.M.row i i0 i1'
    have hti := F.D.ti i i0 i1'
    unfold pn qn
    rw [if_neg h]
    rcases rise_cases best q (rd best e) (rd out i) with ⟨a, b⟩ | ⟨a, b, c⟩
    · rw [a]
      rcases rise_cases best q (rd best e) j with ⟨a', b'⟩ | ⟨a', b', c'⟩
      · rw [a']; omega
      · rw [b']; omega
    · by_cases hj : j = rd out i
      · subst hj; omega
      · have hc := F.C (rd out i) hrow.1 hrow.2.1 a (by rw [hrow.2.2.2]; exact i0) j j0 j1 hj (by rw [hrow.2.2.2]; exact w)
        rw [hrow.2.2.2] at hc
        rw [b]
        rcases rise_cases best q (rd best e) j with ⟨a', b'⟩ | ⟨a', b', c'⟩
        · rw [a']
          rcases b' with b' | b'
          · have h3 := F.B.un (rd out i) hrow.1 hrow.2.1
            have h4 := wt_le hE i (rd out i)
            omega
          · omega
        · rw [b']; omega
/-- A step of the way is tight by the new prices. -/
theorem Fin.step (F : Fin n r l out of p q best bys τ σ e) (j : Int) (j0 : 0 ≤ j) (j1 : j < (n : Int)) (hj : rd best j ≠ -1073741824) (hB : rd best e ≤ rd best j - q j) :
    (rd bys j = (r : Int) ∧ 0 ≤ wt l (r : Int) j ∧ wt l (r : Int) j = pn r out best p q (rd best e) (r : Int) + qn best q (rd best e) j) ∨
      (Behind r l out q best τ σ j (rd bys j) ∧ rd best e ≤ rd best (rd out (rd bys j)) - q (rd out (rd bys j)) ∧ wt l (rd bys j) j = pn r out best p q (rd best e) (rd bys j) + qn best q (rd best e) j) := by
  rcases F.B.pr j j0 j1 hj with ⟨a, b, c, d⟩ | Bh
  · left
    refine ⟨a, b, ?_⟩
    unfold pn qn
    rw [if_pos rfl, rise_of hj hB]; omega
  · right
    have hrow := F.M.row _ Bh.i0 Bh.i1
    have hab := Bh.ab
    unfold Ab at hab
    have hk : rd best e ≤ rd best (rd out (rd bys j)) - q (rd out (rd bys j)) := by omega
    refine ⟨Bh, hk, ?_⟩
    have hc := F.C _ hrow.1 hrow.2.1 hab.1 (by rw [hrow.2.2.2]; exact Bh.i0) j j0 j1 (fun h => Bh.ne h.symm) (by rw [hrow.2.2.2]; exact Bh.ed)
    rw [hrow.2.2.2] at hc
    have hti := F.D.ti _ Bh.i0 Bh.i1
    have hl := Bh.le
    unfold pn qn
    rw [if_neg (by have := Bh.i1; omega), rise_of hj hB, rise_of hab.1 hk]
    omega
theorem aug_l5 (F : Fin n r l out of p q best bys τ σ e) : ∀ (d : Nat) (j : Int) (o f : List Int), upN n best q τ j = d → 0 ≤ j → j < (n : Int) → rd best j ≠ -1073741824 → rd best e ≤ rd best j - q j → o.length = n → f.length = n →
    (∀ i : Int, 0 ≤ i → i < (r : Int) → 0 ≤ rd o i ∧ rd o i < (n : Int) ∧ 0 ≤ wt l i (rd o i) ∧ rd f (rd o i) = i ∧ rd o i ≠ j ∧ wt l i (rd o i) = pn r out best p q (rd best e) i + qn best q (rd best e) (rd o i)) →
    (∀ c : Int, 0 ≤ c → c < (n : Int) → c ≠ j → rd f c < 0 ∨ (0 ≤ rd f c ∧ rd f c < (r : Int) ∧ rd o (rd f c) = c)) →
    (∀ i : Int, 0 ≤ i → i < (r : Int) → Ab best q τ j (rd out i) → rd o i = rd out i) →
    (∀ c : Int, 0 ≤ c → c < (n : Int) → c ≠ j → rd f c < 0 → rd of c < 0 ∧ c ≠ e) →
    ∃ o' f', Mt n (r + 1) l o' f' ∧ (∀ i : Int, 0 ≤ i → i < ((r + 1 : Nat) : Int) → wt l i (rd o' i) = pn r out best p q (rd best e) i + qn best q (rd best e) (rd o' i)) ∧ (∀ c : Int, 0 ≤ c → c < (n : Int) → rd f' c < 0 → rd of c < 0 ∧ c ≠ e) ∧
      Ev (fun k => match_augment.l5 k (r : Int) o f bys j) (true, o', f') := by
  have hn := F.M.hn
  have hrn := F.hr
  have hyl := F.B.yl
  intro d
  induction d using Nat.strongRecOn with
  | _ d ih =>
  intro j o f hd j0 j1 hj hB ho hf hrow hcol hag hfr
  have so : ∀ i x : Int, 0 ≤ i → i < (n : Int) → 0 ≤ x → rd (o.set i.toNat j) x = if i = x then j else rd o x := fun i x i0 i1 x0 => rd_set o i x j i0 (by omega) x0
  have sf : ∀ i x : Int, 0 ≤ x → rd (f.set j.toNat i) x = if j = x then i else rd f x := fun i x x0 => rd_set f j x i j0 (by omega) x0
  rcases F.step j j0 j1 hj hB with ⟨hy, hw, ht⟩ | ⟨Bh, hk, ht⟩
  · have so' := fun x => so (r : Int) x (by omega) (by omega)
    have sf' := fun x => sf (r : Int) x
    refine ⟨o.set ((r : Int)).toNat j, f.set j.toNat (r : Int), ⟨hn, F.M.hl, F.M.hE, by omega, by simp [ho], by simp [hf], fun i i0 i1 => ?_, fun c c0 c1 => ?_⟩, fun i i0 i1 => ?_, fun c c0 c1 h => ?_, ?_⟩
    · rw [so' i i0]
      by_cases q1 : (r : Int) = i
      · rw [if_pos q1, sf' j j0, if_pos rfl, ← q1]; exact ⟨j0, j1, hw, rfl⟩
      · rw [if_neg q1]
        obtain ⟨a, b, c, d, g, _⟩ := hrow i i0 (by omega)
        rw [sf' _ a, if_neg (fun h => g h.symm)]
        exact ⟨a, b, c, d⟩
    · rw [sf' c c0]
      by_cases q1 : j = c
      · rw [if_pos q1]
        right
        rw [so' _ (by omega), if_pos rfl]
        exact ⟨by omega, by omega, q1⟩
      · rw [if_neg q1]
        rcases hcol c c0 c1 (fun h => q1 h.symm) with h | ⟨a, b, d⟩
        · exact .inl h
        · right
          rw [so' _ a, if_neg (by omega)]
          exact ⟨a, by omega, d⟩
    · rw [so' i i0]
      by_cases q1 : (r : Int) = i
      · rw [if_pos q1, ← q1]; exact ht
      · rw [if_neg q1]; exact (hrow i i0 (by omega)).2.2.2.2.2
    · rw [sf' c c0] at h
      by_cases q1 : j = c
      · rw [if_pos q1] at h; omega
      · rw [if_neg q1] at h; exact hfr c c0 c1 (fun h => q1 h.symm) h
    · refine Ev.step (f := fun _ => some (true, o.set ((r : Int)).toNat j, f.set j.toNat (r : Int))) (fun k => ?_) (Ev.now _)
      simp only [match_augment.l5]
      rw [if_pos j0, if_pos (by omega), hy, if_pos (by omega), if_pos (by omega), Option.bind_some, if_pos (by omega), Option.bind_some, if_pos rfl]
  · have i0 := Bh.i0
    have i1 := Bh.i1
    have hrk := F.M.row _ i0 i1
    have hoi := hag _ i0 i1 Bh.ab
    have hlt := upN_lt hrk.1 hrk.2.1 Bh.ab
    have habk := Bh.ab
    generalize hyi : rd bys j = i at i0 i1 hrk hoi hlt hk ht habk Bh
    have so' := fun x => so i x i0 (by omega)
    have sf' := fun x => sf i x
    obtain ⟨ra, rb, rc, rd', re, rf⟩ := hrow i i0 i1
    obtain ⟨o', f', h1, h2, h3, h4⟩ := ih _ (by omega) (rd out i) (o.set i.toNat j) (f.set j.toNat i) rfl hrk.1 hrk.2.1 habk.1 hk (by simp [ho]) (by simp [hf]) (fun x x0 x1 => by
        rw [so' x x0]
        by_cases q1 : i = x
        · rw [if_pos q1, sf' j j0, if_pos rfl, ← q1]; exact ⟨j0, j1, Bh.ed, rfl, fun h => Bh.ne h.symm, ht⟩
        · rw [if_neg q1]
          obtain ⟨a, b, c, d, g, h⟩ := hrow x x0 x1
          rw [sf' _ a, if_neg (fun h => g h.symm)]
          refine ⟨a, b, c, d, fun h5 => q1 ?_, h⟩
          rw [← hoi] at h5
          rw [h5, rd'] at d
          exact d) (fun c c0 c1 hck => by
        rw [sf' c c0]
        by_cases q1 : j = c
        · rw [if_pos q1]
          right
          rw [so' i i0, if_pos rfl]
          exact ⟨i0, i1, q1⟩
        · rw [if_neg q1]
          rcases hcol c c0 c1 (fun h => q1 h.symm) with h | ⟨a, b, d⟩
          · exact .inl h
          · right
            have hne : i ≠ rd f c := fun h => hck (by rw [← d, ← h, hoi])
            rw [so' _ a, if_neg hne]
            exact ⟨a, b, d⟩) (fun x x0 x1 hx => by
        rw [so' x x0]
        have hjx : Ab best q τ j (rd out x) := by
          unfold Ab at hx habk ⊢
          exact ⟨hx.1, by omega⟩
        by_cases q1 : i = x
        · exfalso
          rw [← q1] at hx
          unfold Ab at hx
          omega
        · rw [if_neg q1]; exact hag x x0 x1 hjx) (fun c c0 c1 hck h => by
        rw [sf' c c0] at h
        by_cases q1 : j = c
        · rw [if_pos q1] at h; omega
        · rw [if_neg q1] at h; exact hfr c c0 c1 (fun h => q1 h.symm) h)
    refine ⟨o', f', h1, h2, h3, Ev.step (fun k => ?_) h4⟩
    simp only [match_augment.l5]
    rw [if_pos j0, if_pos (by omega), hyi, if_pos i0, if_pos (by omega), Option.bind_some, if_pos (by omega), Option.bind_some, if_neg (by omega), hoi]
end
/-- A row more has a column, or there is no whole matching. -/
theorem augment_spec {n r : Nat} {l : List S33} {out of : List Int} {p q : Int → Int} (M : Mt n r l out of) (D : Du n r l out of p q) (hr : r < n) :
    (∃ o f p' q', Mt n (r + 1) l o f ∧ Du n (r + 1) l o f p' q' ∧ Ev (fun k => match_augment.f k (r : Int) (tabN n l) out of) (true, o, f)) ∨
      ((∀ told, ¬ Whole n l told) ∧ ∃ o f, Ev (fun k => match_augment.f k (r : Int) (tabN n l) out of) (false, o, f)) := by
  have hn := M.hn
  have hG := tabN_grid M.hE
  obtain ⟨b, y, hb, hy, h0, ev0⟩ := aug_l0 (out := out) (of := of) hn M.hE hr n 0 (List.replicate n 0) (List.replicate n 0) (by omega) (by simp) (by simp) (fun x a b => by omega)
  have hB0 : BI n r l out of q b y (fun _ => 0) (fun _ => 0) (4096 * 0) 0 := BI.start M.hE hb hy h0
  obtain ⟨best, bys, τ, σ, hB, hC, ev1⟩ := aug_l1 M D n 0 b y _ _ (by omega) hB0 (fun _ _ _ _ _ => .inr (Nat.zero_le _))
  obtain ⟨e, hend, ev2⟩ := aug_l4 (r := r) out (of := of) (best := best) (bys := bys) hn M.fl hB.bl (fun j a b => by rcases hB.un j a b with h | h; exact .inl h; exact .inr (by omega)) n 0 (-1) (by omega) (.inl ⟨rfl, fun x a b => by omega⟩)
  have ev : ∀ R, Ev (fun f => if e < 0 then some (false, out, of) else match_augment.l5 f (r : Int) out of bys e) R → Ev (fun k => match_augment.f k (r : Int) (tabN n l) out of) R := fun R hR => by
    unfold match_augment.f
    rw [hG.1]
    simp only [if_pos (show (0 : Int) ≤ (n : Int) by omega), Int.toNat_natCast, if_pos (show n ≤ 35184372088832 by omega), Option.bind_some, List.length_replicate]
    refine ev0 R (ev1 R (Ev.step (fun k => ?_) (ev2 R hR)))
    simp only [match_augment.j5]; rfl
  rcases hend with ⟨he, hno⟩ | ⟨e0, e1, ef, er, em⟩
  · right
    refine ⟨no_whole M hr (fun j => decide (rd best j ≠ -1073741824)) (fun j a b w => ?_) (fun k a b hk => ?_), out, of, ev _ ?_⟩
    · have := hB.ge j a b w
      exact decide_eq_true (by omega)
    · have hk' := of_decide_eq_true hk
      have h1 : 0 ≤ rd of k := by
        by_cases h : rd of k < 0
        · exact absurd (hno k a b h) hk'
        · omega
      refine ⟨h1, fun j c d w => decide_eq_true ?_⟩
      by_cases hjk : j = k
      · rw [hjk]; exact hk'
      · have h2 := hC k a b hk' h1 j c d hjk w
        have h3 := hB.un k a b
        have h4 := wt_le M.hE (rd of k) k
        omega
    · simp only [if_pos (show e < 0 by omega)]; exact Ev.now _
  · left
    have F : Fin n r l out of p q best bys τ σ e := ⟨M, D, hr, hB, hC, e0, e1, ef, er, em⟩
    have hqe := D.qf e e0 e1 ef
    obtain ⟨o, f, h1, h2, h3, h4⟩ := aug_l5 F _ e out of rfl e0 e1 er (by omega) M.ol M.fl (fun i i0 i1 => by
        obtain ⟨a, b, c, d⟩ := M.row i i0 i1
        exact ⟨a, b, c, d, fun h => by rw [h] at d; omega, F.tight i i0 i1⟩) (fun c c0 c1 _ => M.col c c0 c1) (fun _ _ _ _ => rfl) (fun c _ _ h h' => ⟨h', h⟩)
    refine ⟨o, f, pn r out best p q (rd best e), qn best q (rd best e), h1, ⟨fun i j i0 i1 j0 j1 w => F.le i j i0 i1 j0 j1 w, h2, fun j j0 j1 => ?_, fun j j0 j1 hj => ?_, fun i i0 i1 => ?_⟩, ev _ ?_⟩
    · have := D.q0 j j0 j1
      unfold qn
      rcases rise_cases best q (rd best e) j with ⟨a, _⟩ | ⟨_, _, c⟩ <;> omega
    · obtain ⟨a, b⟩ := h3 j j0 j1 hj
      have hq := D.qf j j0 j1 a
      unfold qn
      rcases rise_cases best q (rd best e) j with ⟨h, _⟩ | ⟨h5, h6, h7⟩
      · omega
      · have := em j j0 j1 a h5
        omega
    · have hbe := hB.un e e0 e1
      unfold pn
      by_cases h : i = (r : Int)
      · rw [if_pos h]; omega
      · rw [if_neg h]
        have h5 := D.pb i i0 (by omega)
        have h6 := M.row i i0 (by omega)
        have h7 := hB.un (rd out i) h6.1 h6.2.1
        have h8 := D.q0 (rd out i) h6.1 h6.2.1
        rcases rise_cases best q (rd best e) (rd out i) with ⟨a, _⟩ | ⟨a, b, c⟩ <;> omega
    · simp only [if_neg (show ¬ e < 0 by omega)]; exact h4
end Go.Proofs.Ytlaneafplmbcnaa.PO

namespace Go.Proofs.Ytlaneafplmbcnaa.PO
open Go.RowKit Go.Proofs.YtlaneafplmbcnaaW.PrintWords Go.Proofs.YtlaneafplmbcnaaW.PrintLast Go.Proofs.YtlaneafplmbcnaaW.PrintMore
set_option linter.unusedVariables false
set_option linter.unusedSimpArgs false

/-- The heaviest whole matching, with prices that show it. -/
structure Opt (n : Nat) (l : List S33) (L : List Int) (p q : Int → Int) : Prop where
  T : Whole n l L
  le : ∀ i j : Int, 0 ≤ i → i < (n : Int) → 0 ≤ j → j < (n : Int) → 0 ≤ wt l i j → wt l i j ≤ p i + q j
  ti : ∀ i : Int, 0 ≤ i → i < (n : Int) → wt l i (rd L i) = p i + q (rd L i)
  q0 : ∀ j : Int, 0 ≤ j → j < (n : Int) → 0 ≤ q j
  pb : ∀ i : Int, 0 ≤ i → i < (n : Int) → -7680000000 ≤ p i ∧ p i ≤ 7680000000
theorem Mt.opt {n : Nat} {l : List S33} {out of : List Int} {p q : Int → Int} (M : Mt n n l out of) (D : Du n n l out of p q) : Opt n l out p q := by
  have hn := M.hn
  refine ⟨⟨M.hn, M.hl, M.hE, M.ol, fun i a b => ?_, fun i i' a b c e => ?_⟩, D.le, D.ti, D.q0, fun i a b => by have := D.pb i a b; omega⟩
  · obtain ⟨h1, h2, h3, _⟩ := M.row i a b
    exact ⟨h1, h2, h3⟩
  · have h1 := (M.row i a (by omega)).2.2.2
    have h2 := (M.row i' (by omega) c).2.2.2
    rw [e] at h1
    omega
theorem Assign_l1 {n : Nat} {l : List S33} : ∀ (d r : Nat) (out of : List Int) (p q : Int → Int), r + d = n → Mt n r l out of → Du n r l out of p q →
    (∃ L p q, Opt n l L p q ∧ Ev (fun k => match_Assign.l1 k (tabN n l) out of (n : Int) (r : Int)) (L, 0)) ∨ ((∀ told, ¬ Whole n l told) ∧ Ev (fun k => match_Assign.l1 k (tabN n l) out of (n : Int) (r : Int)) ([], 190)) := by
  intro d
  induction d with
  | zero =>
    intro r out of p q hr M D
    have : r = n := by omega
    subst this
    refine .inl ⟨out, p, q, M.opt D, Ev.step (f := fun _ => some (out, 0)) (fun k => ?_) (Ev.now _)⟩
    simp only [match_Assign.l1]; rw [if_neg (by omega)]
  | succ d ih =>
    intro r out of p q hr M D
    have hn := M.hn
    have st : ∀ R (x : Bool × List Int × List Int), Ev (fun k => match_augment.f k (r : Int) (tabN n l) out of) x → Ev (fun k => if x.1 = true then match_Assign.l1 k (tabN n l) x.2.1 x.2.2 (n : Int) ((r + 1 : Nat) : Int) else some ([], 190)) R → Ev (fun k => match_Assign.l1 k (tabN n l) out of (n : Int) (r : Int)) R := fun R x h1 h2 =>
      Ev.step (f := fun k => (match_augment.f k (r : Int) (tabN n l) out of).bind fun x => if x.1 = true then match_Assign.l1 k (tabN n l) x.2.1 x.2.2 (n : Int) ((r + 1 : Nat) : Int) else some ([], 190)) (fun k => by
        simp only [match_Assign.l1]
        rw [if_pos (by omega), w64 (by omega) (by omega), show (r : Int) + 1 = ((r + 1 : Nat) : Int) by omega]) (Ev.bind h1 h2)
    rcases augment_spec M D (by omega) with ⟨o, f, p', q', M', D', hE⟩ | ⟨hno, o, f, hE⟩
    · rcases ih (r + 1) o f p' q' (by omega) M' D' with ⟨L, p2, q2, h1, h2⟩ | ⟨h1, h2⟩
      · exact .inl ⟨L, p2, q2, h1, st _ _ hE (by simp only [if_true]; exact h2)⟩
      · exact .inr ⟨h1, st _ _ hE (by simp only [if_true]; exact h2)⟩
    · exact .inr ⟨hno, st _ _ hE (by simp only [Bool.false_eq_true, if_false]; exact Ev.now _)⟩
theorem Assign_l0 {n : Nat} (hn : n ≤ 64) (t : List (List Int)) (R : List Int × Int) (h : Ev (fun k => match_Assign.l1 k t (List.replicate n (-1)) (List.replicate n (-1)) (n : Int) 0) R) : ∀ (d j : Nat), j + d = n →
    Ev (fun k => match_Assign.l0 k (n : Int) t (List.replicate j (-1) ++ List.replicate (n - j) 0) (List.replicate j (-1) ++ List.replicate (n - j) 0) (n : Int) (j : Int)) R := by
  intro d
  induction d with
  | zero =>
    intro j hj
    have : j = n := by omega
    subst this
    refine Ev.step (fun k => ?_) h
    simp only [match_Assign.l0]
    rw [if_neg (by omega), Nat.sub_self, List.replicate_zero, List.append_nil]
  | succ d ih =>
    intro j hj
    have hlr : (List.replicate j (-1 : Int) ++ List.replicate (n - j) 0).length = n := by simp; omega
    refine Ev.step (fun k => ?_) (ih (j + 1) (by omega))
    simp only [match_Assign.l0]
    rw [if_pos (by omega), if_pos (by omega), if_pos (by rw [hlr]; omega), if_pos (by rw [hlr]; omega), Int.toNat_natCast, put_nx j n (-1) 0 (by omega), w64 (by omega) (by omega), show (j : Int) + 1 = ((j + 1 : Nat) : Int) by omega]
theorem Ev_Assign {a : Int} {l : List S33} (hb : rightB a a l = true) :
    (∃ L p q, Opt a.toNat l L p q ∧ Ev (fun k => match_Assign.f k a l) (L, 0)) ∨ ((∀ told, ¬ Whole a.toNat l told) ∧ Ev (fun k => match_Assign.f k a l) ([], 190)) := by
  obtain ⟨⟨ha0, ha1, _, _, hlen⟩, hed⟩ := rightB_iff a a l hb
  have hE : Edges a.toNat a.toNat l := fun e he => by have := hed e he; omega
  generalize hn : a.toNat = n at hE
  have han : a = (n : Int) := by omega
  subst han
  have hn64 : n ≤ 64 := by omega
  have rr : ∀ x : Int, 0 ≤ x → x < (n : Int) → rd (List.replicate n (-1)) x = -1 := fun x a b => rd_rep a b
  have M0 : Mt n 0 l (List.replicate n (-1)) (List.replicate n (-1)) := ⟨hn64, hlen, hE, by omega, by simp, by simp, fun i a b => by omega, fun j a b => .inl (by rw [rr j a b]; omega)⟩
  have D0 : Du n 0 l (List.replicate n (-1)) (List.replicate n (-1)) (fun _ => 0) (fun _ => 0) := ⟨fun i j a b => by omega, fun i a b => by omega, fun _ _ _ => Int.le_refl _, fun _ _ _ _ => rfl, fun i a b => by omega⟩
  have st : ∀ R, Ev (fun k => match_Assign.l1 k (tabN n l) (List.replicate n (-1)) (List.replicate n (-1)) (n : Int) ((0 : Nat) : Int)) R → Ev (fun k => match_Assign.f k (n : Int) l) R := fun R h => by
    unfold match_Assign.f match_right.f
    rw [hb]
    simp only [Option.bind_some, if_true]
    refine Ev.bind (Ev_tableM hn64 hlen hE) ?_
    simp only [if_pos (show (0 : Int) ≤ (n : Int) by omega), Int.toNat_natCast, if_pos (show n ≤ 35184372088832 by omega), List.length_replicate]
    have h1 := Assign_l0 hn64 (tabN n l) R h n 0 (by omega)
    rw [List.replicate_zero, List.nil_append, Nat.sub_zero] at h1
    exact h1
  rcases Assign_l1 n 0 _ _ _ _ (by omega) M0 D0 with ⟨L, p, q, h1, h2⟩ | ⟨h1, h2⟩
  · exact .inl ⟨L, p, q, h1, st _ h2⟩
  · exact .inr ⟨h1, st _ h2⟩
end Go.Proofs.Ytlaneafplmbcnaa.PO
