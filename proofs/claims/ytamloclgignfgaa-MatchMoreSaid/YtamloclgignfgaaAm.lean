/- Sums over whole matchings; no matching is greater than Most's. In plain Lean. -/
import Derived.Test.YtamloclgignfgaaAk
import Derived.Test.YtamloclgignfgaaPAx25
namespace Go.Proofs.Ytamloclgignfgaa.PA
open Go.RowKit Go.Proofs.YtamloclgignfgaaW.PrintWords Go.Proofs.YtamloclgignfgaaW.PrintLast Go.Proofs.YtamloclgignfgaaW.PrintMore
set_option linter.unusedVariables false
set_option linter.unusedSimpArgs false

/-! ### sums -/
theorem sum_erase (q : Int → Int) : ∀ (s : List Int) (x : Int), x ∈ s → (s.map q).sum = q x + ((s.erase x).map q).sum := by
  intro s
  induction s with
  | nil => intro x h; cases h
  | cons a s ih =>
    intro x h
    by_cases e : a = x
    · subst e; simp
    · have hx : x ∈ s := by rcases List.mem_cons.1 h with h | h; exact absurd h.symm e; exact h
      rw [List.erase_cons_tail (by simpa using e), List.map_cons, List.map_cons, List.sum_cons, List.sum_cons, ih x hx]
      omega
theorem sum_nonneg (q : Int → Int) : ∀ s : List Int, (∀ x ∈ s, 0 ≤ q x) → 0 ≤ (s.map q).sum := by
  intro s
  induction s with
  | nil => intro _; simp
  | cons a s ih =>
    intro h
    rw [List.map_cons, List.sum_cons]
    have h1 := h a List.mem_cons_self
    have h2 := ih (fun x hx => h x (List.mem_cons_of_mem _ hx))
    omega
theorem sum_le_of (q : Int → Int) : ∀ (l s : List Int), l.Nodup → (∀ x ∈ l, x ∈ s) → (∀ x ∈ s, 0 ≤ q x) → (l.map q).sum ≤ (s.map q).sum := by
  intro l
  induction l with
  | nil => intro s _ _ h; simpa using sum_nonneg q s h
  | cons x l ih =>
    intro s hn hs hq
    have hx := hs x List.mem_cons_self
    rw [sum_erase q s x hx, List.map_cons, List.sum_cons]
    have := ih (s.erase x) (List.nodup_cons.1 hn).2 (fun y hy => (List.mem_erase_of_ne (by rintro rfl; exact (List.nodup_cons.1 hn).1 hy)).2 (hs y (List.mem_cons_of_mem _ hy))) (fun y hy => hq y (List.mem_of_mem_erase hy))
    omega
theorem Whole.nodup {n : Nat} {l : List S40} {L : List Int} (T : Whole n l L) : L.Nodup := by
  unfold List.Nodup
  rw [List.pairwise_iff_getElem]
  intro a b ha hb hab h
  have hl := T.len
  refine T.inj (a : Int) (b : Int) (by omega) (by omega) (by omega) ?_
  unfold rd
  rw [List.getD_eq_getElem?_getD, List.getD_eq_getElem?_getD, Int.toNat_natCast, Int.toNat_natCast, List.getElem?_eq_getElem ha, List.getElem?_eq_getElem hb, h]
theorem Whole.mem {n : Nat} {l : List S40} {L : List Int} (T : Whole n l L) (x : Int) : x ∈ L ↔ 0 ≤ x ∧ x < (n : Int) := by
  constructor
  · intro hx
    obtain ⟨k, hk, h⟩ := List.getElem_of_mem hx
    have hl := T.len
    have hr := T.rg (k : Int) (by omega) (by omega)
    have hrk : rd L (k : Int) = x := by
      unfold rd
      rw [List.getD_eq_getElem?_getD, Int.toNat_natCast, List.getElem?_eq_getElem hk, h]; rfl
    rw [hrk] at hr
    exact ⟨hr.1, hr.2.1⟩
  · rintro ⟨a, b⟩
    obtain ⟨i, i0, i1, rfl⟩ := T.onto a b
    exact rd_mem L i i0 (by rw [T.len]; exact i1)
/-- Over any two whole matchings a price sums to the same. -/
theorem Whole.sum_eq {n : Nat} {l l' : List S40} {L L' : List Int} (T : Whole n l L) (T' : Whole n l' L') (q : Int → Int) (hq : ∀ x : Int, 0 ≤ x → x < (n : Int) → 0 ≤ q x) : (L.map q).sum = (L'.map q).sum := by
  have h1 := sum_le_of q L L' T.nodup (fun x hx => (T'.mem x).2 ((T.mem x).1 hx)) (fun x hx => hq x ((T'.mem x).1 hx).1 ((T'.mem x).1 hx).2)
  have h2 := sum_le_of q L' L T'.nodup (fun x hx => (T.mem x).2 ((T'.mem x).1 hx)) (fun x hx => hq x ((T.mem x).1 hx).1 ((T.mem x).1 hx).2)
  omega
theorem sm_list (q : Int → Int) : ∀ (L : List Int), sm (fun i => q (rd L i)) L.length = (L.map q).sum := by
  have key : ∀ (n : Nat) (L : List Int), n ≤ L.length → sm (fun i => q (rd L i)) n = ((L.take n).map q).sum := by
    intro n
    induction n with
    | zero => intro L _; simp [sm]
    | succ n ih =>
      intro L h
      have e : L.take (n + 1) = L.take n ++ [rd L (n : Int)] := by
        rw [List.take_add_one, List.getElem?_eq_getElem (by omega)]
        simp [rd, List.getD_eq_getElem?_getD, List.getElem?_eq_getElem (show n < L.length by omega)]
      unfold sm
      rw [ih L (by omega), e, List.map_append, List.sum_append]
      simp
  intro L
  have := key L.length L (Nat.le_refl _)
  rwa [List.take_length] at this
theorem sm_add (f g : Int → Int) : ∀ n : Nat, sm (fun i => f i + g i) n = sm f n + sm g n := by
  intro n
  induction n with
  | zero => rfl
  | succ n ih => unfold sm; rw [ih]; omega
theorem sm_congr {f g : Int → Int} : ∀ n : Nat, (∀ i : Int, 0 ≤ i → i < (n : Int) → f i = g i) → sm f n = sm g n := by
  intro n h
  exact Int.le_antisymm (sm_le n (fun i a b => by rw [h i a b]; exact Int.le_refl _)) (sm_le n (fun i a b => by rw [h i a b]; exact Int.le_refl _))
/-- What a whole matching weighs. -/
def wsum (n : Nat) (l : List S40) (L : List Int) : Int := sm (fun i => wt l i (rd L i)) n
theorem Opt.sum {n : Nat} {l : List S40} {L : List Int} {p q : Int → Int} (O : Opt n l L p q) : wsum n l L = sm p n + (L.map q).sum := by
  unfold wsum
  rw [sm_congr n (fun i a b => O.ti i a b), sm_add p (fun i => q (rd L i)) n]
  have h := sm_list q L
  rw [O.T.len] at h
  rw [h]
theorem Opt.best {n : Nat} {l : List S40} {L : List Int} {p q : Int → Int} (O : Opt n l L p q) {told : List Int} (T : Whole n l told) : wsum n l told ≤ wsum n l L := by
  rw [O.sum, O.T.sum_eq T q O.q0]
  have h := sm_list q told
  rw [T.len] at h
  rw [← h, ← sm_add p (fun i => q (rd told i)) n]
  exact sm_le n (fun i a b => O.le i _ a b (T.rg i a b).1 (T.rg i a b).2.1 (T.rg i a b).2.2)
theorem Sum_l0 {n : Nat} {l : List S40} {L : List Int} (T : Whole n l L) : ∀ (d i : Nat) (s : Int), i + d = n → 0 ≤ s → s ≤ 100 * (i : Int) → s = sm (fun i => wt l i (rd L i)) i → Ev (fun k => orreryref19_Sum.l0 k (tabL n n l) s L (n : Int) (i : Int)) (wsum n l L) := by
  have hn := T.hn
  have hG := tabL_grid l T.hE
  have hlen := T.len
  intro d
  induction d with
  | zero =>
    intro i s hi h0 h1 hs
    have : i = n := by omega
    subst this
    refine Ev.step (f := fun _ => some s) (fun k => ?_) (by rw [hs]; exact Ev.now _)
    simp only [orreryref19_Sum.l0]; rw [if_neg (by omega)]
  | succ d ih =>
    intro i s hi h0 h1 hs
    obtain ⟨r0, r1, r2⟩ := T.rg (i : Int) (by omega) (by omega)
    have hrow := hG.row (i := (i : Int)) (by omega) (by omega)
    have hta := tab_at T.hE (show (0 : Int) ≤ (i : Int) by omega) (show (i : Int) < (n : Int) by omega) r0 r1
    have hw := wt_le T.hE (i : Int) (rd L (i : Int))
    refine Ev.step (fun k => ?_) (ih (i + 1) (s + wt l (i : Int) (rd L (i : Int))) (by omega) (by omega) (by omega) (by rw [hs]; rfl))
    simp only [orreryref19_Sum.l0]
    rw [if_pos (by omega), if_pos (by omega), if_pos (by omega), if_pos (by rw [hG.1]; omega), if_pos r0, if_pos (by rw [hrow]; omega), hta, w64 (n := s + wt l (i : Int) (rd L (i : Int))) (by omega) (by omega), w64 (n := (i : Int) + 1) (by omega) (by omega), show (i : Int) + 1 = ((i + 1 : Nat) : Int) by omega]
theorem Ev_Sum {n : Nat} {l : List S40} {L : List Int} (T : Whole n l L) : Ev (fun k => orreryref19_Sum.f k (tabL n n l) L) (wsum n l L) := by
  unfold orreryref19_Sum.f
  rw [T.len]
  exact Sum_l0 T n 0 0 (by omega) (by omega) (by omega) rfl
end Go.Proofs.Ytamloclgignfgaa.PA
