/- No set of edges that share no row and no column is greater than what Kuhn's way tells; sums in another order. In plain Lean. -/
import Derived.Test.YtamloclgignfgaaMG
import Derived.Test.YtamloclgignfgaaAm
namespace Go.Proofs.Ytamloclgignfgaa.PA
open Go.RowKit Go.Proofs.YtamloclgignfgaaW.PrintWords Go.Proofs.YtamloclgignfgaaW.PrintLast Go.Proofs.YtamloclgignfgaaW.PrintMore
set_option linter.unusedVariables false
set_option linter.unusedSimpArgs false

/-- The numbers below n. -/
def upto (n : Nat) : List Int := (List.range n).map (fun k : Nat => (k : Int))
theorem mem_upto {n : Nat} {x : Int} : x ∈ upto n ↔ 0 ≤ x ∧ x < (n : Int) := by
  unfold upto
  constructor
  · intro h
    obtain ⟨y, hy, rfl⟩ := List.mem_map.1 h
    have := List.mem_range.1 hy
    omega
  · rintro ⟨a, b⟩
    exact List.mem_map.2 ⟨x.toNat, List.mem_range.2 (by omega), by omega⟩
theorem nodup_upto (n : Nat) : (upto n).Nodup := by
  unfold upto List.Nodup
  rw [List.pairwise_map]
  exact (List.nodup_range (n := n)).imp (fun {a b} h e => h (by omega))
/-- The rows that have a column. -/
def hasL (M : List Int) : List Int := (upto M.length).filter (fun i => decide (0 ≤ rd M i))
theorem mem_hasL {M : List Int} {i : Int} : i ∈ hasL M ↔ 0 ≤ i ∧ i < (M.length : Int) ∧ 0 ≤ rd M i := by
  unfold hasL
  rw [List.mem_filter, mem_upto, decide_eq_true_iff]
  exact and_assoc
theorem nodup_hasL (M : List Int) : (hasL M).Nodup := List.Pairwise.filter _ (nodup_upto _)
theorem len_hasL (M : List Int) : (hasL M).length = sizeN M := by
  have e : M = (List.range M.length).map (fun k : Nat => rd M (k : Int)) := by
    apply List.ext_getElem
    · simp
    · intro k h1 h2
      simp [rd, List.getD_eq_getElem?_getD, List.getElem?_eq_getElem h1]
  unfold sizeN hasL upto
  conv => rhs; rw [e]
  rw [List.countP_map, ← List.countP_eq_length_filter, List.countP_map]
  rfl
/-- Where columns are dead, no set of edges that share no row and no column is greater. -/
theorem DeadIn.bound {n m : Nat} {l : List S40} (hE : Edges n m l) {M : List Int} (hM : IsMat (tabL n m l) m M) {D : Int → Prop} (hD : DeadIn (tabL n m l) n m M D) (E : List (Int × Int))
    (hr : ∀ e ∈ E, 0 ≤ e.1 ∧ e.1 < (n : Int) ∧ 0 ≤ e.2 ∧ e.2 < (m : Int) ∧ 0 ≤ wt l e.1 e.2) (h1 : E.Pairwise (fun a b => a.1 ≠ b.1 ∧ a.2 ≠ b.2)) : E.length ≤ sizeN M := by
  have hlen : M.length = n := by rw [hM.1, (tabL_grid l hE).1]
  have inj : ∀ i i' : Int, 0 ≤ i → i < (n : Int) → 0 ≤ i' → i' < (n : Int) → 0 ≤ rd M i → rd M i = rd M i' → i = i' := fun i i' a b c d h e => by
    rcases Int.lt_trichotomy i i' with q | q | q
    · have := hM.2.2 i i' a q (by omega) e; omega
    · exact q
    · have := hM.2.2 i' i c q (by omega) e.symm; omega
  have key : ∀ e : Int × Int, ∃ i : Int, e ∈ E → 0 ≤ i ∧ i < (n : Int) ∧ 0 ≤ rd M i ∧ ((D e.2 ∧ rd M i = e.2) ∨ (¬ D (rd M i) ∧ i = e.1)) := fun e => by
    by_cases he : e ∈ E
    · obtain ⟨a, b, c, d, w⟩ := hr e he
      by_cases hd : D e.2
      · obtain ⟨h2, i, i0, i1, h3, _⟩ := hD.2 e.2 hd
        exact ⟨i, fun _ => ⟨i0, i1, by omega, .inl ⟨hd, h3⟩⟩⟩
      · have w' : 0 ≤ rd (rd_L3 (tabL n m l) e.1) e.2 := by rw [tab_at hE a b c d]; exact w
        refine ⟨e.1, fun _ => ⟨a, b, ?_, .inr ⟨fun h => ?_, rfl⟩⟩⟩
        · by_cases q : rd M e.1 < 0
          · exact absurd (hD.1 e.1 a b q e.2 c d w') hd
          · omega
        · obtain ⟨h2, i, i0, i1, h3, h4⟩ := hD.2 _ h
          have := inj i e.1 i0 i1 a b (by omega) h3
          rw [this] at h4
          exact hd (h4 e.2 c d w')
    · exact ⟨0, fun h => absurd h he⟩
  obtain ⟨f, hf⟩ := Classical.axiomOfChoice key
  have hnd : (E.map f).Nodup := by
    unfold List.Nodup
    rw [List.pairwise_map]
    refine List.Pairwise.imp_of_mem (fun {a b} ha hb h e => ?_) h1
    obtain ⟨a0, a1, a2, a3⟩ := hf a ha
    obtain ⟨b0, b1, b2, b3⟩ := hf b hb
    rw [← e] at b3
    rcases a3 with ⟨p1, p2⟩ | ⟨p1, p2⟩ <;> rcases b3 with ⟨q1, q2⟩ | ⟨q1, q2⟩
    · exact h.2 (p2.symm.trans q2)
    · exact q1 (by rw [p2]; exact p1)
    · exact p1 (by rw [q2]; exact q1)
    · exact h.1 (p2.symm.trans q2)
  have hle := nodup_le _ (hasL M) hnd (fun x hx => by
    obtain ⟨e, he, rfl⟩ := List.mem_map.1 hx
    obtain ⟨a, b, c, _⟩ := hf e he
    exact mem_hasL.2 ⟨a, by omega, c⟩)
  rw [List.length_map, len_hasL] at hle
  exact hle
/-- A matching's edges. -/
theorem IsMat.pairs {n m : Nat} {l : List S40} (hE : Edges n m l) {N : List Int} (h : IsMat (tabL n m l) m N) : ∃ E : List (Int × Int), E.length = sizeN N ∧ (∀ e ∈ E, 0 ≤ e.1 ∧ e.1 < (n : Int) ∧ 0 ≤ e.2 ∧ e.2 < (m : Int) ∧ 0 ≤ wt l e.1 e.2 ∧ rd N e.1 = e.2) ∧ E.Pairwise (fun a b => a.1 ≠ b.1 ∧ a.2 ≠ b.2) := by
  have hlen : N.length = n := by rw [h.1, (tabL_grid l hE).1]
  refine ⟨(hasL N).map (fun i => (i, rd N i)), by rw [List.length_map, len_hasL], fun e he => ?_, ?_⟩
  · obtain ⟨i, hi, rfl⟩ := List.mem_map.1 he
    obtain ⟨a, b, c⟩ := mem_hasL.1 hi
    rcases h.2.1 i a b with h1 | ⟨h1, h2, h3⟩
    · omega
    · rw [tab_at hE a (by omega) h1 h2] at h3
      exact ⟨a, by simp only; omega, h1, h2, h3, rfl⟩
  · rw [List.pairwise_map]
    refine List.Pairwise.imp_of_mem (fun {a b} ha hb hab => ⟨hab, fun e => ?_⟩) (nodup_hasL N)
    obtain ⟨a0, a1, a2⟩ := mem_hasL.1 ha
    obtain ⟨b0, b1, b2⟩ := mem_hasL.1 hb
    simp only at e
    rcases Int.lt_trichotomy a b with q | q | q
    · have := h.2.2 a b a0 q b1 e; omega
    · exact hab q
    · have := h.2.2 b a b0 q a1 e.symm; omega
/-- A whole matching's edges. -/
theorem Whole.pairs {n : Nat} {l : List S40} {N : List Int} (T : Whole n l N) : ∃ E : List (Int × Int), E.length = n ∧ (∀ e ∈ E, 0 ≤ e.1 ∧ e.1 < (n : Int) ∧ 0 ≤ e.2 ∧ e.2 < (n : Int) ∧ 0 ≤ wt l e.1 e.2 ∧ rd N e.1 = e.2) ∧ E.Pairwise (fun a b => a.1 ≠ b.1 ∧ a.2 ≠ b.2) := by
  obtain ⟨E, h1, h2, h3⟩ := T.mat.pairs T.hE
  exact ⟨E, by rw [h1]; exact (sizeN_full T.len).2 (fun i a b => (T.rg i a b).1), h2, h3⟩
/-- Just where there is a whole matching, Kuhn's way tells one. -/
theorem most_whole {a : Int} {l : List S40} (hb : rightB a a l = true) : sizeN (mostL a.toNat a.toNat l) = a.toNat ↔ ∃ L, Whole a.toNat l L := by
  obtain ⟨⟨ha0, ha1, _, _, hlen⟩, hed⟩ := rightB_iff a a l hb
  have hE : Edges a.toNat a.toNat l := fun e he => by have := hed e he; omega
  obtain ⟨hG, hM, D, hD⟩ := most_good hb
  have hml : (mostL a.toNat a.toNat l).length = a.toNat := by rw [hM.1, hG.1]
  constructor
  · intro h
    exact ⟨_, hM.whole (by omega) hlen hE ((sizeN_full hml).1 h)⟩
  · rintro ⟨L, T⟩
    obtain ⟨E, h1, h2, h3⟩ := T.pairs
    have := hD.bound hE hM E (fun e he => by obtain ⟨a, b, c, d, e, _⟩ := h2 e he; exact ⟨a, b, c, d, e⟩) h3
    have h4 := sizeN_le (mostL a.toNat a.toNat l)
    omega

/-! ### sums in another order -/
theorem sum_perm {s t : List Int} (h : s.Perm t) : s.sum = t.sum := by
  induction h with
  | nil => rfl
  | cons x _ ih => rw [List.sum_cons, List.sum_cons, ih]
  | swap x y l => simp only [List.sum_cons]; omega
  | trans _ _ ih1 ih2 => rw [ih1, ih2]
theorem sm_upto (f : Int → Int) : ∀ n : Nat, sm f n = ((upto n).map f).sum := by
  intro n
  induction n with
  | zero => rfl
  | succ n ih =>
    unfold sm upto
    rw [ih, List.range_succ, List.map_append, List.map_append, List.sum_append]
    unfold upto
    simp
/-- A sum over the rows, taken in the order of a matching. -/
theorem sm_turn {n : Nat} (f s : Int → Int) (h0 : ∀ i : Int, 0 ≤ i → i < (n : Int) → 0 ≤ s i ∧ s i < (n : Int)) (h1 : ∀ i j : Int, 0 ≤ i → i < (n : Int) → 0 ≤ j → j < (n : Int) → s i = s j → i = j) : sm (fun i => f (s i)) n = sm f n := by
  rw [sm_upto, sm_upto, show (upto n).map (fun i => f (s i)) = ((upto n).map s).map f by rw [List.map_map]; rfl]
  have hnd : ((upto n).map s).Nodup := by
    unfold List.Nodup
    rw [List.pairwise_map]
    refine List.Pairwise.imp_of_mem (fun {a b} ha hb hab e => hab ?_) (nodup_upto n)
    obtain ⟨a0, a1⟩ := mem_upto.1 ha
    obtain ⟨b0, b1⟩ := mem_upto.1 hb
    exact h1 a b a0 a1 b0 b1 e
  have hin : ∀ x ∈ (upto n).map s, x ∈ upto n := fun x hx => by
    obtain ⟨i, hi, rfl⟩ := List.mem_map.1 hx
    obtain ⟨a, b⟩ := mem_upto.1 hi
    exact mem_upto.2 (h0 i a b)
  have hp : ((upto n).map s).Perm (upto n) := by
    refine (List.perm_ext_iff_of_nodup hnd (nodup_upto n)).2 (fun x => ⟨hin x, fun hx => ?_⟩)
    by_cases q : x ∈ (upto n).map s
    · exact q
    · exfalso
      have := nodup_le (x :: (upto n).map s) (upto n) (List.nodup_cons.2 ⟨q, hnd⟩) (fun y hy => by
        rcases List.mem_cons.1 hy with rfl | hy
        · exact hx
        · exact hin y hy)
      rw [List.length_cons, List.length_map] at this; omega
  exact sum_perm (hp.map f)
end Go.Proofs.Ytamloclgignfgaa.PA
