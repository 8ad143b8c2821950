/- How match.augment finds its way, in plain Lean: what its two rows say, and that they close. -/
import Derived.Test.YtamloclgignfgaaPAx20
import Derived.Test.YtamloclgignfgaaT
namespace Go.Proofs.Ytamloclgignfgaa.PA
open Go.RowKit Go.Proofs.YtamloclgignfgaaW.PrintWords Go.Proofs.YtamloclgignfgaaW.PrintLast Go.Proofs.YtamloclgignfgaaW.PrintMore
set_option linter.unusedVariables false
set_option linter.unusedSimpArgs false

/-- r rows have columns. -/
structure Mt (n r : Nat) (l : List S40) (out of : List Int) : Prop where
  hn : n ≤ 64
  hl : l.length ≤ 4096
  hE : Edges n n l
  rn : r ≤ n
  ol : out.length = n
  fl : of.length = n
  row : ∀ i : Int, 0 ≤ i → i < (r : Int) → 0 ≤ rd out i ∧ rd out i < (n : Int) ∧ 0 ≤ wt l i (rd out i) ∧ rd of (rd out i) = i
  col : ∀ j : Int, 0 ≤ j → j < (n : Int) → rd of j < 0 ∨ (0 ≤ rd of j ∧ rd of j < (r : Int) ∧ rd out (rd of j) = j)
/-- Prices that show that no matching of these rows is heavier. -/
structure Du (n r : Nat) (l : List S40) (out of : List Int) (p q : Int → Int) : Prop where
  le : ∀ i j : Int, 0 ≤ i → i < (r : Int) → 0 ≤ j → j < (n : Int) → 0 ≤ wt l i j → wt l i j ≤ p i + q j
  ti : ∀ i : Int, 0 ≤ i → i < (r : Int) → wt l i (rd out i) = p i + q (rd out i)
  q0 : ∀ j : Int, 0 ≤ j → j < (n : Int) → 0 ≤ q j
  qf : ∀ j : Int, 0 ≤ j → j < (n : Int) → rd of j < 0 → q j = 0
  pb : ∀ i : Int, 0 ≤ i → i < (r : Int) → -120000000 * (r : Int) ≤ p i ∧ p i ≤ 120000000 * (r : Int)

/-- x is above j: more is won on the way to it, or as much, and that sooner. -/
def Ab (best : List Int) (q : Int → Int) (τ : Int → Nat) (j x : Int) : Prop :=
  rd best x ≠ -1073741824 ∧ (rd best j - q j < rd best x - q x ∨ (rd best x - q x = rd best j - q j ∧ τ x < τ j))
instance (best : List Int) (q : Int → Int) (τ : Int → Nat) (j x : Int) : Decidable (Ab best q τ j x) := by unfold Ab; infer_instance
/-- Behind j the way goes to k, by the row that has k. -/
structure Behind (r : Nat) (l : List S40) (out : List Int) (q : Int → Int) (best : List Int) (τ σ : Int → Nat) (j i : Int) : Prop where
  i0 : 0 ≤ i
  i1 : i < (r : Int)
  ed : 0 ≤ wt l i j
  ne : rd out i ≠ j
  le : rd best j ≤ rd best (rd out i) - wt l i (rd out i) + wt l i j
  ab : Ab best q τ j (rd out i)
  sg : σ j ≤ σ (rd out i) + 1
/-- The two rows, on their way. -/
structure BI (n r : Nat) (l : List S40) (out of : List Int) (q : Int → Int) (best bys : List Int) (τ σ : Int → Nat) (N S : Nat) : Prop where
  bl : best.length = n
  yl : bys.length = n
  ge : ∀ j : Int, 0 ≤ j → j < (n : Int) → 0 ≤ wt l (r : Int) j → wt l (r : Int) j ≤ rd best j
  un : ∀ j : Int, 0 ≤ j → j < (n : Int) → rd best j = -1073741824 ∨ (-(200 * ((N : Int) + 1)) ≤ rd best j ∧ rd best j ≤ 200 * ((N : Int) + 1))
  pr : ∀ j : Int, 0 ≤ j → j < (n : Int) → rd best j ≠ -1073741824 → (rd bys j = (r : Int) ∧ 0 ≤ wt l (r : Int) j ∧ rd best j = wt l (r : Int) j ∧ σ j = 0) ∨ Behind r l out q best τ σ j (rd bys j)
  tb : ∀ j : Int, 0 ≤ j → j < (n : Int) → τ j ≤ N
  sb : ∀ j : Int, 0 ≤ j → j < (n : Int) → σ j ≤ S
theorem BI.more {n r : Nat} {l : List S40} {out of : List Int} {q : Int → Int} {best bys : List Int} {τ σ : Int → Nat} {N S N' S' : Nat} (h : BI n r l out of q best bys τ σ N S) (hN : N ≤ N') (hS : S ≤ S') : BI n r l out of q best bys τ σ N' S' :=
  ⟨h.bl, h.yl, h.ge, fun j a b => by rcases h.un j a b with h1 | h1; exact .inl h1; exact .inr (by omega), h.pr, fun j a b => Nat.le_trans (h.tb j a b) hN, fun j a b => Nat.le_trans (h.sb j a b) hS⟩

theorem BI.upd {n r : Nat} {l : List S40} {out of : List Int} {p q : Int → Int} {best bys : List Int} {τ σ : Int → Nat} {N S : Nat} (M : Mt n r l out of) (D : Du n r l out of p q) (h : BI n r l out of q best bys τ σ N S) (hN : N ≤ 300000)
    {k j i : Int} (k0 : 0 ≤ k) (k1 : k < (n : Int)) (j0 : 0 ≤ j) (j1 : j < (n : Int)) (i0 : 0 ≤ i) (i1 : i < (r : Int)) (hk : rd out i = k) (hkr : rd best k ≠ -1073741824) (hjk : j ≠ k) (hw : 0 ≤ wt l i j) (hx : rd best j < rd best k - wt l i k + wt l i j) {s : Nat} (hs : s ≤ σ k + 1) (hs' : σ j ≤ s) (hS : s ≤ S) :
    BI n r l out of q (best.set j.toNat (rd best k - wt l i k + wt l i j)) (bys.set j.toNat i) (fun x => if x = j then N + 1 else τ x) (fun x => if x = j then s else σ x) (N + 1) S := by
  have hb : ∀ x : Int, 0 ≤ x → rd (best.set j.toNat (rd best k - wt l i k + wt l i j)) x = if j = x then rd best k - wt l i k + wt l i j else rd best x := fun x x0 => rd_set best j x _ j0 (by rw [h.bl]; exact j1) x0
  have hy : ∀ x : Int, 0 ≤ x → rd (bys.set j.toNat i) x = if j = x then i else rd bys x := fun x x0 => rd_set bys j x _ j0 (by rw [h.yl]; exact j1) x0
  have hwik := M.row i i0 i1
  rw [hk] at hwik
  have wb1 := wt_le M.hE i k
  have wb2 := wt_le M.hE i j
  have hku : -(200 * ((N : Int) + 1)) ≤ rd best k ∧ rd best k ≤ 200 * ((N : Int) + 1) := by
    rcases h.un k k0 k1 with h1 | h1
    · exact absurd h1 hkr
    · exact h1
  have hne : rd best k - wt l i k + wt l i j ≠ -1073741824 := by omega
  have hti := D.ti i i0 i1
  rw [hk] at hti
  have hle := D.le i j i0 i1 j0 j1 hw
  have htk := h.tb k k0 k1
  refine ⟨by simp [h.bl], by simp [h.yl], fun x x0 x1 hwx => ?_, fun x x0 x1 => ?_, fun x x0 x1 hxr => ?_, fun x x0 x1 => ?_, fun x x0 x1 => ?_⟩
  · rw [hb x x0]
    have := h.ge x x0 x1 hwx
    split
    · rename_i e; rw [← e] at this ⊢; omega
    · exact this
  · rw [hb x x0]
    split
    · right; omega
    · rcases h.un x x0 x1 with h1 | h1
      · exact .inl h1
      · right; omega
  · rw [hb x x0] at hxr
    rw [hy x x0]
    by_cases e : j = x
    · subst e
      right
      rw [if_pos rfl]
      refine ⟨i0, i1, hw, by rw [hk]; exact fun h => hjk h.symm, ?_, ?_, ?_⟩
      · rw [hb j x0, if_pos rfl, hk, hb k k0, if_neg hjk]; exact Int.le_refl _
      · unfold Ab
        rw [hk, hb k k0, if_neg hjk, hb j x0, if_pos rfl]
        simp only [if_true, if_neg (fun h : k = j => hjk h.symm)]
        refine ⟨hkr, ?_⟩
        by_cases e2 : rd best k - q k = rd best k - wt l i k + wt l i j - q j
        · right; exact ⟨e2, by omega⟩
        · left; omega
      · rw [hk]; simp only [if_true, if_neg (fun h : k = j => hjk h.symm)]; exact hs
    · rw [if_neg e] at hxr ⊢
      rcases h.pr x x0 x1 hxr with ⟨a, b, c, d⟩ | B
      · left
        rw [hb x x0, if_neg e]
        simp only [if_neg (fun h : x = j => e h.symm)]
        exact ⟨a, b, c, d⟩
      · right
        have hr := M.row _ B.i0 B.i1
        refine ⟨B.i0, B.i1, B.ed, B.ne, ?_, ?_, ?_⟩
        · rw [hb x x0, if_neg e, hb _ hr.1]
          have := B.le
          split
          · rename_i e2; rw [← e2] at this ⊢; omega
          · exact this
        · have hab := B.ab
          unfold Ab at hab ⊢
          rw [hb x x0, if_neg e, hb _ hr.1]
          simp only [if_neg (fun h : x = j => e h.symm)]
          by_cases e2 : j = rd out (rd bys x)
          · rw [if_pos e2]
            refine ⟨hne, .inl ?_⟩
            rw [← e2] at hab ⊢
            omega
          · rw [if_neg e2, if_neg (fun h => e2 h.symm)]; exact hab
        · have := B.sg
          simp only [if_neg (fun h : x = j => e h.symm)]
          split
          · rename_i e2; rw [e2] at this; omega
          · exact this
  · show (if x = j then N + 1 else τ x) ≤ N + 1
    split
    · exact Nat.le_refl _
    · have := h.tb x x0 x1; omega
  · show (if x = j then s else σ x) ≤ S
    split
    · exact hS
    · exact h.sb x x0 x1

/-! ### how long a way is -/
theorem countP_lt {P Q : Nat → Bool} : ∀ (l : List Nat), (∀ x ∈ l, P x = true → Q x = true) → (∃ y ∈ l, Q y = true ∧ P y = false) → l.countP P < l.countP Q := by
  intro l
  induction l with
  | nil => intro _ ⟨y, hy, _⟩; cases hy
  | cons a l ih =>
    intro h ⟨y, hy, h1, h2⟩
    have hmono : l.countP P ≤ l.countP Q := List.countP_mono_left (fun x hx => h x (List.mem_cons_of_mem _ hx))
    rw [List.countP_cons, List.countP_cons]
    rcases List.mem_cons.1 hy with rfl | hy
    · rw [h1, h2]; simp; omega
    · have := ih (fun x hx => h x (List.mem_cons_of_mem _ hx)) ⟨y, hy, h1, h2⟩
      have h3 := h a List.mem_cons_self
      cases hP : P a with
      | true => rw [h3 hP]; simp; omega
      | false => cases Q a <;> simp <;> omega
/-- How many columns are above. -/
def upN (n : Nat) (best : List Int) (q : Int → Int) (τ : Int → Nat) (j : Int) : Nat := (List.range n).countP (fun x : Nat => decide (Ab best q τ j (x : Int)))
theorem upN_lt {n : Nat} {best : List Int} {q : Int → Int} {τ : Int → Nat} {j k : Int} (k0 : 0 ≤ k) (k1 : k < (n : Int)) (h : Ab best q τ j k) : upN n best q τ k < upN n best q τ j := by
  refine countP_lt _ (fun x _ hx => ?_) ⟨k.toNat, List.mem_range.2 (by omega), ?_, ?_⟩
  · have hx' := of_decide_eq_true hx
    refine decide_eq_true ?_
    unfold Ab at h hx' ⊢
    refine ⟨hx'.1, ?_⟩
    omega
  · refine decide_eq_true ?_
    rw [Int.toNat_of_nonneg k0]; exact h
  · refine decide_eq_false ?_
    rw [Int.toNat_of_nonneg k0]
    unfold Ab
    omega
theorem upN_n {n : Nat} {best : List Int} {q : Int → Int} {τ : Int → Nat} {j : Int} (j0 : 0 ≤ j) (j1 : j < (n : Int)) : upN n best q τ j < n := by
  have h := countP_lt (P := fun x : Nat => decide (Ab best q τ j (x : Int))) (Q := fun _ => true) (List.range n) (fun _ _ _ => rfl) ⟨j.toNat, List.mem_range.2 (by omega), rfl, by
    refine decide_eq_false ?_
    rw [Int.toNat_of_nonneg j0]
    unfold Ab
    omega⟩
  unfold upN
  rw [List.countP_true, List.length_range] at h
  exact h
theorem BI.short {n r : Nat} {l : List S40} {out of : List Int} {q : Int → Int} {best bys : List Int} {τ σ : Int → Nat} {N S : Nat} (M : Mt n r l out of) (h : BI n r l out of q best bys τ σ N S) : ∀ (d : Nat) (j : Int), 0 ≤ j → j < (n : Int) → rd best j ≠ -1073741824 → upN n best q τ j = d → σ j ≤ d := by
  intro d
  induction d using Nat.strongRecOn with
  | _ d ih =>
  intro j j0 j1 hr hd
  rcases h.pr j j0 j1 hr with ⟨_, _, _, h1⟩ | B
  · omega
  · have hrow := M.row _ B.i0 B.i1
    have hlt := upN_lt hrow.1 hrow.2.1 B.ab
    have := ih _ (by omega) _ hrow.1 hrow.2.1 B.ab.1 rfl
    have := B.sg
    omega

/-- Nothing more is won by way of k. -/
def CLo (n : Nat) (l : List S40) (of best : List Int) (k : Int) : Prop := ∀ j : Int, 0 ≤ j → j < (n : Int) → j ≠ k → 0 ≤ wt l (rd of k) j → rd best k - wt l (rd of k) k + wt l (rd of k) j ≤ rd best j
/-- Who is not closed has grown of late. -/
def Late (n m : Nat) (l : List S40) (of best : List Int) (σ : Int → Nat) (k : Int) : Prop := ∀ k' : Int, 0 ≤ k' → k' < (n : Int) → rd best k' ≠ -1073741824 → 0 ≤ rd of k' → CLo n l of best k' ∨ (m ≤ σ k' ∧ (k' < k → m + 1 ≤ σ k'))
def Still (n : Nat) (l : List S40) (of best : List Int) (k : Int) : Prop := ∀ k' : Int, 0 ≤ k' → k' < k → k' < (n : Int) → rd best k' ≠ -1073741824 → 0 ≤ rd of k' → CLo n l of best k'

theorem aug_l3 {n r : Nat} {l : List S40} {out of : List Int} {p q : Int → Int} (M : Mt n r l out of) (D : Du n r l out of p q) (m : Nat) (hm : m < n) (k : Nat) (hk : k < n) (hkf : 0 ≤ rd of (k : Int)) (N0 : Nat) (hN0 : N0 + 64 ≤ 300000) :
    ∀ (d j : Nat) (best bys : List Int) (τ σ : Int → Nat) (g : Bool), j + d = n → BI n r l out of q best bys τ σ (N0 + j) (m + 1) → rd best (k : Int) ≠ -1073741824 →
      (∀ j' : Int, 0 ≤ j' → j' < (j : Int) → j' ≠ (k : Int) → 0 ≤ wt l (rd of (k : Int)) j' → rd best (k : Int) - wt l (rd of (k : Int)) (k : Int) + wt l (rd of (k : Int)) j' ≤ rd best j') →
      Late n m l of best σ (k : Int) → (g = false → Still n l of best (k : Int)) →
      ∃ best' bys' τ' σ' g', BI n r l out of q best' bys' τ' σ' (N0 + 64) (m + 1) ∧ Late n m l of best' σ' ((k : Int) + 1) ∧ (g' = false → Still n l of best' ((k : Int) + 1)) ∧
        ∀ R, Ev (fun f => match_augment.l2 f (r : Int) (tabN n l) out of (n : Int) best' bys' g' (n : Int) (m : Int) (n : Int) ((k + 1 : Nat) : Int)) R → Ev (fun f => match_augment.l3 f (r : Int) (tabN n l) out of (n : Int) best bys g (k : Int) (rd of (k : Int)) (n : Int) (m : Int) (n : Int) (k : Int) (n : Int) (j : Int)) R := by
  have hn := M.hn
  have hG := tabN_grid M.hE
  obtain ⟨i0, i1, hik⟩ : 0 ≤ rd of (k : Int) ∧ rd of (k : Int) < (r : Int) ∧ rd out (rd of (k : Int)) = (k : Int) := by
    rcases M.col (k : Int) (by omega) (by omega) with h | h
    · omega
    · exact h
  have hrn := M.rn
  have hrow := hG.row i0 (show rd of (k : Int) < (n : Int) by omega)
  have hwk := M.row _ i0 i1
  rw [hik] at hwk
  have hwkb := wt_le M.hE (rd of (k : Int)) (k : Int)
  have hzk := tabN_at M.hE i0 (show rd of (k : Int) < (n : Int) by omega) (show (0 : Int) ≤ (k : Int) by omega) (show (k : Int) < (n : Int) by omega)
  have hzk' : rd (rd_L3 (tabN n l) (rd of (k : Int))) (k : Int) = wt l (rd of (k : Int)) (k : Int) := by
    rw [hzk]; unfold wz; rw [if_pos hwk.2.2.1]
  intro d
  induction d with
  | zero =>
    intro j best bys τ σ g hj hB hkr hcl hla hst
    have hjn : j = n := by omega
    subst hjn
    have hck : CLo j l of best (k : Int) := fun j' a b c w => hcl j' a b c w
    refine ⟨best, bys, τ, σ, g, hB.more (by omega) (by omega), fun k' a b c e => ?_, fun hg k' a b c e f => ?_, fun R hR => Ev.step (fun f => ?_) hR⟩
    · by_cases q1 : k' = (k : Int)
      · rw [q1]; exact .inl hck
      · rcases hla k' a b c e with h1 | ⟨h1, h2⟩
        · exact .inl h1
        · exact .inr ⟨h1, fun h => h2 (by omega)⟩
    · by_cases q1 : k' = (k : Int)
      · rw [q1]; exact hck
      · exact hst hg k' a (by omega) c e f
    · simp only [match_augment.l3]
      rw [if_neg (by omega), w64 (by omega) (by omega), show (k : Int) + 1 = ((k + 1 : Nat) : Int) by omega]
  | succ d ih =>
    intro j best bys τ σ g hj hB hkr hcl hla hst
    have hbl := hB.bl
    have hyl := hB.yl
    have hzj := tabN_at M.hE i0 (show rd of (k : Int) < (n : Int) by omega) (show (0 : Int) ≤ (j : Int) by omega) (show (j : Int) < (n : Int) by omega)
    have skip : (∀ j' : Int, 0 ≤ j' → j' < ((j + 1 : Nat) : Int) → j' ≠ (k : Int) → 0 ≤ wt l (rd of (k : Int)) j' → rd best (k : Int) - wt l (rd of (k : Int)) (k : Int) + wt l (rd of (k : Int)) j' ≤ rd best j') →
        (∀ f, match_augment.l3 (f + 1) (r : Int) (tabN n l) out of (n : Int) best bys g (k : Int) (rd of (k : Int)) (n : Int) (m : Int) (n : Int) (k : Int) (n : Int) (j : Int) = match_augment.l3 f (r : Int) (tabN n l) out of (n : Int) best bys g (k : Int) (rd of (k : Int)) (n : Int) (m : Int) (n : Int) (k : Int) (n : Int) ((j + 1 : Nat) : Int)) →
        ∃ best' bys' τ' σ' g', BI n r l out of q best' bys' τ' σ' (N0 + 64) (m + 1) ∧ Late n m l of best' σ' ((k : Int) + 1) ∧ (g' = false → Still n l of best' ((k : Int) + 1)) ∧
          ∀ R, Ev (fun f => match_augment.l2 f (r : Int) (tabN n l) out of (n : Int) best' bys' g' (n : Int) (m : Int) (n : Int) ((k + 1 : Nat) : Int)) R → Ev (fun f => match_augment.l3 f (r : Int) (tabN n l) out of (n : Int) best bys g (k : Int) (rd of (k : Int)) (n : Int) (m : Int) (n : Int) (k : Int) (n : Int) (j : Int)) R := fun hc he => by
      obtain ⟨b', y', τ', σ', g', h1, h2, h3, h4⟩ := ih (j + 1) best bys τ σ g (by omega) (hB.more (by omega) (Nat.le_refl _)) hkr hc hla hst
      exact ⟨b', y', τ', σ', g', h1, h2, h3, fun R hR => Ev.step he (h4 R hR)⟩
    rcases wz_cases M.hE (rd of (k : Int)) (j : Int) with ⟨hw0, hwz, hw1⟩ | ⟨hw0, hwz⟩
    · by_cases c1 : (j : Int) = (k : Int)
      · refine skip (fun j' a b c w => ?_) (fun f => ?_)
        · exact hcl j' a (by omega) c w
        · conv => lhs; unfold match_augment.l3
          rw [if_pos (by omega), if_pos i0, if_pos (by rw [hG.1]; omega), if_pos (by omega), if_pos (by rw [hrow]; omega), hzj, hwz, if_pos (by omega), if_pos c1, w64 (by omega) (by omega), show (j : Int) + 1 = ((j + 1 : Nat) : Int) by omega]
      · have hku : -(200 * (((N0 + j : Nat) : Int) + 1)) ≤ rd best (k : Int) ∧ rd best (k : Int) ≤ 200 * (((N0 + j : Nat) : Int) + 1) := by
          rcases hB.un (k : Int) (by omega) (by omega) with h1 | h1
          · exact absurd h1 hkr
          · exact h1
        by_cases c2 : rd best (k : Int) - wt l (rd of (k : Int)) (k : Int) + wt l (rd of (k : Int)) (j : Int) > rd best (j : Int)
        · have hnc : ¬ CLo n l of best (k : Int) := fun h => by
            have := h (j : Int) (by omega) (by omega) c1 hw0
            omega
          have hsk : m ≤ σ (k : Int) := by
            rcases hla (k : Int) (by omega) (by omega) hkr hkf with h1 | h1
            · exact absurd h1 hnc
            · exact h1.1
          have hU := hB.upd M D (by omega) (show (0 : Int) ≤ (k : Int) by omega) (by omega) (show (0 : Int) ≤ (j : Int) by omega) (by omega) i0 i1 hik hkr c1 hw0 c2 (s := m + 1) (by omega) (hB.sb (j : Int) (by omega) (by omega)) (Nat.le_refl _)
          have hb : ∀ x : Int, 0 ≤ x → rd (best.set (j : Int).toNat (rd best (k : Int) - wt l (rd of (k : Int)) (k : Int) + wt l (rd of (k : Int)) (j : Int))) x = if (j : Int) = x then rd best (k : Int) - wt l (rd of (k : Int)) (k : Int) + wt l (rd of (k : Int)) (j : Int) else rd best x := fun x x0 => rd_set best (j : Int) x _ (by omega) (by omega) x0
          have hbk := hb (k : Int) (by omega)
          rw [if_neg c1] at hbk
          have keepC : ∀ k' : Int, 0 ≤ k' → k' ≠ (j : Int) → CLo n l of best k' → CLo n l of (best.set (j : Int).toNat (rd best (k : Int) - wt l (rd of (k : Int)) (k : Int) + wt l (rd of (k : Int)) (j : Int))) k' := fun k' a b h j' a' b' c w => by
            have h1 := h j' a' b' c w
            rw [hb k' a, if_neg (fun h => b h.symm), hb j' a']
            split
            · rename_i e; rw [← e] at h1 ⊢; omega
            · exact h1
          obtain ⟨b', y', τ', σ', g', h1, h2, h3, h4⟩ := ih (j + 1) _ _ _ _ true (by omega) hU (by rw [hbk]; exact hkr) (fun j' a b c w => by
              rw [hbk, hb j' a]
              by_cases e : (j : Int) = j'
              · rw [if_pos e, ← e]; exact Int.le_refl _
              · rw [if_neg e]; exact hcl j' a (by omega) c w) (fun k' a b c e => by
              by_cases q1 : k' = (j : Int)
              · right
                simp only [if_pos q1]
                exact ⟨by omega, fun _ => Nat.le_refl _⟩
              · rw [hb k' a, if_neg (fun h => q1 h.symm)] at c
                simp only [if_neg q1]
                rcases hla k' a b c e with h1 | h1
                · exact .inl (keepC k' a q1 h1)
                · exact .inr h1) (fun h => by cases h)
          refine ⟨b', y', τ', σ', g', h1, h2, h3, fun R hR => Ev.step (fun f => ?_) (h4 R hR)⟩
          conv => lhs; unfold match_augment.l3
          rw [if_pos (by omega), if_pos i0, if_pos (by rw [hG.1]; omega), if_pos (by omega), if_pos (by rw [hrow]; omega), hzj, hwz, if_pos (by omega), if_neg c1, if_pos (by omega), if_pos (by omega), if_pos (by rw [hrow]; omega), if_pos (by omega), hzk', w64 (n := rd best (k : Int) - wt l (rd of (k : Int)) (k : Int)) (by omega) (by omega), w64 (n := rd best (k : Int) - wt l (rd of (k : Int)) (k : Int) + wt l (rd of (k : Int)) (j : Int)) (by omega) (by omega), if_pos c2, if_pos (by omega), w64 (n := (j : Int) + 1) (by omega) (by omega), show (j : Int) + 1 = ((j + 1 : Nat) : Int) by omega]
        · refine skip (fun j' a b c w => ?_) (fun f => ?_)
          · by_cases e : j' = (j : Int)
            · rw [e]; omega
            · exact hcl j' a (by omega) c w
          · conv => lhs; unfold match_augment.l3
            rw [if_pos (by omega), if_pos i0, if_pos (by rw [hG.1]; omega), if_pos (by omega), if_pos (by rw [hrow]; omega), hzj, hwz, if_pos (by omega), if_neg c1, if_pos (by omega), if_pos (by omega), if_pos (by rw [hrow]; omega), if_pos (by omega), hzk', w64 (n := rd best (k : Int) - wt l (rd of (k : Int)) (k : Int)) (by omega) (by omega), w64 (n := rd best (k : Int) - wt l (rd of (k : Int)) (k : Int) + wt l (rd of (k : Int)) (j : Int)) (by omega) (by omega), if_neg c2, w64 (n := (j : Int) + 1) (by omega) (by omega), show (j : Int) + 1 = ((j + 1 : Nat) : Int) by omega]
    · refine skip (fun j' a b c w => ?_) (fun f => ?_)
      · by_cases e : j' = (j : Int)
        · rw [e] at w; omega
        · exact hcl j' a (by omega) c w
      · conv => lhs; unfold match_augment.l3
        rw [if_pos (by omega), if_pos i0, if_pos (by rw [hG.1]; omega), if_pos (by omega), if_pos (by rw [hrow]; omega), hzj, hwz, if_neg (by omega), w64 (n := (j : Int) + 1) (by omega) (by omega), show (j : Int) + 1 = ((j + 1 : Nat) : Int) by omega]
theorem aug_l2 {n r : Nat} {l : List S40} {out of : List Int} {p q : Int → Int} (M : Mt n r l out of) (D : Du n r l out of p q) (m : Nat) (hm : m < n) (N1 : Nat) (hN1 : N1 + 4096 ≤ 290000) :
    ∀ (d k : Nat) (best bys : List Int) (τ σ : Int → Nat) (g : Bool), k + d = n → BI n r l out of q best bys τ σ (N1 + 64 * k) (m + 1) → Late n m l of best σ (k : Int) → (g = false → Still n l of best (k : Int)) →
      ∃ best' bys' τ' σ' g', BI n r l out of q best' bys' τ' σ' (N1 + 4096) (m + 1) ∧ Late n m l of best' σ' (n : Int) ∧ (g' = false → Still n l of best' (n : Int)) ∧
        ∀ R, (g' = true → Ev (fun f => match_augment.l1 f (r : Int) (tabN n l) out of (n : Int) best' bys' (n : Int) ((m + 1 : Nat) : Int)) R) → (g' = false → Ev (fun f => match_augment.j5 f (r : Int) out of (n : Int) best' bys') R) →
          Ev (fun f => match_augment.l2 f (r : Int) (tabN n l) out of (n : Int) best bys g (n : Int) (m : Int) (n : Int) (k : Int)) R := by
  have hn := M.hn
  have hfl := M.fl
  intro d
  induction d with
  | zero =>
    intro k best bys τ σ g hk hB hla hst
    have hkn : k = n := by omega
    subst hkn
    refine ⟨best, bys, τ, σ, g, hB.more (by omega) (Nat.le_refl _), hla, hst, fun R h1 h2 => ?_⟩
    cases g with
    | true =>
      refine Ev.step (fun f => ?_) (h1 rfl)
      simp only [match_augment.l2]
      rw [if_neg (by omega), if_pos trivial, w64 (by omega) (by omega), show (m : Int) + 1 = ((m + 1 : Nat) : Int) by omega]
    | false =>
      refine Ev.step (fun f => ?_) (h2 rfl)
      simp only [match_augment.l2]
      rw [if_neg (by omega), if_neg (by simp)]
  | succ d ih =>
    intro k best bys τ σ g hk hB hla hst
    have hbl := hB.bl
    have skip : (rd best (k : Int) = -1073741824 ∨ rd of (k : Int) < 0) → (∃ b, b = true ∧ ∀ f, match_augment.l2 (f + 1) (r : Int) (tabN n l) out of (n : Int) best bys g (n : Int) (m : Int) (n : Int) (k : Int) = match_augment.j3 f (r : Int) (tabN n l) out of (n : Int) best bys g (k : Int) (rd of (k : Int)) (n : Int) (m : Int) (n : Int) (k : Int) b) →
      ∃ best' bys' τ' σ' g', BI n r l out of q best' bys' τ' σ' (N1 + 4096) (m + 1) ∧ Late n m l of best' σ' (n : Int) ∧ (g' = false → Still n l of best' (n : Int)) ∧
        ∀ R, (g' = true → Ev (fun f => match_augment.l1 f (r : Int) (tabN n l) out of (n : Int) best' bys' (n : Int) ((m + 1 : Nat) : Int)) R) → (g' = false → Ev (fun f => match_augment.j5 f (r : Int) out of (n : Int) best' bys') R) →
          Ev (fun f => match_augment.l2 f (r : Int) (tabN n l) out of (n : Int) best bys g (n : Int) (m : Int) (n : Int) (k : Int)) R := fun hs he => by
      obtain ⟨b, hb, he⟩ := he
      subst hb
      obtain ⟨b', y', τ', σ', g', h1, h2, h3, h4⟩ := ih (k + 1) best bys τ σ g (by omega) (hB.more (by omega) (Nat.le_refl _)) (fun k' a b c e => by
        rcases hla k' a b c e with h1 | ⟨h1, h2⟩
        · exact .inl h1
        · by_cases q1 : k' = (k : Int)
          · rw [q1] at c e; omega
          · exact .inr ⟨h1, fun h => h2 (by omega)⟩) (fun hg k' a b c e f => by
        by_cases q1 : k' = (k : Int)
        · rw [q1] at e f; omega
        · exact hst hg k' a (by omega) c e f)
      refine ⟨b', y', τ', σ', g', h1, h2, h3, fun R hR hR' => Ev.step he (Ev.step (fun f => ?_) (h4 R hR hR'))⟩
      simp only [match_augment.j3]
      rw [if_pos trivial, w64 (by omega) (by omega), show (k : Int) + 1 = ((k + 1 : Nat) : Int) by omega]
    by_cases c1 : rd best (k : Int) ≤ -536870912
    · have hu : rd best (k : Int) = -1073741824 := by
        rcases hB.un (k : Int) (by omega) (by omega) with h1 | h1
        · exact h1
        · omega
      refine skip (.inl hu) ⟨true, rfl, fun f => ?_⟩
      conv => lhs; unfold match_augment.l2
      rw [if_pos (by omega), if_pos (by omega), if_pos (by omega), if_pos (by omega), if_pos c1]
    · by_cases c2 : rd of (k : Int) < 0
      · refine skip (.inr c2) ⟨decide (rd of (k : Int) < 0), decide_eq_true c2, fun f => ?_⟩
        conv => lhs; unfold match_augment.l2
        rw [if_pos (by omega), if_pos (by omega), if_pos (by omega), if_pos (by omega), if_neg c1]
      · obtain ⟨b1, y1, τ1, σ1, g1, h1, h2, h3, h4⟩ := aug_l3 M D m hm k (by omega) (by omega) (N1 + 64 * k) (by omega) n 0 best bys τ σ g (by omega) hB (by omega) (fun j' a b => by omega) hla hst
        obtain ⟨b', y', τ', σ', g', h5, h6, h7, h8⟩ := ih (k + 1) b1 y1 τ1 σ1 g1 (by omega) (h1.more (by omega) (Nat.le_refl _)) (by have := h2; rwa [show (k : Int) + 1 = ((k + 1 : Nat) : Int) by omega] at this) (by have := h3; rwa [show (k : Int) + 1 = ((k + 1 : Nat) : Int) by omega] at this)
        refine ⟨b', y', τ', σ', g', h5, h6, h7, fun R hR hR' => Ev.step (fun f => ?_) (Ev.step (f := fun f => match_augment.l3 f (r : Int) (tabN n l) out of (n : Int) best bys g (k : Int) (rd of (k : Int)) (n : Int) (m : Int) (n : Int) (k : Int) (n : Int) ((0 : Nat) : Int)) (g := fun f => match_augment.j3 f (r : Int) (tabN n l) out of (n : Int) best bys g (k : Int) (rd of (k : Int)) (n : Int) (m : Int) (n : Int) (k : Int) false) (fun f => ?_) (h4 R (h8 R hR hR')))⟩
        · conv => lhs; unfold match_augment.l2
          rw [if_pos (by omega), if_pos (by omega), if_pos (by omega), if_pos (by omega), if_neg c1, decide_eq_false c2]
        · simp only [match_augment.j3]; rw [if_neg (by simp)]; rfl
/-- The passes: at last nothing more is won by any way. -/
theorem aug_l1 {n r : Nat} {l : List S40} {out of : List Int} {p q : Int → Int} (M : Mt n r l out of) (D : Du n r l out of p q) :
    ∀ (d m : Nat) (best bys : List Int) (τ σ : Int → Nat), m + d = n → BI n r l out of q best bys τ σ (4096 * m) m → (∀ k' : Int, 0 ≤ k' → k' < (n : Int) → rd best k' ≠ -1073741824 → 0 ≤ rd of k' → CLo n l of best k' ∨ m ≤ σ k') →
      ∃ best' bys' τ' σ', BI n r l out of q best' bys' τ' σ' 262144 n ∧ (∀ k' : Int, 0 ≤ k' → k' < (n : Int) → rd best' k' ≠ -1073741824 → 0 ≤ rd of k' → CLo n l of best' k') ∧
        ∀ R, Ev (fun f => match_augment.j5 f (r : Int) out of (n : Int) best' bys') R → Ev (fun f => match_augment.l1 f (r : Int) (tabN n l) out of (n : Int) best bys (n : Int) (m : Int)) R := by
  have hn := M.hn
  intro d
  induction d with
  | zero =>
    intro m best bys τ σ hm hB hcl
    have : m = n := by omega
    subst this
    refine ⟨best, bys, τ, σ, hB.more (by omega) (Nat.le_refl _), fun k' a b c e => ?_, fun R hR => Ev.step (fun f => ?_) hR⟩
    · rcases hcl k' a b c e with h1 | h1
      · exact h1
      · have h2 := hB.short M _ k' a b c rfl
        have h3 := upN_n (best := best) (q := q) (τ := τ) a b
        omega
    · simp only [match_augment.l1]; rw [if_neg (by omega)]
  | succ d ih =>
    intro m best bys τ σ hm hB hcl
    obtain ⟨b1, y1, τ1, σ1, g1, h1, h2, h3, h4⟩ := aug_l2 M D m (by omega) (4096 * m) (by omega) n 0 best bys τ σ false (by omega) (hB.more (by omega) (by omega)) (fun k' a b c e => by
      rcases hcl k' a b c e with h1 | h1
      · exact .inl h1
      · exact .inr ⟨h1, fun h => by omega⟩) (fun _ k' a b => by omega)
    have start : ∀ R, (g1 = true → Ev (fun f => match_augment.l1 f (r : Int) (tabN n l) out of (n : Int) b1 y1 (n : Int) ((m + 1 : Nat) : Int)) R) → (g1 = false → Ev (fun f => match_augment.j5 f (r : Int) out of (n : Int) b1 y1) R) → Ev (fun f => match_augment.l1 f (r : Int) (tabN n l) out of (n : Int) best bys (n : Int) (m : Int)) R := fun R ha hb => Ev.step (fun f => by
        simp only [match_augment.l1]; rw [if_pos (by omega)]; rfl) (h4 R ha hb)
    cases g1 with
    | true =>
      obtain ⟨b', y', τ', σ', h5, h6, h7⟩ := ih (m + 1) b1 y1 τ1 σ1 (by omega) (h1.more (by omega) (Nat.le_refl _)) (fun k' a b c e => by
        rcases h2 k' a b c e with h1 | h1
        · exact .inl h1
        · exact .inr (h1.2 b))
      exact ⟨b', y', τ', σ', h5, h6, fun R hR => start R (fun _ => h7 R hR) (fun h => by cases h)⟩
    | false =>
      exact ⟨b1, y1, τ1, σ1, h1.more (by omega) (by omega), fun k' a b c e => h3 rfl k' a b b c e, fun R hR => start R (fun h => by cases h) (fun _ => hR)⟩

theorem aug_l0 {n r : Nat} {l : List S40} {out of : List Int} (hn : n ≤ 64) (hE : Edges n n l) (hr : r < n) : ∀ (d j : Nat) (best bys : List Int), j + d = n → best.length = n → bys.length = n → (∀ x : Int, 0 ≤ x → x < (j : Int) → rd best x = wz l (r : Int) x ∧ rd bys x = (r : Int)) →
    ∃ b y, b.length = n ∧ y.length = n ∧ (∀ x : Int, 0 ≤ x → x < (n : Int) → rd b x = wz l (r : Int) x ∧ rd y x = (r : Int)) ∧ ∀ R, Ev (fun f => match_augment.l1 f (r : Int) (tabN n l) out of (n : Int) b y (n : Int) 0) R → Ev (fun f => match_augment.l0 f (r : Int) (tabN n l) out of (n : Int) best bys (n : Int) (j : Int)) R := by
  have hG := tabN_grid hE
  have hrow := hG.row (i := (r : Int)) (by omega) (by omega)
  intro d
  induction d with
  | zero =>
    intro j best bys hj hb hy h
    have : j = n := by omega
    subst this
    refine ⟨best, bys, hb, hy, h, fun R hR => Ev.step (fun f => ?_) hR⟩
    simp only [match_augment.l0]; rw [if_neg (by omega)]
  | succ d ih =>
    intro j best bys hj hb hy h
    have hz := tabN_at hE (show (0 : Int) ≤ (r : Int) by omega) (show (r : Int) < (n : Int) by omega) (show (0 : Int) ≤ (j : Int) by omega) (show (j : Int) < (n : Int) by omega)
    obtain ⟨b, y, h1, h2, h3, h4⟩ := ih (j + 1) (best.set (j : Int).toNat (wz l (r : Int) (j : Int))) (bys.set (j : Int).toNat (r : Int)) (by omega) (by simp [hb]) (by simp [hy]) (fun x x0 x1 => by
      rw [rd_set best (j : Int) x _ (by omega) (by omega) x0, rd_set bys (j : Int) x _ (by omega) (by omega) x0]
      by_cases e : (j : Int) = x
      · rw [if_pos e, if_pos e, e]; exact ⟨rfl, rfl⟩
      · rw [if_neg e, if_neg e]; exact h x x0 (by omega))
    refine ⟨b, y, h1, h2, h3, fun R hR => Ev.step (fun f => ?_) (h4 R hR)⟩
    simp only [match_augment.l0]
    rw [if_pos (by omega), if_pos (by omega), if_pos (by rw [hG.1]; omega), if_pos (by omega), if_pos (by rw [hrow]; omega), if_pos (by omega), if_pos (by omega), hz, w64 (n := (j : Int) + 1) (by omega) (by omega), show (j : Int) + 1 = ((j + 1 : Nat) : Int) by omega]
theorem BI.start {n r : Nat} {l : List S40} {out of : List Int} {q : Int → Int} (hE : Edges n n l) {b y : List Int} (hb : b.length = n) (hy : y.length = n) (h : ∀ x : Int, 0 ≤ x → x < (n : Int) → rd b x = wz l (r : Int) x ∧ rd y x = (r : Int)) : BI n r l out of q b y (fun _ => 0) (fun _ => 0) 0 0 := by
  refine ⟨hb, hy, fun j a c w => ?_, fun j a c => ?_, fun j a c w => ?_, fun _ _ _ => Nat.le_refl _, fun _ _ _ => Nat.le_refl _⟩
  · rw [(h j a c).1]; unfold wz; rw [if_pos w]; exact Int.le_refl _
  · rw [(h j a c).1]
    rcases wz_cases hE (r : Int) j with ⟨h0, h1, h2⟩ | ⟨h0, h1⟩
    · rw [h1]; right; omega
    · exact .inl h1
  · rw [(h j a c).1] at w
    rcases wz_cases hE (r : Int) j with ⟨h0, h1, h2⟩ | ⟨h0, h1⟩
    · exact .inl ⟨(h j a c).2, h0, by rw [(h j a c).1, h1], rfl⟩
    · exact absurd h1 w

/-! ### the way's end -/
def EndI (of best : List Int) (n : Nat) (e j : Int) : Prop :=
  (e = -1 ∧ ∀ x : Int, 0 ≤ x → x < j → rd of x < 0 → rd best x = -1073741824) ∨
  (0 ≤ e ∧ e < (n : Int) ∧ rd of e < 0 ∧ rd best e ≠ -1073741824 ∧ ∀ x : Int, 0 ≤ x → x < j → rd of x < 0 → rd best x ≠ -1073741824 → rd best x ≤ rd best e)
theorem aug_l4 {n r : Nat} (out : List Int) {of best bys : List Int} (hn : n ≤ 64) (hf : of.length = n) (hb : best.length = n) (hu : ∀ j : Int, 0 ≤ j → j < (n : Int) → rd best j = -1073741824 ∨ -53000000 ≤ rd best j) : ∀ (d j : Nat) (e : Int), j + d = n → EndI of best n e (j : Int) →
    ∃ e', EndI of best n e' (n : Int) ∧ ∀ R, Ev (fun f => if e' < 0 then some (false, out, of) else match_augment.l5 f (r : Int) out of bys e') R → Ev (fun f => match_augment.l4 f (r : Int) out of best bys e (n : Int) (j : Int)) R := by
  intro d
  induction d with
  | zero =>
    intro j e hj h
    have : j = n := by omega
    subst this
    refine ⟨e, h, fun R hR => Ev.step (fun f => ?_) hR⟩
    simp only [match_augment.l4]; rw [if_neg (by omega)]
  | succ d ih =>
    intro j e hj h
    have nx : ((j + 1 : Nat) : Int) = (j : Int) + 1 := by omega
    have go : ∀ e1, EndI of best n e1 ((j : Int) + 1) → (∀ f, match_augment.l4 (f + 1) (r : Int) out of best bys e (n : Int) (j : Int) = match_augment.l4 f (r : Int) out of best bys e1 (n : Int) ((j + 1 : Nat) : Int)) →
        ∃ e', EndI of best n e' (n : Int) ∧ ∀ R, Ev (fun f => if e' < 0 then some (false, out, of) else match_augment.l5 f (r : Int) out of bys e') R → Ev (fun f => match_augment.l4 f (r : Int) out of best bys e (n : Int) (j : Int)) R := fun e1 h1 he => by
      obtain ⟨e', h2, h3⟩ := ih (j + 1) e1 (by omega) (by rw [nx]; exact h1)
      exact ⟨e', h2, fun R hR => Ev.step he (h3 R hR)⟩
    by_cases c1 : rd of (j : Int) < 0
    · by_cases c2 : rd best (j : Int) > -536870912
      · have hne : rd best (j : Int) ≠ -1073741824 := by omega
        by_cases c3 : e < 0
        · refine go (j : Int) (.inr ⟨by omega, by omega, c1, hne, fun x x0 x1 hx hx' => ?_⟩) (fun f => ?_)
          · rcases h with ⟨_, h⟩ | ⟨h, _⟩
            · by_cases e2 : x = (j : Int)
              · rw [e2]; exact Int.le_refl _
              · exact absurd (h x x0 (by omega) hx) hx'
            · omega
          · conv => lhs; unfold match_augment.l4
            rw [if_pos (by omega), if_pos (by omega), if_pos (by omega), if_pos c1, if_pos (by omega), if_pos c2, if_pos c3, w64 (n := (j : Int) + 1) (by omega) (by omega), ← nx]
        · rcases h with ⟨h, _⟩ | ⟨h1, h2, h3, h4, h5⟩
          · omega
          by_cases c4 : rd best (j : Int) > rd best e
          · refine go (j : Int) (.inr ⟨by omega, by omega, c1, hne, fun x x0 x1 hx hx' => ?_⟩) (fun f => ?_)
            · by_cases e2 : x = (j : Int)
              · rw [e2]; exact Int.le_refl _
              · have := h5 x x0 (by omega) hx hx'; omega
            · conv => lhs; unfold match_augment.l4
              rw [if_pos (by omega), if_pos (by omega), if_pos (by omega), if_pos c1, if_pos (by omega), if_pos c2, if_neg c3, if_pos h1, if_pos (by omega), if_pos c4, w64 (n := (j : Int) + 1) (by omega) (by omega), ← nx]
          · refine go e (.inr ⟨h1, h2, h3, h4, fun x x0 x1 hx hx' => ?_⟩) (fun f => ?_)
            · by_cases e2 : x = (j : Int)
              · rw [e2]; omega
              · exact h5 x x0 (by omega) hx hx'
            · conv => lhs; unfold match_augment.l4
              rw [if_pos (by omega), if_pos (by omega), if_pos (by omega), if_pos c1, if_pos (by omega), if_pos c2, if_neg c3, if_pos h1, if_pos (by omega), if_neg c4, w64 (n := (j : Int) + 1) (by omega) (by omega), ← nx]
      · have hu0 : rd best (j : Int) = -1073741824 := by
          rcases hu (j : Int) (by omega) (by omega) with h1 | h1
          · exact h1
          · omega
        refine go e ?_ (fun f => ?_)
        · rcases h with ⟨h1, h2⟩ | ⟨h1, h2, h3, h4, h5⟩
          · refine .inl ⟨h1, fun x x0 x1 hx => ?_⟩
            by_cases e2 : x = (j : Int)
            · rw [e2]; exact hu0
            · exact h2 x x0 (by omega) hx
          · refine .inr ⟨h1, h2, h3, h4, fun x x0 x1 hx hx' => ?_⟩
            by_cases e2 : x = (j : Int)
            · rw [e2] at hx'; exact absurd hu0 hx'
            · exact h5 x x0 (by omega) hx hx'
        · conv => lhs; unfold match_augment.l4
          rw [if_pos (by omega), if_pos (by omega), if_pos (by omega), if_pos c1, if_pos (by omega), if_neg c2, w64 (n := (j : Int) + 1) (by omega) (by omega), ← nx]
    · refine go e ?_ (fun f => ?_)
      · rcases h with ⟨h1, h2⟩ | ⟨h1, h2, h3, h4, h5⟩
        · refine .inl ⟨h1, fun x x0 x1 hx => ?_⟩
          by_cases e2 : x = (j : Int)
          · rw [e2] at hx; exact absurd hx c1
          · exact h2 x x0 (by omega) hx
        · refine .inr ⟨h1, h2, h3, h4, fun x x0 x1 hx hx' => ?_⟩
          by_cases e2 : x = (j : Int)
          · rw [e2] at hx; exact absurd hx c1
          · exact h5 x x0 (by omega) hx hx'
      · conv => lhs; unfold match_augment.l4
        rw [if_pos (by omega), if_pos (by omega), if_pos (by omega), if_neg c1, w64 (n := (j : Int) + 1) (by omega) (by omega), ← nx]

/-! ### no way: no whole matching -/
theorem no_whole {n r : Nat} {l : List S40} {out of : List Int} (M : Mt n r l out of) (hr : r < n) (X : Int → Bool) (h1 : ∀ j : Int, 0 ≤ j → j < (n : Int) → 0 ≤ wt l (r : Int) j → X j = true) (h2 : ∀ k : Int, 0 ≤ k → k < (n : Int) → X k = true → 0 ≤ rd of k ∧ ∀ j : Int, 0 ≤ j → j < (n : Int) → 0 ≤ wt l (rd of k) j → X j = true) : ∀ told, ¬ Whole n l told := by
  intro told T
  have hrng : ((List.range n).map (fun k : Nat => (k : Int))).Nodup := by
    unfold List.Nodup
    rw [List.pairwise_map]
    exact (List.nodup_range (n := n)).imp (fun {a b} h e => h (by omega))
  have hKn : (((List.range n).map (fun k : Nat => (k : Int))).filter X).Nodup := List.Pairwise.filter X hrng
  have hKm : ∀ k ∈ ((List.range n).map (fun k : Nat => (k : Int))).filter X, 0 ≤ k ∧ k < (n : Int) ∧ X k = true := fun k hk => by
    obtain ⟨a, b⟩ := List.mem_filter.1 hk
    obtain ⟨y, hy, rfl⟩ := List.mem_map.1 a
    have := List.mem_range.1 hy
    exact ⟨by omega, by omega, b⟩
  have hKi : ∀ j : Int, 0 ≤ j → j < (n : Int) → X j = true → j ∈ ((List.range n).map (fun k : Nat => (k : Int))).filter X := fun j a b c => List.mem_filter.2 ⟨List.mem_map.2 ⟨j.toNat, List.mem_range.2 (by omega), by omega⟩, c⟩
  generalize ((List.range n).map (fun k : Nat => (k : Int))).filter X = Ks at hKn hKm hKi
  have hrow : ∀ k ∈ Ks, 0 ≤ rd of k ∧ rd of k < (r : Int) ∧ rd out (rd of k) = k := fun k hk => by
    obtain ⟨a, b, c⟩ := hKm k hk
    have h3 := (h2 k a b c).1
    rcases M.col k a b with h | h
    · omega
    · exact h
  have inj : ∀ a b : Int, 0 ≤ a → a < (n : Int) → 0 ≤ b → b < (n : Int) → a ≠ b → rd told a ≠ rd told b := fun a b a0 a1 b0 b1 h => by
    by_cases q : a < b
    · exact T.inj a b a0 q b1
    · exact fun e => T.inj b a b0 (by omega) a1 e.symm
  have hnd : (((r : Int) :: Ks.map (rd of)).map (rd told)).Nodup := by
    unfold List.Nodup
    rw [List.pairwise_map, List.pairwise_cons]
    refine ⟨fun b hb => ?_, ?_⟩
    · obtain ⟨k, hk, rfl⟩ := List.mem_map.1 hb
      have := hrow k hk
      exact inj _ _ (by omega) (by omega) (by omega) (by omega) (by omega)
    · rw [List.pairwise_map]
      refine List.Pairwise.imp_of_mem (fun {a b} ha hb h => ?_) hKn
      have h3 := hrow a ha
      have h4 := hrow b hb
      refine inj _ _ (by omega) (by omega) (by omega) (by omega) (fun e => h ?_)
      rw [← h3.2.2, e, h4.2.2]
  have hle := nodup_le _ Ks hnd (fun x hx => by
    obtain ⟨i, hi, rfl⟩ := List.mem_map.1 hx
    rcases List.mem_cons.1 hi with rfl | hi
    · obtain ⟨a, b, c⟩ := T.rg (r : Int) (by omega) (by omega)
      exact hKi _ a b (h1 _ a b c)
    · obtain ⟨k, hk, rfl⟩ := List.mem_map.1 hi
      have h3 := hrow k hk
      obtain ⟨a, b, c⟩ := T.rg (rd of k) (by omega) (by omega)
      obtain ⟨d, e, f⟩ := hKm k hk
      exact hKi _ a b ((h2 k d e f).2 _ a b c))
  simp at hle
  omega
end Go.Proofs.Ytamloclgignfgaa.PA
