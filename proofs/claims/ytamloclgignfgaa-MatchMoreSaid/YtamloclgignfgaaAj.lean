/- match.augment and match.Assign, in plain Lean. -/
import Derived.Test.YtamloclgignfgaaAg
import Derived.Test.YtamloclgignfgaaPAx21
namespace Go.Proofs.Ytamloclgignfgaa.PA
open Go.RowKit Go.Proofs.YtamloclgignfgaaW.PrintWords Go.Proofs.YtamloclgignfgaaW.PrintLast Go.Proofs.YtamloclgignfgaaW.PrintMore
set_option linter.unusedVariables false
set_option linter.unusedSimpArgs false

/-- By how much a column's price rises. -/
def rise (best : List Int) (q : Int → Int) (B c : Int) : Int := if rd best c ≠ -1073741824 ∧ B < rd best c - q c then rd best c - q c - B else 0
def qn (best : List Int) (q : Int → Int) (B c : Int) : Int := q c + rise best q B c
def pn (r : Nat) (out best : List Int) (p q : Int → Int) (B i : Int) : Int := if i = (r : Int) then B else p i - rise best q B (rd out i)
theorem rise_of {best : List Int} {q : Int → Int} {B c : Int} (h : rd best c ≠ -1073741824) (hB : B ≤ rd best c - q c) : rise best q B c = rd best c - q c - B := by
  unfold rise
  by_cases e : B < rd best c - q c
  · rw [if_pos ⟨h, e⟩]
  · rw [if_neg (fun h => e h.2)]; omega
theorem rise_cases (best : List Int) (q : Int → Int) (B c : Int) : (rise best q B c = 0 ∧ (rd best c = -1073741824 ∨ rd best c - q c ≤ B)) ∨ (rd best c ≠ -1073741824 ∧ rise best q B c = rd best c - q c - B ∧ 0 < rise best q B c) := by
  unfold rise
  by_cases e : rd best c ≠ -1073741824 ∧ B < rd best c - q c
  · rw [if_pos e]; right; exact ⟨e.1, rfl, by omega⟩
  · rw [if_neg e]; left
    refine ⟨rfl, ?_⟩
    by_cases h : rd best c = -1073741824
    · exact .inl h
    · right
      by_cases h2 : rd best c - q c ≤ B
      · exact h2
      · exact absurd ⟨h, by omega⟩ e

section
variable {n r : Nat} {l : List S40} {out of : List Int} {p q : Int → Int} {best bys : List Int} {τ σ : Int → Nat} {N S : Nat} {e : Int}
/-- All that is known when the search has ended. -/
structure Fin (n r : Nat) (l : List S40) (out of : List Int) (p q : Int → Int) (best bys : List Int) (τ σ : Int → Nat) (e : Int) : Prop where
  M : Mt n r l out of
  D : Du n r l out of p q
  hr : r < n
  B : BI n r l out of q best bys τ σ 262144 n
  C : ∀ k : Int, 0 ≤ k → k < (n : Int) → rd best k ≠ -1073741824 → 0 ≤ rd of k → CLo n l of best k
  e0 : 0 ≤ e
  e1 : e < (n : Int)
  ef : rd of e < 0
  er : rd best e ≠ -1073741824
  em : ∀ x : Int, 0 ≤ x → x < (n : Int) → rd of x < 0 → rd best x ≠ -1073741824 → rd best x ≤ rd best e
theorem Fin.tight (F : Fin n r l out of p q best bys τ σ e) (i : Int) (i0 : 0 ≤ i) (i1 : i < (r : Int)) : wt l i (rd out i) = pn r out best p q (rd best e) i + qn best q (rd best e) (rd out i) := by
  have h := F.D.ti i i0 i1
  unfold pn qn
  rw [if_neg (by omega)]; omega
theorem Fin.le (F : Fin n r l out of p q best bys τ σ e) (i j : Int) (i0 : 0 ≤ i) (i1 : i < ((r + 1 : Nat) : Int)) (j0 : 0 ≤ j) (j1 : j < (n : Int)) (w : 0 ≤ wt l i j) : wt l i j ≤ pn r out best p q (rd best e) i + qn best q (rd best e) j := by
  have hE := F.M.hE
  by_cases h : i = (r : Int)
  · subst h
    have h1 := F.B.ge j j0 j1 w
    unfold pn qn
    rw [if_pos rfl]
    rcases rise_cases best q (rd best e) j with ⟨a, b⟩ | ⟨a, b, c⟩
    · rw [a]
      rcases b with b | b
      · omega
      · omega
    · rw [b]; omega
  · have i1' : i < (r : Int) := by omega
    have h1 := F.D.le i j i0 i1' j0 j1 w
    have hrow := F.M.row i i0 i1'
    have hti := F.D.ti i i0 i1'
    unfold pn qn
    rw [if_neg h]
    rcases rise_cases best q (rd best e) (rd out i) with ⟨a, b⟩ | ⟨a, b, c⟩
    · rw [a]
      rcases rise_cases best q (rd best e) j with ⟨a', b'⟩ | ⟨a', b', c'⟩
      · rw [a']; omega
      · rw [b']; omega
    · by_cases hj : j = rd out i
      · subst hj; omega
      · have hc := F.C (rd out i) hrow.1 hrow.2.1 a (by rw [hrow.2.2.2]; exact i0) j j0 j1 hj (by rw [hrow.2.2.2]; exact w)
        rw [hrow.2.2.2] at hc
        rw [b]
        rcases rise_cases best q (rd best e) j with ⟨a', b'⟩ | ⟨a', b', c'⟩
        · rw [a']
          rcases b' with b' | b'
          · have h3 := F.B.un (rd out i) hrow.1 hrow.2.1
            have h4 := wt_le hE i (rd out i)
            omega
          · omega
        · rw [b']; omega
/-- A step of the way is tight by the new prices. -/
theorem Fin.step (F : Fin n r l out of p q best bys τ σ e) (j : Int) (j0 : 0 ≤ j) (j1 : j < (n : Int)) (hj : rd best j ≠ -1073741824) (hB : rd best e ≤ rd best j - q j) :
    (rd bys j = (r : Int) ∧ 0 ≤ wt l (r : Int) j ∧ wt l (r : Int) j = pn r out best p q (rd best e) (r : Int) + qn best q (rd best e) j) ∨
      (Behind r l out q best τ σ j (rd bys j) ∧ rd best e ≤ rd best (rd out (rd bys j)) - q (rd out (rd bys j)) ∧ wt l (rd bys j) j = pn r out best p q (rd best e) (rd bys j) + qn best q (rd best e) j) := by
  rcases F.B.pr j j0 j1 hj with ⟨a, b, c, d⟩ | Bh
  · left
    refine ⟨a, b, ?_⟩
    unfold pn qn
    rw [if_pos rfl, rise_of hj hB]; omega
  · right
    have hrow := F.M.row _ Bh.i0 Bh.i1
    have hab := Bh.ab
    unfold Ab at hab
    have hk : rd best e ≤ rd best (rd out (rd bys j)) - q (rd out (rd bys j)) := by omega
    refine ⟨Bh, hk, ?_⟩
    have hc := F.C _ hrow.1 hrow.2.1 hab.1 (by rw [hrow.2.2.2]; exact Bh.i0) j j0 j1 (fun h => Bh.ne h.symm) (by rw [hrow.2.2.2]; exact Bh.ed)
    rw [hrow.2.2.2] at hc
    have hti := F.D.ti _ Bh.i0 Bh.i1
    have hl := Bh.le
    unfold pn qn
    rw [if_neg (by have := Bh.i1; omega), rise_of hj hB, rise_of hab.1 hk]
    omega
theorem aug_l5 (F : Fin n r l out of p q best bys τ σ e) : ∀ (d : Nat) (j : Int) (o f : List Int), upN n best q τ j = d → 0 ≤ j → j < (n : Int) → rd best j ≠ -1073741824 → rd best e ≤ rd best j - q j → o.length = n → f.length = n →
    (∀ i : Int, 0 ≤ i → i < (r : Int) → 0 ≤ rd o i ∧ rd o i < (n : Int) ∧ 0 ≤ wt l i (rd o i) ∧ rd f (rd o i) = i ∧ rd o i ≠ j ∧ wt l i (rd o i) = pn r out best p q (rd best e) i + qn best q (rd best e) (rd o i)) →
    (∀ c : Int, 0 ≤ c → c < (n : Int) → c ≠ j → rd f c < 0 ∨ (0 ≤ rd f c ∧ rd f c < (r : Int) ∧ rd o (rd f c) = c)) →
    (∀ i : Int, 0 ≤ i → i < (r : Int) → Ab best q τ j (rd out i) → rd o i = rd out i) →
    (∀ c : Int, 0 ≤ c → c < (n : Int) → c ≠ j → rd f c < 0 → rd of c < 0 ∧ c ≠ e) →
    ∃ o' f', Mt n (r + 1) l o' f' ∧ (∀ i : Int, 0 ≤ i → i < ((r + 1 : Nat) : Int) → wt l i (rd o' i) = pn r out best p q (rd best e) i + qn best q (rd best e) (rd o' i)) ∧ (∀ c : Int, 0 ≤ c → c < (n : Int) → rd f' c < 0 → rd of c < 0 ∧ c ≠ e) ∧
      Ev (fun k => match_augment.l5 k (r : Int) o f bys j) (true, o', f') := by
  have hn := F.M.hn
  have hrn := F.hr
  have hyl := F.B.yl
  intro d
  induction d using Nat.strongRecOn with
  | _ d ih =>
  intro j o f hd j0 j1 hj hB ho hf hrow hcol hag hfr
  have so : ∀ i x : Int, 0 ≤ i → i < (n : Int) → 0 ≤ x → rd (o.set i.toNat j) x = if i = x then j else rd o x := fun i x i0 i1 x0 => rd_set o i x j i0 (by omega) x0
  have sf : ∀ i x : Int, 0 ≤ x → rd (f.set j.toNat i) x = if j = x then i else rd f x := fun i x x0 => rd_set f j x i j0 (by omega) x0
  rcases F.step j j0 j1 hj hB with ⟨hy, hw, ht⟩ | ⟨Bh, hk, ht⟩
  · have so' := fun x => so (r : Int) x (by omega) (by omega)
    have sf' := fun x => sf (r : Int) x
    refine ⟨o.set ((r : Int)).toNat j, f.set j.toNat (r : Int), ⟨hn, F.M.hl, F.M.hE, by omega, by simp [ho], by simp [hf], fun i i0 i1 => ?_, fun c c0 c1 => ?_⟩, fun i i0 i1 => ?_, fun c c0 c1 h => ?_, ?_⟩
    · rw [so' i i0]
      by_cases q1 : (r : Int) = i
      · rw [if_pos q1, sf' j j0, if_pos rfl, ← q1]; exact ⟨j0, j1, hw, rfl⟩
      · rw [if_neg q1]
        obtain ⟨a, b, c, d, g, _⟩ := hrow i i0 (by omega)
        rw [sf' _ a, if_neg (fun h => g h.symm)]
        exact ⟨a, b, c, d⟩
    · rw [sf' c c0]
      by_cases q1 : j = c
      · rw [if_pos q1]
        right
        rw [so' _ (by omega), if_pos rfl]
        exact ⟨by omega, by omega, q1⟩
      · rw [if_neg q1]
        rcases hcol c c0 c1 (fun h => q1 h.symm) with h | ⟨a, b, d⟩
        · exact .inl h
        · right
          rw [so' _ a, if_neg (by omega)]
          exact ⟨a, by omega, d⟩
    · rw [so' i i0]
      by_cases q1 : (r : Int) = i
      · rw [if_pos q1, ← q1]; exact ht
      · rw [if_neg q1]; exact (hrow i i0 (by omega)).2.2.2.2.2
    · rw [sf' c c0] at h
      by_cases q1 : j = c
      · rw [if_pos q1] at h; omega
      · rw [if_neg q1] at h; exact hfr c c0 c1 (fun h => q1 h.symm) h
    · refine Ev.step (f := fun _ => some (true, o.set ((r : Int)).toNat j, f.set j.toNat (r : Int))) (fun k => ?_) (Ev.now _)
      simp only [match_augment.l5]
      rw [if_pos j0, if_pos (by omega), hy, if_pos (by omega), if_pos (by omega), Option.bind_some, if_pos (by omega), Option.bind_some, if_pos rfl]
  · have i0 := Bh.i0
    have i1 := Bh.i1
    have hrk := F.M.row _ i0 i1
    have hoi := hag _ i0 i1 Bh.ab
    have hlt := upN_lt hrk.1 hrk.2.1 Bh.ab
    have habk := Bh.ab
    generalize hyi : rd bys j = i at i0 i1 hrk hoi hlt hk ht habk Bh
    have so' := fun x => so i x i0 (by omega)
    have sf' := fun x => sf i x
    obtain ⟨ra, rb, rc, rd', re, rf⟩ := hrow i i0 i1
    obtain ⟨o', f', h1, h2, h3, h4⟩ := ih _ (by omega) (rd out i) (o.set i.toNat j) (f.set j.toNat i) rfl hrk.1 hrk.2.1 habk.1 hk (by simp [ho]) (by simp [hf]) (fun x x0 x1 => by
        rw [so' x x0]
        by_cases q1 : i = x
        · rw [if_pos q1, sf' j j0, if_pos rfl, ← q1]; exact ⟨j0, j1, Bh.ed, rfl, fun h => Bh.ne h.symm, ht⟩
        · rw [if_neg q1]
          obtain ⟨a, b, c, d, g, h⟩ := hrow x x0 x1
          rw [sf' _ a, if_neg (fun h => g h.symm)]
          refine ⟨a, b, c, d, fun h5 => q1 ?_, h⟩
          rw [← hoi] at h5
          rw [h5, rd'] at d
          exact d) (fun c c0 c1 hck => by
        rw [sf' c c0]
        by_cases q1 : j = c
        · rw [if_pos q1]
          right
          rw [so' i i0, if_pos rfl]
          exact ⟨i0, i1, q1⟩
        · rw [if_neg q1]
          rcases hcol c c0 c1 (fun h => q1 h.symm) with h | ⟨a, b, d⟩
          · exact .inl h
          · right
            have hne : i ≠ rd f c := fun h => hck (by rw [← d, ← h, hoi])
            rw [so' _ a, if_neg hne]
            exact ⟨a, b, d⟩) (fun x x0 x1 hx => by
        rw [so' x x0]
        have hjx : Ab best q τ j (rd out x) := by
          unfold Ab at hx habk ⊢
          exact ⟨hx.1, by omega⟩
        by_cases q1 : i = x
        · exfalso
          rw [← q1] at hx
          unfold Ab at hx
          omega
        · rw [if_neg q1]; exact hag x x0 x1 hjx) (fun c c0 c1 hck h => by
        rw [sf' c c0] at h
        by_cases q1 : j = c
        · rw [if_pos q1] at h; omega
        · rw [if_neg q1] at h; exact hfr c c0 c1 (fun h => q1 h.symm) h)
    refine ⟨o', f', h1, h2, h3, Ev.step (fun k => ?_) h4⟩
    simp only [match_augment.l5]
    rw [if_pos j0, if_pos (by omega), hyi, if_pos i0, if_pos (by omega), Option.bind_some, if_pos (by omega), Option.bind_some, if_neg (by omega), hoi]
end
/-- A row more has a column, or there is no whole matching. -/
theorem augment_spec {n r : Nat} {l : List S40} {out of : List Int} {p q : Int → Int} (M : Mt n r l out of) (D : Du n r l out of p q) (hr : r < n) :
    (∃ o f p' q', Mt n (r + 1) l o f ∧ Du n (r + 1) l o f p' q' ∧ Ev (fun k => match_augment.f k (r : Int) (tabN n l) out of) (true, o, f)) ∨
      ((∀ told, ¬ Whole n l told) ∧ ∃ o f, Ev (fun k => match_augment.f k (r : Int) (tabN n l) out of) (false, o, f)) := by
  have hn := M.hn
  have hG := tabN_grid M.hE
  obtain ⟨b, y, hb, hy, h0, ev0⟩ := aug_l0 (out := out) (of := of) hn M.hE hr n 0 (List.replicate n 0) (List.replicate n 0) (by omega) (by simp) (by simp) (fun x a b => by omega)
  have hB0 : BI n r l out of q b y (fun _ => 0) (fun _ => 0) (4096 * 0) 0 := BI.start M.hE hb hy h0
  obtain ⟨best, bys, τ, σ, hB, hC, ev1⟩ := aug_l1 M D n 0 b y _ _ (by omega) hB0 (fun _ _ _ _ _ => .inr (Nat.zero_le _))
  obtain ⟨e, hend, ev2⟩ := aug_l4 (r := r) out (of := of) (best := best) (bys := bys) hn M.fl hB.bl (fun j a b => by rcases hB.un j a b with h | h; exact .inl h; exact .inr (by omega)) n 0 (-1) (by omega) (.inl ⟨rfl, fun x a b => by omega⟩)
  have ev : ∀ R, Ev (fun f => if e < 0 then some (false, out, of) else match_augment.l5 f (r : Int) out of bys e) R → Ev (fun k => match_augment.f k (r : Int) (tabN n l) out of) R := fun R hR => by
    unfold match_augment.f
    rw [hG.1]
    simp only [if_pos (show (0 : Int) ≤ (n : Int) by omega), Int.toNat_natCast, if_pos (show n ≤ 35184372088832 by omega), Option.bind_some, List.length_replicate]
    refine ev0 R (ev1 R (Ev.step (fun k => ?_) (ev2 R hR)))
    simp only [match_augment.j5]; rfl
  rcases hend with ⟨he, hno⟩ | ⟨e0, e1, ef, er, em⟩
  · right
    refine ⟨no_whole M hr (fun j => decide (rd best j ≠ -1073741824)) (fun j a b w => ?_) (fun k a b hk => ?_), out, of, ev _ ?_⟩
    · have := hB.ge j a b w
      exact decide_eq_true (by omega)
    · have hk' := of_decide_eq_true hk
      have h1 : 0 ≤ rd of k := by
        by_cases h : rd of k < 0
        · exact absurd (hno k a b h) hk'
        · omega
      refine ⟨h1, fun j c d w => decide_eq_true ?_⟩
      by_cases hjk : j = k
      · rw [hjk]; exact hk'
      · have h2 := hC k a b hk' h1 j c d hjk w
        have h3 := hB.un k a b
        have h4 := wt_le M.hE (rd of k) k
        omega
    · simp only [if_pos (show e < 0 by omega)]; exact Ev.now _
  · left
    have F : Fin n r l out of p q best bys τ σ e := ⟨M, D, hr, hB, hC, e0, e1, ef, er, em⟩
    have hqe := D.qf e e0 e1 ef
    obtain ⟨o, f, h1, h2, h3, h4⟩ := aug_l5 F _ e out of rfl e0 e1 er (by omega) M.ol M.fl (fun i i0 i1 => by
        obtain ⟨a, b, c, d⟩ := M.row i i0 i1
        exact ⟨a, b, c, d, fun h => by rw [h] at d; omega, F.tight i i0 i1⟩) (fun c c0 c1 _ => M.col c c0 c1) (fun _ _ _ _ => rfl) (fun c _ _ h h' => ⟨h', h⟩)
    refine ⟨o, f, pn r out best p q (rd best e), qn best q (rd best e), h1, ⟨fun i j i0 i1 j0 j1 w => F.le i j i0 i1 j0 j1 w, h2, fun j j0 j1 => ?_, fun j j0 j1 hj => ?_, fun i i0 i1 => ?_⟩, ev _ ?_⟩
    · have := D.q0 j j0 j1
      unfold qn
      rcases rise_cases best q (rd best e) j with ⟨a, _⟩ | ⟨_, _, c⟩ <;> omega
    · obtain ⟨a, b⟩ := h3 j j0 j1 hj
      have hq := D.qf j j0 j1 a
      unfold qn
      rcases rise_cases best q (rd best e) j with ⟨h, _⟩ | ⟨h5, h6, h7⟩
      · omega
      · have := em j j0 j1 a h5
        omega
    · have hbe := hB.un e e0 e1
      unfold pn
      by_cases h : i = (r : Int)
      · rw [if_pos h]; omega
      · rw [if_neg h]
        have h5 := D.pb i i0 (by omega)
        have h6 := M.row i i0 (by omega)
        have h7 := hB.un (rd out i) h6.1 h6.2.1
        have h8 := D.q0 (rd out i) h6.1 h6.2.1
        rcases rise_cases best q (rd best e) (rd out i) with ⟨a, _⟩ | ⟨a, b, c⟩ <;> omega
    · simp only [if_neg (show ¬ e < 0 by omega)]; exact h4
end Go.Proofs.Ytamloclgignfgaa.PA
