import Derived.Test.YtamloclgignfgaaGe
namespace Go.Proofs.Ytamloclgignfgaa.PA
open Go.Proofs.YtamloclgignfgaaW.PrintWords
set_option linter.unusedVariables false
set_option linter.unusedSimpArgs false

/-! Kuhn's way: what a search finds, and what it leaves. -/
theorem rd_set (o : List Int) (j j' x : Int) (h0 : 0 ≤ j) (h1 : j < o.length) (h2 : 0 ≤ j') : rd (o.set j.toNat x) j' = if j = j' then x else rd o j' := by
  unfold rd
  rw [List.getD_eq_getElem?_getD, List.getD_eq_getElem?_getD, List.getElem?_set]
  by_cases e : j = j'
  · subst e; rw [if_pos rfl, if_pos rfl, if_pos (by omega)]; rfl
  · rw [if_neg (by omega), if_neg e]
theorem sn_set (s : List Bool) (j j' : Int) (h0 : 0 ≤ j) (h1 : j < s.length) (h2 : 0 ≤ j') : rdOf false (s.set j.toNat true) j' = if j = j' then true else rdOf false s j' := by
  unfold rdOf
  rw [List.getD_eq_getElem?_getD, List.getD_eq_getElem?_getD, List.getElem?_set]
  by_cases e : j = j'
  · subst e; rw [if_pos rfl, if_pos rfl, if_pos (by omega)]; rfl
  · rw [if_neg (by omega), if_neg e]
theorem count_set_rd (o : List Int) (j x r : Int) (h0 : 0 ≤ j) (h1 : j < o.length) : (o.set j.toNat x).count r + (if rd o j = r then 1 else 0) = o.count r + (if x = r then 1 else 0) := by
  have hl : j.toNat < o.length := by omega
  have hr : rd o j = o[j.toNat] := by unfold rd; rw [List.getD_eq_getElem?_getD, List.getElem?_eq_getElem hl]; rfl
  rw [List.count_set hl, hr]
  by_cases e : o[j.toNat] = r
  · have hp : 0 < o.count r := List.count_pos_iff.2 (by rw [← e]; exact List.getElem_mem hl)
    simp only [e, beq_self_eq_true, if_true, beq_iff_eq]
    omega
  · simp only [beq_iff_eq, e, if_false]
    omega

/-- A set of columns out of which no way leads. -/
def Closed (rows : List (List Int)) (m : Nat) (o : List Int) (D : Int → Prop) : Prop :=
  ∀ j, D j → 0 ≤ j ∧ j < (m : Int) ∧ 0 ≤ rd o j ∧ ∀ j' ∈ rd_L3 rows (rd o j), D j'

/-- What a search that failed says. -/
def FNo (rows : List (List Int)) (m : Nat) (row : List Int) (s : List Bool) (o : List Int) (R : FState) : Prop :=
  R.2.2 = o ∧ (∀ j, 0 ≤ j → j < (m : Int) → rdOf false s j = true → rdOf false R.2.1 j = true) ∧ (∀ j ∈ row, rdOf false R.2.1 j = true) ∧
    ∀ j, 0 ≤ j → j < (m : Int) → rdOf false R.2.1 j = true → rdOf false s j = true ∨ (0 ≤ rd o j ∧ ∀ j' ∈ rd_L3 rows (rd o j), rdOf false R.2.1 j' = true)
/-- What a search that found says. -/
def FYes (rows : List (List Int)) (m : Nat) (i : Int) (row : List Int) (s : List Bool) (o : List Int) (R : FState) : Prop :=
  (∀ j, 0 ≤ j → j < (m : Int) → rdOf false s j = true → rd R.2.2 j = rd o j) ∧ (∀ r, 0 ≤ r → R.2.2.count r = o.count r + if r = i then 1 else 0) ∧
    (∀ j, 0 ≤ j → j < (m : Int) → rd R.2.2 j = rd o j ∨ j ∈ rd_L3 rows (rd R.2.2 j)) ∧
    ∀ D, Closed rows m o D → (∀ j, D j → rd R.2.2 j = rd o j) ∧ ∃ j ∈ row, ¬ D j
def FSpec (rows : List (List Int)) (m : Nat) (i : Int) (row : List Int) (s : List Bool) (o : List Int) (R : FState) : Prop :=
  (R.1 = false → FNo rows m row s o R) ∧ (R.1 = true → FYes rows m i row s o R)

theorem findL_spec {n m d : Nat} {rows : List (List Int)} {rec : Int → List Bool → List Int → FState}
    (hk : ∀ i s o, 0 ≤ i → i < (n : Int) → Good n m s o → Good n m (rec i s o).2.1 (rec i s o).2.2 ∧ unseen (rec i s o).2.1 ≤ unseen s)
    (hrec : ∀ i s o, 0 ≤ i → i < (n : Int) → Good n m s o → unseen s < d → FSpec rows m i (rd_L3 rows i) s o (rec i s o)) (hrows : ∀ i, RowOk m (rd_L3 rows i)) (i : Int) (hi : 0 ≤ i ∧ i < (n : Int)) :
    ∀ (row : List Int) (s : List Bool) (o : List Int), RowOk m row → (∀ j ∈ row, j ∈ rd_L3 rows i) → Good n m s o → unseen s < d + 1 → FSpec rows m i row s o (findL rec i row s o) := by
  intro row
  induction row with
  | nil =>
    intro s o _ _ hg _
    exact ⟨fun _ => ⟨rfl, fun _ _ _ h => h, fun j hj => (List.not_mem_nil hj).elim, fun j _ _ h => .inl h⟩, fun h => by cases h⟩
  | cons j js ih =>
    intro s o hr hin hg hu
    have hj := hr j List.mem_cons_self
    have hjs : RowOk m js := fun x hx => hr x (List.mem_cons_of_mem _ hx)
    have hin' : ∀ x ∈ js, x ∈ rd_L3 rows i := fun x hx => hin x (List.mem_cons_of_mem _ hx)
    have hls : j < (s.length : Int) := by rw [hg.1]; exact hj.2
    have hlo : j < (o.length : Int) := by rw [hg.2.1]; exact hj.2
    unfold findL
    by_cases c1 : rdOf false s j = true
    · rw [if_pos c1]
      obtain ⟨h1, h2⟩ := ih s o hjs hin' hg hu
      refine ⟨fun h => ?_, fun h => ?_⟩
      · obtain ⟨a, b, c, e⟩ := h1 h
        exact ⟨a, b, fun x hx => by rcases List.mem_cons.1 hx with rfl | hx; exact b _ hj.1 hj.2 c1; exact c x hx, e⟩
      · obtain ⟨a, b, c, e⟩ := h2 h
        exact ⟨a, b, c, fun D hD => ⟨(e D hD).1, by obtain ⟨x, hx, hn⟩ := (e D hD).2; exact ⟨x, List.mem_cons_of_mem _ hx, hn⟩⟩⟩
    rw [if_neg c1]
    by_cases c2 : rd o j < 0
    · rw [if_pos c2]
      refine ⟨(fun h => by cases h), fun _ => ⟨fun x h0 h1 hx => ?_, fun r hr0 => ?_, fun x h0 h1 => ?_, fun D hD => ⟨fun x hx => ?_, j, List.mem_cons_self, fun hDj => ?_⟩⟩⟩
      · show rd (o.set j.toNat i) x = _
        rw [rd_set o j x i hj.1 hlo h0, if_neg (by rintro rfl; exact c1 hx)]
      · show (o.set j.toNat i).count r = _
        have := count_set_rd o j i r hj.1 hlo
        rw [if_neg (show ¬ rd o j = r by omega)] at this
        by_cases e : r = i
        · subst e; rw [if_pos rfl] at this ⊢; omega
        · rw [if_neg (fun h => e h.symm)] at this; rw [if_neg e]; omega
      · show rd (o.set j.toNat i) x = _ ∨ x ∈ rd_L3 rows (rd (o.set j.toNat i) x)
        rw [rd_set o j x i hj.1 hlo h0]
        by_cases e : j = x
        · rw [if_pos e]; right; rw [← e]; exact hin j List.mem_cons_self
        · rw [if_neg e]; exact .inl rfl
      · show rd (o.set j.toNat i) x = _
        have hx' := hD x hx
        rw [rd_set o j x i hj.1 hlo hx'.1, if_neg (by rintro rfl; omega)]
      · have := (hD j hDj).2.2.1; omega
    rw [if_neg c2]
    have hx0 : 0 ≤ rd o j := by omega
    have hx1 : rd o j < (n : Int) := hg.2.2 _ (rd_mem o j hj.1 hlo)
    have hus := unseen_set s j.toNat (by rw [hg.1]; omega) (by simpa [rdOf] using c1)
    have hkk := hk (rd o j) (s.set j.toNat true) o hx0 hx1 (hg.setS _ _)
    have hsp := hrec (rd o j) (s.set j.toNat true) o hx0 hx1 (hg.setS _ _) (by omega)
    generalize rec (rd o j) (s.set j.toNat true) o = R at hkk hsp
    obtain ⟨r1, s1, o1⟩ := R
    by_cases c3 : r1 = true
    · subst c3
      rw [if_pos rfl]
      obtain ⟨a, b, c, e⟩ := hsp.2 rfl
      have hoj : rd o1 j = rd o j := a j hj.1 hj.2 (by rw [sn_set s j j hj.1 hls hj.1, if_pos rfl])
      have hlo1 : j < (o1.length : Int) := by rw [hkk.1.2.1]; exact hj.2
      refine ⟨(fun h => by cases h), fun _ => ⟨fun x h0 h1 hx => ?_, fun r hr0 => ?_, fun x h0 h1 => ?_, fun D hD => ?_⟩⟩
      · show rd (o1.set j.toNat i) x = _
        rw [rd_set o1 j x i hj.1 hlo1 h0, if_neg (by rintro rfl; exact c1 hx)]
        exact a x h0 h1 (by rw [sn_set s j x hj.1 hls h0, if_neg (by rintro rfl; exact c1 hx)]; exact hx)
      · show (o1.set j.toNat i).count r = _
        have h1 := count_set_rd o1 j i r hj.1 hlo1
        have h2 := b r hr0
        simp only at h2
        rw [hoj] at h1
        have e1 : (if rd o j = r then 1 else 0) = (if r = rd o j then 1 else 0) := by
          by_cases q : r = rd o j
          · rw [if_pos q, if_pos q.symm]
          · rw [if_neg q, if_neg (fun h => q h.symm)]
        have e2 : (if i = r then 1 else 0) = (if r = i then 1 else 0) := by
          by_cases q : r = i
          · rw [if_pos q, if_pos q.symm]
          · rw [if_neg q, if_neg (fun h => q h.symm)]
        rw [e1, e2] at h1
        omega
      · show rd (o1.set j.toNat i) x = _ ∨ x ∈ rd_L3 rows (rd (o1.set j.toNat i) x)
        rw [rd_set o1 j x i hj.1 hlo1 h0]
        by_cases q : j = x
        · rw [if_pos q]; right; rw [← q]; exact hin j List.mem_cons_self
        · rw [if_neg q]; exact c x h0 h1
      · obtain ⟨h1, j', hj', hn⟩ := e D hD
        have hnj : ¬ D j := fun hDj => hn ((hD j hDj).2.2.2 j' hj')
        refine ⟨fun x hx => ?_, j, List.mem_cons_self, hnj⟩
        show rd (o1.set j.toNat i) x = _
        rw [rd_set o1 j x i hj.1 hlo1 (hD x hx).1, if_neg (by rintro rfl; exact hnj hx)]
        exact h1 x hx
    · have c3' : r1 = false := by simpa using c3
      subst c3'
      rw [if_neg c3]
      obtain ⟨a, b, c, e⟩ := hsp.1 rfl
      simp only at a b c e hkk
      subst a
      obtain ⟨h1, h2⟩ := ih s1 o1 hjs hin' hkk.1 (by omega)
      have hmono : ∀ x, 0 ≤ x → x < (m : Int) → rdOf false s x = true → rdOf false s1 x = true := fun x h0 hm hx => b x h0 hm (by
        rw [sn_set s j x hj.1 hls h0]; split; rfl; exact hx)
      have hj1 : rdOf false s1 j = true := b j hj.1 hj.2 (by rw [sn_set s j j hj.1 hls hj.1, if_pos rfl])
      refine ⟨fun h => ?_, fun h => ?_⟩
      · obtain ⟨a', b', c', e'⟩ := h1 h
        refine ⟨a', fun x h0 hm hx => b' x h0 hm (hmono x h0 hm hx), fun x hx => ?_, fun x h0 hm hx => ?_⟩
        · rcases List.mem_cons.1 hx with rfl | hx
          · exact b' x hj.1 hj.2 hj1
          · exact c' x hx
        · rcases e' x h0 hm hx with h3 | h3
          · rcases e x h0 hm h3 with h4 | h4
            · rw [sn_set s j x hj.1 hls h0] at h4
              by_cases q : j = x
              · subst q
                right
                refine ⟨hx0, fun y hy => ?_⟩
                have hyr := c y hy
                exact b' y (hrows (rd o1 j) y hy).1 (hrows (rd o1 j) y hy).2 hyr
              · rw [if_neg q] at h4; exact .inl h4
            · exact .inr ⟨h4.1, fun y hy => b' y (hrows (rd o1 x) y hy).1 (hrows (rd o1 x) y hy).2 (h4.2 y hy)⟩
          · exact .inr h3
      · obtain ⟨a', b', c', e'⟩ := h2 h
        exact ⟨fun x h0 hm hx => a' x h0 hm (hmono x h0 hm hx), b', c', fun D hD => ⟨(e' D hD).1, by obtain ⟨x, hx, hn⟩ := (e' D hD).2; exact ⟨x, List.mem_cons_of_mem _ hx, hn⟩⟩⟩
theorem findF_spec {n m : Nat} {rows : List (List Int)} (hrows : ∀ row ∈ rows, RowOk m row) : ∀ (d : Nat) (i : Int) (s : List Bool) (o : List Int), 0 ≤ i → i < (n : Int) → Good n m s o → unseen s < d →
    FSpec rows m i (rd_L3 rows i) s o (findF rows d i s o) := by
  have hr : ∀ i, RowOk m (rd_L3 rows i) := by
    intro i
    unfold rd_L3
    rw [List.getD_eq_getElem?_getD]
    cases hg : rows[i.toNat]? with
    | none => intro x hx; simp at hx
    | some row => exact hrows row (List.mem_of_getElem? hg)
  intro d
  induction d with
  | zero => intro i s o _ _ _ h; omega
  | succ d ih =>
    intro i s o h0 hi hg hu
    unfold findF
    exact findL_spec (fun i s o h0 hi h => findF_keeps hrows d i s o h0 hi h) (fun i s o h0 hi hg hu => ih i s o h0 hi hg hu) hr i ⟨h0, hi⟩ _ s o (hr i) (fun _ h => h) hg hu

/-- What holds when k rows have been asked. -/
structure KInv (rows : List (List Int)) (n m k : Nat) (o : List Int) : Prop where
  len : o.length = m
  lt : ∀ x ∈ o, x < (n : Int)
  one : ∀ r, 0 ≤ r → o.count r ≤ 1
  late : ∀ r, (k : Int) ≤ r → o.count r = 0
  edge : ∀ j, 0 ≤ j → j < (m : Int) → 0 ≤ rd o j → j ∈ rd_L3 rows (rd o j)
  dead : ∃ D, Closed rows m o D ∧ ∀ r, 0 ≤ r → r < (k : Int) → o.count r = 0 → ∀ j ∈ rd_L3 rows r, D j

theorem kuhn_inv {n m : Nat} {rows : List (List Int)} (hrows : ∀ row ∈ rows, RowOk m row) (hn : rows.length = n) : ∀ k, k ≤ n → KInv rows n m k (kuhn rows m k 0 (List.replicate m (-1))) := by
  have hr : ∀ i, RowOk m (rd_L3 rows i) := by
    intro i
    unfold rd_L3
    rw [List.getD_eq_getElem?_getD]
    cases hg : rows[i.toNat]? with
    | none => intro x hx; simp at hx
    | some row => exact hrows row (List.mem_of_getElem? hg)
  intro k
  induction k with
  | zero =>
    intro _
    refine ⟨by simp [kuhn], fun x hx => ?_, fun r hr => ?_, fun r hr => ?_, fun j h0 h1 h2 => ?_, fun _ => False, fun j h => h.elim, fun r h0 h1 => by omega⟩
    · rw [kuhn] at hx; rw [List.eq_of_mem_replicate hx]; omega
    · rw [kuhn, List.count_replicate]; simp only [beq_iff_eq]; rw [if_neg (by omega)]; omega
    · rw [kuhn, List.count_replicate]; simp only [beq_iff_eq]; rw [if_neg (by omega)]
    · rw [kuhn] at h2
      exfalso
      unfold rd at h2
      rw [List.getD_eq_getElem?_getD, List.getElem?_replicate, if_pos (by omega)] at h2
      simp at h2
  | succ k ih =>
    intro hk
    have I := ih (by omega)
    rw [kuhn_snoc]
    rw [show (0 : Int) + (k : Int) = (k : Int) by omega]
    generalize kuhn rows m k 0 (List.replicate m (-1)) = o at I
    have hg : Good n m (List.replicate m false) o := ⟨by simp, I.len, I.lt⟩
    have hu : unseen (List.replicate m false) < m + 1 := by simp [unseen]
    have hs := findF_spec hrows (m + 1) (k : Int) (List.replicate m false) o (by omega) (by omega) hg hu
    have hkk := findF_keeps hrows (m + 1) (k : Int) (List.replicate m false) o (by omega) (by omega) hg
    generalize findF rows (m + 1) (k : Int) (List.replicate m false) o = R at hs hkk
    obtain ⟨r1, s1, o1⟩ := R
    simp only at hkk ⊢
    obtain ⟨D, hD, hDr⟩ := I.dead
    have hns : ∀ j : Int, 0 ≤ j → j < (m : Int) → rdOf false (List.replicate m false) j = true → False := by
      intro j h0 h1 h
      unfold rdOf at h
      rw [List.getD_eq_getElem?_getD, List.getElem?_replicate, if_pos (by omega)] at h
      simp at h
    cases r1 with
    | true =>
      obtain ⟨a, b, c, e⟩ := hs.2 rfl
      simp only at a b c e
      have hck : o.count (k : Int) = 0 := I.late _ (by omega)
      refine ⟨hkk.1.2.1, hkk.1.2.2, fun r hr0 => ?_, fun r hr0 => ?_, fun j h0 h1 h2 => ?_, D, fun j hj => ?_, fun r h0 h1 h2 j hj => ?_⟩
      · rw [b r hr0]
        by_cases q : r = (k : Int)
        · subst q; rw [if_pos rfl, hck]; omega
        · rw [if_neg q]; have := I.one r hr0; omega
      · rw [b r (by omega), if_neg (by omega), I.late r (by omega)]
      · rcases c j h0 h1 with h3 | h3
        · rw [h3] at h2 ⊢; exact I.edge j h0 h1 h2
        · exact h3
      · obtain ⟨h1, h2, h3, h4⟩ := hD j hj
        rw [(e D hD).1 j hj]
        exact ⟨h1, h2, h3, h4⟩
      · rw [b r h0] at h2
        by_cases q : r = (k : Int)
        · rw [if_pos q] at h2; omega
        · rw [if_neg q] at h2; exact hDr r h0 (by omega) (by omega) j hj
    | false =>
      obtain ⟨a, b, c, e⟩ := hs.1 rfl
      simp only at a b c e
      subst a
      refine ⟨I.len, I.lt, I.one, fun r hr0 => I.late r (by omega), I.edge, fun j => D j ∨ (0 ≤ j ∧ j < (m : Int) ∧ rdOf false s1 j = true), fun j hj => ?_, fun r h0 h1 h2 j hj => ?_⟩
      · rcases hj with hj | ⟨h0, h1, hj⟩
        · obtain ⟨h1, h2, h3, h4⟩ := hD j hj
          exact ⟨h1, h2, h3, fun j' hj' => .inl (h4 j' hj')⟩
        · rcases e j h0 h1 hj with h3 | h3
          · exact (hns j h0 h1 h3).elim
          · exact ⟨h0, h1, h3.1, fun j' hj' => .inr ⟨(hr _ j' hj').1, (hr _ j' hj').2, h3.2 j' hj'⟩⟩
      · by_cases q : r = (k : Int)
        · subst q; exact .inr ⟨(hr _ j hj).1, (hr _ j hj).2, c j hj⟩
        · exact .inl (hDr r h0 (by omega) h2 j hj)

/-- Of the columns' rows the rows' columns: what stands there. -/
theorem outOf_spec (n : Nat) (l : List Int) : ∀ (j : Nat) (out : List Int), out.length = n → (∀ x ∈ l, x < (n : Int)) → ∀ i, 0 ≤ i → i < (n : Int) →
    (i ∉ l ∧ rd (outOf l j out) i = rd out i) ∨ ∃ k : Nat, k < l.length ∧ rd l k = i ∧ rd (outOf l j out) i = (j : Int) + k := by
  induction l with
  | nil => intro j out _ _ i _ _; exact .inl ⟨by simp, rfl⟩
  | cons x l ih =>
    intro j out hl hx i h0 h1
    have hx' : ∀ y ∈ l, y < (n : Int) := fun y hy => hx y (List.mem_cons_of_mem _ hy)
    unfold outOf
    have h := ih (j + 1) (if x ≥ 0 then out.set x.toNat j else out) (by split <;> simp [hl]) hx' i h0 h1
    rw [show ((j + 1 : Nat) : Int) = (j : Int) + 1 by omega] at h
    rcases h with ⟨h2, h3⟩ | ⟨k, h2, h3, h4⟩
    · by_cases e : x = i
      · right
        refine ⟨0, by simp, by simpa [rd] using e, ?_⟩
        rw [h3, if_pos (by omega), rd_set out x i j (by omega) (by omega) h0, if_pos e]; omega
      · left
        refine ⟨by simp [h2, Ne.symm e], ?_⟩
        rw [h3]
        split
        · rw [rd_set out x i j (by omega) (by rw [hl]; exact hx x List.mem_cons_self) h0, if_neg e]
        · rfl
    · right
      refine ⟨k + 1, by simpa using h2, ?_, by rw [h4]; omega⟩
      rw [← h3]
      simp only [rd]
      rw [show (((k + 1 : Nat) : Int)).toNat = k + 1 by omega, show ((k : Nat) : Int).toNat = k by omega]
      simp
end Go.Proofs.Ytamloclgignfgaa.PA
