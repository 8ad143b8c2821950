import Derived.Test.YtamloclgignfgaaGb
namespace Go.Proofs.Ytamloclgignfgaa.PA
open Go.RowKit Go.Proofs.YtamloclgignfgaaW.PrintWords Go.Proofs.YtamloclgignfgaaW.PrintLast Go.Proofs.YtamloclgignfgaaW.PrintMore
set_option linter.unusedVariables false
set_option linter.unusedSimpArgs false

/-! What the closure 'find' computes. -/
abbrev FState := Bool × List Bool × List Int
def findL (rec : Int → List Bool → List Int → FState) (i : Int) : List Int → List Bool → List Int → FState
  | [], s, o => (false, s, o)
  | j :: js, s, o =>
    if rdOf false s j = true then findL rec i js s o
    else if rd o j < 0 then (true, s.set j.toNat true, o.set j.toNat i)
    else if (rec (rd o j) (s.set j.toNat true) o).1 = true then (true, (rec (rd o j) (s.set j.toNat true) o).2.1, (rec (rd o j) (s.set j.toNat true) o).2.2.set j.toNat i)
    else findL rec i js (rec (rd o j) (s.set j.toNat true) o).2.1 (rec (rd o j) (s.set j.toNat true) o).2.2
def findF (rows : List (List Int)) : Nat → Int → List Bool → List Int → FState
  | 0, _, s, o => (false, s, o)
  | d + 1, i, s, o => findL (findF rows d) i (rd_L3 rows i) s o

/-- What is kept while a way is sought. -/
def Good (n m : Nat) (s : List Bool) (o : List Int) : Prop := s.length = m ∧ o.length = m ∧ ∀ x ∈ o, x < (n : Int)
def RowOk (m : Nat) (row : List Int) : Prop := ∀ j ∈ row, 0 ≤ j ∧ j < (m : Int)

theorem rd_mem (o : List Int) (j : Int) (h0 : 0 ≤ j) (h1 : j < o.length) : rd o j ∈ o := by
  have hl : j.toNat < o.length := by omega
  unfold rd
  rw [List.getD_eq_getElem?_getD, List.getElem?_eq_getElem hl]
  exact List.getElem_mem hl

theorem Good.setS {n m : Nat} {s : List Bool} {o : List Int} (h : Good n m s o) (j : Nat) (b : Bool) : Good n m (s.set j b) o := ⟨by simp [h.1], h.2.1, h.2.2⟩
theorem Good.setO {n m : Nat} {s : List Bool} {o : List Int} (h : Good n m s o) (j : Nat) (i : Int) (hi : i < n) : Good n m s (o.set j i) :=
  ⟨h.1, by simp [h.2.1], fun x hx => by
    rcases List.mem_or_eq_of_mem_set hx with h1 | h1
    · exact h.2.2 x h1
    · omega⟩
/-- How many columns have not been seen. -/
def unseen (s : List Bool) : Nat := s.count false
theorem unseen_set (s : List Bool) (j : Nat) (h : j < s.length) (hf : s.getD j false = false) : unseen (s.set j true) + 1 = unseen s := by
  unfold unseen
  induction s generalizing j with
  | nil => simp at h
  | cons a s ih =>
    cases j with
    | zero =>
      have ha : a = false := by simpa using hf
      subst ha
      simp
    | succ j =>
      have h' := ih j (by simpa using h) (by simpa using hf)
      simp only [List.set_cons_succ, List.count_cons]
      omega

theorem findL_keeps {n m : Nat} {rec : Int → List Bool → List Int → FState} (hrec : ∀ i s o, 0 ≤ i → i < (n : Int) → Good n m s o → Good n m (rec i s o).2.1 (rec i s o).2.2 ∧ unseen (rec i s o).2.1 ≤ unseen s) (i : Int) (hi : i < (n : Int)) :
    ∀ (row : List Int) (s : List Bool) (o : List Int), RowOk m row → Good n m s o → Good n m (findL rec i row s o).2.1 (findL rec i row s o).2.2 ∧ unseen (findL rec i row s o).2.1 ≤ unseen s := by
  intro row
  induction row with
  | nil => intro s o _ h; exact ⟨h, Nat.le_refl _⟩
  | cons j js ih =>
    intro s o hr h
    have hj := hr j List.mem_cons_self
    have hjs : RowOk m js := fun x hx => hr x (List.mem_cons_of_mem _ hx)
    unfold findL
    by_cases c1 : rdOf false s j = true
    · rw [if_pos c1]; exact ih s o hjs h
    rw [if_neg c1]
    have hu := unseen_set s j.toNat (by rw [h.1]; omega) (by simpa [rdOf] using c1)
    by_cases c2 : rd o j < 0
    · rw [if_pos c2]; exact ⟨(h.setS _ _).setO _ _ hi, by show unseen (s.set _ _) ≤ _; omega⟩
    rw [if_neg c2]
    have hx : rd o j < (n : Int) := h.2.2 _ (rd_mem o j hj.1 (by rw [h.2.1]; omega))
    have hk := hrec (rd o j) (s.set j.toNat true) o (by omega) hx (h.setS _ _)
    by_cases c3 : (rec (rd o j) (s.set j.toNat true) o).1 = true
    · rw [if_pos c3]; exact ⟨hk.1.setO _ _ hi, by show unseen (rec (rd o j) (s.set j.toNat true) o).2.1 ≤ _; omega⟩
    rw [if_neg c3]
    have := ih _ _ hjs hk.1
    exact ⟨this.1, by omega⟩
theorem findF_keeps {n m : Nat} {rows : List (List Int)} (hrows : ∀ row ∈ rows, RowOk m row) : ∀ (d : Nat) (i : Int) (s : List Bool) (o : List Int), 0 ≤ i → i < (n : Int) → Good n m s o →
    Good n m (findF rows d i s o).2.1 (findF rows d i s o).2.2 ∧ unseen (findF rows d i s o).2.1 ≤ unseen s := by
  intro d
  induction d with
  | zero => intro i s o _ _ h; exact ⟨h, Nat.le_refl _⟩
  | succ d ih =>
    intro i s o h0 hi h
    unfold findF
    refine findL_keeps ih i hi _ s o ?_ h
    unfold rd_L3
    rw [List.getD_eq_getElem?_getD]
    cases hg : rows[i.toNat]? with
    | none => intro x hx; simp at hx
    | some row => exact hrows row (List.mem_of_getElem? hg)

/-! The worlds. -/
structure Fs (W0 W : World) (bs bo bf : Nat) (fv vS vO : Value) (s : List Bool) (o : List Int) : Prop where
  below : Below W0.heap.size W0 W
  ls : W0.heap.size ≤ bs
  lo : W0.heap.size ≤ bo
  lf : W0.heap.size ≤ bf
  boxS : W.heap[bs]? = some (.cells #[vS] 50 (0, 0))
  boxO : W.heap[bo]? = some (.cells #[vO] 23 (0, 0))
  boxF : W.heap[bf]? = some (.cells #[fv] 51 (0, 0))
  rowS : Kd.R Kd.bool 4 W W0.heap.size (fun _ => True) vS s
  rowO : Kd.R (Kd.int .i64) 3 W W0.heap.size (fun _ => True) vO o

theorem heap_other (W : World) (g j : Nat) (v : Value) (b : Nat) (hb : b ≠ g) : (W.setCell ⟨g, j, none⟩ v).heap[b]? = W.heap[b]? := Below.heap_setCell W ⟨g, j, none⟩ v b hb
theorem type_ne {W : World} {b g : Nat} {c c' : Array Value} {t t' : Nat} (h : W.heap[b]? = some (.cells c t (0, 0))) (h' : W.heap[g]? = some (.cells c' t' (0, 0))) (ht : t ≠ t') : b ≠ g := by
  rintro rfl
  rw [h] at h'
  injection h' with h'
  injection h' with _ h'
  exact ht h'
theorem Fs.drew {W0 W : World} {bs bo bf : Nat} {fv vS vO : Value} {s : List Bool} {o : List Int} (h : Fs W0 W bs bo bf fv vS vO s o) : Fs W0 W.drew bs bo bf fv vS vO s o :=
  ⟨h.below.drew, h.ls, h.lo, h.lf, h.boxS, h.boxO, h.boxF, Kd.R_drew h.rowS, Kd.R_drew h.rowO⟩
theorem Fs.setS {W0 W : World} {bs bo bf g n c : Nat} {fv vO : Value} {s : List Bool} {o : List Int} (h : Fs W0 W bs bo bf fv (.slice (some ⟨g, 0, none⟩) n c) vO s o) (hp : 0 < s.length) (j : Int) (x : Bool) :
    Fs W0 (W.setCell ⟨g, j.toNat, none⟩ (.bool x)) bs bo bf fv (.slice (some ⟨g, 0, none⟩) n c) vO (s.set j.toNat x) o := by
  obtain ⟨g', c', e, hb, hl, cells, hg⟩ := Kd.R_form h.rowS hp
  have : g' = g := by injection e with e _ _; injection e with e; injection e with e; exact e.symm
  subst this
  have hR := Kd.R_putg h.rowS j x
  exact ⟨below_set h.below hb, h.ls, h.lo, h.lf, (heap_other _ _ _ _ _ (type_ne h.boxS hg (by decide))).trans h.boxS, (heap_other _ _ _ _ _ (type_ne h.boxO hg (by decide))).trans h.boxO, (heap_other _ _ _ _ _ (type_ne h.boxF hg (by decide))).trans h.boxF, hR.1, Kd.R_over h.rowO h.rowS (by decide) hR.2⟩
theorem Fs.setO {W0 W : World} {bs bo bf g n c : Nat} {fv vS : Value} {s : List Bool} {o : List Int} (h : Fs W0 W bs bo bf fv vS (.slice (some ⟨g, 0, none⟩) n c) s o) (hp : 0 < o.length) (j : Int) (x : Int) :
    Fs W0 (W.setCell ⟨g, j.toNat, none⟩ (.int .i64 x)) bs bo bf fv vS (.slice (some ⟨g, 0, none⟩) n c) s (o.set j.toNat x) := by
  obtain ⟨g', c', e, hb, hl, cells, hg⟩ := Kd.R_form h.rowO hp
  have : g' = g := by injection e with e _ _; injection e with e; injection e with e; exact e.symm
  subst this
  have hR := Kd.R_putg h.rowO j x
  exact ⟨below_set h.below hb, h.ls, h.lo, h.lf, (heap_other _ _ _ _ _ (type_ne h.boxS hg (by decide))).trans h.boxS, (heap_other _ _ _ _ _ (type_ne h.boxO hg (by decide))).trans h.boxO, (heap_other _ _ _ _ _ (type_ne h.boxF hg (by decide))).trans h.boxF, Kd.R_over h.rowS h.rowO (by decide) hR.2, hR.1⟩
end Go.Proofs.Ytamloclgignfgaa.PA
