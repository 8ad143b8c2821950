/- What Valid tells, and when a matching is told, in plain Lean. -/
import Derived.Test.YtamloclgignfgaaPAx16
import Derived.Test.YtamloclgignfgaaOa
namespace Go.Proofs.Ytamloclgignfgaa.PA
open Go.RowKit Go.Proofs.YtamloclgignfgaaW.PrintWords Go.Proofs.YtamloclgignfgaaW.PrintLast Go.Proofs.YtamloclgignfgaaW.PrintMore
set_option linter.unusedVariables false
set_option linter.unusedSimpArgs false

/-- A row of what is valid. -/
def RowV (W : Int → Int → Int) (n : Nat) (told c d : List Int) (i : Int) : Prop :=
  0 ≤ rd c i ∧ 0 ≤ rd d i ∧ rd d (rd told i) - rd c i = W i (rd told i) ∧ ∀ j : Int, 0 ≤ j → j < (n : Int) → 0 ≤ W i j → W i j ≤ rd d j - rd c i
def SmallL (n : Nat) (c : List Int) : Prop := c.length = n ∧ ∀ i : Int, 0 ≤ i → i < (n : Int) → -1000 ≤ rd c i ∧ rd c i ≤ 1000
theorem Valid_l1 {n : Nat} {l : List S40} {told : List Int} (T : Whole n l told) {c d : List Int} (hc : SmallL n c) (hd : SmallL n d) (i : Nat) (hi : i < n) : ∀ (r j : Nat), j + r = n →
    ((∀ j' : Int, (j : Int) ≤ j' → j' < (n : Int) → 0 ≤ wt l (i : Int) j' → wt l (i : Int) j' ≤ rd d j' - rd c (i : Int)) ∧ ∀ R, Ev (fun k => orreryref20_Valid.l0 k (tabL n n l) told c d (n : Int) ((i + 1 : Nat) : Int)) R → Ev (fun k => orreryref20_Valid.l1 k (tabL n n l) told c d (i : Int) (n : Int) (i : Int) (n : Int) (j : Int)) R) ∨
      ((∃ j' : Int, (j : Int) ≤ j' ∧ j' < (n : Int) ∧ 0 ≤ wt l (i : Int) j' ∧ rd d j' - rd c (i : Int) < wt l (i : Int) j') ∧ Ev (fun k => orreryref20_Valid.l1 k (tabL n n l) told c d (i : Int) (n : Int) (i : Int) (n : Int) (j : Int)) false) := by
  have hG := tabL_grid l T.hE
  have hn := T.hn
  have hrow := hG.row (i := (i : Int)) (by omega) (by omega)
  intro r
  induction r with
  | zero =>
    intro j hj
    refine .inl ⟨fun j' a b => by omega, fun R hR => Ev.step (fun k => ?_) hR⟩
    simp only [orreryref20_Valid.l1]
    rw [if_neg (by omega), w64 (by omega) (by omega), show (i : Int) + 1 = ((i + 1 : Nat) : Int) by omega]
  | succ r ih =>
    intro j hj
    have hta := tab_at T.hE (show (0 : Int) ≤ (i : Int) by omega) (show (i : Int) < (n : Int) by omega) (show (0 : Int) ≤ (j : Int) by omega) (show (j : Int) < (n : Int) by omega)
    have hcb := hc.2 (i : Int) (by omega) (by omega)
    have hdb := hd.2 (j : Int) (by omega) (by omega)
    by_cases c1 : 0 ≤ wt l (i : Int) (j : Int)
    · by_cases c2 : rd d (j : Int) - rd c (i : Int) < wt l (i : Int) (j : Int)
      · refine .inr ⟨⟨(j : Int), by omega, by omega, c1, c2⟩, Ev.step (f := fun _ => some false) (fun k => ?_) (Ev.now _)⟩
        simp only [orreryref20_Valid.l1]
        rw [if_pos (by omega), if_pos (by omega), if_pos (by rw [hG.1]; omega), if_pos (by omega), if_pos (by rw [hrow]; omega), hta, if_pos c1, if_pos (by rw [hd.1]; omega), if_pos (by rw [hc.1]; omega), w64 (by omega) (by omega), if_pos c2]
      · have key : ∀ R, Ev (fun k => orreryref20_Valid.l1 k (tabL n n l) told c d (i : Int) (n : Int) (i : Int) (n : Int) ((j + 1 : Nat) : Int)) R → Ev (fun k => orreryref20_Valid.l1 k (tabL n n l) told c d (i : Int) (n : Int) (i : Int) (n : Int) (j : Int)) R := fun R hR => Ev.step (fun k => by
          simp only [orreryref20_Valid.l1]
          rw [if_pos (by omega), if_pos (by omega), if_pos (by rw [hG.1]; omega), if_pos (by omega), if_pos (by rw [hrow]; omega), hta, if_pos c1, if_pos (by rw [hd.1]; omega), if_pos (by rw [hc.1]; omega), w64 (n := rd d (j : Int) - rd c (i : Int)) (by omega) (by omega), if_neg c2, w64 (by omega) (by omega), show (j : Int) + 1 = ((j + 1 : Nat) : Int) by omega]) hR
        rcases ih (j + 1) (by omega) with ⟨h1, h2⟩ | ⟨⟨j', a, b, w⟩, h2⟩
        · refine .inl ⟨fun j' a b w => ?_, fun R hR => key R (h2 R hR)⟩
          by_cases e : j' = (j : Int)
          · rw [e]; omega
          · exact h1 j' (by omega) b w
        · exact .inr ⟨⟨j', by omega, b, w⟩, key _ h2⟩
    · have key : ∀ R, Ev (fun k => orreryref20_Valid.l1 k (tabL n n l) told c d (i : Int) (n : Int) (i : Int) (n : Int) ((j + 1 : Nat) : Int)) R → Ev (fun k => orreryref20_Valid.l1 k (tabL n n l) told c d (i : Int) (n : Int) (i : Int) (n : Int) (j : Int)) R := fun R hR => Ev.step (fun k => by
        simp only [orreryref20_Valid.l1]
        rw [if_pos (by omega), if_pos (by omega), if_pos (by rw [hG.1]; omega), if_pos (by omega), if_pos (by rw [hrow]; omega), hta, if_neg (show ¬ wt l (i : Int) (j : Int) ≥ 0 by omega), w64 (by omega) (by omega), show (j : Int) + 1 = ((j + 1 : Nat) : Int) by omega]) hR
      rcases ih (j + 1) (by omega) with ⟨h1, h2⟩ | ⟨⟨j', a, b, w⟩, h2⟩
      · refine .inl ⟨fun j' a b w => ?_, fun R hR => key R (h2 R hR)⟩
        by_cases e : j' = (j : Int)
        · rw [e] at w; omega
        · exact h1 j' (by omega) b w
      · exact .inr ⟨⟨j', by omega, b, w⟩, key _ h2⟩
theorem Valid_l0 {n : Nat} {l : List S40} {told : List Int} (T : Whole n l told) {c d : List Int} (hc : SmallL n c) (hd : SmallL n d) : ∀ (r i : Nat), i + r = n →
    ((∀ i' : Int, (i : Int) ≤ i' → i' < (n : Int) → RowV (wt l) n told c d i') ∧ Ev (fun k => orreryref20_Valid.l0 k (tabL n n l) told c d (n : Int) (i : Int)) true) ∨
      ((∃ i' : Int, (i : Int) ≤ i' ∧ i' < (n : Int) ∧ ¬ RowV (wt l) n told c d i') ∧ Ev (fun k => orreryref20_Valid.l0 k (tabL n n l) told c d (n : Int) (i : Int)) false) := by
  have hG := tabL_grid l T.hE
  have hn := T.hn
  intro r
  induction r with
  | zero =>
    intro i hi
    refine .inl ⟨fun i' a b => by omega, Ev.step (f := fun _ => some true) (fun k => ?_) (Ev.now _)⟩
    simp only [orreryref20_Valid.l0]
    rw [if_neg (by omega)]
  | succ r ih =>
    intro i hi
    obtain ⟨r0, r1, r2⟩ := T.rg (i : Int) (by omega) (by omega)
    have hrow := hG.row (i := (i : Int)) (by omega) (by omega)
    have hta := tab_at T.hE (show (0 : Int) ≤ (i : Int) by omega) (show (i : Int) < (n : Int) by omega) r0 r1
    have hcb := hc.2 (i : Int) (by omega) (by omega)
    have hdb := hd.2 _ r0 r1
    have hlen := T.len
    have jt : ∀ f, Ev (fun k => orreryref20_Valid.j2 k (tabL n n l) told c d (i : Int) (n : Int) (i : Int) true) false := fun f : Unit => Ev.step (f := fun _ => some false) (fun k => by simp [orreryref20_Valid.j2]) (Ev.now _)
    have bad : ¬ RowV (wt l) n told c d (i : Int) → Ev (fun k => orreryref20_Valid.l0 k (tabL n n l) told c d (n : Int) (i : Int)) false → ((∀ i' : Int, (i : Int) ≤ i' → i' < (n : Int) → RowV (wt l) n told c d i') ∧ Ev (fun k => orreryref20_Valid.l0 k (tabL n n l) told c d (n : Int) (i : Int)) true) ∨
      ((∃ i' : Int, (i : Int) ≤ i' ∧ i' < (n : Int) ∧ ¬ RowV (wt l) n told c d i') ∧ Ev (fun k => orreryref20_Valid.l0 k (tabL n n l) told c d (n : Int) (i : Int)) false) := fun h1 h2 => .inr ⟨⟨(i : Int), by omega, by omega, h1⟩, h2⟩
    by_cases c1 : rd c (i : Int) < 0
    · refine bad (fun h => by have := h.1; omega) (Ev.step (fun k => ?_) (jt ()))
      simp only [orreryref20_Valid.l0]
      rw [if_pos (by omega), if_pos (by omega), if_pos (by rw [hc.1]; omega), if_pos c1]
    by_cases c2 : rd d (i : Int) < 0
    · refine bad (fun h => by have := h.2.1; omega) (Ev.step (fun k => ?_) (jt ()))
      simp only [orreryref20_Valid.l0]
      rw [if_pos (by omega), if_pos (by omega), if_pos (by rw [hc.1]; omega), if_neg c1, if_pos (by rw [hd.1]; omega), if_pos c2]
    have st : ∀ b R, (rd d (rd told (i : Int)) - rd c (i : Int) != wt l (i : Int) (rd told (i : Int))) = b → Ev (fun k => orreryref20_Valid.j2 k (tabL n n l) told c d (i : Int) (n : Int) (i : Int) b) R → Ev (fun k => orreryref20_Valid.l0 k (tabL n n l) told c d (n : Int) (i : Int)) R := fun b R hb hR => Ev.step (fun k => by
      simp only [orreryref20_Valid.l0]
      rw [if_pos (by omega), if_pos (by omega), if_pos (by rw [hc.1]; omega), if_neg c1, if_pos (by rw [hd.1]; omega), if_neg c2, if_pos (by omega), if_pos (by omega), if_pos (by rw [hd.1]; omega), if_pos (by rw [hG.1]; omega), if_pos (by rw [hrow]; omega), hta, w64 (by omega) (by omega), hb]) hR
    by_cases c3 : rd d (rd told (i : Int)) - rd c (i : Int) = wt l (i : Int) (rd told (i : Int))
    · have key : ∀ R, Ev (fun k => orreryref20_Valid.l1 k (tabL n n l) told c d (i : Int) (n : Int) (i : Int) (n : Int) ((0 : Nat) : Int)) R → Ev (fun k => orreryref20_Valid.l0 k (tabL n n l) told c d (n : Int) (i : Int)) R := fun R hR => st false R (by simpa using c3) (Ev.step (fun k => by
        simp only [orreryref20_Valid.j2]
        rw [if_neg (by simp), hG.1]; rfl) hR)
      rcases Valid_l1 T hc hd i (by omega) n 0 (by omega) with ⟨h1, h2⟩ | ⟨⟨j', a, b, w, w'⟩, h2⟩
      · have hV : RowV (wt l) n told c d (i : Int) := ⟨by omega, by omega, c3, fun j' a b w => h1 j' a b w⟩
        rcases ih (i + 1) (by omega) with ⟨h3, h4⟩ | ⟨⟨i', a, b, w⟩, h4⟩
        · refine .inl ⟨fun i' a b => ?_, key _ (h2 _ h4)⟩
          by_cases e : i' = (i : Int)
          · rw [e]; exact hV
          · exact h3 i' (by omega) b
        · exact .inr ⟨⟨i', by omega, b, w⟩, key _ (h2 _ h4)⟩
      · exact bad (fun h => by have := h.2.2.2 j' a b w; omega) (key _ h2)
    · exact bad (fun h => c3 h.2.2.1) (st true false (by simpa using c3) (jt ()))
theorem Ev_Valid {n : Nat} {l : List S40} {told : List Int} (T : Whole n l told) {c d : List Int} (hc : SmallL n c) (hd : SmallL n d) : ∃ b, Ev (fun k => orreryref20_Valid.f k (tabL n n l) told c d) b ∧ (b = true ↔ ∀ i : Int, 0 ≤ i → i < (n : Int) → RowV (wt l) n told c d i) := by
  have hG := tabL_grid l T.hE
  have hn := T.hn
  have start : ∀ R, Ev (fun k => orreryref20_Valid.l0 k (tabL n n l) told c d (n : Int) ((0 : Nat) : Int)) R → Ev (fun k => orreryref20_Valid.f k (tabL n n l) told c d) R := fun R hR => by
    unfold orreryref20_Valid.f
    rw [hG.1]
    simp only [if_pos (show (c.length : Int) = (n : Int) by rw [hc.1])]
    refine Ev.step (fun k => ?_) hR
    simp only [orreryref20_Valid.j0]
    rw [if_neg (by simp [hd.1]), hG.1]; rfl
  rcases Valid_l0 T hc hd n 0 (by omega) with ⟨h1, h2⟩ | ⟨⟨i, a, b, w⟩, h2⟩
  · exact ⟨true, start _ h2, fun _ i a b => h1 i a b, fun _ => rfl⟩
  · exact ⟨false, start _ h2, ⟨(fun h => by cases h), fun h => absurd (h i a b) w⟩⟩
theorem RowV.fit {n : Nat} {l : List S40} {told c d : List Int} (T : Whole n l told) (h : ∀ i : Int, 0 ≤ i → i < (n : Int) → RowV (wt l) n told c d i) : Fit (wt l) n told (rd c) (rd d) :=
  ⟨fun i a b => (h i a b).1, fun i a b => (h _ (T.rg i a b).1 (T.rg i a b).2.1).2.1, fun i a b => (h i a b).2.2.1, fun i j a b e f w => (h i a b).2.2.2 j e f w⟩
theorem Best.small {n : Nat} {l : List S40} {told c d : List Int} (T : Whole n l told) (h : Best (wt l) n told (some (c, d))) : SmallL n c ∧ SmallL n d ∧ ∀ i : Int, 0 ≤ i → i < (n : Int) → RowV (wt l) n told c d i := by
  obtain ⟨h1, h2, h3, h4, h5⟩ := h
  refine ⟨⟨h1, fun i a b => by have := h2 i a b; omega⟩, ⟨h3.1, fun j a b => ?_⟩, fun i a b => ⟨(h2 i a b).1, (h3.2 i a b).1, h4 i a b, fun j e f w => by have := (h3.2 j e f).2.1 i a b w; omega⟩⟩
  have h6 := (h3.2 j a b).1
  rcases (h3.2 j a b).2.2 with h7 | ⟨i, e, f, w, h7⟩
  · omega
  · have := h2 i e f
    have := wt_le T.hE i j
    omega

/-! ### when a whole matching is told -/
theorem right_of {a : Int} {l : List S40} (a0 : 0 ≤ a) (a1 : a ≤ 64) (hl : l.length ≤ 4096) (hE : Edges a.toNat a.toNat l) : rightB a a l = true := by
  unfold rightB
  rw [if_neg (by omega), if_neg (by omega), if_neg (by omega), if_neg (by omega), if_neg (by omega)]
  have : l.any (badE a a) = false := by
    rw [List.any_eq_false]
    intro e he
    have := hE e he
    unfold badE
    rw [if_neg (by omega), if_neg (by omega), if_neg (by omega), if_neg (by omega), if_neg (by omega)]
    simp; omega
  rw [this]; rfl
theorem toldB_of {a : Int} {l : List S40} {told : List Int} (a0 : 0 ≤ a) (T : Whole a.toNat l told) : toldB a l told = true := by
  have hn := T.hn
  have hlen := T.len
  have hG := tabL_grid l T.hE
  rw [toldB_mat a l told (right_of a0 (by omega) T.hl T.hE) (by omega)]
  rw [if_pos (List.all_eq_true.2 (fun x hx => by
    obtain ⟨k, hk, h⟩ := List.getElem_of_mem hx
    have hr := T.rg (k : Int) (by omega) (by omega)
    have hrk : rd told (k : Int) = x := by
      unfold rd
      rw [List.getD_eq_getElem?_getD, Int.toNat_natCast, List.getElem?_eq_getElem hk, h]; rfl
    rw [hrk] at hr
    exact decide_eq_true hr.1))]
  have h1 := matL_iff hG told (by omega) told.length 0 (List.replicate a.toNat 0) (by omega) (by simp) (fun x h0 h1 => by
        rw [rd_rep h0 h1]
        constructor
        · intro h; cases h
        · rintro ⟨k, a, b, _⟩; omega)
  rw [List.drop_zero, Int.toNat_of_nonneg a0] at h1
  refine h1.2 ⟨fun k k0 k1 => ?_, fun k k' k0 kk _ k1 e => absurd e (T.inj k k' k0 kk (by omega))⟩
  obtain ⟨r0, r1, r2⟩ := T.rg k (by omega) (by omega)
  right
  refine ⟨r0, by omega, ?_⟩
  rw [tab_at T.hE (by omega) (by omega) r0 r1]; exact r2
end Go.Proofs.Ytamloclgignfgaa.PA
