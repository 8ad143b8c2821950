/- The heaviest matching is not bettered, in plain Lean. -/
import Derived.Test.YtamloclgignfgaaAk
import Derived.Test.YtamloclgignfgaaPAx23
namespace Go.Proofs.Ytamloclgignfgaa.PA
open Go.RowKit Go.Proofs.YtamloclgignfgaaW.PrintWords Go.Proofs.YtamloclgignfgaaW.PrintLast Go.Proofs.YtamloclgignfgaaW.PrintMore
set_option linter.unusedVariables false
set_option linter.unusedSimpArgs false

/-- What is won from a row to another one is bounded by their prices. -/
def FarE (p : Int → Int) (i k x : Int) : Prop := -1000000 ≤ x ∧ x ≤ 20000000000 ∧ (x = -1000000 ∨ x ≤ p i - p k)
def FarP (n i : Nat) (p : Int → Int) (far : List (List Int)) : Prop := far.length = i ∧ (∀ r ∈ far, r.length = n) ∧ ∀ a b : Int, 0 ≤ a → a < (i : Int) → 0 ≤ b → b < (n : Int) → FarE p a b (rd (rd_L3 far a) b)
theorem rdL3_app_lt {t : List (List Int)} {r : List Int} {i : Int} (i0 : 0 ≤ i) (i1 : i < (t.length : Int)) : rd_L3 (t ++ [r]) i = rd_L3 t i := by
  unfold rd_L3; rw [List.getD_eq_getElem?_getD, List.getD_eq_getElem?_getD, List.getElem?_append_left (by omega)]
theorem rdL3_app_eq {t : List (List Int)} {r : List Int} {i : Int} (h : i = (t.length : Int)) : rd_L3 (t ++ [r]) i = r := by
  unfold rd_L3; rw [List.getD_eq_getElem?_getD, List.getElem?_append_right (by omega), show i.toNat - t.length = 0 by omega]; rfl
theorem rdI_app_lt {t : List Int} {r : Int} {i : Int} (i0 : 0 ≤ i) (i1 : i < (t.length : Int)) : rd (t ++ [r]) i = rd t i := by
  unfold rd; rw [List.getD_eq_getElem?_getD, List.getD_eq_getElem?_getD, List.getElem?_append_left (by omega)]
theorem rdI_app_eq {t : List Int} {r : Int} {i : Int} (h : i = (t.length : Int)) : rd (t ++ [r]) i = r := by
  unfold rd; rw [List.getD_eq_getElem?_getD, List.getElem?_append_right (by omega), show i.toNat - t.length = 0 by omega]; rfl
theorem FarP.grid {n : Nat} {p : Int → Int} {far : List (List Int)} (h : FarP n n p far) : Grid n n far := ⟨h.1, h.2.1⟩
theorem FarP.set {n : Nat} {p : Int → Int} {far : List (List Int)} (h : FarP n n p far) {i k x : Int} (i0 : 0 ≤ i) (i1 : i < (n : Int)) (k0 : 0 ≤ k) (k1 : k < (n : Int)) (hx : FarE p i k x) : FarP n n p (far.set i.toNat ((rd_L3 far i).set k.toNat x)) := by
  have hr := h.grid.row i0 i1
  have hl := h.1
  refine ⟨by simp [h.1], fun r hr' => ?_, fun a b a0 a1 b0 b1 => ?_⟩
  · rcases List.mem_or_eq_of_mem_set hr' with h1 | h1
    · exact h.2.1 r h1
    · rw [h1, List.length_set]; exact hr
  · rw [rd_L3_set far i a _ i0 (by omega) a0]
    by_cases q : i = a
    · rw [if_pos q, rd_set _ k b _ k0 (by omega) b0]
      by_cases q' : k = b
      · rw [if_pos q', ← q, ← q']; exact hx
      · rw [if_neg q', q]; exact h.2.2 a b a0 a1 b0 b1
    · rw [if_neg q]; exact h.2.2 a b a0 a1 b0 b1

theorem better_l4 {n : Nat} (hn : n ≤ 64) {p : Int → Int} (hp : ∀ i : Int, 0 ≤ i → i < (n : Int) → -7680000000 ≤ p i ∧ p i ≤ 7680000000) (m i : Nat) (hm : m < n) (hi : i < n) (hc : ∀ far, FarP n n p far → Ev (fun f => orreryref19_Better.l3 f (n : Int) far (m : Int) ((i + 1 : Nat) : Int)) false) :
    ∀ (d k : Nat) (far : List (List Int)), k + d = n → FarP n n p far → Ev (fun f => orreryref19_Better.l4 f (n : Int) far (m : Int) (i : Int) (k : Int)) false := by
  intro d
  induction d with
  | zero =>
    intro k far hk hF
    refine Ev.step (fun f => ?_) (hc far hF)
    simp only [orreryref19_Better.l4]
    rw [if_neg (by omega), w64 (by omega) (by omega), show (i : Int) + 1 = ((i + 1 : Nat) : Int) by omega]
  | succ d ih =>
    intro k far hk hF
    have hl := hF.1
    have hri := hF.grid.row (i := (i : Int)) (by omega) (by omega)
    have hrm := hF.grid.row (i := (m : Int)) (by omega) (by omega)
    have e1 := hF.2.2 (i : Int) (m : Int) (by omega) (by omega) (by omega) (by omega)
    have e2 := hF.2.2 (m : Int) (k : Int) (by omega) (by omega) (by omega) (by omega)
    have e3 := hF.2.2 (i : Int) (k : Int) (by omega) (by omega) (by omega) (by omega)
    unfold FarE at e1 e2 e3
    have jf : Ev (fun f => orreryref19_Better.j6 f (n : Int) far (m : Int) (i : Int) (k : Int) false) false := by
      refine Ev.step (fun f => ?_) (ih (k + 1) far (by omega) hF)
      simp only [orreryref19_Better.j6]
      rw [if_neg (by simp)]
      by_cases q : (i : Int) = (k : Int)
      · rw [if_pos q, if_pos (by omega), if_pos (by omega), if_pos (by omega), if_pos (by omega), if_neg (by rw [← q] at e3 ⊢; omega), w64 (by omega) (by omega), show (k : Int) + 1 = ((k + 1 : Nat) : Int) by omega]
      · rw [if_neg q, w64 (by omega) (by omega), show (k : Int) + 1 = ((k + 1 : Nat) : Int) by omega]
    by_cases c1 : rd (rd_L3 far (i : Int)) (m : Int) > -500000
    · by_cases c2 : rd (rd_L3 far (m : Int)) (k : Int) > -500000
      · have hw : wrap64 (rd (rd_L3 far (i : Int)) (m : Int) + rd (rd_L3 far (m : Int)) (k : Int)) = rd (rd_L3 far (i : Int)) (m : Int) + rd (rd_L3 far (m : Int)) (k : Int) := w64 (by omega) (by omega)
        by_cases c3 : rd (rd_L3 far (i : Int)) (m : Int) + rd (rd_L3 far (m : Int)) (k : Int) > rd (rd_L3 far (i : Int)) (k : Int)
        · by_cases q0 : rd (rd_L3 far (i : Int)) (m : Int) + rd (rd_L3 far (m : Int)) (k : Int) ≤ 20000000000
          · have hx : FarE p (i : Int) (k : Int) (rd (rd_L3 far (i : Int)) (m : Int) + rd (rd_L3 far (m : Int)) (k : Int)) := ⟨by omega, q0, .inr (by omega)⟩
            have hF' := hF.set (i := (i : Int)) (k := (k : Int)) (by omega) (by omega) (by omega) (by omega) hx
            refine Ev.step (f := fun f => orreryref19_Better.j6 f (n : Int) far (m : Int) (i : Int) (k : Int) true) (fun f => ?_) (Ev.step (fun f => ?_) (ih (k + 1) _ (by omega) hF'))
            · simp only [orreryref19_Better.l4]
              rw [if_pos (by omega), if_pos (by omega), if_pos (by omega), if_pos (by omega), if_pos (by omega), if_pos c1, if_pos (by omega), if_pos (by omega), if_pos (by omega), if_pos c2, if_pos (by omega), hw, decide_eq_true c3]
            · simp only [orreryref19_Better.j6]
              rw [if_pos trivial, if_pos (by omega), if_pos (by omega), if_pos (by omega), if_pos (by omega), if_pos (by omega), if_pos (by omega), if_pos (by omega), if_pos (by omega), Option.bind_some, hw]
              by_cases q : (i : Int) = (k : Int)
              · have hr' : rd (rd_L3 (far.set (i : Int).toNat ((rd_L3 far (i : Int)).set (k : Int).toNat (rd (rd_L3 far (i : Int)) (m : Int) + rd (rd_L3 far (m : Int)) (k : Int)))) (i : Int)) (k : Int) ≤ 0 := by
                  have h5 := hF'.2.2 (i : Int) (k : Int) (by omega) (by omega) (by omega) (by omega)
                  unfold FarE at h5
                  rw [← q] at h5 ⊢
                  omega
                have hr2 := hF'.grid.row (i := (i : Int)) (by omega) (by omega)
                rw [if_pos q, if_pos (by omega), if_neg (by omega), w64 (n := (k : Int) + 1) (by omega) (by omega), show (k : Int) + 1 = ((k + 1 : Nat) : Int) by omega]
              · rw [if_neg q, w64 (n := (k : Int) + 1) (by omega) (by omega), show (k : Int) + 1 = ((k + 1 : Nat) : Int) by omega]
          · exfalso
            have h1 := hp (i : Int) (by omega) (by omega)
            have h2 := hp (k : Int) (by omega) (by omega)
            omega
        · refine Ev.step (fun f => ?_) jf
          simp only [orreryref19_Better.l4]
          rw [if_pos (by omega), if_pos (by omega), if_pos (by omega), if_pos (by omega), if_pos (by omega), if_pos c1, if_pos (by omega), if_pos (by omega), if_pos (by omega), if_pos c2, if_pos (by omega), hw, decide_eq_false c3]
      · refine Ev.step (fun f => ?_) jf
        simp only [orreryref19_Better.l4]
        rw [if_pos (by omega), if_pos (by omega), if_pos (by omega), if_pos (by omega), if_pos (by omega), if_pos c1, if_pos (by omega), if_pos (by omega), if_pos (by omega), if_neg c2]
    · refine Ev.step (fun f => ?_) jf
      simp only [orreryref19_Better.l4]
      rw [if_pos (by omega), if_pos (by omega), if_pos (by omega), if_pos (by omega), if_pos (by omega), if_neg c1]
theorem better_l3 {n : Nat} (hn : n ≤ 64) {p : Int → Int} (hp : ∀ i : Int, 0 ≤ i → i < (n : Int) → -7680000000 ≤ p i ∧ p i ≤ 7680000000) (m : Nat) (hm : m < n) (hc : ∀ far, FarP n n p far → Ev (fun f => orreryref19_Better.l2 f (n : Int) far ((m + 1 : Nat) : Int)) false) :
    ∀ (d i : Nat) (far : List (List Int)), i + d = n → FarP n n p far → Ev (fun f => orreryref19_Better.l3 f (n : Int) far (m : Int) (i : Int)) false := by
  intro d
  induction d with
  | zero =>
    intro i far hi hF
    refine Ev.step (fun f => ?_) (hc far hF)
    simp only [orreryref19_Better.l3]
    rw [if_neg (by omega), w64 (by omega) (by omega), show (m : Int) + 1 = ((m + 1 : Nat) : Int) by omega]
  | succ d ih =>
    intro i far hi hF
    refine Ev.step (fun f => ?_) (better_l4 hn hp m i hm (by omega) (fun far' h => ih (i + 1) far' (by omega) h) n 0 far (by omega) hF)
    simp only [orreryref19_Better.l3]
    rw [if_pos (by omega)]; rfl
theorem better_l2 {n : Nat} (hn : n ≤ 64) {p : Int → Int} (hp : ∀ i : Int, 0 ≤ i → i < (n : Int) → -7680000000 ≤ p i ∧ p i ≤ 7680000000) :
    ∀ (d m : Nat) (far : List (List Int)), m + d = n → FarP n n p far → Ev (fun f => orreryref19_Better.l2 f (n : Int) far (m : Int)) false := by
  intro d
  induction d with
  | zero =>
    intro m far hi hF
    refine Ev.step (f := fun _ => some false) (fun f => ?_) (Ev.now _)
    simp only [orreryref19_Better.l2]
    rw [if_neg (by omega)]
  | succ d ih =>
    intro m far hi hF
    refine Ev.step (fun f => ?_) (better_l3 hn hp m (by omega) (fun far' h => ih (m + 1) far' (by omega) h) n 0 far (by omega) hF)
    simp only [orreryref19_Better.l2]
    rw [if_pos (by omega)]; rfl
theorem better_l1 {n : Nat} {l : List S40} {L : List Int} {p q : Int → Int} (O : Opt n l L p q) (i : Nat) (hi : i < n) (far : List (List Int)) (hF : FarP n i p far)
    (hc : ∀ far, FarP n (i + 1) p far → Ev (fun f => orreryref19_Better.l0 f (tabL n n l) L (n : Int) far ((i + 1 : Nat) : Int)) false) :
    ∀ (d k : Nat) (row : List Int), k + d = n → row.length = k → (∀ b : Int, 0 ≤ b → b < (k : Int) → FarE p (i : Int) b (rd row b)) → Ev (fun f => orreryref19_Better.l1 f (tabL n n l) L (n : Int) far (i : Int) row (k : Int)) false := by
  have hn := O.T.hn
  have hE := O.T.hE
  have hG := tabL_grid l hE
  have hlen := O.T.len
  have hfl := hF.1
  intro d
  induction d with
  | zero =>
    intro k row hk hrl hro
    have : k = n := by omega
    subst this
    refine Ev.step (fun f => ?_) (hc (far ++ [row]) ⟨by simp [hfl], fun r hr => ?_, fun a b a0 a1 b0 b1 => ?_⟩)
    · simp only [orreryref19_Better.l1]
      rw [if_neg (by omega), if_pos (by omega), w64 (by omega) (by omega), show (i : Int) + 1 = ((i + 1 : Nat) : Int) by omega]
    · rcases List.mem_append.1 hr with h | h
      · exact hF.2.1 r h
      · rw [List.mem_singleton.1 h]; exact hrl
    · by_cases e : a = (i : Int)
      · rw [rdL3_app_eq (by rw [hfl]; exact e), e]; exact hro b b0 b1
      · rw [rdL3_app_lt a0 (by rw [hfl]; omega)]; exact hF.2.2 a b a0 (by omega) b0 b1
  | succ d ih =>
    intro k row hk hrl hro
    obtain ⟨r0, r1, r2⟩ := O.T.rg (k : Int) (by omega) (by omega)
    have hri := hG.row (i := (i : Int)) (by omega) (by omega)
    have hrk := hG.row (i := (k : Int)) (by omega) (by omega)
    have t1 := tab_at hE (show (0 : Int) ≤ (i : Int) by omega) (show (i : Int) < (n : Int) by omega) r0 r1
    have t2 := tab_at hE (show (0 : Int) ≤ (k : Int) by omega) (show (k : Int) < (n : Int) by omega) r0 r1
    have w1 := wt_le hE (i : Int) (rd L (k : Int))
    have w2 := wt_le hE (k : Int) (rd L (k : Int))
    have nx : ∀ x, FarE p (i : Int) (k : Int) x → Ev (fun f => orreryref19_Better.l1 f (tabL n n l) L (n : Int) far (i : Int) (row ++ [x]) ((k + 1 : Nat) : Int)) false := fun x hx => ih (k + 1) (row ++ [x]) (by omega) (by simp [hrl]) (fun b b0 b1 => by
      by_cases e : b = (k : Int)
      · rw [rdI_app_eq (by rw [hrl]; exact e), e]; exact hx
      · rw [rdI_app_lt b0 (by rw [hrl]; omega)]; exact hro b b0 (by omega))
    have h00 : ((i : Int) = (k : Int)) → FarE p (i : Int) (k : Int) 0 := fun e => ⟨by omega, by omega, .inr (by rw [e]; omega)⟩
    have hmm : FarE p (i : Int) (k : Int) (-1000000) := ⟨by omega, by omega, .inl rfl⟩
    have jf : Ev (fun f => orreryref19_Better.j2 f (tabL n n l) L (n : Int) far (i : Int) row (k : Int) (-1000000) false) false := by
      by_cases e : (i : Int) = (k : Int)
      · refine Ev.step (fun f => ?_) (nx 0 (h00 e))
        simp only [orreryref19_Better.j2]
        rw [if_neg (by simp), if_pos e, if_pos (by omega), w64 (n := (k : Int) + 1) (by omega) (by omega), show (k : Int) + 1 = ((k + 1 : Nat) : Int) by omega]
      · refine Ev.step (fun f => ?_) (nx _ hmm)
        simp only [orreryref19_Better.j2]
        rw [if_neg (by simp), if_neg e, if_pos (by omega), w64 (n := (k : Int) + 1) (by omega) (by omega), show (k : Int) + 1 = ((k + 1 : Nat) : Int) by omega]
    by_cases c1 : wt l (i : Int) (rd L (k : Int)) ≥ 0
    · have hle := O.le (i : Int) _ (by omega) (by omega) r0 r1 c1
      have hti := O.ti (k : Int) (by omega) (by omega)
      have st : ∀ b, ((i : Int) != (k : Int)) = b → Ev (fun f => orreryref19_Better.j2 f (tabL n n l) L (n : Int) far (i : Int) row (k : Int) (-1000000) b) false → Ev (fun f => orreryref19_Better.l1 f (tabL n n l) L (n : Int) far (i : Int) row (k : Int)) false := fun b hb h => Ev.step (fun f => by
        conv => lhs; unfold orreryref19_Better.l1
        rw [if_pos (by omega), if_pos (by omega), if_pos (by rw [hG.1]; omega), if_pos (by omega), if_pos (by omega), if_pos r0, if_pos (by rw [hri]; omega), t1, if_pos c1, hb]) h
      by_cases e : (i : Int) = (k : Int)
      · exact st false (by simpa using e) jf
      · refine st true (by simpa using e) (Ev.step (fun f => ?_) (nx (wt l (i : Int) (rd L (k : Int)) - wt l (k : Int) (rd L (k : Int))) ⟨by omega, by omega, .inr (by omega)⟩))
        conv => lhs; unfold orreryref19_Better.j2
        rw [if_pos rfl, if_pos (by omega), if_pos (by rw [hG.1]; omega), if_pos (by omega), if_pos (by omega), if_pos r0, if_pos (by rw [hri]; omega), if_pos (by rw [hG.1]; omega), if_pos (by rw [hrk]; omega), if_neg e, if_pos (by omega), t1, t2, w64 (n := wt l (i : Int) (rd L (k : Int)) - wt l (k : Int) (rd L (k : Int))) (by omega) (by omega), w64 (n := (k : Int) + 1) (by omega) (by omega), show (k : Int) + 1 = ((k + 1 : Nat) : Int) by omega]
    · refine Ev.step (fun f => ?_) jf
      conv => lhs; unfold orreryref19_Better.l1
      rw [if_pos (by omega), if_pos (by omega), if_pos (by rw [hG.1]; omega), if_pos (by omega), if_pos (by omega), if_pos r0, if_pos (by rw [hri]; omega), t1, if_neg c1]
theorem better_l0 {n : Nat} {l : List S40} {L : List Int} {p q : Int → Int} (O : Opt n l L p q) : ∀ (d i : Nat) (far : List (List Int)), i + d = n → FarP n i p far → Ev (fun f => orreryref19_Better.l0 f (tabL n n l) L (n : Int) far (i : Int)) false := by
  have hn := O.T.hn
  intro d
  induction d with
  | zero =>
    intro i far hi hF
    have : i = n := by omega
    subst this
    refine Ev.step (fun f => ?_) (better_l2 hn O.pb i 0 far (by omega) hF)
    simp only [orreryref19_Better.l0]
    rw [if_neg (by omega)]; rfl
  | succ d ih =>
    intro i far hi hF
    refine Ev.step (fun f => ?_) (better_l1 O i (by omega) far hF (fun far' h => ih (i + 1) far' (by omega) h) n 0 [] (by omega) rfl (fun b b0 b1 => by omega))
    simp only [orreryref19_Better.l0]
    rw [if_pos (by omega)]; rfl
theorem Ev_Better {n : Nat} {l : List S40} {L : List Int} {p q : Int → Int} (O : Opt n l L p q) : Ev (fun f => orreryref19_Better.f f (tabL n n l) L) false := by
  unfold orreryref19_Better.f
  rw [(tabL_grid l O.T.hE).1]
  exact better_l0 O n 0 [] (by omega) ⟨rfl, (fun r hr => by cases hr), fun a b a0 a1 => by omega⟩
end Go.Proofs.Ytamloclgignfgaa.PA
