/- Offsets, in plain Lean: weights, whole matchings, what the least offsets are. -/
import Derived.Test.YtamloclgignfgaaM
import Derived.Test.YtamloclgignfgaaGg
namespace Go.Proofs.Ytamloclgignfgaa.PA
open Go.RowKit Go.Proofs.YtamloclgignfgaaW.PrintWords Go.Proofs.YtamloclgignfgaaW.PrintLast Go.Proofs.YtamloclgignfgaaW.PrintMore
set_option linter.unusedVariables false
set_option linter.unusedSimpArgs false

theorem wt_from_ge (l : List S40) (i j : Int) : ∀ w, w ≤ l.foldl (wS i j) w ∧ ∀ e ∈ l, e.f0 = i → e.f1 = j → e.f2 ≤ l.foldl (wS i j) w := by
  induction l with
  | nil => intro w; exact ⟨Int.le_refl _, fun e he => by cases he⟩
  | cons x l ih =>
    intro w
    obtain ⟨h1, h2⟩ := ih (wS i j w x)
    have h3 : w ≤ wS i j w x := by unfold wS; split <;> omega
    refine ⟨by show w ≤ l.foldl (wS i j) (wS i j w x); omega, fun e he e0 e1 => ?_⟩
    show e.f2 ≤ l.foldl (wS i j) (wS i j w x)
    rcases List.mem_cons.1 he with rfl | he
    · have h4 : e.f2 ≤ wS i j w e := by
        unfold wS
        by_cases q : e.f2 > w
        · rw [if_pos ⟨e0, e1, q⟩]; omega
        · rw [if_neg (fun h => q h.2.2)]; omega
      omega
    · exact h2 e he e0 e1
theorem wt_from_att (l : List S40) (i j : Int) : ∀ w, l.foldl (wS i j) w = w ∨ ∃ e ∈ l, e.f0 = i ∧ e.f1 = j ∧ e.f2 = l.foldl (wS i j) w := by
  induction l with
  | nil => intro w; exact .inl rfl
  | cons x l ih =>
    intro w
    show l.foldl (wS i j) (wS i j w x) = w ∨ ∃ e ∈ x :: l, e.f0 = i ∧ e.f1 = j ∧ e.f2 = l.foldl (wS i j) (wS i j w x)
    rcases ih (wS i j w x) with h | ⟨e, he, h⟩
    · rw [h]
      unfold wS
      by_cases q : x.f0 = i ∧ x.f1 = j ∧ x.f2 > w
      · rw [if_pos q]; exact .inr ⟨x, List.mem_cons_self, q.1, q.2.1, rfl⟩
      · rw [if_neg q]; exact .inl rfl
    · exact .inr ⟨e, List.mem_cons_of_mem _ he, h⟩
theorem wt_ge {l : List S40} {e : S40} (he : e ∈ l) : e.f2 ≤ wt l e.f0 e.f1 := (wt_from_ge l e.f0 e.f1 (-1)).2 e he rfl rfl
theorem wt_att {l : List S40} {i j : Int} (h : 0 ≤ wt l i j) : ∃ e ∈ l, e.f0 = i ∧ e.f1 = j ∧ e.f2 = wt l i j := by
  rcases wt_from_att l i j (-1) with h1 | h1
  · unfold wt at h; omega
  · exact h1
theorem wt_le {n m : Nat} {l : List S40} (hl : Edges n m l) (i j : Int) : wt l i j ≤ 100 := by
  by_cases h : 0 ≤ wt l i j
  · obtain ⟨e, he, _, _, h3⟩ := wt_att h
    have := hl e he
    omega
  · omega

/-- What is told is a whole matching. -/
structure Whole (n : Nat) (l : List S40) (told : List Int) : Prop where
  hn : n ≤ 64
  hl : l.length ≤ 4096
  hE : Edges n n l
  len : told.length = n
  rg : ∀ i : Int, 0 ≤ i → i < (n : Int) → 0 ≤ rd told i ∧ rd told i < (n : Int) ∧ 0 ≤ wt l i (rd told i)
  inj : ∀ i i' : Int, 0 ≤ i → i < i' → i' < (n : Int) → rd told i ≠ rd told i'

theorem any_isE {n m : Nat} {l : List S40} (hl : Edges n m l) (i j : Int) : l.any (isE i j) = true ↔ 0 ≤ wt l i j := by
  rw [wt_nonneg (fun e he => (hl e he).2.2.2.2.1), List.any_eq_true]
  constructor
  · rintro ⟨e, he, h⟩
    unfold isE at h
    split at h
    · rename_i q; exact ⟨e, he, q, of_decide_eq_true h⟩
    · cases h
  · rintro ⟨e, he, h0, h1⟩
    exact ⟨e, he, by unfold isE; rw [if_pos h0]; exact decide_eq_true h1⟩
theorem toldL_eq {n : Nat} {l : List S40} (hE : Edges n n l) : ∀ (js : List Int) (i : Nat) (s : List Bool) (u : List Int), i + js.length ≤ n → s.length = n → u.length = n → (∀ x : Int, 0 ≤ x → x < (n : Int) → (rdOf false s x = true ↔ rd u x = 1)) →
    toldL (n : Int) l js (i : Int) s = if js.all (fun j => decide (0 ≤ j)) = true then matL (tabL n n l) (n : Int) js i u else false := by
  intro js
  induction js with
  | nil => intro i s u _ _ _ _; simp [toldL, matL]
  | cons j js ih =>
    intro i s u hi hs hu hsu
    rw [List.length_cons] at hi
    unfold toldL matL
    by_cases c2 : j < 0
    · rw [if_pos c2]
      simp [show ¬ (0 ≤ j) by omega]
    rw [if_neg c2, List.all_cons, decide_eq_true (show 0 ≤ j by omega), Bool.true_and, if_neg (show ¬ j = -1 by omega), if_neg c2]
    by_cases c3 : j ≥ (n : Int)
    · rw [if_pos c3, if_pos c3]; split <;> rfl
    rw [if_neg c3, if_neg c3, tab_at hE (show (0 : Int) ≤ (i : Int) by omega) (by omega) (show 0 ≤ j by omega) (by omega)]
    have hsj := hsu j (by omega) (by omega)
    by_cases c4 : rd u j = 1
    · rw [if_pos (hsj.2 c4), if_pos c4]
      split <;> (try split) <;> rfl
    rw [if_neg (fun h => c4 (hsj.1 h)), if_neg c4]
    by_cases c5 : 0 ≤ wt l (i : Int) j
    · rw [if_pos ((any_isE hE _ _).2 c5), if_neg (show ¬ wt l (i : Int) j < 0 by omega)]
      exact ih (i + 1) (s.set j.toNat true) (u.set j.toNat 1) (by omega) (by simp [hs]) (by simp [hu]) (fun x x0 x1 => by
        rw [sn_set s j x (by omega) (by omega) x0, rd_set u j x 1 (by omega) (by omega) x0]
        by_cases e : j = x
        · rw [if_pos e, if_pos e]; simp
        · rw [if_neg e, if_neg e]; exact hsu x x0 x1)
    · rw [if_neg (fun h => c5 ((any_isE hE _ _).1 h)), if_pos (show wt l (i : Int) j < 0 by omega)]
      split <;> rfl
theorem rd_rep {n : Nat} {x : Int} {i : Int} (i0 : 0 ≤ i) (i1 : i < (n : Int)) : rd (List.replicate n x) i = x := by
  unfold rd; rw [List.getD_eq_getElem?_getD, List.getElem?_replicate, if_pos (by omega)]; rfl
theorem toldB_mat (a : Int) (l : List S40) (told : List Int) (hb : rightB a a l = true) (hl : (told.length : Int) = a) : toldB a l told = if told.all (fun j => decide (0 ≤ j)) = true then matL (tabL a.toNat a.toNat l) a told 0 (List.replicate a.toNat 0) else false := by
  unfold toldB
  rw [if_pos hb, if_pos hl]
  obtain ⟨⟨ha0, ha1, _, _, hlen⟩, hed⟩ := rightB_iff a a l hb
  have h := toldL_eq (n := a.toNat) (l := l) (fun e he => by have := hed e he; omega) told 0 (List.replicate a.toNat false) (List.replicate a.toNat 0) (by omega) (by simp) (by simp) (fun x x0 x1 => by
    rw [rd_rep x0 x1]
    unfold rdOf
    rw [List.getD_eq_getElem?_getD, List.getElem?_replicate, if_pos (by omega)]
    simp)
  rw [Int.toNat_of_nonneg ha0] at h
  exact h
theorem toldB_right {a : Int} {l : List S40} {told : List Int} (h : toldB a l told = true) : rightB a a l = true := by
  unfold toldB at h
  split at h
  · assumption
  · cases h
theorem toldB_whole {a : Int} {l : List S40} {told : List Int} (h : toldB a l told = true) : 0 ≤ a ∧ Whole a.toNat l told := by
  have hb := toldB_right h
  have hl : (told.length : Int) = a := by
    unfold toldB at h
    rw [if_pos hb] at h
    split at h
    · assumption
    · cases h
  rw [toldB_mat a l told hb hl] at h
  obtain ⟨⟨ha0, ha1, _, _, hlen⟩, hed⟩ := rightB_iff a a l hb
  have hE : Edges a.toNat a.toNat l := fun e he => by have := hed e he; omega
  split at h
  · rename_i hall
    have hall' : ∀ i : Int, 0 ≤ i → i < (told.length : Int) → 0 ≤ rd told i := fun i i0 i1 => of_decide_eq_true (List.all_eq_true.1 hall _ (rd_mem told i i0 i1))
    have h1 := matL_iff (tabL_grid l hE) told (by omega) told.length 0 (List.replicate a.toNat 0) (by omega) (by simp) (fun x h0 h1 => by
        rw [rd_rep h0 h1]
        constructor
        · intro h; cases h
        · rintro ⟨k, a, b, _⟩; omega)
    rw [List.drop_zero, Int.toNat_of_nonneg ha0] at h1
    obtain ⟨h2, h3⟩ := h1.1 h
    refine ⟨ha0, by omega, hlen, hE, by omega, fun i i0 i1 => ?_, fun i i' i0 ii i1 e => ?_⟩
    · have h4 := hall' i i0 (by omega)
      rcases h2 i (by omega) (by omega) with h5 | ⟨h5, h6, h7⟩
      · omega
      · rw [tab_at hE i0 (by omega) h5 (by omega)] at h7
        exact ⟨h5, by omega, h7⟩
    · have h4 := hall' i' (by omega) (by omega)
      have := h3 i i' i0 ii (by omega) (by omega) e
      omega
  · cases h

/-! ### the offsets -/
/-- A column's offset so far: the greatest of the first i rows' sums, or nought. -/
def ColP (W : Int → Int → Int) (c : List Int) (x j i : Int) : Prop :=
  0 ≤ x ∧ (∀ i' : Int, 0 ≤ i' → i' < i → 0 ≤ W i' j → W i' j + rd c i' ≤ x) ∧ (x = 0 ∨ ∃ i' : Int, 0 ≤ i' ∧ i' < i ∧ 0 ≤ W i' j ∧ x = W i' j + rd c i')
def IsD (W : Int → Int → Int) (n : Nat) (c d : List Int) : Prop := d.length = n ∧ ∀ j : Int, 0 ≤ j → j < (n : Int) → ColP W c (rd d j) j (n : Int)
theorem ColP.zero (W : Int → Int → Int) (c : List Int) (j : Int) : ColP W c 0 j 0 := ⟨Int.le_refl _, fun i' _ _ _ => by omega, .inl rfl⟩
theorem ColP.up {W : Int → Int → Int} {c : List Int} {x j i : Int} (h : ColP W c x j i) (i0 : 0 ≤ i) (c0 : 0 ≤ W i j) (hx : x < W i j + rd c i) : ColP W c (W i j + rd c i) j (i + 1) := by
  obtain ⟨h1, h2, h3⟩ := h
  refine ⟨by omega, fun i' a b w => ?_, .inr ⟨i, i0, by omega, c0, rfl⟩⟩
  by_cases e : i' = i
  · subst e; omega
  · have := h2 i' a (by omega) w; omega
theorem ColP.stay {W : Int → Int → Int} {c : List Int} {x j i : Int} (h : ColP W c x j i) (i0 : 0 ≤ i) (hx : W i j < 0 ∨ W i j + rd c i ≤ x) : ColP W c x j (i + 1) := by
  obtain ⟨h1, h2, h3⟩ := h
  refine ⟨h1, fun i' a b w => ?_, ?_⟩
  · by_cases e : i' = i
    · subst e; omega
    · exact h2 i' a (by omega) w
  · rcases h3 with h3 | ⟨i', a, b, w⟩
    · exact .inl h3
    · exact .inr ⟨i', a, by omega, w⟩
theorem ColP.le {W : Int → Int → Int} {c c' : List Int} {x x' j : Int} {n : Nat} (hc : ∀ i : Int, 0 ≤ i → i < (n : Int) → rd c i ≤ rd c' i) (h : ColP W c x j (n : Int)) (h' : ColP W c' x' j (n : Int)) : x ≤ x' := by
  rcases h.2.2 with h3 | ⟨i, a, b, w, h3⟩
  · have := h'.1; omega
  · have h4 := h'.2.1 i a b w
    have := hc i a b
    omega
theorem ext_rd {l l' : List Int} {n : Nat} (h : l.length = n) (h' : l'.length = n) (e : ∀ i : Int, 0 ≤ i → i < (n : Int) → rd l i = rd l' i) : l = l' := by
  refine List.ext_getElem (by omega) (fun k k1 k2 => ?_)
  have := e (k : Int) (by omega) (by omega)
  unfold rd at this
  rw [List.getD_eq_getElem?_getD, List.getD_eq_getElem?_getD, Int.toNat_natCast, List.getElem?_eq_getElem k1, List.getElem?_eq_getElem k2] at this
  exact this
theorem IsD.one {W : Int → Int → Int} {n : Nat} {c d d' : List Int} (h : IsD W n c d) (h' : IsD W n c d') : d = d' :=
  ext_rd h.1 h'.1 (fun j j0 j1 => Int.le_antisymm (ColP.le (fun _ _ _ => Int.le_refl _) (h.2 j j0 j1) (h'.2 j j0 j1)) (ColP.le (fun _ _ _ => Int.le_refl _) (h'.2 j j0 j1) (h.2 j j0 j1)))

/-- Offsets that fit. -/
structure Fit (W : Int → Int → Int) (n : Nat) (told : List Int) (c d : Int → Int) : Prop where
  c0 : ∀ i : Int, 0 ≤ i → i < (n : Int) → 0 ≤ c i
  d0 : ∀ i : Int, 0 ≤ i → i < (n : Int) → 0 ≤ d (rd told i)
  eq : ∀ i : Int, 0 ≤ i → i < (n : Int) → d (rd told i) - c i = W i (rd told i)
  le : ∀ i j : Int, 0 ≤ i → i < (n : Int) → 0 ≤ j → j < (n : Int) → 0 ≤ W i j → W i j ≤ d j - c i

def outL : Option (List Int × List Int) → List Int × List Int × Bool
  | some (c, d) => (c, d, true)
  | none => ([], [], false)
def outO : Option (List Int × List Int) → List Int × List Int × Int
  | some (c, d) => (c, d, 0)
  | none => ([], [], 2)
/-- What is found: the least offsets that fit, or that none fit that are small. -/
def Best (W : Int → Int → Int) (n : Nat) (told : List Int) : Option (List Int × List Int) → Prop
  | some (c, d) => c.length = n ∧ (∀ i : Int, 0 ≤ i → i < (n : Int) → 0 ≤ rd c i ∧ rd c i ≤ 6) ∧ IsD W n c d ∧ (∀ i : Int, 0 ≤ i → i < (n : Int) → rd d (rd told i) - rd c i = W i (rd told i)) ∧
      ∀ more up, Fit W n told more up → ∀ i : Int, 0 ≤ i → i < (n : Int) → rd c i ≤ more i
  | none => ∀ more up, Fit W n told more up → ∃ i : Int, 0 ≤ i ∧ i < (n : Int) ∧ 6 < more i
theorem Fit.d_le {W : Int → Int → Int} {n : Nat} {told : List Int} {more up : Int → Int} (h : Fit W n told more up) {c d : List Int} (hd : IsD W n c d) (hc : ∀ i : Int, 0 ≤ i → i < (n : Int) → rd c i ≤ more i) (j : Int) (j0 : 0 ≤ j) (j1 : j < (n : Int)) (hj : 0 ≤ up j) : rd d j ≤ up j := by
  rcases (hd.2 j j0 j1).2.2 with h3 | ⟨i, a, b, w, h3⟩
  · omega
  · have h4 := h.le i j a b j0 j1 w
    have := hc i a b
    omega

/-- A sum of n numbers. -/
def sm (f : Int → Int) : Nat → Int
  | 0 => 0
  | k + 1 => sm f k + f (k : Int)
theorem sm_le {f g : Int → Int} : ∀ n : Nat, (∀ i : Int, 0 ≤ i → i < (n : Int) → f i ≤ g i) → sm f n ≤ sm g n := by
  intro n
  induction n with
  | zero => intro _; exact Int.le_refl _
  | succ n ih => intro h; have h1 := ih (fun i a b => h i a (by omega)); have h2 := h (n : Int) (by omega) (by omega); unfold sm; omega
theorem sm_lt {f g : Int → Int} : ∀ n : Nat, (∀ i : Int, 0 ≤ i → i < (n : Int) → f i ≤ g i) → ∀ i : Int, 0 ≤ i → i < (n : Int) → f i < g i → sm f n < sm g n := by
  intro n
  induction n with
  | zero => intro _ i a b; omega
  | succ n ih =>
    intro h i a b hi
    have h2 := h (n : Int) (by omega) (by omega)
    unfold sm
    by_cases e : i = (n : Int)
    · subst e
      have := sm_le n (fun i a b => h i a (by omega)); omega
    · have := ih (fun i a b => h i a (by omega)) i a (by omega) hi; omega
theorem sm_const (x : Int) : ∀ n : Nat, sm (fun _ => x) n = x * n := by
  intro n
  induction n with
  | zero => simp [sm]
  | succ n ih => unfold sm; rw [ih, Int.natCast_succ, Int.mul_add, Int.mul_one]

/-- Another list of numbers: what the offsets are next. -/
def nxt (W : Int → Int → Int) (n : Nat) (told d : List Int) : List Int := (List.range n).map (fun i : Nat => rd d (rd told (i : Int)) - W (i : Int) (rd told (i : Int)))
theorem nxt_len (W : Int → Int → Int) (n : Nat) (told d : List Int) : (nxt W n told d).length = n := by simp [nxt]
theorem rd_nxt (W : Int → Int → Int) (n : Nat) (told d : List Int) {i : Int} (i0 : 0 ≤ i) (i1 : i < (n : Int)) : rd (nxt W n told d) i = rd d (rd told i) - W i (rd told i) := by
  unfold nxt
  conv => lhs; unfold rd
  rw [List.getD_eq_getElem?_getD, List.getElem?_map, List.getElem?_range (by omega)]
  simp only [Option.map_some, Option.getD_some]
  rw [show ((i.toNat : Nat) : Int) = i by omega]
  rfl

/-! ### the edges' folds -/
def dE (c d : List Int) (e : S40) : List Int := d.set e.f1.toNat (mx (rd d e.f1) (e.f2 + rd c e.f0))
theorem mx_cases (a b : Int) : (a ≤ mx a b ∧ b ≤ mx a b) ∧ (mx a b = a ∨ mx a b = b) := by unfold mx; split <;> omega
theorem dE_fold {n : Nat} (c : List Int) : ∀ (es : List S40), Edges n n es → ∀ d : List Int, d.length = n → (es.foldl (dE c) d).length = n ∧ ∀ j : Int, 0 ≤ j → j < (n : Int) →
    rd d j ≤ rd (es.foldl (dE c) d) j ∧ (∀ e ∈ es, e.f1 = j → e.f2 + rd c e.f0 ≤ rd (es.foldl (dE c) d) j) ∧ (rd (es.foldl (dE c) d) j = rd d j ∨ ∃ e ∈ es, e.f1 = j ∧ rd (es.foldl (dE c) d) j = e.f2 + rd c e.f0) := by
  intro es
  induction es with
  | nil => intro _ d hd; exact ⟨hd, fun j _ _ => ⟨Int.le_refl _, (fun e he => by cases he), .inl rfl⟩⟩
  | cons e es ih =>
    intro hE d hd
    have he := hE e List.mem_cons_self
    obtain ⟨h1, h2⟩ := ih (fun x hx => hE x (List.mem_cons_of_mem _ hx)) (dE c d e) (by unfold dE; simp [hd])
    refine ⟨h1, fun j j0 j1 => ?_⟩
    obtain ⟨h3, h4, h5⟩ := h2 j j0 j1
    show rd d j ≤ rd (es.foldl (dE c) (dE c d e)) j ∧ (∀ x ∈ e :: es, x.f1 = j → x.f2 + rd c x.f0 ≤ rd (es.foldl (dE c) (dE c d e)) j) ∧ (rd (es.foldl (dE c) (dE c d e)) j = rd d j ∨ ∃ x ∈ e :: es, x.f1 = j ∧ rd (es.foldl (dE c) (dE c d e)) j = x.f2 + rd c x.f0)
    generalize rd (es.foldl (dE c) (dE c d e)) j = y at h3 h4 h5 ⊢
    have h6 : rd (dE c d e) j = if e.f1 = j then mx (rd d e.f1) (e.f2 + rd c e.f0) else rd d j := by unfold dE; exact rd_set d e.f1 j _ he.2.2.1 (by omega) j0
    have hm := mx_cases (rd d e.f1) (e.f2 + rd c e.f0)
    by_cases q : e.f1 = j
    · rw [if_pos q] at h6
      refine ⟨by rw [← q]; omega, fun x hx hxj => ?_, ?_⟩
      · rcases List.mem_cons.1 hx with rfl | hx
        · omega
        · exact h4 x hx hxj
      · rcases h5 with h5 | ⟨x, hx, h5⟩
        · rcases hm.2 with hm2 | hm2
          · left; rw [h5, h6, hm2, q]
          · exact .inr ⟨e, List.mem_cons_self, q, by rw [h5, h6, hm2]⟩
        · exact .inr ⟨x, List.mem_cons_of_mem _ hx, h5⟩
    · rw [if_neg q] at h6
      refine ⟨by omega, fun x hx hxj => ?_, ?_⟩
      · rcases List.mem_cons.1 hx with rfl | hx
        · exact absurd hxj q
        · exact h4 x hx hxj
      · rcases h5 with h5 | ⟨x, hx, h5⟩
        · left; rw [h5, h6]
        · exact .inr ⟨x, List.mem_cons_of_mem _ hx, h5⟩
theorem dE_isD {n : Nat} {l : List S40} (hE : Edges n n l) {c d d' : List Int} (hd : d.length = n) (hd' : IsD (wt l) n c d') (h : ∀ j : Int, 0 ≤ j → j < (n : Int) → 0 ≤ rd d j ∧ rd d j ≤ rd d' j) : l.foldl (dE c) d = d' := by
  obtain ⟨h1, h2⟩ := dE_fold c l hE d hd
  refine ext_rd h1 hd'.1 (fun j j0 j1 => ?_)
  obtain ⟨h3, h4, h5⟩ := h2 j j0 j1
  obtain ⟨h6, h7, h8⟩ := hd'.2 j j0 j1
  have h9 := h j j0 j1
  refine Int.le_antisymm ?_ ?_
  · rcases h5 with h5 | ⟨e, he, e1, h5⟩
    · omega
    · have hh := hE e he
      have hw := wt_ge he
      rw [e1] at hw
      have := h7 e.f0 hh.1 hh.2.1 (by omega)
      omega
  · rcases h8 with h8 | ⟨i, a, b, w, h8⟩
    · omega
    · obtain ⟨e, he, e0, e1, e2⟩ := wt_att w
      have := h4 e he e1
      rw [e0] at this
      omega
def oE (told own : List Int) (e : S40) : List Int := if rd told e.f0 = e.f1 then own.set e.f0.toNat (mx (rd own e.f0) e.f2) else own
theorem oE_fold {n : Nat} (told : List Int) : ∀ (es : List S40), Edges n n es → ∀ d : List Int, d.length = n → (es.foldl (oE told) d).length = n ∧ ∀ i : Int, 0 ≤ i → i < (n : Int) →
    rd d i ≤ rd (es.foldl (oE told) d) i ∧ (∀ e ∈ es, e.f0 = i → e.f1 = rd told i → e.f2 ≤ rd (es.foldl (oE told) d) i) ∧ (rd (es.foldl (oE told) d) i = rd d i ∨ ∃ e ∈ es, e.f0 = i ∧ e.f1 = rd told i ∧ rd (es.foldl (oE told) d) i = e.f2) := by
  intro es
  induction es with
  | nil => intro _ d hd; exact ⟨hd, fun j _ _ => ⟨Int.le_refl _, (fun e he => by cases he), .inl rfl⟩⟩
  | cons e es ih =>
    intro hE d hd
    have he := hE e List.mem_cons_self
    have hl : (oE told d e).length = n := by unfold oE; split <;> simp [hd]
    obtain ⟨h1, h2⟩ := ih (fun x hx => hE x (List.mem_cons_of_mem _ hx)) (oE told d e) hl
    refine ⟨h1, fun i j0 j1 => ?_⟩
    obtain ⟨h3, h4, h5⟩ := h2 i j0 j1
    show rd d i ≤ rd (es.foldl (oE told) (oE told d e)) i ∧ (∀ x ∈ e :: es, x.f0 = i → x.f1 = rd told i → x.f2 ≤ rd (es.foldl (oE told) (oE told d e)) i) ∧ (rd (es.foldl (oE told) (oE told d e)) i = rd d i ∨ ∃ x ∈ e :: es, x.f0 = i ∧ x.f1 = rd told i ∧ rd (es.foldl (oE told) (oE told d e)) i = x.f2)
    generalize rd (es.foldl (oE told) (oE told d e)) i = y at h3 h4 h5 ⊢
    have h6 : rd (oE told d e) i = if e.f0 = i ∧ e.f1 = rd told i then mx (rd d i) e.f2 else rd d i := by
      unfold oE
      by_cases q : e.f0 = i
      · by_cases q' : rd told e.f0 = e.f1
        · rw [if_pos q', rd_set d e.f0 i _ he.1 (by omega) j0, if_pos q, if_pos ⟨q, by rw [← q, q']⟩, q]
        · rw [if_neg q', if_neg (fun h => q' (by rw [q]; exact h.2.symm))]
      · rw [if_neg (show ¬ (e.f0 = i ∧ e.f1 = rd told i) from fun h => q h.1)]
        split
        · rw [rd_set d e.f0 i _ he.1 (by omega) j0, if_neg q]
        · rfl
    have hm := mx_cases (rd d i) e.f2
    by_cases q : e.f0 = i ∧ e.f1 = rd told i
    · rw [if_pos q] at h6
      refine ⟨by omega, fun x hx hx0 hx1 => ?_, ?_⟩
      · rcases List.mem_cons.1 hx with rfl | hx
        · omega
        · exact h4 x hx hx0 hx1
      · rcases h5 with h5 | ⟨x, hx, h5⟩
        · rcases hm.2 with hm2 | hm2
          · left; rw [h5, h6, hm2]
          · exact .inr ⟨e, List.mem_cons_self, q.1, q.2, by rw [h5, h6, hm2]⟩
        · exact .inr ⟨x, List.mem_cons_of_mem _ hx, h5⟩
    · rw [if_neg q] at h6
      refine ⟨by omega, fun x hx hx0 hx1 => ?_, ?_⟩
      · rcases List.mem_cons.1 hx with rfl | hx
        · exact absurd ⟨hx0, hx1⟩ q
        · exact h4 x hx hx0 hx1
      · rcases h5 with h5 | ⟨x, hx, h5⟩
        · left; rw [h5, h6]
        · exact .inr ⟨x, List.mem_cons_of_mem _ hx, h5⟩
theorem oE_own {n : Nat} {l : List S40} {told : List Int} (T : Whole n l told) : (l.foldl (oE told) (List.replicate n 0)).length = n ∧ ∀ i : Int, 0 ≤ i → i < (n : Int) → rd (l.foldl (oE told) (List.replicate n 0)) i = wt l i (rd told i) := by
  obtain ⟨h1, h2⟩ := oE_fold told l T.hE (List.replicate n 0) (by simp)
  refine ⟨h1, fun i i0 i1 => ?_⟩
  obtain ⟨h3, h4, h5⟩ := h2 i i0 i1
  obtain ⟨_, _, hw⟩ := T.rg i i0 i1
  rw [rd_rep i0 i1] at h3 h5
  obtain ⟨e, he, e0, e1, e2⟩ := wt_att hw
  have h6 := h4 e he e0 e1
  refine Int.le_antisymm ?_ (by omega)
  rcases h5 with h5 | ⟨x, hx, x0, x1, h5⟩
  · omega
  · rw [h5, ← x0]
    have := wt_ge hx
    rw [x1, x0] at this
    rw [x0]; exact this

/-- Every column is someone's. -/
theorem nodup_le : ∀ (l s : List Int), l.Nodup → (∀ x ∈ l, x ∈ s) → l.length ≤ s.length := by
  intro l
  induction l with
  | nil => intro s _ _; simp
  | cons x l ih =>
    intro s hn hs
    have hx := hs x List.mem_cons_self
    have h1 := ih (s.erase x) (List.nodup_cons.1 hn).2 (fun y hy => (List.mem_erase_of_ne (by rintro rfl; exact (List.nodup_cons.1 hn).1 hy)).2 (hs y (List.mem_cons_of_mem _ hy)))
    rw [List.length_erase_of_mem hx] at h1
    have : 0 < s.length := List.length_pos_of_mem hx
    simp only [List.length_cons]
    omega
theorem Whole.onto {n : Nat} {l : List S40} {told : List Int} (T : Whole n l told) {j : Int} (j0 : 0 ≤ j) (j1 : j < (n : Int)) : ∃ i : Int, 0 ≤ i ∧ i < (n : Int) ∧ rd told i = j := by
  by_cases hj : j ∈ told
  · obtain ⟨k, hk, h⟩ := List.getElem_of_mem hj
    have hl := T.len
    refine ⟨(k : Int), by omega, by omega, ?_⟩
    unfold rd
    rw [List.getD_eq_getElem?_getD, Int.toNat_natCast, List.getElem?_eq_getElem hk, h]; rfl
  · exfalso
    have hnd : told.Nodup := by
      unfold List.Nodup
      rw [List.pairwise_iff_getElem]
      intro a b ha hb hab h
      have hl := T.len
      refine T.inj (a : Int) (b : Int) (by omega) (by omega) (by omega) ?_
      unfold rd
      rw [List.getD_eq_getElem?_getD, List.getD_eq_getElem?_getD, Int.toNat_natCast, Int.toNat_natCast, List.getElem?_eq_getElem ha, List.getElem?_eq_getElem hb, h]
    have h1 := nodup_le told (((List.range n).map (fun k : Nat => (k : Int))).erase j) hnd (fun x hx => by
      have hl := T.len
      obtain ⟨k, hk, h⟩ := List.getElem_of_mem hx
      have hr := T.rg (k : Int) (by omega) (by omega)
      have hrk : rd told (k : Int) = x := by
        unfold rd
        rw [List.getD_eq_getElem?_getD, Int.toNat_natCast, List.getElem?_eq_getElem hk, h]; rfl
      rw [hrk] at hr
      refine (List.mem_erase_of_ne (by rintro rfl; exact hj hx)).2 (List.mem_map.2 ⟨x.toNat, List.mem_range.2 (by omega), by omega⟩))
    have hmem : j ∈ (List.range n).map (fun k : Nat => (k : Int)) := List.mem_map.2 ⟨j.toNat, List.mem_range.2 (by omega), by omega⟩
    rw [List.length_erase_of_mem hmem, T.len] at h1
    simp at h1
    omega
end Go.Proofs.Ytamloclgignfgaa.PA
