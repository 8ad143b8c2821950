/- Several texts of this claim, one behind the other. -/
import Derived.Test.YtlaneafplmbcnaaQ
import Derived.Test.YtlaneafplmbcnaaGg
import Derived.Test.YtlaneafplmbcnaaPOx49
import Derived.Test.YtlaneafplmbcnaaPOx53
namespace Go.Proofs.Ytlaneafplmbcnaa.PO
open Go.RowKit Go.Proofs.YtlaneafplmbcnaaW.PrintWords Go.Proofs.YtlaneafplmbcnaaW.PrintLast Go.Proofs.YtlaneafplmbcnaaW.PrintMore
set_option linter.unusedVariables false
set_option linter.unusedSimpArgs false

/-- A weight is noted. -/
def wS (i j : Int) (w : Int) (e : S33) : Int := if e.f0 = i ∧ e.f1 = j ∧ e.f2 > w then e.f2 else w
/-- The greatest weight between a row and a column; -1: there is no edge. -/
def wt (l : List S33) (i j : Int) : Int := l.foldl (wS i j) (-1)
theorem tabS_at {n m : Nat} {t : List (List Int)} (ht : Grid n m t) (e : S33) (he : 0 ≤ e.f0 ∧ e.f0 < (n : Int) ∧ 0 ≤ e.f1 ∧ e.f1 < (m : Int)) (i j : Int) (i0 : 0 ≤ i) (i1 : i < (n : Int)) (j0 : 0 ≤ j) (j1 : j < (m : Int)) :
    rd (rd_L3 (tabS t e) i) j = wS i j (rd (rd_L3 t i) j) e := by
  have hr := ht.row he.1 he.2.1
  have hl := ht.1
  unfold tabS wS
  by_cases c : e.f2 > rd (rd_L3 t e.f0) e.f1
  · rw [if_pos c, rd_L3_set t e.f0 i _ he.1 (by omega) i0]
    by_cases q : e.f0 = i
    · rw [if_pos q, rd_set _ e.f1 j _ he.2.2.1 (by omega) j0]
      by_cases q' : e.f1 = j
      · rw [if_pos q', if_pos ⟨q, q', by rw [← q, ← q']; exact c⟩]
      · rw [if_neg q', if_neg (fun h => q' h.2.1), q]
    · rw [if_neg q, if_neg (fun h => q h.1)]
  · rw [if_neg c]
    by_cases q : e.f0 = i ∧ e.f1 = j ∧ e.f2 > rd (rd_L3 t i) j
    · obtain ⟨q1, q2, q3⟩ := q; rw [q1, q2] at c; exact absurd q3 c
    · rw [if_neg q]
theorem tab_at_from {n m : Nat} (l : List S33) (hl : Edges n m l) : ∀ (t : List (List Int)), Grid n m t → ∀ i j : Int, 0 ≤ i → i < (n : Int) → 0 ≤ j → j < (m : Int) → rd (rd_L3 (l.foldl tabS t) i) j = l.foldl (wS i j) (rd (rd_L3 t i) j) := by
  induction l with
  | nil => intro t _ i j _ _ _ _; rfl
  | cons e l ih =>
    intro t ht i j i0 i1 j0 j1
    have he := hl e List.mem_cons_self
    show rd (rd_L3 (l.foldl tabS (tabS t e)) i) j = l.foldl (wS i j) (wS i j (rd (rd_L3 t i) j) e)
    rw [ih (fun x hx => hl x (List.mem_cons_of_mem _ hx)) _ (tabS_grid ht e ⟨he.1, he.2.1⟩) i j i0 i1 j0 j1, tabS_at ht e ⟨he.1, he.2.1, he.2.2.1, he.2.2.2.1⟩ i j i0 i1 j0 j1]
theorem tab_at {n m : Nat} {l : List S33} (hl : Edges n m l) {i j : Int} (i0 : 0 ≤ i) (i1 : i < (n : Int)) (j0 : 0 ≤ j) (j1 : j < (m : Int)) : rd (rd_L3 (tabL n m l) i) j = wt l i j := by
  unfold tabL wt
  rw [tab_at_from l hl _ (grid0 n m) i j i0 i1 j0 j1]
  congr 1
  unfold rd rd_L3
  simp only [List.getD_eq_getElem?_getD]
  rw [List.getElem?_replicate, if_pos (by omega)]
  simp only [Option.getD_some]
  rw [List.getElem?_replicate, if_pos (by omega)]; rfl
theorem wt_from (l : List S33) (i j : Int) (hl : ∀ e ∈ l, 0 ≤ e.f2) : ∀ w, 0 ≤ l.foldl (wS i j) w ↔ 0 ≤ w ∨ ∃ e ∈ l, e.f0 = i ∧ e.f1 = j := by
  induction l with
  | nil => intro w; simp
  | cons e l ih =>
    intro w
    have he := hl e List.mem_cons_self
    show 0 ≤ l.foldl (wS i j) (wS i j w e) ↔ _
    rw [ih (fun x hx => hl x (List.mem_cons_of_mem _ hx))]
    unfold wS
    constructor
    · rintro (h | ⟨x, hx, h⟩)
      · split at h
        · rename_i q; exact .inr ⟨e, List.mem_cons_self, q.1, q.2.1⟩
        · exact .inl h
      · exact .inr ⟨x, List.mem_cons_of_mem _ hx, h⟩
    · rintro (h | ⟨x, hx, h⟩)
      · left; split
        · exact he
        · exact h
      · rcases List.mem_cons.1 hx with rfl | hx
        · left
          by_cases q : x.f2 > w
          · rw [if_pos ⟨h.1, h.2, q⟩]; exact he
          · rw [if_neg (fun q' => q q'.2.2)]; omega
        · exact .inr ⟨x, hx, h⟩
theorem wt_nonneg {l : List S33} (hl : ∀ e ∈ l, 0 ≤ e.f2) (i j : Int) : 0 ≤ wt l i j ↔ ∃ e ∈ l, e.f0 = i ∧ e.f1 = j := by
  unfold wt
  rw [wt_from l i j hl]
  constructor
  · rintro (h | h)
    · omega
    · exact h
  · exact .inr
end Go.Proofs.Ytlaneafplmbcnaa.PO

namespace Go.Proofs.Ytlaneafplmbcnaa.PO
open Go.RowKit Go.Proofs.YtlaneafplmbcnaaW.PrintWords Go.Proofs.YtlaneafplmbcnaaW.PrintLast Go.Proofs.YtlaneafplmbcnaaW.PrintMore
set_option linter.unusedVariables false
set_option linter.unusedSimpArgs false

theorem wt_from_att (l : List S33) (i j : Int) : ∀ w, l.foldl (wS i j) w = w ∨ ∃ e ∈ l, e.f0 = i ∧ e.f1 = j ∧ e.f2 = l.foldl (wS i j) w := by
  induction l with
  | nil => intro w; exact .inl rfl
  | cons x l ih =>
    intro w
    show l.foldl (wS i j) (wS i j w x) = w ∨ ∃ e ∈ x :: l, e.f0 = i ∧ e.f1 = j ∧ e.f2 = l.foldl (wS i j) (wS i j w x)
    rcases ih (wS i j w x) with h | ⟨e, he, h⟩
    · rw [h]
      unfold wS
      by_cases q : x.f0 = i ∧ x.f1 = j ∧ x.f2 > w
      · rw [if_pos q]; exact .inr ⟨x, List.mem_cons_self, q.1, q.2.1, rfl⟩
      · rw [if_neg q]; exact .inl rfl
    · exact .inr ⟨e, List.mem_cons_of_mem _ he, h⟩
theorem wt_att {l : List S33} {i j : Int} (h : 0 ≤ wt l i j) : ∃ e ∈ l, e.f0 = i ∧ e.f1 = j ∧ e.f2 = wt l i j := by
  rcases wt_from_att l i j (-1) with h1 | h1
  · unfold wt at h; omega
  · exact h1
theorem wt_le {n m : Nat} {l : List S33} (hl : Edges n m l) (i j : Int) : wt l i j ≤ 100 := by
  by_cases h : 0 ≤ wt l i j
  · obtain ⟨e, he, _, _, h3⟩ := wt_att h
    have := hl e he
    omega
  · omega

/-- What is told is a whole matching. -/
structure Whole (n : Nat) (l : List S33) (told : List Int) : Prop where
  hn : n ≤ 64
  hl : l.length ≤ 4096
  hE : Edges n n l
  len : told.length = n
  rg : ∀ i : Int, 0 ≤ i → i < (n : Int) → 0 ≤ rd told i ∧ rd told i < (n : Int) ∧ 0 ≤ wt l i (rd told i)
  inj : ∀ i i' : Int, 0 ≤ i → i < i' → i' < (n : Int) → rd told i ≠ rd told i'

theorem any_isE {n m : Nat} {l : List S33} (hl : Edges n m l) (i j : Int) : l.any (isE i j) = true ↔ 0 ≤ wt l i j := by
  rw [wt_nonneg (fun e he => (hl e he).2.2.2.2.1), List.any_eq_true]
  constructor
  · rintro ⟨e, he, h⟩
    unfold isE at h
    split at h
    · rename_i q; exact ⟨e, he, q, of_decide_eq_true h⟩
    · cases h
  · rintro ⟨e, he, h0, h1⟩
    exact ⟨e, he, by unfold isE; rw [if_pos h0]; exact decide_eq_true h1⟩
theorem toldL_eq {n : Nat} {l : List S33} (hE : Edges n n l) : ∀ (js : List Int) (i : Nat) (s : List Bool) (u : List Int), i + js.length ≤ n → s.length = n → u.length = n → (∀ x : Int, 0 ≤ x → x < (n : Int) → (rdOf false s x = true ↔ rd u x = 1)) →
    toldL (n : Int) l js (i : Int) s = if js.all (fun j => decide (0 ≤ j)) = true then matL (tabL n n l) (n : Int) js i u else false := by
  intro js
  induction js with
  | nil => intro i s u _ _ _ _; simp [toldL, matL]
  | cons j js ih =>
    intro i s u hi hs hu hsu
    rw [List.length_cons] at hi
    unfold toldL matL
    by_cases c2 : j < 0
    · rw [if_pos c2]
      simp [show ¬ (0 ≤ j) by omega]
    rw [if_neg c2, List.all_cons, decide_eq_true (show 0 ≤ j by omega), Bool.true_and, if_neg (show ¬ j = -1 by omega), if_neg c2]
    by_cases c3 : j ≥ (n : Int)
    · rw [if_pos c3, if_pos c3]; split <;> rfl
    rw [if_neg c3, if_neg c3, tab_at hE (show (0 : Int) ≤ (i : Int) by omega) (by omega) (show 0 ≤ j by omega) (by omega)]
    have hsj := hsu j (by omega) (by omega)
    by_cases c4 : rd u j = 1
    · rw [if_pos (hsj.2 c4), if_pos c4]
      split <;> (try split) <;> rfl
    rw [if_neg (fun h => c4 (hsj.1 h)), if_neg c4]
    by_cases c5 : 0 ≤ wt l (i : Int) j
    · rw [if_pos ((any_isE hE _ _).2 c5), if_neg (show ¬ wt l (i : Int) j < 0 by omega)]
      exact ih (i + 1) (s.set j.toNat true) (u.set j.toNat 1) (by omega) (by simp [hs]) (by simp [hu]) (fun x x0 x1 => by
        rw [sn_set s j x (by omega) (by omega) x0, rd_set u j x 1 (by omega) (by omega) x0]
        by_cases e : j = x
        · rw [if_pos e, if_pos e]; simp
        · rw [if_neg e, if_neg e]; exact hsu x x0 x1)
    · rw [if_neg (fun h => c5 ((any_isE hE _ _).1 h)), if_pos (show wt l (i : Int) j < 0 by omega)]
      split <;> rfl
theorem rd_rep {n : Nat} {x : Int} {i : Int} (i0 : 0 ≤ i) (i1 : i < (n : Int)) : rd (List.replicate n x) i = x := by
  unfold rd; rw [List.getD_eq_getElem?_getD, List.getElem?_replicate, if_pos (by omega)]; rfl
theorem toldB_mat (a : Int) (l : List S33) (told : List Int) (hb : rightB a a l = true) (hl : (told.length : Int) = a) : toldB a l told = if told.all (fun j => decide (0 ≤ j)) = true then matL (tabL a.toNat a.toNat l) a told 0 (List.replicate a.toNat 0) else false := by
  unfold toldB
  rw [if_pos hb, if_pos hl]
  obtain ⟨⟨ha0, ha1, _, _, hlen⟩, hed⟩ := rightB_iff a a l hb
  have h := toldL_eq (n := a.toNat) (l := l) (fun e he => by have := hed e he; omega) told 0 (List.replicate a.toNat false) (List.replicate a.toNat 0) (by omega) (by simp) (by simp) (fun x x0 x1 => by
    rw [rd_rep x0 x1]
    unfold rdOf
    rw [List.getD_eq_getElem?_getD, List.getElem?_replicate, if_pos (by omega)]
    simp)
  rw [Int.toNat_of_nonneg ha0] at h
  exact h
theorem toldB_right {a : Int} {l : List S33} {told : List Int} (h : toldB a l told = true) : rightB a a l = true := by
  unfold toldB at h
  split at h
  · assumption
  · cases h
theorem toldB_whole {a : Int} {l : List S33} {told : List Int} (h : toldB a l told = true) : 0 ≤ a ∧ Whole a.toNat l told := by
  have hb := toldB_right h
  have hl : (told.length : Int) = a := by
    unfold toldB at h
    rw [if_pos hb] at h
    split at h
    · assumption
    · cases h
  rw [toldB_mat a l told hb hl] at h
  obtain ⟨⟨ha0, ha1, _, _, hlen⟩, hed⟩ := rightB_iff a a l hb
  have hE : Edges a.toNat a.toNat l := fun e he => by have := hed e he; omega
  split at h
  · rename_i hall
    have hall' : ∀ i : Int, 0 ≤ i → i < (told.length : Int) → 0 ≤ rd told i := fun i i0 i1 => of_decide_eq_true (List.all_eq_true.1 hall _ (rd_mem told i i0 i1))
    have h1 := matL_iff (tabL_grid l hE) told (by omega) told.length 0 (List.replicate a.toNat 0) (by omega) (by simp) (fun x h0 h1 => by
        rw [rd_rep h0 h1]
        constructor
        · intro h; cases h
        · rintro ⟨k, a, b, _⟩; omega)
    rw [List.drop_zero, Int.toNat_of_nonneg ha0] at h1
    obtain ⟨h2, h3⟩ := h1.1 h
    refine ⟨ha0, by omega, hlen, hE, by omega, fun i i0 i1 => ?_, fun i i' i0 ii i1 e => ?_⟩
    · have h4 := hall' i i0 (by omega)
      rcases h2 i (by omega) (by omega) with h5 | ⟨h5, h6, h7⟩
      · omega
      · rw [tab_at hE i0 (by omega) h5 (by omega)] at h7
        exact ⟨h5, by omega, h7⟩
    · have h4 := hall' i' (by omega) (by omega)
      have := h3 i i' i0 ii (by omega) (by omega) e
      omega
  · cases h

/-- Every column is someone's. -/
theorem nodup_le : ∀ (l s : List Int), l.Nodup → (∀ x ∈ l, x ∈ s) → l.length ≤ s.length := by
  intro l
  induction l with
  | nil => intro s _ _; simp
  | cons x l ih =>
    intro s hn hs
    have hx := hs x List.mem_cons_self
    have h1 := ih (s.erase x) (List.nodup_cons.1 hn).2 (fun y hy => (List.mem_erase_of_ne (by rintro rfl; exact (List.nodup_cons.1 hn).1 hy)).2 (hs y (List.mem_cons_of_mem _ hy)))
    rw [List.length_erase_of_mem hx] at h1
    have : 0 < s.length := List.length_pos_of_mem hx
    simp only [List.length_cons]
    omega
theorem Whole.onto {n : Nat} {l : List S33} {told : List Int} (T : Whole n l told) {j : Int} (j0 : 0 ≤ j) (j1 : j < (n : Int)) : ∃ i : Int, 0 ≤ i ∧ i < (n : Int) ∧ rd told i = j := by
  by_cases hj : j ∈ told
  · obtain ⟨k, hk, h⟩ := List.getElem_of_mem hj
    have hl := T.len
    refine ⟨(k : Int), by omega, by omega, ?_⟩
    unfold rd
    rw [List.getD_eq_getElem?_getD, Int.toNat_natCast, List.getElem?_eq_getElem hk, h]; rfl
  · exfalso
    have hnd : told.Nodup := by
      unfold List.Nodup
      rw [List.pairwise_iff_getElem]
      intro a b ha hb hab h
      have hl := T.len
      refine T.inj (a : Int) (b : Int) (by omega) (by omega) (by omega) ?_
      unfold rd
      rw [List.getD_eq_getElem?_getD, List.getD_eq_getElem?_getD, Int.toNat_natCast, Int.toNat_natCast, List.getElem?_eq_getElem ha, List.getElem?_eq_getElem hb, h]
    have h1 := nodup_le told (((List.range n).map (fun k : Nat => (k : Int))).erase j) hnd (fun x hx => by
      have hl := T.len
      obtain ⟨k, hk, h⟩ := List.getElem_of_mem hx
      have hr := T.rg (k : Int) (by omega) (by omega)
      have hrk : rd told (k : Int) = x := by
        unfold rd
        rw [List.getD_eq_getElem?_getD, Int.toNat_natCast, List.getElem?_eq_getElem hk, h]; rfl
      rw [hrk] at hr
      refine (List.mem_erase_of_ne (by rintro rfl; exact hj hx)).2 (List.mem_map.2 ⟨x.toNat, List.mem_range.2 (by omega), by omega⟩))
    have hmem : j ∈ (List.range n).map (fun k : Nat => (k : Int)) := List.mem_map.2 ⟨j.toNat, List.mem_range.2 (by omega), by omega⟩
    rw [List.length_erase_of_mem hmem, T.len] at h1
    simp at h1
    omega
end Go.Proofs.Ytlaneafplmbcnaa.PO

namespace Go.Proofs.Ytlaneafplmbcnaa.PO
open Go.RowKit Go.Proofs.YtlaneafplmbcnaaW.PrintWords Go.Proofs.YtlaneafplmbcnaaW.PrintLast Go.Proofs.YtlaneafplmbcnaaW.PrintMore
set_option linter.unusedVariables false
set_option linter.unusedSimpArgs false

theorem Told_l0 (a : Int) (l : List S33) (told : List Int) (hn : told.length ≤ 64) (t : List (List Int)) (b : Bool) (ht : Ev (fun k => orreryref19_Table.f k a a l) t) (hb : Ev (fun k => orreryref19_Matching.f k t a told) b) :
    ∀ (d i : Nat), i + d = told.length → Ev (fun k => orreryref20_Told.l0 k a l told told (told.length : Int) (i : Int)) (if (told.drop i).all (fun j => decide (0 ≤ j)) = true then b else false) := by
  intro d
  induction d with
  | zero =>
    intro i hi
    rw [List.drop_eq_nil_of_le (by omega)]
    refine Ev.step (f := fun k => (orreryref19_Table.f k a a l).bind fun t187 => ((orreryref19_Matching.f k t187 a told).bind fun t190 => (some t190))) (fun k => ?_) (Ev.bind ht (Ev.bind hb (Ev.now _)))
    simp only [orreryref20_Told.l0]; rw [if_neg (by omega)]
  | succ d ih =>
    intro i hi
    rw [drop_rdI (show i < told.length by omega)]
    generalize hx : rd told (i : Int) = x
    by_cases c : x < 0
    · rw [List.all_cons, decide_eq_false (show ¬ 0 ≤ x by omega), Bool.false_and, if_neg (by simp)]
      refine Ev.step (f := fun _ => some false) (fun k => ?_) (Ev.now _)
      simp only [orreryref20_Told.l0]
      rw [if_pos (by omega), if_pos (by omega), if_pos (by omega), hx, if_pos c]
    · rw [List.all_cons, decide_eq_true (show 0 ≤ x by omega), Bool.true_and]
      refine Ev.step (fun k => ?_) (ih (i + 1) (by omega))
      simp only [orreryref20_Told.l0]
      rw [if_pos (by omega), if_pos (by omega), if_pos (by omega), hx, if_neg c, w64 (by omega) (by omega), show (i : Int) + 1 = ((i + 1 : Nat) : Int) by omega]
theorem Ev_Told (a : Int) (l : List S33) (told : List Int) (hl : l.length ≤ 9223372036854775807) : Ev (fun k => orreryref20_Told.f k a l told) (toldB a l told) := by
  unfold orreryref20_Told.f
  have hR := Ev_Right a a l hl
  have hj : Ev (fun k => orreryref20_Told.j0 k a l told true) false := Ev.step (f := fun _ => some false) (fun k => by simp [orreryref20_Told.j0]) (Ev.now _)
  by_cases hb : rightB a a l = true
  · rw [hb] at hR
    refine Ev.bind hR ?_
    simp only [if_true]
    by_cases hl' : (told.length : Int) = a
    · rw [toldB_mat a l told hb hl']
      rw [show ((told.length : Int) != a) = false by simpa using hl']
      obtain ⟨⟨ha0, ha1, _, _, hlen⟩, hed⟩ := rightB_iff a a l hb
      have hE : Edges a.toNat a.toNat l := fun e he => by have := hed e he; omega
      have hM : Ev (fun k => orreryref19_Matching.f k (tabL a.toNat a.toNat l) a told) (matL (tabL a.toNat a.toNat l) a told 0 (List.replicate a.toNat 0)) := by
        unfold orreryref19_Matching.f
        have hG := tabL_grid l hE
        simp only [if_pos (show (told.length : Int) = ((tabL a.toNat a.toNat l).length : Int) by rw [hG.1]; omega), if_pos ha0, if_pos (show a.toNat ≤ 35184372088832 by omega)]
        have := Matching_l0 hG told (by omega) (by omega) told.length 0 (List.replicate a.toNat 0) (by omega) (by simp)
        rw [Int.toNat_of_nonneg ha0] at this
        simpa using this
      have := Told_l0 a l told (by omega) _ _ (Ev_Table hb) hM told.length 0 (by omega)
      rw [List.drop_zero] at this
      refine Ev.step (fun k => ?_) this
      simp [orreryref20_Told.j0]
    · have h2 : toldB a l told = false := by unfold toldB; rw [if_pos hb, if_neg hl']
      rw [h2, show ((told.length : Int) != a) = true by simpa using hl']
      exact hj
  · have hbf : rightB a a l = false := by simpa using hb
    have h2 : toldB a l told = false := by unfold toldB; rw [if_neg hb]
    rw [hbf] at hR
    rw [h2]
    refine Ev.bind hR ?_
    simp only [Bool.false_eq_true, if_false]
    exact hj

theorem Ints_l0 (l l' : List Int) (h : l = l') (hn : l.length ≤ 64) : ∀ (d i : Nat), i + d = l.length → Ev (fun k => orreryref17_Ints.l0 k l l' (l.length : Int) (i : Int)) true := by
  subst h
  intro d
  induction d with
  | zero =>
    intro i hi
    refine Ev.step (f := fun _ => some true) (fun k => ?_) (Ev.now _)
    simp only [orreryref17_Ints.l0]; rw [if_neg (by omega)]
  | succ d ih =>
    intro i hi
    refine Ev.step (fun k => ?_) (ih (i + 1) (by omega))
    simp only [orreryref17_Ints.l0]
    rw [if_pos (by omega), if_pos (by omega), if_pos (by omega), if_pos (by omega), if_pos trivial, w64 (by omega) (by omega), show (i : Int) + 1 = ((i + 1 : Nat) : Int) by omega]
theorem Ev_Ints (l : List Int) (hn : l.length ≤ 64) : Ev (fun k => orreryref17_Ints.f k l l) true := by
  unfold orreryref17_Ints.f
  simp only [if_true]
  exact Ints_l0 l l rfl hn l.length 0 (by omega)

end Go.Proofs.Ytlaneafplmbcnaa.PO
