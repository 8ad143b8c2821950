import Derived.Test.YtamloclgignfgaaPAx8
import Derived.Test.YtamloclgignfgaaQ
namespace Go.Proofs.Ytamloclgignfgaa.PA
open Go.RowKit Go.Proofs.YtamloclgignfgaaW.PrintWords Go.Proofs.YtamloclgignfgaaW.PrintLast Go.Proofs.YtamloclgignfgaaW.PrintMore
set_option linter.unusedVariables false
set_option linter.unusedSimpArgs false

/-! ### More: no way leads to a free column -/
/-- Out of the columns D no way leads: each has a row, and what that row has is in D, too. -/
def DeadIn (t : List (List Int)) (n m : Nat) (l : List Int) (D : Int → Prop) : Prop :=
  (∀ i, 0 ≤ i → i < (n : Int) → rd l i < 0 → ∀ j, 0 ≤ j → j < (m : Int) → 0 ≤ rd (rd_L3 t i) j → D j) ∧
    ∀ j, D j → 0 ≤ j ∧ ∃ i, 0 ≤ i ∧ i < (n : Int) ∧ rd l i = j ∧ ∀ j', 0 ≤ j' → j' < (m : Int) → 0 ≤ rd (rd_L3 t i) j' → D j'
def RowD (t : List (List Int)) (m : Nat) (D : Int → Prop) (i : Int) : Prop := ∀ j, 0 ≤ j → j < (m : Int) → 0 ≤ rd (rd_L3 t i) j → D j
/-- The rows that are reached so far. -/
def RI (t : List (List Int)) (n m : Nat) (D : Int → Prop) (reach : List Int) : Prop := reach.length = n ∧ ∀ i, 0 ≤ i → i < (n : Int) → rd reach i = 0 ∨ (rd reach i ≠ 0 ∧ RowD t m D i)
def OfI (t : List (List Int)) (n m : Nat) (D : Int → Prop) (of : List Int) : Prop := of.length = m ∧ (∀ x ∈ of, x < (n : Int)) ∧ ∀ j, D j → 0 ≤ rd of j ∧ RowD t m D (rd of j)
def MSt (t : List (List Int)) (n m : Nat) (D : Int → Prop) (c : Nat) (reach : List Int) (g : Bool) : Prop := RI t n m D reach ∧ reach.count 0 ≤ c ∧ (g = true → reach.count 0 < c)

theorem RI_set {t : List (List Int)} {n m : Nat} {D : Int → Prop} {reach : List Int} (h : RI t n m D reach) (i : Int) (h0 : 0 ≤ i) (h1 : i < (n : Int)) (hr : RowD t m D i) : RI t n m D (reach.set i.toNat 1) := by
  refine ⟨by simp [h.1], fun k k0 k1 => ?_⟩
  rw [rd_set reach i k 1 h0 (by rw [h.1]; exact h1) k0]
  by_cases e : i = k
  · rw [if_pos e]; right; exact ⟨by omega, by rw [← e]; exact hr⟩
  · rw [if_neg e]; exact h.2 k k0 k1

section
variable {t : List (List Int)} {n m : Nat} {D : Int → Prop} {of : List Int}
theorem More_l5 (ht : Grid n m t) (hm : m ≤ 64) (hof : OfI t n m D of) (c : Nat) (i : Int) (hi0 : 0 ≤ i) (hi1 : i < (n : Int)) (hrow : RowD t m D i)
    (hc : ∀ reach g, MSt t n m D c reach g → Ev (fun k => orreryref19_More.l4 k t (m : Int) reach of g (t.length : Int) (wrap64 (i + 1))) false) :
    ∀ (d j : Nat) (reach : List Int) (g : Bool), j + d = m → MSt t n m D c reach g → Ev (fun k => orreryref19_More.l5 k t (m : Int) reach of g i (j : Int) (t.length : Int) i) false := by
  intro d
  induction d with
  | zero =>
    intro j reach g hj hst
    refine Ev.step (fun k => ?_) (hc reach g hst)
    simp only [orreryref19_More.l5]
    rw [if_neg (by omega)]
  | succ d ih =>
    intro j reach g hj hst
    have hgr := ht.row hi0 hi1
    have hlen := ht.1
    have hrl := hst.1.1
    have pre : ∀ k, orreryref19_More.l5 (k + 1) t (m : Int) reach of g i (j : Int) (t.length : Int) i = (if (rd (rd_L3 t i) (j : Int)) < 0 then (orreryref19_More.l5 k t (m : Int) reach of g i ((j + 1 : Nat) : Int) (t.length : Int) i) else (if (j : Int) < (of.length : Int) then (if (rd of (j : Int)) < 0 then (some true) else (if 0 ≤ (rd of (j : Int)) then (if (rd of (j : Int)) < (reach.length : Int) then (if (rd reach (rd of (j : Int))) = 0 then (orreryref19_More.l5 k t (m : Int) (reach.set ((rd of (j : Int)) : Int).toNat 1) of true i ((j + 1 : Nat) : Int) (t.length : Int) i) else (orreryref19_More.l5 k t (m : Int) reach of g i ((j + 1 : Nat) : Int) (t.length : Int) i)) else (none)) else (none))) else (none))) := by
      intro k
      conv => lhs; simp only [orreryref19_More.l5]
      rw [if_pos (by omega), if_pos hi0, if_pos (by omega), if_pos (by omega), if_pos (by omega), w64 (by omega) (by omega), show (j : Int) + 1 = ((j + 1 : Nat) : Int) by omega]
    by_cases c1 : rd (rd_L3 t i) (j : Int) < 0
    · exact Ev.step (fun k => by rw [pre, if_pos c1]) (ih (j + 1) reach g (by omega) hst)
    have hDj := hrow (j : Int) (by omega) (by omega) (by omega)
    obtain ⟨h1, h2⟩ := hof.2.2 (j : Int) hDj
    have hol := hof.1
    have h3 : rd of (j : Int) < (n : Int) := hof.2.1 _ (rd_mem of (j : Int) (by omega) (by omega))
    by_cases c2 : rd reach (rd of (j : Int)) = 0
    · refine Ev.step (fun k => by rw [pre, if_neg c1, if_pos (by omega), if_neg (by omega), if_pos h1, if_pos (by omega), if_pos c2]) (ih (j + 1) _ true (by omega) ?_)
      have hcnt := count_set_rd reach (rd of (j : Int)) 1 0 h1 (by omega)
      rw [if_pos c2, if_neg (by omega)] at hcnt
      have := hst.2.1
      exact ⟨RI_set hst.1 _ h1 h3 h2, by omega, fun _ => by omega⟩
    · exact Ev.step (fun k => by rw [pre, if_neg c1, if_pos (by omega), if_neg (by omega), if_pos h1, if_pos (by omega), if_neg c2]) (ih (j + 1) reach g (by omega) hst)
theorem More_l4 (ht : Grid n m t) (hn : n ≤ 64) (hm : m ≤ 64) (hof : OfI t n m D of) (c : Nat)
    (hc : ∀ reach g, MSt t n m D c reach g → Ev (fun k => orreryref19_More.l3 k t (m : Int) reach of g) false) :
    ∀ (d i : Nat) (reach : List Int) (g : Bool), i + d = n → MSt t n m D c reach g → Ev (fun k => orreryref19_More.l4 k t (m : Int) reach of g (t.length : Int) (i : Int)) false := by
  intro d
  induction d with
  | zero =>
    intro i reach g hi hst
    have hlen := ht.1
    refine Ev.step (fun k => ?_) (hc reach g hst)
    simp only [orreryref19_More.l4]
    rw [if_neg (by omega)]
  | succ d ih =>
    intro i reach g hi hst
    have hlen := ht.1
    have hrl := hst.1.1
    have pre : ∀ k, orreryref19_More.l4 (k + 1) t (m : Int) reach of g (t.length : Int) (i : Int) = (if (rd reach (i : Int)) = 0 then (orreryref19_More.l4 k t (m : Int) reach of g (t.length : Int) ((i + 1 : Nat) : Int)) else (orreryref19_More.l5 k t (m : Int) reach of g (i : Int) 0 (t.length : Int) (i : Int))) := by
      intro k
      conv => lhs; simp only [orreryref19_More.l4]
      rw [if_pos (by omega), if_pos (by omega), if_pos (by omega), w64 (by omega) (by omega), show (i : Int) + 1 = ((i + 1 : Nat) : Int) by omega]
    rcases hst.1.2 (i : Int) (by omega) (by omega) with h0 | ⟨h0, hrow⟩
    · exact Ev.step (fun k => by rw [pre, if_pos h0]) (ih (i + 1) reach g (by omega) hst)
    · refine Ev.step (fun k => by rw [pre, if_neg h0]; rfl) (More_l5 ht hm hof c (i : Int) (by omega) (by omega) hrow ?_ m 0 reach g (by omega) hst)
      intro reach' g' h'
      rw [w64 (by omega) (by omega), show (i : Int) + 1 = ((i + 1 : Nat) : Int) by omega]
      exact ih (i + 1) reach' g' (by omega) h'
theorem More_l3 (ht : Grid n m t) (hn : n ≤ 64) (hm : m ≤ 64) (hof : OfI t n m D of) : ∀ (c : Nat) (reach : List Int) (g : Bool), RI t n m D reach → reach.count 0 ≤ c → Ev (fun k => orreryref19_More.l3 k t (m : Int) reach of g) false := by
  intro c
  induction c using Nat.strongRecOn with
  | _ c ih =>
    intro reach g hri hcnt
    cases g with
    | false => exact Ev.step (f := fun _ => some false) (fun k => by simp [orreryref19_More.l3]) (Ev.now _)
    | true =>
      refine Ev.step (f := fun k => orreryref19_More.l4 k t (m : Int) reach of false (t.length : Int) ((0 : Nat) : Int)) (fun k => by simp [orreryref19_More.l3]) ?_
      refine More_l4 ht hn hm hof c ?_ n 0 reach false (by omega) ⟨hri, hcnt, fun h => by cases h⟩
      intro reach' g' h'
      cases g' with
      | false => exact Ev.step (f := fun _ => some false) (fun k => by simp [orreryref19_More.l3]) (Ev.now _)
      | true => exact ih _ (h'.2.2 rfl) reach' true h'.1 (Nat.le_refl _)
end
theorem More_l2 {t : List (List Int)} {n m : Nat} (hm : m ≤ 64) (l : List Int) (hl : l.length = n) (hn : n ≤ 64) (hlr : ∀ x ∈ l, x < (m : Int)) (reach : List Int)
    (hc : ∀ of, of.length = m → (∀ x ∈ of, x < (n : Int)) → (∀ i : Int, 0 ≤ i → i < (n : Int) → 0 ≤ rd l i → ∃ i' : Int, 0 ≤ i' ∧ i' < (n : Int) ∧ rd l i' = rd l i ∧ rd of (rd l i) = i') → Ev (fun k => orreryref19_More.l3 k t (m : Int) reach of true) false) :
    ∀ (d i : Nat) (of : List Int), i + d = l.length → of.length = m → (∀ x ∈ of, x < (n : Int)) → (∀ k : Int, 0 ≤ k → k < (i : Int) → 0 ≤ rd l k → ∃ i' : Int, 0 ≤ i' ∧ i' < (n : Int) ∧ rd l i' = rd l k ∧ rd of (rd l k) = i') →
      Ev (fun k => orreryref19_More.l2 k t (m : Int) reach of l (l.length : Int) (i : Int)) false := by
  intro d
  induction d with
  | zero =>
    intro i of hi h1 h2 h3
    refine Ev.step (fun k => ?_) (hc of h1 h2 (fun k a b e => h3 k a (by omega) e))
    simp only [orreryref19_More.l2]
    rw [if_neg (by omega)]
  | succ d ih =>
    intro i of hi h1 h2 h3
    by_cases c1 : rd l (i : Int) ≥ 0
    · have hx := hlr _ (rd_mem l (i : Int) (by omega) (by omega))
      refine Ev.step (fun k => ?_) (ih (i + 1) (of.set (rd l (i : Int)).toNat (i : Int)) (by omega) (by simp [h1]) (fun x hx' => ?_) (fun k a b e => ?_))
      · simp only [orreryref19_More.l2]
        rw [if_pos (by omega), if_pos (by omega), if_pos (by omega), if_pos c1, if_pos c1, if_pos (by omega), w64 (by omega) (by omega), show (i : Int) + 1 = ((i + 1 : Nat) : Int) by omega]
      · rcases List.mem_or_eq_of_mem_set hx' with h4 | h4
        · exact h2 x h4
        · omega
      · rw [rd_set of (rd l (i : Int)) (rd l k) (i : Int) c1 (by omega) e]
        by_cases q : rd l (i : Int) = rd l k
        · rw [if_pos q]; exact ⟨(i : Int), by omega, by omega, q, rfl⟩
        · rw [if_neg q]
          exact h3 k a (by
            by_cases q' : k = (i : Int)
            · rw [q'] at q; exact absurd rfl q
            · omega) e
    · refine Ev.step (fun k => ?_) (ih (i + 1) of (by omega) h1 h2 (fun k a b e => h3 k a (by
        by_cases q' : k = (i : Int)
        · rw [q'] at e; omega
        · omega) e))
      simp only [orreryref19_More.l2]
      rw [if_pos (by omega), if_pos (by omega), if_pos (by omega), if_neg c1, w64 (by omega) (by omega), show (i : Int) + 1 = ((i + 1 : Nat) : Int) by omega]
theorem More_l1 {t : List (List Int)} {m : Nat} (hm : m ≤ 64) (l reach : List Int) (hc : Ev (fun k => orreryref19_More.l2 k t (m : Int) reach (List.replicate m (-1)) l (l.length : Int) 0) false) :
    ∀ (d j : Nat), j + d = m → Ev (fun k => orreryref19_More.l1 k t (m : Int) l reach (List.replicate j (-1) ++ List.replicate (m - j) 0) (m : Int) (j : Int)) false := by
  intro d
  induction d with
  | zero =>
    intro j hj
    have hjm : j = m := by omega
    subst hjm
    refine Ev.step (fun k => ?_) hc
    simp only [orreryref19_More.l1]
    rw [if_neg (by omega)]
    simp
  | succ d ih =>
    intro j hj
    refine Ev.step (fun k => ?_) (ih (j + 1) (by omega))
    simp only [orreryref19_More.l1]
    rw [if_pos (by omega), if_pos (by omega), if_pos (by simp; omega), w64 (by omega) (by omega), show (j : Int) + 1 = ((j + 1 : Nat) : Int) by omega, Int.toNat_natCast, put_nx j m (-1) 0 (by omega)]
theorem More_l0 {t : List (List Int)} {n m : Nat} (hm : m ≤ 64) (hn : n ≤ 64) (l : List Int) (hl : l.length = n)
    (hc : ∀ reach, reach.length = n → (∀ i : Int, 0 ≤ i → i < (n : Int) → rd reach i = 0 ∨ (rd reach i ≠ 0 ∧ rd l i < 0)) → Ev (fun k => orreryref19_More.l1 k t (m : Int) l reach (List.replicate m 0) (m : Int) 0) false) :
    ∀ (d i : Nat) (reach : List Int), i + d = l.length → reach.length = n → (∀ k : Int, 0 ≤ k → k < (n : Int) → rd reach k = 0 ∨ (rd reach k ≠ 0 ∧ rd l k < 0)) → Ev (fun k => orreryref19_More.l0 k t (m : Int) l reach l (l.length : Int) (i : Int)) false := by
  intro d
  induction d with
  | zero =>
    intro i reach hi h1 h2
    refine Ev.step (fun k => ?_) (hc reach h1 h2)
    simp only [orreryref19_More.l0]
    rw [if_neg (by omega), if_pos (by omega), if_pos (by omega)]
    simp
  | succ d ih =>
    intro i reach hi h1 h2
    by_cases c1 : rd l (i : Int) < 0
    · refine Ev.step (fun k => ?_) (ih (i + 1) (reach.set i 1) (by omega) (by simp [h1]) (fun k a b => ?_))
      · simp only [orreryref19_More.l0]
        rw [if_pos (by omega), if_pos (by omega), if_pos (by omega), if_pos c1, if_pos (by omega), w64 (by omega) (by omega), show (i : Int) + 1 = ((i + 1 : Nat) : Int) by omega, Int.toNat_natCast]
      · have h := rd_set reach (i : Int) k 1 (by omega) (by omega) a
        rw [Int.toNat_natCast] at h
        rw [h]
        by_cases q : (i : Int) = k
        · rw [if_pos q]; right; exact ⟨by omega, by rw [← q]; exact c1⟩
        · rw [if_neg q]; exact h2 k a b
    · refine Ev.step (fun k => ?_) (ih (i + 1) reach (by omega) h1 h2)
      simp only [orreryref19_More.l0]
      rw [if_pos (by omega), if_pos (by omega), if_pos (by omega), if_neg c1, w64 (by omega) (by omega), show (i : Int) + 1 = ((i + 1 : Nat) : Int) by omega]
/-- Where the columns D are dead, More says no. -/
theorem Ev_More {t : List (List Int)} {n m : Nat} (ht : Grid n m t) (hn : n ≤ 64) (hm : m ≤ 64) (l : List Int) (hl : IsMat t m l) (D : Int → Prop) (hD : DeadIn t n m l D) : Ev (fun k => orreryref19_More.f k t (m : Int) l) false := by
  have hlen : l.length = n := by rw [hl.1, ht.1]
  have hlr : ∀ x ∈ l, x < (m : Int) := by
    intro x hx
    obtain ⟨i, hi, rfl⟩ := List.getElem_of_mem hx
    have h := hl.2.1 (i : Int) (by omega) (by omega)
    have e : rd l (i : Int) = l[i] := by simp [rd, List.getD_eq_getElem?_getD, List.getElem?_eq_getElem hi]
    rw [e] at h; omega
  unfold orreryref19_More.f
  have h0 := More_l0 (t := t) hm hn l hlen (fun reach h1 h2 => by
    have h3 := More_l1 hm l reach (by
      have h4 := More_l2 (t := t) hm l hlen hn hlr reach (fun of a b e => by
        refine More_l3 (n := n) (D := D) ht hn hm ⟨a, b, fun j hj => ?_⟩ _ reach true ⟨h1, fun i i0 i1 => ?_⟩ (Nat.le_refl _)
        · obtain ⟨hj0, i, i0, i1, hij, hrow⟩ := hD.2 j hj
          obtain ⟨i', k0, k1, k2, k3⟩ := e i i0 i1 (by omega)
          rw [hij] at k3 k2
          rw [k3]
          have hii : i' = i := by
            rcases Int.lt_trichotomy i' i with h | h | h
            · have := hl.2.2 i' i k0 h (by omega) (by rw [k2, hij]); omega
            · exact h
            · have := hl.2.2 i i' i0 h (by omega) (by rw [k2, hij]); omega
          rw [hii]
          exact ⟨i0, hrow⟩
        · rcases h2 i i0 i1 with h | ⟨h, hneg⟩
          · exact .inl h
          · exact .inr ⟨h, hD.1 i i0 i1 hneg⟩) l.length 0 (List.replicate m (-1)) (by omega) (by simp) (fun x hx => by rw [List.eq_of_mem_replicate hx]; omega) (fun k a b => by omega)
      simpa using h4) m 0 (by omega)
    simpa using h3) l.length 0 (List.replicate n 0) (by omega) (by simp) (fun k a b => by
      left; unfold rd; rw [List.getD_eq_getElem?_getD, List.getElem?_replicate, if_pos (by omega)]; rfl)
  rw [← hlen] at h0
  simp only [if_pos (show (0 : Int) ≤ (t.length : Int) by omega), if_pos (show ((t.length : Int)).toNat ≤ 35184372088832 by have := ht.1; omega)]
  have hl1 := hl.1
  simpa [hl1] using h0
end Go.Proofs.Ytamloclgignfgaa.PA
