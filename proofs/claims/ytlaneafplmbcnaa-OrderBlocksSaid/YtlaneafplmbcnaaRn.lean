/- What an equation needs, and who reaches whom, in plain Lean. -/
import Derived.Test.YtlaneafplmbcnaaQ
import Derived.Test.YtlaneafplmbcnaaHc
namespace Go.Proofs.Ytlaneafplmbcnaa.PO
open Go.RowKit Go.Proofs.YtlaneafplmbcnaaW.PrintWords Go.Proofs.YtlaneafplmbcnaaW.PrintLast Go.Proofs.YtlaneafplmbcnaaW.PrintMore
set_option linter.unusedVariables false
set_option linter.unusedSimpArgs false

/-- The equation that tells an unknown. -/
def byS : List Int → Nat → List Int → List Int
  | [], _, b => b
  | j :: js, i, b => byS js (i + 1) (b.set j.toNat (i : Int))
def InN (n : Nat) (b : List Int) : Prop := b.length = n ∧ ∀ j : Int, 0 ≤ j → j < (n : Int) → 0 ≤ rd b j ∧ rd b j < (n : Int)
theorem byS_in {n : Nat} : ∀ (js : List Int) (i : Nat) (b : List Int), i + js.length ≤ n → (∀ j ∈ js, 0 ≤ j ∧ j < (n : Int)) → InN n b → InN n (byS js i b) := by
  intro js
  induction js with
  | nil => intro i b _ _ h; exact h
  | cons j js ih =>
    intro i b hi hj h
    have hjj := hj j List.mem_cons_self
    simp only [List.length_cons] at hi
    refine ih (i + 1) _ (by omega) (fun x hx => hj x (List.mem_cons_of_mem _ hx)) ⟨by rw [List.length_set]; exact h.1, fun x x0 x1 => ?_⟩
    rw [tj_rd b j x _ hjj.1 (by rw [h.1]; exact hjj.2) x0]
    split
    · omega
    · exact h.2 x x0 x1
/-- One edge among the needs. -/
def nS (B : List Int) (N : List (List Int)) (e : S33) : List (List Int) := if rd B e.f1 = e.f0 then N else N.set e.f0.toNat (rd_L3 N e.f0 ++ [rd B e.f1])
/-- One edge among what is reached. -/
def rS (B : List Int) (r : List (List Int)) (e : S33) : List (List Int) := if rd B e.f1 = e.f0 then r else r.set e.f0.toNat ((rd_L3 r e.f0).set (rd B e.f1).toNat 1)
/-- A grid of noughts and ones that tells a relation. -/
def Rl (n : Nat) (r : List (List Int)) (Q : Int → Int → Prop) : Prop :=
  Grid n n r ∧ ∀ i k : Int, 0 ≤ i → i < (n : Int) → 0 ≤ k → k < (n : Int) → (rd (rd_L3 r i) k = 0 ∨ rd (rd_L3 r i) k = 1) ∧ (rd (rd_L3 r i) k = 1 ↔ Q i k)
section
variable {n : Nat} {r : List (List Int)} {Q Q' : Int → Int → Prop}
theorem Rl.congr (h : Rl n r Q) (hq : ∀ i k : Int, 0 ≤ i → i < (n : Int) → 0 ≤ k → k < (n : Int) → (Q i k ↔ Q' i k)) : Rl n r Q' :=
  ⟨h.1, fun i k i0 i1 k0 k1 => ⟨(h.2 i k i0 i1 k0 k1).1, (h.2 i k i0 i1 k0 k1).2.trans (hq i k i0 i1 k0 k1)⟩⟩
theorem Rl.put (h : Rl n r Q) {i c : Int} (i0 : 0 ≤ i) (i1 : i < (n : Int)) (c0 : 0 ≤ c) (c1 : c < (n : Int)) : Rl n (r.set i.toNat ((rd_L3 r i).set c.toNat 1)) (fun i' k => Q i' k ∨ (i' = i ∧ k = c)) := by
  have hl := h.1.1
  have hrow := h.1.row i0 i1
  refine ⟨⟨by rw [List.length_set]; exact hl, fun x hx => ?_⟩, fun i' k i0' i1' k0 k1 => ?_⟩
  · rcases List.mem_or_eq_of_mem_set hx with h1 | h1
    · exact h.1.2 x h1
    · rw [h1, List.length_set]; exact hrow
  · have hh := h.2 i' k i0' i1' k0 k1
    rw [rd_L3_set r i i' _ i0 (by rw [hl]; exact i1) i0']
    by_cases e : i = i'
    · subst e
      rw [if_pos rfl, tj_rd _ c k 1 c0 (by rw [hrow]; exact c1) k0]
      by_cases e2 : c = k
      · subst e2; rw [if_pos rfl]; simp
      · rw [if_neg e2]
        exact ⟨hh.1, hh.2.trans ⟨.inl, fun h => h.elim id (fun h => absurd h.2.symm e2)⟩⟩
    · rw [if_neg e]
      exact ⟨hh.1, hh.2.trans ⟨.inl, fun h => h.elim id (fun h => absurd h.1.symm e)⟩⟩
theorem Rl.none (n : Nat) : Rl n (List.replicate n (List.replicate n 0)) (fun _ _ => False) := by
  refine ⟨⟨by simp, fun x hx => by rw [List.eq_of_mem_replicate hx]; simp⟩, fun i k i0 i1 k0 k1 => ?_⟩
  have e : rd_L3 (List.replicate n (List.replicate n (0 : Int))) i = List.replicate n 0 := by
    unfold rd_L3
    rw [List.getD_eq_getElem?_getD, List.getElem?_replicate, if_pos (by omega)]
    rfl
  rw [e, tj_rep k0 k1]
  simp
end
/-- What is reached by way of less than m. -/
def Pm (N : List (List Int)) : Nat → Int → Int → Prop
  | 0, i, k => k ∈ rd_L3 N i
  | m + 1, i, k => Pm N m i k ∨ (Pm N m i (m : Int) ∧ Pm N m (m : Int) k)
theorem Pm.sound {N : List (List Int)} : ∀ (m : Nat) (i k : Int), Pm N m i k → Rch N i k := by
  intro m
  induction m with
  | zero => intro i k h; exact .one h
  | succ m ih =>
    intro i k h
    rcases h with h | h
    · exact ih i k h
    · exact (ih _ _ h.1).trans (ih _ _ h.2)
theorem Pm.mono {N : List (List Int)} {i k : Int} : ∀ (d m : Nat), Pm N m i k → Pm N (m + d) i k := by
  intro d
  induction d with
  | zero => intro m h; exact h
  | succ d ih => intro m h; exact .inl (ih m h)
theorem Pm.trans {N : List (List Int)} (j : Nat) : ∀ (d : Nat) (i k : Int), Pm N (j + 1 + d) i (j : Int) → Pm N (j + 1 + d) (j : Int) k → Pm N (j + 1 + d) i k := by
  intro d
  induction d with
  | zero =>
    intro i k h1 h2
    have e1 : Pm N j i (j : Int) := h1.elim id (fun h => h.1)
    have e2 : Pm N j (j : Int) k := h2.elim id (fun h => h.2)
    exact .inr ⟨e1, e2⟩
  | succ d ih =>
    intro i k h1 h2
    rcases h1 with h1 | h1 <;> rcases h2 with h2 | h2
    · exact .inl (ih i k h1 h2)
    · exact .inr ⟨ih i _ h1 h2.1, h2.2⟩
    · exact .inr ⟨h1.1, ih _ k h1.2 h2⟩
    · exact .inr ⟨h1.1, h2.2⟩
theorem Pm.whole {N : List (List Int)} {n : Nat} (hN : ∀ j, ∀ k ∈ rd_L3 N j, 0 ≤ k ∧ k < (n : Int)) {i j : Int} (h : Rch N i j) : i ≠ j → Pm N n i j := by
  induction h with
  | refl i => intro e; exact absurd rfl e
  | @step i k j hk hr ih =>
    intro hne
    have h1 : Pm N n i k := by have := Pm.mono (N := N) (i := i) (k := k) n 0 hk; rwa [Nat.zero_add] at this
    by_cases e : k = j
    · rw [← e]; exact h1
    · have hb := hN i k hk
      have h2 := ih e
      have ek : ((k.toNat : Nat) : Int) = k := by omega
      have en : k.toNat + 1 + (n - (k.toNat + 1)) = n := by omega
      have := Pm.trans (N := N) k.toNat (n - (k.toNat + 1)) i j
      rw [en, ek] at this
      exact this h1 h2
theorem Pm.iff {N : List (List Int)} {n : Nat} (hN : ∀ j, ∀ k ∈ rd_L3 N j, 0 ≤ k ∧ k < (n : Int)) {i j : Int} (hne : i ≠ j) : Pm N n i j ↔ Rch N i j := ⟨Pm.sound n i j, fun h => Pm.whole hN h hne⟩

def NB (n : Nat) (N : List (List Int)) : Prop := N.length = n ∧ ∀ j, ∀ k ∈ rd_L3 N j, 0 ≤ k ∧ k < (n : Int)
theorem rd_L3_nat (N : List (List Int)) (j : Int) : rd_L3 N j = rd_L3 N (j.toNat : Int) := by unfold rd_L3; rw [Int.toNat_natCast]
theorem NB.step {n : Nat} {N : List (List Int)} {B : List Int} {e : S33} (h : NB n N) (hB : InN n B) (he : 0 ≤ e.f0 ∧ e.f0 < (n : Int) ∧ 0 ≤ e.f1 ∧ e.f1 < (n : Int)) : NB n (nS B N e) ∧ ∀ j : Int, 0 ≤ j → rd_L3 (nS B N e) j = if rd B e.f1 = e.f0 then rd_L3 N j else if e.f0 = j then rd_L3 N e.f0 ++ [rd B e.f1] else rd_L3 N j := by
  have hb := hB.2 e.f1 he.2.2.1 he.2.2.2
  have key : ∀ j : Int, 0 ≤ j → rd_L3 (nS B N e) j = if rd B e.f1 = e.f0 then rd_L3 N j else if e.f0 = j then rd_L3 N e.f0 ++ [rd B e.f1] else rd_L3 N j := fun j j0 => by
    unfold nS
    split
    · rfl
    · rw [rd_L3_set N e.f0 j _ he.1 (by rw [h.1]; exact he.2.1) j0]
  refine ⟨⟨?_, fun j k hk => ?_⟩, key⟩
  · unfold nS
    split
    · exact h.1
    · rw [List.length_set]; exact h.1
  · rw [rd_L3_nat, key _ (by omega)] at hk
    split at hk
    · exact h.2 _ k hk
    · split at hk
      · rcases List.mem_append.1 hk with h1 | h1
        · exact h.2 _ k h1
        · rw [List.mem_singleton.1 h1]; exact hb
      · exact h.2 _ k hk
theorem NB.rl {n : Nat} {N r : List (List Int)} {B : List Int} {e : S33} (h : NB n N) (hr : Rl n r (fun i k => k ∈ rd_L3 N i)) (hB : InN n B) (he : 0 ≤ e.f0 ∧ e.f0 < (n : Int) ∧ 0 ≤ e.f1 ∧ e.f1 < (n : Int)) : Rl n (rS B r e) (fun i k => k ∈ rd_L3 (nS B N e) i) := by
  have hb := hB.2 e.f1 he.2.2.1 he.2.2.2
  obtain ⟨_, key⟩ := h.step hB he
  unfold rS
  split
  · rename_i hh
    exact hr.congr (fun i k i0 _ _ _ => by rw [key i i0, if_pos hh])
  · rename_i hh
    refine (hr.put he.1 he.2.1 hb.1 hb.2).congr (fun i k i0 _ _ _ => ?_)
    rw [key i i0, if_neg hh]
    split
    · rename_i e2
      subst e2
      simp
    · rename_i e2
      constructor
      · rintro (h1 | h1)
        · exact h1
        · exact absurd h1.1.symm e2
      · exact .inl
theorem fold_rl {n : Nat} {B : List Int} (hB : InN n B) : ∀ (es : List S33), Edges n n es → ∀ (N r : List (List Int)), NB n N → Rl n r (fun i k => k ∈ rd_L3 N i) → NB n (es.foldl (nS B) N) ∧ Rl n (es.foldl (rS B) r) (fun i k => k ∈ rd_L3 (es.foldl (nS B) N) i) := by
  intro es
  induction es with
  | nil => intro _ N r h hr; exact ⟨h, hr⟩
  | cons e es ih =>
    intro hE N r h hr
    have he := hE e List.mem_cons_self
    have he' : 0 ≤ e.f0 ∧ e.f0 < (n : Int) ∧ 0 ≤ e.f1 ∧ e.f1 < (n : Int) := ⟨he.1, he.2.1, he.2.2.1, he.2.2.2.1⟩
    exact ih (fun x hx => hE x (List.mem_cons_of_mem _ hx)) _ _ (h.step hB he').1 (h.rl hr hB he')
theorem rS_grid {n : Nat} {B : List Int} {r : List (List Int)} {e : S33} (h : Grid n n r) (he : 0 ≤ e.f0 ∧ e.f0 < (n : Int)) : Grid n n (rS B r e) := by
  unfold rS
  split
  · exact h
  · refine ⟨by rw [List.length_set]; exact h.1, fun x hx => ?_⟩
    rcases List.mem_or_eq_of_mem_set hx with h1 | h1
    · exact h.2 x h1
    · rw [h1, List.length_set]; exact h.row he.1 he.2
/-- The needs of the equations. -/
def needs (n : Nat) (l : List S33) (told : List Int) : List (List Int) := l.foldl (nS (byS told 0 (List.replicate n 0))) (List.replicate n [])
theorem NB.none (n : Nat) : NB n (List.replicate n []) := by
  refine ⟨by simp, fun j k hk => ?_⟩
  unfold rd_L3 at hk
  rw [List.getD_eq_getElem?_getD, List.getElem?_replicate] at hk
  split at hk <;> cases hk
theorem by_in {n : Nat} {told : List Int} (ht : told.length = n) (hr : ∀ j ∈ told, 0 ≤ j ∧ j < (n : Int)) : InN n (byS told 0 (List.replicate n 0)) :=
  byS_in told 0 _ (by omega) hr ⟨by simp, fun j j0 j1 => by rw [tj_rep j0 j1]; omega⟩
theorem needs_in {n : Nat} {l : List S33} {told : List Int} (hE : Edges n n l) (ht : told.length = n) (hr : ∀ j ∈ told, 0 ≤ j ∧ j < (n : Int)) : NB n (needs n l told) ∧ Rl n (l.foldl (rS (byS told 0 (List.replicate n 0))) (List.replicate n (List.replicate n 0))) (Pm (needs n l told) 0) :=
  fold_rl (by_in ht hr) l hE _ _ (NB.none n) ((Rl.none n).congr (fun i k i0 i1 k0 k1 => by
    constructor
    · exact fun h => h.elim
    · intro h
      have h : k ∈ rd_L3 (List.replicate n []) i := h
      unfold rd_L3 at h
      rw [List.getD_eq_getElem?_getD, List.getElem?_replicate] at h
      split at h <;> cases h))
end Go.Proofs.Ytlaneafplmbcnaa.PO
