/- OrderRings, in plain Lean. -/
import Derived.Test.YtlaneafplmbcnaaPOx56
import Derived.Test.YtlaneafplmbcnaaBp
import Derived.Test.YtlaneafplmbcnaaRowA
namespace Go.Proofs.Ytlaneafplmbcnaa.PO
open Go.RowKit Go.Proofs.YtlaneafplmbcnaaW.PrintWords Go.Proofs.YtlaneafplmbcnaaW.PrintLast Go.Proofs.YtlaneafplmbcnaaW.PrintMore
set_option linter.unusedVariables false
set_option linter.unusedSimpArgs false

def rgT (i : Nat) : List Int := (List.range i).map (fun k : Nat => (k : Int))
def rgE : Nat → List S33
  | 0 => []
  | i + 1 => if i = 0 then rgE i ++ [⟨(i : Int), (i : Int), 0⟩] else (rgE i ++ [⟨(i : Int), (i : Int), 0⟩]) ++ [⟨(i : Int) - 1, (i : Int), 0⟩]
def rgA (n : Nat) (ring : Bool) : List S33 := if ring = true then rgE n ++ [⟨(n : Int) - 1, 0, 0⟩] else rgE n
theorem rgT_len (i : Nat) : (rgT i).length = i := by simp [rgT]
theorem rgT_succ (i : Nat) : rgT i ++ [(i : Int)] = rgT (i + 1) := by simp [rgT, List.range_succ]
theorem rgE_succ (i : Nat) : rgE (i + 1) = if i = 0 then rgE i ++ [⟨(i : Int), (i : Int), 0⟩] else (rgE i ++ [⟨(i : Int), (i : Int), 0⟩]) ++ [⟨(i : Int) - 1, (i : Int), 0⟩] := rfl
theorem rgE_len (i : Nat) : (rgE i).length ≤ 2 * i := by
  induction i with
  | zero => simp [rgE]
  | succ i ih => rw [rgE_succ]; split <;> simp <;> omega
theorem rgE_mem (n : Nat) (e : S33) : e ∈ rgE n ↔ ∃ i : Nat, i < n ∧ (e = ⟨(i : Int), (i : Int), 0⟩ ∨ (0 < i ∧ e = ⟨(i : Int) - 1, (i : Int), 0⟩)) := by
  induction n with
  | zero => simp [rgE]
  | succ n ih =>
    have key : e ∈ rgE (n + 1) ↔ e ∈ rgE n ∨ e = ⟨(n : Int), (n : Int), 0⟩ ∨ (0 < n ∧ e = ⟨(n : Int) - 1, (n : Int), 0⟩) := by
      rw [rgE_succ]
      by_cases c : n = 0
      · rw [if_pos c, List.mem_append, List.mem_singleton]
        exact ⟨fun h => h.imp id .inl, fun h => h.imp id (fun h => h.resolve_right (fun h => by omega))⟩
      · rw [if_neg c, List.mem_append, List.mem_append, List.mem_singleton, List.mem_singleton, or_assoc]
        exact ⟨fun h => h.imp id (fun h => h.imp id (fun h => ⟨by omega, h⟩)), fun h => h.imp id (fun h => h.imp id (fun h => h.2))⟩
    rw [key, ih]
    constructor
    · rintro (⟨i, hi, h⟩ | h)
      · exact ⟨i, by omega, h⟩
      · exact ⟨n, by omega, h⟩
    · rintro ⟨i, hi, h⟩
      by_cases c : i = n
      · subst c; exact .inr h
      · exact .inl ⟨i, by omega, h⟩
theorem rgA_mem (n : Nat) (ring : Bool) (e : S33) : e ∈ rgA n ring ↔ (∃ i : Nat, i < n ∧ (e = ⟨(i : Int), (i : Int), 0⟩ ∨ (0 < i ∧ e = ⟨(i : Int) - 1, (i : Int), 0⟩))) ∨ (ring = true ∧ e = ⟨(n : Int) - 1, 0, 0⟩) := by
  unfold rgA
  cases ring with
  | true => rw [if_pos rfl, List.mem_append, List.mem_singleton, rgE_mem]; simp
  | false => rw [if_neg (by decide), rgE_mem]; simp
section
variable {n : Nat} (h2 : 2 ≤ n) (h64 : n ≤ 64) (ring : Bool)
theorem rgT_rd {i : Int} (i0 : 0 ≤ i) (i1 : i < (n : Int)) : rd (rgT n) i = i := by
  obtain ⟨k, rfl⟩ := Int.eq_ofNat_of_zero_le i0
  rw [rd_getE (by rw [rgT_len]; omega)]
  simp [rgT]
include h2 h64
theorem rg_edges : Edges n n (rgA n ring) := fun e he => by
  rcases (rgA_mem n ring e).1 he with ⟨i, hi, rfl | ⟨h, rfl⟩⟩ | ⟨_, rfl⟩
  · exact ⟨by simp, by simp; omega, by simp, by simp; omega, by simp, by simp⟩
  · exact ⟨by simp; omega, by simp; omega, by simp, by simp; omega, by simp, by simp⟩
  · exact ⟨by simp; omega, by simp; omega, by simp, by simp; omega, by simp, by simp⟩
theorem rg_len : (rgA n ring).length ≤ 4096 := by
  have := rgE_len n
  unfold rgA
  split
  · rw [List.length_append, List.length_singleton]; omega
  · omega
theorem rg_whole : Whole n (rgA n ring) (rgT n) := by
  have hE := rg_edges h2 h64 ring
  refine ⟨h64, rg_len h2 h64 ring, hE, rgT_len n, fun i i0 i1 => ?_, fun i i' a b c => ?_⟩
  · rw [rgT_rd i0 i1]
    refine ⟨i0, i1, (any_isE hE i i).1 (List.any_eq_true.2 ⟨⟨i, i, 0⟩, (rgA_mem n ring _).2 (.inl ⟨i.toNat, by omega, .inl (by rw [Int.toNat_of_nonneg i0])⟩), by simp [isE]⟩)⟩
  · rw [rgT_rd a (by omega), rgT_rd (by omega) c]; omega
theorem rg_by {i : Int} (i0 : 0 ≤ i) (i1 : i < (n : Int)) : rd (byL n (rgT n)) i = i := by
  have := (rg_whole h2 h64 false).by_told i0 i1
  rwa [rgT_rd i0 i1] at this
theorem rg_needs {i k : Int} (i0 : 0 ≤ i) (i1 : i < (n : Int)) : k ∈ rd_L3 (needs n (rgA n ring) (rgT n)) i ↔ (k = i + 1 ∧ k < (n : Int)) ∨ (ring = true ∧ i = (n : Int) - 1 ∧ k = 0) := by
  rw [(rg_whole h2 h64 ring).needs_mem i0]
  constructor
  · rintro ⟨e, he, h3, h4, h5⟩
    rcases (rgA_mem n ring e).1 he with ⟨j, hj, rfl | ⟨h, rfl⟩⟩ | ⟨hr, rfl⟩
    · simp only at h3 h4
      rw [rg_by h2 h64 (by omega) (by omega)] at h4
      omega
    · simp only at h3 h4
      rw [rg_by h2 h64 (by omega) (by omega)] at h4
      left; omega
    · simp only at h3 h4
      rw [rg_by h2 h64 (by omega) (by omega)] at h4
      exact .inr ⟨hr, by omega, by omega⟩
  · rintro (⟨h, h'⟩ | ⟨hr, h, h'⟩)
    · refine ⟨⟨i, k, 0⟩, (rgA_mem n ring _).2 (.inl ⟨k.toNat, by omega, .inr ⟨by omega, ?_⟩⟩), rfl, rg_by h2 h64 (i := k) (by omega) h', by omega⟩
      have e1 : (k.toNat : Int) = k := by omega
      rw [e1]
      have e2 : k - 1 = i := by omega
      rw [e2]
    · refine ⟨⟨i, k, 0⟩, (rgA_mem n ring _).2 (.inr ⟨hr, by rw [h, h']⟩), rfl, rg_by h2 h64 (i := k) (by omega) (by omega), by omega⟩
theorem rg_up : ∀ (d : Nat) {i : Int}, 0 ≤ i → i + d < (n : Int) → Rch (needs n (rgA n ring) (rgT n)) i (i + d) := by
  intro d
  induction d with
  | zero => intro i i0 h; simp; exact .refl i
  | succ d ih =>
    intro i i0 h
    refine .step ((rg_needs h2 h64 ring i0 (by omega)).2 (.inl ⟨rfl, by omega⟩)) ?_
    have := ih (i := i + 1) (by omega) (by omega)
    rwa [show i + 1 + (d : Int) = i + ((d + 1 : Nat) : Int) by omega] at this
theorem rg_le {i j : Int} (i0 : 0 ≤ i) (h : i ≤ j) (j1 : j < (n : Int)) : Rch (needs n (rgA n ring) (rgT n)) i j := by
  have := rg_up h2 h64 ring (j - i).toNat i0 (by omega)
  rwa [show i + ((j - i).toNat : Int) = j by omega] at this
theorem rg_ge {i j : Int} (i0 : 0 ≤ i) (i1 : i < (n : Int)) (h : Rch (needs n (rgA n false) (rgT n)) i j) : i ≤ j := by
  have := Rch.keeps (P := fun x => i ≤ x ∧ x < (n : Int)) (fun x hx k hk => by
    rcases (rg_needs h2 h64 false (by omega) hx.2).1 hk with h | h
    · omega
    · cases h.1) h ⟨Int.le_refl _, i1⟩
  exact this.1
theorem rg_all {i j : Int} (i0 : 0 ≤ i) (i1 : i < (n : Int)) (j0 : 0 ≤ j) (j1 : j < (n : Int)) : Rch (needs n (rgA n true) (rgT n)) i j := by
  refine (rg_le h2 h64 true i0 (show i ≤ (n : Int) - 1 by omega) (by omega)).trans (.step ((rg_needs h2 h64 true (by omega) (by omega)).2 (.inr ⟨rfl, rfl, rfl⟩)) (rg_le h2 h64 true (Int.le_refl 0) j0 j1))
/-- A ring is one block. -/
theorem rg_ring : (blocksL n (rgA n true) (rgT n)).length = 1 ∧ (rd_T30 (blocksL n (rgA n true) (rgT n)) 0).f0.length = n := by
  have T := rg_whole h2 h64 true
  have B := blocks_blks T
  have hs := blocks_short T
  generalize blocksL n (rgA n true) (rgT n) = x at B hs
  have hall : ∀ (i : Nat) (hi : i < x.length), ∀ e : Int, 0 ≤ e → e < (n : Int) → e ∈ x[i].f0 := fun i hi e e0 e1 => by
    have hm := List.getElem_mem hi
    obtain ⟨h, hh⟩ := (B.scc _ hm).head
    have hhm := head_mem hh
    have hr := B.rg _ hm h hhm
    exact ((B.scc _ hm).mem_iff hhm).2 ⟨rg_all h2 h64 hr.1 hr.2 e0 e1, rg_all h2 h64 e0 e1 hr.1 hr.2⟩
  obtain ⟨i, hi, _⟩ := B.at (e := 0) (Int.le_refl _) (by omega)
  have h1 : x.length = 1 := by
    by_cases c : 1 < x.length
    · have := B.one (e := 0) (i := 0) (j := 1) (by omega) c (hall 0 (by omega) 0 (by omega) (by omega)) (hall 1 c 0 (by omega) (by omega))
      omega
    · omega
  refine ⟨h1, ?_⟩
  have e : rd_T30 x 0 = x[0] := rd_T30_getE (i := 0) (by omega)
  rw [e]
  refine Nat.le_antisymm (hs _ (List.getElem_mem _)).1 ?_
  have := nodup_len (rgT n) x[0].f0 T.nodup (fun y hy => hall 0 (by omega) y (T.mem y hy).1 (T.mem y hy).2)
  rwa [rgT_len] at this
theorem rg_ord {th : Int → Prop} {x : List S30} (h : Ord (needs n (rgA n false) (rgT n)) n (rgT n) th x) : ∀ m : Nat, m ≤ n → (∀ i : Int, 0 ≤ i → i < (n : Int) → (th i ↔ (m : Int) ≤ i)) → x.length = m ∧ ∀ j : Nat, j < m → (rd_T30 x (j : Int)).f0 = [(m : Int) - 1 - j] := by
  induction h with
  | done hd =>
    intro m hm ht
    have : m = 0 := by
      by_cases c : m = 0
      · exact c
      · have := (ht 0 (Int.le_refl _) (by omega)).1 (hd 0 (Int.le_refl _) (by omega))
        omega
    subst this
    exact ⟨rfl, fun j hj => by omega⟩
  | @step th th' b h rest hn ht' hr ih =>
    intro m hm ht
    have h0 := hn.h0
    have h1 := hn.h1
    have hlt : h < (m : Int) := by
      have := hn.nt
      rw [ht h hn.h0 hn.h1] at this
      omega
    have hle : h ≤ (m : Int) - 1 := by omega
    have heq : h = (m : Int) - 1 := by
      by_cases c : h = (m : Int) - 1
      · exact c
      · exfalso
        rcases hn.fr (h + 1) (rg_le h2 h64 false h0 (by omega) (by omega)) with q | q
        · have := (ht (h + 1) (by omega) (by omega)).1 q
          omega
        · have := rg_ge h2 h64 (by omega) (by omega) q
          omega
    have hb : b = [h] := rising_eq b [h] hn.scc.1 (List.pairwise_singleton _ _) (fun y => by
      rw [hn.scc.mem_iff (head_mem hn.hd), List.mem_singleton]
      constructor
      · rintro ⟨q1, q2⟩
        have hy := q1.range (rg_whole h2 h64 false).nb ⟨h0, h1⟩
        have e1 := rg_ge h2 h64 h0 h1 q1
        have e2 := rg_ge h2 h64 hy.1 hy.2 q2
        omega
      · rintro rfl; exact ⟨.refl _, .refl _⟩)
    subst hb
    obtain ⟨l1, l2⟩ := ih (m - 1) (by omega) (fun i i0 i1 => by
      rw [ht' i i0 i1, ht i i0 i1, List.mem_singleton]
      omega)
    refine ⟨by rw [List.length_cons, l1]; omega, fun j hj => ?_⟩
    cases j with
    | zero => show [h] = _; rw [heq]; simp
    | succ j =>
      have := l2 j (by omega)
      have e : rd_T30 (⟨[h], sortI ([h].map (rd (rgT n)))⟩ :: rest) ((j + 1 : Nat) : Int) = rd_T30 rest (j : Int) := by simp [rd_T30]
      rw [e, this]
      congr 1
      omega
theorem OR_l1 (x8 x : List S30) (hx : x.length = n) (h8 : x8.length = n) (hb : ∀ j : Nat, j < n → (rd_T30 x (j : Int)).f0 = [(n : Int) - 1 - j]) : ∀ (d c : Nat), c + d = x.length → Ev (fun k => orrerylaw21_OrderRings.l1 k (n : Int) x8 x (x.length : Int) (c : Int)) true := by
  intro d
  induction d with
  | zero =>
    intro c hc
    refine Ev.step (f := fun _ => some true) (fun k => ?_) (Ev.now _)
    simp only [orrerylaw21_OrderRings.l1]
    rw [if_neg (by omega), h8]
    simp
  | succ d ih =>
    intro c hc
    have hw2 : wrap64 ((c : Int) + 1) = ((c + 1 : Nat) : Int) := by rw [w64 (by omega) (by omega)]; omega
    have hw : wrap64 (wrap64 ((n : Int) - 1) - (c : Int)) = (n : Int) - 1 - c := by rw [w64 (n := (n : Int) - 1) (by omega) (by omega), w64 (by omega) (by omega)]
    refine Ev.step (fun k => ?_) (ih (c + 1) (by omega))
    simp only [orrerylaw21_OrderRings.l1]
    rw [if_pos (by omega), if_pos (by omega), if_pos (by omega), hb c (by omega), hw, hw2, if_pos (by simp), if_pos (by simp), if_pos (by simp [rd])]
theorem OR_j1 : Ev (fun k => orrerylaw21_OrderRings.j1 k (n : Int) ring (rgA n ring) (rgT n)) true := by
  have T := rg_whole h2 h64 ring
  have hB := Ev_oBlocks (toldB_of T)
  rw [Int.toNat_natCast] at hB
  refine Ev.step (f := fun k => (order_Blocks.f k (n : Int) (rgA n ring) (rgT n)).bind fun bt412 => (if bt412.2 = 0 then (if ring = true then (if (bt412.1.length : Int) = 1 then (if 0 < (bt412.1.length : Int) then (some ((((rd_T30 bt412.1 0).f0).length : Int) == (n : Int))) else (none)) else (some false)) else (orrerylaw21_OrderRings.l1 k (n : Int) bt412.1 bt412.1 (bt412.1.length : Int) 0)) else (some false))) (fun k => rfl) (Ev.bind hB ?_)
  simp only [if_true]
  cases ring with
  | true =>
    obtain ⟨e1, e2⟩ := rg_ring h2 h64
    simp only [if_true]
    rw [if_pos (by omega), if_pos (by omega), e2, show (((n : Nat) : Int) == (n : Int)) = true by simp]
    exact Ev.now _
  | false =>
    obtain ⟨e1, e2⟩ := rg_ord h2 h64 (blocksL_ord T) n (Nat.le_refl _) (fun i i0 i1 => ⟨fun h => absurd h (no_th n i), fun h => by omega⟩)
    simp only [Bool.false_eq_true, if_false]
    exact OR_l1 h2 h64 (blocksL n (rgA n false) (rgT n)) (blocksL n (rgA n false) (rgT n)) e1 e1 e2 (blocksL n (rgA n false) (rgT n)).length 0 (by omega)
theorem OR_l0 : ∀ (d i : Nat), i + d = n → Ev (fun k => orrerylaw21_OrderRings.l0 k (n : Int) ring (rgE i) (rgT i) (i : Int)) true := by
  intro d
  induction d with
  | zero =>
    intro i hi
    have h1 := OR_j1 h2 h64 ring
    have hl := rgE_len i
    have e : i = n := by omega
    subst e
    refine Ev.step (fun k => ?_) h1
    simp only [orrerylaw21_OrderRings.l0]
    rw [if_neg (by omega)]
    cases ring with
    | true => rw [if_pos rfl, if_pos (by omega), w64 (n := (i : Int) - 1) (by omega) (by omega)]; rfl
    | false => rw [if_neg (by decide)]; rfl
  | succ d ih =>
    intro i hi
    have hl := rgE_len i
    have hw2 : wrap64 ((i : Int) + 1) = ((i + 1 : Nat) : Int) := by rw [w64 (by omega) (by omega)]; omega
    refine Ev.step (fun k => ?_) (ih (i + 1) (by omega))
    simp only [orrerylaw21_OrderRings.l0, Option.bind_some]
    rw [if_pos (show (i : Int) < (n : Int) by omega), if_pos (show (rgT i).length < 17592186044416 by rw [rgT_len]; omega), if_pos (show (rgE i).length < 5864062014805 by omega), hw2, rgT_succ]
    by_cases c : i = 0
    · rw [if_neg (by omega)]
      rw [rgE_succ, if_pos c]
    · rw [if_pos (by omega), if_pos (by rw [List.length_append, List.length_singleton]; omega), w64 (n := (i : Int) - 1) (by omega) (by omega)]
      rw [rgE_succ, if_neg c]
end
theorem OrderRings_ev (a : Int) (ring : Bool) : Ev (fun k => orrerylaw21_OrderRings.f k a ring) true := by
  obtain ⟨n, hn⟩ : ∃ n : Nat, mn (mx a 2) 64 = (n : Int) := Int.eq_ofNat_of_zero_le (by unfold mn mx; split <;> (try split) <;> omega)
  have h2 : 2 ≤ n := by
    have : (2 : Int) ≤ mn (mx a 2) 64 := by unfold mn mx; split <;> (try split) <;> omega
    omega
  have h64 : n ≤ 64 := by
    have : mn (mx a 2) 64 ≤ (64 : Int) := by unfold mn mx; split <;> (try split) <;> omega
    omega
  refine Ev.congr (fun k => ?_) (OR_l0 h2 h64 ring n 0 (by omega))
  unfold orrerylaw21_OrderRings.f
  rw [hn]
  rfl
theorem OrderRings_pure (a0 : Int) (a1 : Bool) (h0 : I64 a0) : ∃ k, orrerylaw21_OrderRings.f k a0 a1 = some true := (OrderRings_ev a0 a1).rounds
end Go.Proofs.Ytlaneafplmbcnaa.PO
