/- OrderSame, in plain Lean. -/
import Derived.Test.YtlaneafplmbcnaaPOx69
import Derived.Test.YtlaneafplmbcnaaFi
import Derived.Test.YtlaneafplmbcnaaAk
import Derived.Test.YtlaneafplmbcnaaRowA
namespace Go.Proofs.Ytlaneafplmbcnaa.PO
open Go.RowKit Go.Proofs.YtlaneafplmbcnaaW.PrintWords Go.Proofs.YtlaneafplmbcnaaW.PrintLast Go.Proofs.YtlaneafplmbcnaaW.PrintMore
set_option linter.unusedVariables false
set_option linter.unusedSimpArgs false
theorem OS_l1 (y x : List S30) (b : S30) (X i : Int) (hy : y.length ≤ 64) (h0 : b.f0.length ≤ 64) (h1 : b.f1.length ≤ 64)
    (H : Ev (fun k => orrerylaw21_OrderSame.l0 k y x X (wrap64 (i + 1))) true) :
    ∀ (d c : Nat) (s : Bool), c + d = y.length → (s = true ∨ b ∈ y.drop c) → Ev (fun k => orrerylaw21_OrderSame.l1 k y s x X i y (y.length : Int) (c : Int) b.f0 b.f1) true := by
  intro d
  induction d with
  | zero =>
    intro c s hc hs
    rw [List.drop_eq_nil_of_le (by omega)] at hs
    have e : s = true := hs.resolve_right (fun h => by cases h)
    refine Ev.step (fun k => ?_) H
    simp only [orrerylaw21_OrderSame.l1]
    rw [if_neg (by omega), if_pos e]
  | succ d ih =>
    intro c s hc hs
    have q0 : (0 : Int) ≤ (c : Int) := Int.natCast_nonneg c
    have q1 : (c : Int) < (y.length : Int) := by omega
    have hw : wrap64 ((c : Int) + 1) = ((c + 1 : Nat) : Int) := by rw [w64 (by omega) (by omega)]; omega
    rw [drop_T30 (show c < y.length by omega)] at hs
    cases s with
    | true =>
      refine Ev.step (fun k => ?_) (ih (c + 1) true (by omega) (.inl rfl))
      simp only [orrerylaw21_OrderSame.l1]
      rw [if_pos q1, if_pos q0, if_pos q1, if_pos trivial, hw]
    | false =>
      have hs' := hs.resolve_left Bool.false_ne_true
      refine Ev.step (f := fun k => (orreryref17_Ints.f k b.f0 ((rd_T30 y (c : Int)).f0)).bind fun t => (if t = true then ((orreryref17_Ints.f k b.f1 ((rd_T30 y (c : Int)).f1)).bind fun t2 => (orrerylaw21_OrderSame.l1 k y t2 x X i y (y.length : Int) ((c + 1 : Nat) : Int) b.f0 b.f1)) else (orrerylaw21_OrderSame.l1 k y false x X i y (y.length : Int) ((c + 1 : Nat) : Int) b.f0 b.f1))) (fun k => ?_) (Ev.bind (Ev_IntsB _ _ h0) ?_)
      · simp only [orrerylaw21_OrderSame.l1]
        rw [if_pos q1, if_pos q0, if_pos q1, if_neg Bool.false_ne_true, hw]
      · by_cases e0 : b.f0 = (rd_T30 y (c : Int)).f0
        · simp only [decide_eq_true e0, if_true]
          refine Ev.bind (Ev_IntsB _ _ h1) ?_
          by_cases e1 : b.f1 = (rd_T30 y (c : Int)).f1
          · rw [decide_eq_true e1]; exact ih (c + 1) true (by omega) (.inl rfl)
          · rw [decide_eq_false e1]
            exact ih (c + 1) false (by omega) (.inr ((List.mem_cons.1 hs').resolve_left (fun h => e1 (by rw [← h]))))
        · simp only [decide_eq_false e0, Bool.false_eq_true, if_false]
          exact ih (c + 1) false (by omega) (.inr ((List.mem_cons.1 hs').resolve_left (fun h => e0 (by rw [← h]))))
theorem OS_l0 (y x : List S30) (hy : y.length ≤ 64) (hx : x.length ≤ 64) (hs : ∀ b ∈ x, b.f0.length ≤ 64 ∧ b.f1.length ≤ 64) (hm : ∀ b ∈ x, b ∈ y) :
    ∀ (d c : Nat), c + d = x.length → Ev (fun k => orrerylaw21_OrderSame.l0 k y x (x.length : Int) (c : Int)) true := by
  intro d
  induction d with
  | zero =>
    intro c hc
    refine Ev.step (f := fun _ => some true) (fun k => ?_) (Ev.now _)
    simp only [orrerylaw21_OrderSame.l0]
    rw [if_neg (by omega)]
  | succ d ih =>
    intro c hc
    have hr : rd_T30 x (c : Int) = x[c] := rd_T30_getE (by omega)
    have hmem : rd_T30 x (c : Int) ∈ x := by rw [hr]; exact List.getElem_mem _
    have hw : wrap64 ((c : Int) + 1) = ((c + 1 : Nat) : Int) := by rw [w64 (by omega) (by omega)]; omega
    have h1 := ih (c + 1) (by omega)
    rw [← hw] at h1
    refine Ev.step (fun k => ?_) (OS_l1 y x (rd_T30 x (c : Int)) (x.length : Int) (c : Int) hy (hs _ hmem).1 (hs _ hmem).2 h1 y.length 0 false (by omega) (.inr (by rw [List.drop_zero]; exact hm _ hmem)))
    simp only [orrerylaw21_OrderSame.l0]
    rw [if_pos (by omega), if_pos (by omega), if_pos (by omega)]
    rfl
theorem OrderSame_ev (a : Int) (l : List S33) (told : List Int) (hl : l.length ≤ 9223372036854775807) : Ev (fun k => orrerylaw21_OrderSame.f k a l told) true := by
  unfold orrerylaw21_OrderSame.f
  rw [show orrerylaw21_alive.f = some true from rfl]
  simp only [Option.bind_some, if_true]
  refine Ev.bind (Ev_Told a l told hl) ?_
  cases h : toldB a l told with
  | false => simp only [Bool.false_eq_true, if_false]; exact Ev.now _
  | true =>
    simp only [if_true]
    obtain ⟨ha, T⟩ := toldB_whole h
    obtain ⟨n, rfl⟩ := Int.eq_ofNat_of_zero_le ha
    rw [Int.toNat_natCast] at T
    rcases Ev_Assign (toldB_right h) with ⟨L, p, q, O, hA⟩ | ⟨hno, _⟩
    · rw [Int.toNat_natCast] at O
      have T' := O.T
      have hB := Ev_oBlocks h
      have hB' := Ev_oBlocks (toldB_of T')
      rw [Int.toNat_natCast] at hB hB'
      refine Ev.bind hA (Ev.bind hB (Ev.bind hB' ?_))
      simp only [if_true]
      obtain ⟨hs1, hs2⟩ := blocks_same T T'
      have hn := T.hn
      have e : (((blocksL n l told).length : Int) != ((blocksL n l L).length : Int)) = false := by rw [hs2]; simp
      rw [e]
      refine Ev.step (fun k => ?_) (OS_l0 (blocksL n l L) (blocksL n l told) (by have := blocks_len T'; omega) (by have := blocks_len T; omega) (fun b hb => by have := blocks_short T b hb; omega) (fun b hb => (hs1 b).1 hb) (blocksL n l told).length 0 (by omega))
      simp only [orrerylaw21_OrderSame.j0]
      rw [if_neg Bool.false_ne_true]
      rfl
    · rw [Int.toNat_natCast] at hno
      exact absurd T (hno told)
theorem OrderSame_pure (a0 : Int) (l1 : List S33) (l2 : List Int) (h0 : I64 a0) (h1 : (∀ e ∈ l1, I64 e.f0 ∧ I64 e.f1 ∧ I64 e.f2) ∧ l1.length ≤ 9223372036854775807) (h2 : (∀ x ∈ l2, I64 x) ∧ l2.length ≤ 9223372036854775807) : ∃ k, orrerylaw21_OrderSame.f k a0 l1 l2 = some true := (OrderSame_ev a0 l1 l2 h1.2).rounds
end Go.Proofs.Ytlaneafplmbcnaa.PO
