/- OrderBlocks, in plain Lean. -/
import Derived.Test.YtlaneafplmbcnaaBp
import Derived.Test.YtlaneafplmbcnaaPOx54
import Derived.Test.YtlaneafplmbcnaaRb
import Derived.Test.YtlaneafplmbcnaaRowA
namespace Go.Proofs.Ytlaneafplmbcnaa.PO
open Go.RowKit Go.Proofs.YtlaneafplmbcnaaW.PrintWords Go.Proofs.YtlaneafplmbcnaaW.PrintLast Go.Proofs.YtlaneafplmbcnaaW.PrintMore
set_option linter.unusedVariables false
set_option linter.unusedSimpArgs false
theorem Ev_rBlocks {a : Int} {l : List S33} {told : List Int} (h : toldB a l told = true) : Ev (fun k => orreryref21_Blocks.f k a l told) (blocksL a.toNat l told, 0) := by
  obtain ⟨ha, T⟩ := toldB_whole h
  have hr := T.mem
  obtain ⟨hNB, _⟩ := needs_in T.hE T.len hr
  have hO := blocksL_ord T
  have hT := Ev_Told a l told (by have := T.hl; omega)
  rw [h] at hT
  obtain ⟨n, rfl⟩ := Int.eq_ofNat_of_zero_le ha
  rw [Int.toNat_natCast] at T hNB hr hO ⊢
  have h64 := T.hn
  obtain ⟨R, hR, hE⟩ := Ev_Reach h64 T.hl T.hE T.len hr
  have hz : ∀ x : Int, 0 ≤ x → x < (n : Int) → ¬ isTh (List.replicate n 0) x := fun x x0 x1 h => by unfold isTh at h; rw [tj_rep x0 x1] at h; cases h
  obtain ⟨r, ⟨rest, hO2, hr2⟩, hE2⟩ := RB_l0 (told := told) h64 hNB.2 hR T.len (fun x x0 x1 => ⟨(T.rg x x0 x1).1, (T.rg x x0 x1).2.1⟩) T.inj n (List.replicate n 0) [] ⟨by simp, fun x x0 x1 => .inl (tj_rep x0 x1)⟩ (by simp) (fun x y x0 x1 h => absurd h (hz x x0 x1)) (by simp)
  have e : rest = blocksL n l told := Ord.one hNB.2 hO2 (fun i i0 i1 => iff_of_false (hz i i0 i1) (by
    unfold rdOf
    rw [List.getD_eq_getElem?_getD, List.getElem?_replicate]
    split <;> simp)) hO
  rw [hr2, e, List.nil_append] at hE2
  refine Ev.congr (f := fun k => (orreryref20_Told.f k (n : Int) l told).bind fun t => (if t = true then ((orreryref21_Reach.f k (n : Int) l told).bind fun t2 => orreryref21_Blocks.l0 k (n : Int) told t2 (List.replicate n 0) [] (n : Int)) else (some (([] : List S30), 170)))) (fun k => ?_) (Ev.bind hT ?_)
  · unfold orreryref21_Blocks.f
    simp only [if_pos (show (0 : Int) ≤ (n : Int) by omega), Int.toNat_natCast, if_pos (show n ≤ 35184372088832 by omega)]
  · simp only [if_true]
    exact Ev.bind hE hE2
theorem Ev_rBlocksBad {a : Int} {l : List S33} {told : List Int} (hl : l.length ≤ 9223372036854775807) (h : toldB a l told = false) : Ev (fun k => orreryref21_Blocks.f k a l told) ([], 170) := by
  have hT := Ev_Told a l told hl
  rw [h] at hT
  unfold orreryref21_Blocks.f
  refine Ev.bind hT ?_
  simp only [Bool.false_eq_true, if_false]
  exact Ev.now _
theorem OL_l0 (x : List S30) (hx : x.length ≤ 64) (hs : ∀ b ∈ x, b.f0.length ≤ 64 ∧ b.f1.length ≤ 64) : ∀ (d i : Nat), i + d = x.length → Ev (fun k => orrerylaw21_OrderBlocks.l0 k x x (x.length : Int) (i : Int)) true := by
  intro d
  induction d with
  | zero =>
    intro i hi
    refine Ev.step (f := fun _ => some true) (fun k => ?_) (Ev.now _)
    simp only [orrerylaw21_OrderBlocks.l0]
    rw [if_neg (by omega)]
  | succ d ih =>
    intro i hi
    have hm : rd_T30 x (i : Int) ∈ x := by
      unfold rd_T30
      rw [Int.toNat_natCast, List.getD_eq_getElem?_getD, List.getElem?_eq_getElem (show i < x.length by omega)]
      exact List.getElem_mem _
    have h1 := hs _ hm
    have hw : wrap64 ((i : Int) + 1) = ((i + 1 : Nat) : Int) := by rw [w64 (by omega) (by omega)]; omega
    refine Ev.step (f := fun k => (orreryref17_Ints.f k ((rd_T30 x i).f0) ((rd_T30 x i).f0)).bind fun t => (if t = true then ((orreryref17_Ints.f k ((rd_T30 x i).f1) ((rd_T30 x i).f1)).bind fun t2 => (if t2 = true then (orrerylaw21_OrderBlocks.l0 k x x (x.length : Int) ((i + 1 : Nat) : Int)) else (some false))) else (some false))) (fun k => ?_) (Ev.bind (Ev_Ints _ h1.1) ?_)
    · simp only [orrerylaw21_OrderBlocks.l0, if_pos (show (i : Int) < (x.length : Int) by omega), if_pos (show (0 : Int) ≤ (i : Int) by omega), hw]
    · simp only [if_true]
      refine Ev.bind (Ev_Ints _ h1.2) ?_
      simp only [if_true]
      exact ih (i + 1) (by omega)
theorem OrderBlocks_ev (a : Int) (l : List S33) (told : List Int) (hl : l.length ≤ 9223372036854775807) : Ev (fun k => orrerylaw21_OrderBlocks.f k a l told) true := by
  have fin : ∀ (x : List S30) (e : Int), x.length ≤ 64 → (∀ b ∈ x, b.f0.length ≤ 64 ∧ b.f1.length ≤ 64) → Ev (fun k => order_Blocks.f k a l told) (x, e) → Ev (fun k => orreryref21_Blocks.f k a l told) (x, e) → Ev (fun k => orrerylaw21_OrderBlocks.f k a l told) true := fun x e hx hs h1 h2 => by
    unfold orrerylaw21_OrderBlocks.f
    refine Ev.bind h1 (Ev.bind h2 ?_)
    refine Ev.congr (f := fun k => orrerylaw21_OrderBlocks.j0 k x x false) (fun k => ?_) ?_
    · simp only [if_true]
      rw [show ((x.length : Int) != (x.length : Int)) = false by simp]
    · refine Ev.step (fun k => ?_) (OL_l0 x hx hs x.length 0 (by omega))
      simp only [orrerylaw21_OrderBlocks.j0]
      rw [if_neg (by decide)]
      rfl
  cases h : toldB a l told with
  | true =>
    obtain ⟨ha, T⟩ := toldB_whole h
    obtain ⟨hNB, _⟩ := needs_in T.hE T.len T.mem
    have hsh := Ord.short hNB.2 (blocksL_ord T)
    have hlen : ∀ (d : Nat) (th : List Bool) (bs : List (List Int)), (ordL told (needs a.toNat l told) d th bs).length = d := by
      intro d
      induction d with
      | zero => intro th bs; rfl
      | succ d ih => intro th bs; rw [ordL, List.length_cons, ih]
    have hS := tarjan_sccs hNB.2 hNB.1.symm
    exact fin _ 0 (by unfold blocksL; rw [hlen]; have := hS.len; have := T.hn; omega) (fun b hb => by have := hsh b hb; have := T.hn; omega) (Ev_oBlocks h) (Ev_rBlocks h)
  | false => exact fin [] 170 (by simp) (fun b hb => by cases hb) (Ev_oBlocksBad h) (Ev_rBlocksBad hl h)
theorem OrderBlocks_pure (a0 : Int) (l1 : List S33) (l2 : List Int) (h0 : I64 a0) (h1 : (∀ e ∈ l1, I64 e.f0 ∧ I64 e.f1 ∧ I64 e.f2) ∧ l1.length ≤ 9223372036854775807) (h2 : (∀ x ∈ l2, I64 x) ∧ l2.length ≤ 9223372036854775807) : ∃ k, orrerylaw21_OrderBlocks.f k a0 l1 l2 = some true := (OrderBlocks_ev a0 l1 l2 h1.2).rounds
end Go.Proofs.Ytlaneafplmbcnaa.PO
