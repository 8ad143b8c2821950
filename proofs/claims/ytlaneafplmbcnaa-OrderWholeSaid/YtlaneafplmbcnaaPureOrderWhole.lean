/- OrderWhole, in plain Lean. -/
import Derived.Test.YtlaneafplmbcnaaPOx65
import Derived.Test.YtlaneafplmbcnaaBp
import Derived.Test.YtlaneafplmbcnaaRw
import Derived.Test.YtlaneafplmbcnaaRowA
namespace Go.Proofs.Ytlaneafplmbcnaa.PO
open Go.RowKit Go.Proofs.YtlaneafplmbcnaaW.PrintWords Go.Proofs.YtlaneafplmbcnaaW.PrintLast Go.Proofs.YtlaneafplmbcnaaW.PrintMore
set_option linter.unusedVariables false
set_option linter.unusedSimpArgs false
section
variable {n : Nat} (h64 : n ≤ 64) {R : List (List Int)} (hg : Grid n n R) (x : List S30) (X C2 : Int) (b b2 : List Int) (hb : b.length ≤ 64)
include h64 hg hb
theorem OW_l3 {i : Int} (i0 : 0 ≤ i) (i1 : i < (n : Int)) {kk : Nat} (hk : kk < n) (X2 X3 X4 : Int)
    (hc : (kk : Int) ≠ i → ((kk : Int) ∈ b ↔ rd (rd_L3 R i) (kk : Int) = 1 ∧ rd (rd_L3 R (kk : Int)) i = 1))
    (H : Ev (fun k => orrerylaw21_OrderWhole.l2 k (n : Int) R i ((kk + 1 : Nat) : Int) x X X2 b X3 X4 b b2) true) :
    ∀ (d c : Nat), c + d = b.length → ∀ y : Bool, (y = true ↔ (kk : Int) ∈ b.take c) → Ev (fun k => orrerylaw21_OrderWhole.l3 k (n : Int) R i (kk : Int) y x X X2 b X3 X4 b (b.length : Int) (c : Int) b b2) true := by
  have hw : wrap64 ((kk : Int) + 1) = ((kk + 1 : Nat) : Int) := by rw [w64 (by omega) (by omega)]; omega
  have hrow := hg.row i0 i1
  have hrow2 := hg.row (i := (kk : Int)) (by omega) (by omega)
  have hgl := hg.1
  intro d
  induction d with
  | zero =>
    intro c hc2 y hy
    rw [List.take_of_length_le (by omega)] at hy
    refine Ev.step (fun k => ?_) H
    simp only [orrerylaw21_OrderWhole.l3]
    rw [if_neg (show ¬ (c : Int) < (b.length : Int) by omega), if_neg (show ¬ i < 0 by omega), if_neg (show ¬ i ≥ (n : Int) by omega), hw]
    by_cases e : (kk : Int) = i
    · rw [if_pos e]
    · have h1 := hc e
      rw [if_neg e, if_pos i0, if_pos (show i < (R.length : Int) by rw [hgl]; exact i1), if_pos (show (0 : Int) ≤ (kk : Int) by omega), if_pos (show (kk : Int) < ((rd_L3 R i).length : Int) by rw [hrow]; omega)]
      by_cases r1 : rd (rd_L3 R i) (kk : Int) = 1
      · rw [if_pos r1, if_pos (show (kk : Int) < (R.length : Int) by rw [hgl]; omega), if_pos (show i < ((rd_L3 R (kk : Int)).length : Int) by rw [hrow2]; exact i1), if_neg]
        by_cases r2 : rd (rd_L3 R (kk : Int)) i = 1
        · rw [r2, hy.2 (h1.2 ⟨r1, r2⟩)]; decide
        · have : y = false := by
            cases y with
            | false => rfl
            | true => exact absurd (h1.1 (hy.1 rfl)).2 r2
          rw [this, show (rd (rd_L3 R (kk : Int)) i == 1) = false by simpa using r2]; decide
      · have : y = false := by
          cases y with
          | false => rfl
          | true => exact absurd (h1.1 (hy.1 rfl)).1 r1
        rw [if_neg r1, this, if_neg (by decide)]
  | succ d ih =>
    intro c hc2 y hy
    have q1 : (c : Int) < (b.length : Int) := by omega
    have q0 : (0 : Int) ≤ (c : Int) := Int.natCast_nonneg c
    have hw2 : wrap64 ((c : Int) + 1) = ((c + 1 : Nat) : Int) := by rw [w64 (by omega) (by omega)]; omega
    have ht : b.take (c + 1) = b.take c ++ [b[c]] := by rw [List.take_succ_eq_append_getElem (by omega)]
    have hr : rd b (c : Int) = b[c] := rd_getE (by omega)
    refine Ev.step (f := fun k => orrerylaw21_OrderWhole.l3 k (n : Int) R i (kk : Int) (y || (rd b (c : Int) == (kk : Int))) x X X2 b X3 X4 b (b.length : Int) ((c + 1 : Nat) : Int) b b2) (fun k => ?_) (ih (c + 1) (by omega) _ ?_)
    · simp only [orrerylaw21_OrderWhole.l3]
      rw [if_pos q1, if_pos q0, hw2]
      cases y with
      | true => rw [if_pos q1, if_pos rfl, Bool.true_or]
      | false => rw [if_pos q1, if_neg Bool.false_ne_true, Bool.false_or]
    · rw [ht, List.mem_append, List.mem_singleton, Bool.or_eq_true, hy, hr, beq_iff_eq, eq_comm (a := b[c])]
theorem OW_l2 {i : Int} (i0 : 0 ≤ i) (i1 : i < (n : Int)) (X2 X3 X4 : Int)
    (hc : ∀ kk : Nat, kk < n → (kk : Int) ≠ i → ((kk : Int) ∈ b ↔ rd (rd_L3 R i) (kk : Int) = 1 ∧ rd (rd_L3 R (kk : Int)) i = 1))
    (H : Ev (fun k => orrerylaw21_OrderWhole.l1 k (n : Int) R x X X2 b X3 (wrap64 (X4 + 1)) b b2) true) :
    ∀ (d kk : Nat), kk + d = n → Ev (fun k => orrerylaw21_OrderWhole.l2 k (n : Int) R i (kk : Int) x X X2 b X3 X4 b b2) true := by
  intro d
  induction d with
  | zero =>
    intro kk hk
    refine Ev.step (fun k => ?_) H
    simp only [orrerylaw21_OrderWhole.l2]
    rw [if_neg (by omega)]
  | succ d ih =>
    intro kk hk
    refine Ev.step (fun k => ?_) (OW_l3 h64 hg x X b b2 hb i0 i1 (show kk < n by omega) X2 X3 X4 (hc kk (by omega)) (ih (kk + 1) (by omega)) b.length 0 (by omega) false (by simp))
    simp only [orrerylaw21_OrderWhole.l2]
    rw [if_pos (by omega)]
    rfl
theorem OW_l1 (hm : ∀ e ∈ b, 0 ≤ e ∧ e < (n : Int)) (X2 : Int)
    (hc : ∀ i ∈ b, ∀ kk : Nat, kk < n → (kk : Int) ≠ i → ((kk : Int) ∈ b ↔ rd (rd_L3 R i) (kk : Int) = 1 ∧ rd (rd_L3 R (kk : Int)) i = 1))
    (H : Ev (fun k => orrerylaw21_OrderWhole.l0 k (n : Int) R x X (wrap64 (X2 + 1))) true) :
    ∀ (d c : Nat), c + d = b.length → Ev (fun k => orrerylaw21_OrderWhole.l1 k (n : Int) R x X X2 b (b.length : Int) (c : Int) b b2) true := by
  intro d
  induction d with
  | zero =>
    intro c hc2
    refine Ev.step (fun k => ?_) H
    simp only [orrerylaw21_OrderWhole.l1]
    rw [if_neg (by omega)]
  | succ d ih =>
    intro c hc2
    have hr : rd b (c : Int) = b[c] := rd_getE (by omega)
    have hmem : rd b (c : Int) ∈ b := by rw [hr]; exact List.getElem_mem _
    have hw2 : wrap64 ((c : Int) + 1) = ((c + 1 : Nat) : Int) := by rw [w64 (by omega) (by omega)]; omega
    have h1 := ih (c + 1) (by omega)
    rw [← hw2] at h1
    refine Ev.step (fun k => ?_) (OW_l2 h64 hg x X b b2 hb (hm _ hmem).1 (hm _ hmem).2 X2 (b.length : Int) (c : Int) (hc _ hmem) h1 n 0 (by omega))
    simp only [orrerylaw21_OrderWhole.l1]
    rw [if_pos (by omega), if_pos (by omega), if_pos (by omega)]
    rfl
end
theorem OW_l0 {n : Nat} (h64 : n ≤ 64) {R : List (List Int)} (hg : Grid n n R) (x : List S30) (hx : x.length ≤ 64) (hs : ∀ b ∈ x, b.f0.length ≤ 64) (hm : ∀ b ∈ x, ∀ e ∈ b.f0, 0 ≤ e ∧ e < (n : Int))
    (hc : ∀ b ∈ x, ∀ i ∈ b.f0, ∀ kk : Nat, kk < n → (kk : Int) ≠ i → ((kk : Int) ∈ b.f0 ↔ rd (rd_L3 R i) (kk : Int) = 1 ∧ rd (rd_L3 R (kk : Int)) i = 1)) :
    ∀ (d c : Nat), c + d = x.length → Ev (fun k => orrerylaw21_OrderWhole.l0 k (n : Int) R x (x.length : Int) (c : Int)) true := by
  intro d
  induction d with
  | zero =>
    intro c hc2
    refine Ev.step (f := fun _ => some true) (fun k => ?_) (Ev.now _)
    simp only [orrerylaw21_OrderWhole.l0]
    rw [if_neg (by omega)]
  | succ d ih =>
    intro c hc2
    have hr : rd_T30 x (c : Int) = x[c] := rd_T30_getE (by omega)
    have hmem : rd_T30 x (c : Int) ∈ x := by rw [hr]; exact List.getElem_mem _
    have hw2 : wrap64 ((c : Int) + 1) = ((c + 1 : Nat) : Int) := by rw [w64 (by omega) (by omega)]; omega
    have h1 := ih (c + 1) (by omega)
    rw [← hw2] at h1
    refine Ev.step (fun k => ?_) (OW_l1 h64 hg x (x.length : Int) (rd_T30 x (c : Int)).f0 (rd_T30 x (c : Int)).f1 (hs _ hmem) (hm _ hmem) (c : Int) (hc _ hmem) h1 (rd_T30 x (c : Int)).f0.length 0 (by omega))
    simp only [orrerylaw21_OrderWhole.l0]
    rw [if_pos (by omega), if_pos (by omega), if_pos (by omega)]
    rfl
theorem OrderWhole_ev (a : Int) (l : List S33) (told : List Int) (hl : l.length ≤ 9223372036854775807) : Ev (fun k => orrerylaw21_OrderWhole.f k a l told) true := by
  unfold orrerylaw21_OrderWhole.f
  rw [show orrerylaw21_alive.f = some true from rfl]
  simp only [Option.bind_some, if_true]
  refine Ev.bind (Ev_Told a l told hl) ?_
  cases h : toldB a l told with
  | false => simp only [Bool.false_eq_true, if_false]; exact Ev.now _
  | true =>
    simp only [if_true]
    refine Ev.bind (Ev_oBlocks h) ?_
    simp only [if_true]
    obtain ⟨ha, T⟩ := toldB_whole h
    obtain ⟨n, rfl⟩ := Int.eq_ofNat_of_zero_le ha
    rw [Int.toNat_natCast] at T ⊢
    have h64 := T.hn
    obtain ⟨R, hR, hE⟩ := Ev_Reach h64 T.hl T.hE T.len T.mem
    refine Ev.bind hE ?_
    have B := blocks_blks T
    have hN := T.nb
    refine OW_l0 h64 hR.1 (blocksL n l told) (by have := blocks_len T; omega) (fun b hb => by have := blocks_short T b hb; omega) B.rg (fun b hb i hi kk hk hne => ?_) (blocksL n l told).length 0 (by omega)
    have hir := B.rg b hb i hi
    have hs := B.scc b hb
    rw [hs.mem_iff hi, (hR.2 i kk hir.1 hir.2 (by omega) (by omega)).2, (hR.2 kk i (by omega) (by omega) hir.1 hir.2).2, Pm.iff hN (fun e => hne e.symm), Pm.iff hN hne]
theorem OrderWhole_pure (a0 : Int) (l1 : List S33) (l2 : List Int) (h0 : I64 a0) (h1 : (∀ e ∈ l1, I64 e.f0 ∧ I64 e.f1 ∧ I64 e.f2) ∧ l1.length ≤ 9223372036854775807) (h2 : (∀ x ∈ l2, I64 x) ∧ l2.length ≤ 9223372036854775807) : ∃ k, orrerylaw21_OrderWhole.f k a0 l1 l2 = some true := (OrderWhole_ev a0 l1 l2 h1.2).rounds
end Go.Proofs.Ytlaneafplmbcnaa.PO
