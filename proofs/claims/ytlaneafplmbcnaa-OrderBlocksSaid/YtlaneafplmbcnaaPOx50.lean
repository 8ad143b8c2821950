/- What the Go functions of this part compute, as Lean functions, and that the machine's calls come to just that; written for this claim by a program of the session (gen.sh, after the kit's printer). -/
import Derived.Test.YtlaneafplmbcnaaPOx0
import Derived.Test.YtlaneafplmbcnaaSq
namespace Go.Proofs.Ytlaneafplmbcnaa.PO
open Go.RowKit Go.Proofs.YtlaneafplmbcnaaW.PrintWords Go.Proofs.YtlaneafplmbcnaaW.PrintLast Go.Proofs.YtlaneafplmbcnaaW.PrintMore
attribute [local go_sem] max2_int min2_int max_two min_two max_three min_three max_four min_four   -- for this text's walks alone
set_option linter.unusedVariables false
set_option linter.unusedSimpArgs false

/-! ### orreryref21_Reach: function 14 -/
mutual
def orreryref21_Reach.l0 : Nat → Int → List (S33) → List Int → List Int → Int → Int → Option ((List (List Int)))
  | 0, _, _, _, _, _, _ => none
  | k + 1, x0, x1, x7, x19, x20, x21 => if x21 < x20 then (if 0 ≤ x21 then (if x21 < (x19.length : Int) then (if 0 ≤ (rd x19 x21) then (if (rd x19 x21) < (x7.length : Int) then (orreryref21_Reach.l0 k x0 x1 (x7.set ((rd x19 x21) : Int).toNat x21) x19 x20 (wrap64 (x21 + 1))) else (none)) else (none)) else (none)) else (none)) else (orreryref21_Reach.l1 k x0 x1 x7 (([] : List (List Int))) 0)
def orreryref21_Reach.l1 : Nat → Int → List (S33) → List Int → List (List Int) → Int → Option ((List (List Int)))
  | 0, _, _, _, _, _ => none
  | k + 1, x0, x1, x7, x10, x11 => if x11 < x0 then (if 0 ≤ x0 then (if (x0 : Int).toNat ≤ 35184372088832 then (if x10.length < 5864062014805 then (orreryref21_Reach.l1 k x0 x1 x7 (x10 ++ [(List.replicate (x0 : Int).toNat 0)]) (wrap64 (x11 + 1))) else (none)) else (none)) else (none)) else (orreryref21_Reach.l2 k x0 x7 x10 x1 (x1.length : Int) 0)
def orreryref21_Reach.l2 : Nat → Int → List Int → List (List Int) → List (S33) → Int → Int → Option ((List (List Int)))
  | 0, _, _, _, _, _, _ => none
  | k + 1, x0, x7, x10, x42, x43, x44 => if x44 < x43 then (if 0 ≤ x44 then (if x44 < (x42.length : Int) then (if 0 ≤ ((rd_T33 x42 x44).f1) then (if ((rd_T33 x42 x44).f1) < (x7.length : Int) then (if (rd x7 ((rd_T33 x42 x44).f1)) = ((rd_T33 x42 x44).f0) then (orreryref21_Reach.l2 k x0 x7 x10 x42 x43 (wrap64 (x44 + 1))) else (if 0 ≤ ((rd_T33 x42 x44).f0) then (if ((rd_T33 x42 x44).f0) < (x10.length : Int) then (if 0 ≤ (rd x7 ((rd_T33 x42 x44).f1)) then (if (rd x7 ((rd_T33 x42 x44).f1)) < ((rd_L3 x10 ((rd_T33 x42 x44).f0)).length : Int) then (orreryref21_Reach.l2 k x0 x7 (x10.set (((rd_T33 x42 x44).f0) : Int).toNat ((rd_L3 x10 ((rd_T33 x42 x44).f0)).set ((rd x7 ((rd_T33 x42 x44).f1)) : Int).toNat 1)) x42 x43 (wrap64 (x44 + 1))) else (none)) else (none)) else (none)) else (none))) else (none)) else (none)) else (none)) else (none)) else (orreryref21_Reach.l3 k x0 x10 0)
def orreryref21_Reach.l3 : Nat → Int → List (List Int) → Int → Option ((List (List Int)))
  | 0, _, _, _ => none
  | k + 1, x0, x10, x14 => if x14 < x0 then (orreryref21_Reach.l4 k x0 x10 x14 0) else (some x10)
def orreryref21_Reach.l4 : Nat → Int → List (List Int) → Int → Int → Option ((List (List Int)))
  | 0, _, _, _, _ => none
  | k + 1, x0, x10, x14, x15 => if x15 < x0 then (orreryref21_Reach.l5 k x0 x10 x14 x15 0) else (orreryref21_Reach.l3 k x0 x10 (wrap64 (x14 + 1)))
def orreryref21_Reach.l5 : Nat → Int → List (List Int) → Int → Int → Int → Option ((List (List Int)))
  | 0, _, _, _, _, _ => none
  | k + 1, x0, x10, x14, x15, x16 => if x16 < x0 then (if 0 ≤ x15 then (if x15 < (x10.length : Int) then (if 0 ≤ x14 then (if x14 < ((rd_L3 x10 x15).length : Int) then (if (rd (rd_L3 x10 x15) x14) = 1 then (if x14 < (x10.length : Int) then (if 0 ≤ x16 then (if x16 < ((rd_L3 x10 x14).length : Int) then (if (rd (rd_L3 x10 x14) x16) = 1 then (if x16 < ((rd_L3 x10 x15).length : Int) then (orreryref21_Reach.l5 k x0 (x10.set (x15 : Int).toNat ((rd_L3 x10 x15).set (x16 : Int).toNat 1)) x14 x15 (wrap64 (x16 + 1))) else (none)) else (orreryref21_Reach.l5 k x0 x10 x14 x15 (wrap64 (x16 + 1)))) else (none)) else (none)) else (none)) else (orreryref21_Reach.l5 k x0 x10 x14 x15 (wrap64 (x16 + 1)))) else (none)) else (none)) else (none)) else (none)) else (orreryref21_Reach.l4 k x0 x10 x14 (wrap64 (x15 + 1)))
end
def orreryref21_Reach.f (k : Nat) (a0 : Int) (l1 : List (S33)) (l2 : List Int) : Option ((List (List Int))) := if 0 ≤ a0 then (if (a0 : Int).toNat ≤ 35184372088832 then (orreryref21_Reach.l0 k a0 l1 (List.replicate (a0 : Int).toNat 0) l2 (l2.length : Int) 0) else (none)) else (none)
theorem orreryref21_Reach.mono_l : ∀ k, (∀ y0 y1 y2 y3 y4 y5, LeO (orreryref21_Reach.l0 k y0 y1 y2 y3 y4 y5) (orreryref21_Reach.l0 (k + 1) y0 y1 y2 y3 y4 y5)) ∧ (∀ y0 y1 y2 y3 y4, LeO (orreryref21_Reach.l1 k y0 y1 y2 y3 y4) (orreryref21_Reach.l1 (k + 1) y0 y1 y2 y3 y4)) ∧ (∀ y0 y1 y2 y3 y4 y5, LeO (orreryref21_Reach.l2 k y0 y1 y2 y3 y4 y5) (orreryref21_Reach.l2 (k + 1) y0 y1 y2 y3 y4 y5)) ∧ (∀ y0 y1 y2, LeO (orreryref21_Reach.l3 k y0 y1 y2) (orreryref21_Reach.l3 (k + 1) y0 y1 y2)) ∧ (∀ y0 y1 y2 y3, LeO (orreryref21_Reach.l4 k y0 y1 y2 y3) (orreryref21_Reach.l4 (k + 1) y0 y1 y2 y3)) ∧ (∀ y0 y1 y2 y3 y4, LeO (orreryref21_Reach.l5 k y0 y1 y2 y3 y4) (orreryref21_Reach.l5 (k + 1) y0 y1 y2 y3 y4))
  | 0 => ⟨fun _ _ _ _ _ _ r h => by simp [orreryref21_Reach.l0] at h, fun _ _ _ _ _ r h => by simp [orreryref21_Reach.l1] at h, fun _ _ _ _ _ _ r h => by simp [orreryref21_Reach.l2] at h, fun _ _ _ r h => by simp [orreryref21_Reach.l3] at h, fun _ _ _ _ r h => by simp [orreryref21_Reach.l4] at h, fun _ _ _ _ _ r h => by simp [orreryref21_Reach.l5] at h⟩
  | k + 1 => by
    obtain ⟨ih0, ih1, ih2, ih3, ih4, ih5⟩ := orreryref21_Reach.mono_l k
    refine ⟨?_, ?_, ?_, ?_, ?_, ?_⟩
    · intro y0 y1 y2 y3 y4 y5
      unfold orreryref21_Reach.l0
      repeat' first
      | (with_reducible exact ih0 _ _ _ _ _ _)
      | (with_reducible exact ih1 _ _ _ _ _)
      | (with_reducible exact ih2 _ _ _ _ _ _)
      | (with_reducible exact ih3 _ _ _)
      | (with_reducible exact ih4 _ _ _ _)
      | (with_reducible exact ih5 _ _ _ _ _)
      | (with_reducible exact LeO.refl _)
      | (with_reducible exact LeO.none _)
      | (with_reducible refine LeO.ite ?_ ?_)
      | (with_reducible refine LeO.bind ?_ (fun _ => ?_))
      | exact ih0 _ _ _ _ _ _
      | exact ih1 _ _ _ _ _
      | exact ih2 _ _ _ _ _ _
      | exact ih3 _ _ _
      | exact ih4 _ _ _ _
      | exact ih5 _ _ _ _ _
      | exact LeO.none _
      | refine LeO.ite ?_ ?_
      | refine LeO.bind ?_ (fun _ => ?_)
    · intro y0 y1 y2 y3 y4
      unfold orreryref21_Reach.l1
      repeat' first
      | (with_reducible exact ih0 _ _ _ _ _ _)
      | (with_reducible exact ih1 _ _ _ _ _)
      | (with_reducible exact ih2 _ _ _ _ _ _)
      | (with_reducible exact ih3 _ _ _)
      | (with_reducible exact ih4 _ _ _ _)
      | (with_reducible exact ih5 _ _ _ _ _)
      | (with_reducible exact LeO.refl _)
      | (with_reducible exact LeO.none _)
      | (with_reducible refine LeO.ite ?_ ?_)
      | (with_reducible refine LeO.bind ?_ (fun _ => ?_))
      | exact ih0 _ _ _ _ _ _
      | exact ih1 _ _ _ _ _
      | exact ih2 _ _ _ _ _ _
      | exact ih3 _ _ _
      | exact ih4 _ _ _ _
      | exact ih5 _ _ _ _ _
      | exact LeO.none _
      | refine LeO.ite ?_ ?_
      | refine LeO.bind ?_ (fun _ => ?_)
    · intro y0 y1 y2 y3 y4 y5
      unfold orreryref21_Reach.l2
      repeat' first
      | (with_reducible exact ih0 _ _ _ _ _ _)
      | (with_reducible exact ih1 _ _ _ _ _)
      | (with_reducible exact ih2 _ _ _ _ _ _)
      | (with_reducible exact ih3 _ _ _)
      | (with_reducible exact ih4 _ _ _ _)
      | (with_reducible exact ih5 _ _ _ _ _)
      | (with_reducible exact LeO.refl _)
      | (with_reducible exact LeO.none _)
      | (with_reducible refine LeO.ite ?_ ?_)
      | (with_reducible refine LeO.bind ?_ (fun _ => ?_))
      | exact ih0 _ _ _ _ _ _
      | exact ih1 _ _ _ _ _
      | exact ih2 _ _ _ _ _ _
      | exact ih3 _ _ _
      | exact ih4 _ _ _ _
      | exact ih5 _ _ _ _ _
      | exact LeO.none _
      | refine LeO.ite ?_ ?_
      | refine LeO.bind ?_ (fun _ => ?_)
    · intro y0 y1 y2
      unfold orreryref21_Reach.l3
      repeat' first
      | (with_reducible exact ih0 _ _ _ _ _ _)
      | (with_reducible exact ih1 _ _ _ _ _)
      | (with_reducible exact ih2 _ _ _ _ _ _)
      | (with_reducible exact ih3 _ _ _)
      | (with_reducible exact ih4 _ _ _ _)
      | (with_reducible exact ih5 _ _ _ _ _)
      | (with_reducible exact LeO.refl _)
      | (with_reducible exact LeO.none _)
      | (with_reducible refine LeO.ite ?_ ?_)
      | (with_reducible refine LeO.bind ?_ (fun _ => ?_))
      | exact ih0 _ _ _ _ _ _
      | exact ih1 _ _ _ _ _
      | exact ih2 _ _ _ _ _ _
      | exact ih3 _ _ _
      | exact ih4 _ _ _ _
      | exact ih5 _ _ _ _ _
      | exact LeO.none _
      | refine LeO.ite ?_ ?_
      | refine LeO.bind ?_ (fun _ => ?_)
    · intro y0 y1 y2 y3
      unfold orreryref21_Reach.l4
      repeat' first
      | (with_reducible exact ih0 _ _ _ _ _ _)
      | (with_reducible exact ih1 _ _ _ _ _)
      | (with_reducible exact ih2 _ _ _ _ _ _)
      | (with_reducible exact ih3 _ _ _)
      | (with_reducible exact ih4 _ _ _ _)
      | (with_reducible exact ih5 _ _ _ _ _)
      | (with_reducible exact LeO.refl _)
      | (with_reducible exact LeO.none _)
      | (with_reducible refine LeO.ite ?_ ?_)
      | (with_reducible refine LeO.bind ?_ (fun _ => ?_))
      | exact ih0 _ _ _ _ _ _
      | exact ih1 _ _ _ _ _
      | exact ih2 _ _ _ _ _ _
      | exact ih3 _ _ _
      | exact ih4 _ _ _ _
      | exact ih5 _ _ _ _ _
      | exact LeO.none _
      | refine LeO.ite ?_ ?_
      | refine LeO.bind ?_ (fun _ => ?_)
    · intro y0 y1 y2 y3 y4
      unfold orreryref21_Reach.l5
      repeat' first
      | (with_reducible exact ih0 _ _ _ _ _ _)
      | (with_reducible exact ih1 _ _ _ _ _)
      | (with_reducible exact ih2 _ _ _ _ _ _)
      | (with_reducible exact ih3 _ _ _)
      | (with_reducible exact ih4 _ _ _ _)
      | (with_reducible exact ih5 _ _ _ _ _)
      | (with_reducible exact LeO.refl _)
      | (with_reducible exact LeO.none _)
      | (with_reducible refine LeO.ite ?_ ?_)
      | (with_reducible refine LeO.bind ?_ (fun _ => ?_))
      | exact ih0 _ _ _ _ _ _
      | exact ih1 _ _ _ _ _
      | exact ih2 _ _ _ _ _ _
      | exact ih3 _ _ _
      | exact ih4 _ _ _ _
      | exact ih5 _ _ _ _ _
      | exact LeO.none _
      | refine LeO.ite ?_ ?_
      | refine LeO.bind ?_ (fun _ => ?_)
theorem orreryref21_Reach.mono : ∀ a0 a1 a2 k, LeO (orreryref21_Reach.f k a0 a1 a2) (orreryref21_Reach.f (k + 1) a0 a1 a2) := by
 intro a0 a1 a2 k
 obtain ⟨ih0, ih1, ih2, ih3, ih4, ih5⟩ := orreryref21_Reach.mono_l k
 unfold orreryref21_Reach.f
 repeat' first
     | (with_reducible exact ih0 _ _ _ _ _ _)
     | (with_reducible exact ih1 _ _ _ _ _)
     | (with_reducible exact ih2 _ _ _ _ _ _)
     | (with_reducible exact ih3 _ _ _)
     | (with_reducible exact ih4 _ _ _ _)
     | (with_reducible exact ih5 _ _ _ _ _)
     | (with_reducible exact LeO.refl _)
     | (with_reducible exact LeO.none _)
     | (with_reducible refine LeO.ite ?_ ?_)
     | (with_reducible refine LeO.bind ?_ (fun _ => ?_))
     | exact ih0 _ _ _ _ _ _
     | exact ih1 _ _ _ _ _
     | exact ih2 _ _ _ _ _ _
     | exact ih3 _ _ _
     | exact ih4 _ _ _ _
     | exact ih5 _ _ _ _ _
     | exact LeO.none _
     | refine LeO.ite ?_ ?_
     | refine LeO.bind ?_ (fun _ => ?_)
def orreryref21_Reach.T15 : Bool × List (List Nat × List Nat) := (true, [([], []), ([], []), ([1], [1]), ([0, 2], [0, 2]), ([3], [3]), ([], []), ([5], [5]), ([4, 6], [4, 6])])
def orreryref21_Reach.B15 : List Nat := [0, 0, 2, 7, 15, 0, 32, 127]
theorem orreryref21_Reach.tab15 : rtab .any (opsOf Try.f14 15) = orreryref21_Reach.T15 := by kernel_rfl
theorem orreryref21_Reach.bits15 : waitsOk orreryref21_Reach.T15.2 orreryref21_Reach.B15 = true := by kernel_rfl
def orreryref21_Reach.T16 : Bool × List (List Nat × List Nat) := (true, [([], []), ([], []), ([1], [1]), ([0, 2], [0, 2]), ([3], [3]), ([], []), ([], []), ([6], [6]), ([5, 7], [5, 7]), ([8], [8]), ([4, 9, 0, 1, 2, 3, 4, 5, 6, 7, 8, 9], [4, 9]), ([10, 0, 1, 2, 3, 4, 5, 6, 7, 8, 9], [10])])
def orreryref21_Reach.B16 : List Nat := [0, 0, 2, 7, 15, 0, 0, 64, 224, 480, 1023, 2047]
theorem orreryref21_Reach.tab16 : rtab .any (opsOf Try.f14 16) = orreryref21_Reach.T16 := by kernel_rfl
theorem orreryref21_Reach.bits16 : waitsOk orreryref21_Reach.T16.2 orreryref21_Reach.B16 = true := by kernel_rfl
set_option maxHeartbeats 8000000 in
set_option maxRecDepth 100000 in
theorem orreryref21_Reach.calls (k : Nat) (a0 : Int) (A1 : Option Addr) (c1 : Nat) (l1 : List (S33)) (A2 : Option Addr) (c2 : Nat) (l2 : List Int) (r : List (List Int)) (w : World) (hr1 : Kd.C k33 w A1 l1.length l1) (hc1 : l1.length ≤ c1) (hr2 : Kd.C (Kd.int .i64) w A2 l2.length l2) (hc2 : l2.length ≤ c2) (h : orreryref21_Reach.f k a0 l1 l2 = some r) :
    Calls Try.prog 14 #[.int .i64 a0, .slice A1 l1.length c1, .slice A2 l2.length c2] w fun e w' => ∃ v0_ : Value, e = .returned (v0_) ∧ Kd.S (Kd.slice 3 (Kd.int .i64)) 23 w' w.heap.size (fun _ => True) v0_ r ∧ Below w.heap.size w w' := by
 have hu33 := Try.underlying33
 have HR1 := Aside0.mk hr1
 have HC1 := Aside0.mk hc1
 clear hr1 hc1
 have HR2 := Aside0.mk hr2
 have HC2 := Aside0.mk hc2
 clear hr2 hc2
 have HB := Aside0.mk (Below.refl w.heap.size w)
 have H : (if 0 ≤ a0 then (if (a0 : Int).toNat ≤ 35184372088832 then (orreryref21_Reach.l0 k a0 l1 (List.replicate (a0 : Int).toNat 0) l2 (l2.length : Int) 0) else (none)) else (none)) = some r := h
 clear h
 by_cases c4 : 0 ≤ a0
 case neg => rw [if_neg c4] at H; exact absurd H (by simp)
 rw [if_pos c4] at H
 have c4b0 := eq_true c4
 have c4b1 : decide (0 ≤ a0) = true := decide_eq_true c4
 clear c4
 by_cases c5 : (a0 : Int).toNat ≤ 35184372088832
 case neg => rw [if_neg c5] at H; exact absurd H (by simp)
 rw [if_pos c5] at H
 have c5b0 := eq_true c5
 have c5b1 : decide ((a0 : Int).toNat ≤ 35184372088832) = true := decide_eq_true c5
 clear c5
 obtain ⟨y278, hy278⟩ : ∃ y_ : List Int, y_ = (List.replicate (a0 : Int).toNat 0) := ⟨_, rfl⟩
 replace H : (orreryref21_Reach.l0 k a0 l1 y278 l2 (l2.length : Int) 0) = some r := by first | (rw [hy278]; with_reducible exact H) | (have H2_ := (Option.bind_some _ _).symm.trans H; rw [hy278]; with_reducible exact H2_) | (have H2_ := (Option.bind_some _ _).symm.trans H; with_reducible exact H2_) | with_reducible exact H | (rw [hy278]; exact H) | exact H
 have Ny278 := Aside0.mk hy278
 clear hy278
 have H' := Aside0.mk H
 clear H
 go_enter Try.func14, Try.ntmps14
 go_wp2_with (first | ((with_reducible refine gate_dst (N := 18) rfl ?_); refine Kd.R_make (Kd.int .i64) _ 3 rfl (N := 18) rfl 23 _ _ rfl a0 rfl rfl Try.underlying23 (.int .i64 0) 8 info3 rfl (by decide) (by omega) 0 (ok := fun _ => True) (okp := fun _ => True) rfl (fun _ hk => hk) trivial (of_decide_eq_true (by first | (with_reducible assumption) | assumption)) (Nat.le_trans (Nat.mul_le_mul_right _ (of_decide_eq_true (by first | (with_reducible assumption) | assumption) : a0.toNat ≤ 35184372088832)) (by omega)) (Below.refl _ _) (Nat.le_refl _) ?_; intro v279 w6 ho7 hb hg_ hnew_; clear hg_ hnew_; (first | rw [← Ny278.out] at ho7 | (simp only [Int.reduceToNat] at ho7; rw [← Ny278.out] at ho7)); have n0_ := Aside0.mk (Kd.R_lower ho7 (below_size (by repeat (first | (with_reducible first | exact HB.out | apply below_alloc | apply pw_below_drewN | apply below_drew1) | exact HB.out)))); have n1_ := Aside0.mk (below_step (by repeat (first | (with_reducible first | exact HB.out | apply below_alloc | apply pw_below_drewN | apply below_drew1) | exact HB.out)) hb); clear HB; have HO280 := n0_; have HB := n1_; clear n0_ n1_; clear hb ho7))
 go_loopg [21] k (fun kq v21 w' => ∃ (x7_1 : List Int) (x21_1 : Int), v21 = .int .i64 x21_1 ∧ Aside0 (orreryref21_Reach.l0 kq a0 l1 x7_1 l2 (l2.length : Int) x21_1 = some r) ∧ Aside0 (kq ≤ k) ∧ Aside0 (Kd.R (Kd.int .i64) 3 w' w.heap.size (fun _ => True) v279 x7_1) ∧ Aside0 (Below w.heap.size w w'))
 case atStart => exact ⟨(y278), (0), (by first | rfl | (simp; done) | (simp [*]; done)), H', ⟨Nat.le_refl _⟩, ⟨by (with_reducible repeat (first | apply Kd.R_alloc | apply Kd.R_drewN | apply Kd.R_drew)); exact HO280.out⟩, ⟨by repeat (first | (with_reducible first | exact HB.out | apply below_alloc | apply pw_below_drewN | apply below_drew1) | exact HB.out)⟩⟩
 case round =>
  clear H'
  try clear c1
  try clear c2
  try clear p2
  try clear c4
  try clear c4b0
  try clear c4b1
  try clear c5
  try clear c5b0
  try clear c5b1
  obtain ⟨x7_1, x21_1, rfl, HA, HK1, HO_7, HB⟩ := hrel
  cases gk with
  | zero => exact absurd HA.out (by simp [orreryref21_Reach.l0])
  | succ k1 =>
   have H := HA.out
   clear HA
   simp only [orreryref21_Reach.l0] at H
   by_cases c8 : x21_1 < (l2.length : Int)
   case pos =>
    rw [if_pos c8] at H
    have c8b0 : decide (x21_1 < (l2.length : Int)) = true := decide_eq_true c8
    clear c8
    by_cases c9 : 0 ≤ x21_1
    case neg => rw [if_neg c9] at H; exact absurd H (by simp)
    rw [if_pos c9] at H
    have c9b0 : decide (0 ≤ x21_1) = true := decide_eq_true c9
    clear c9
    by_cases c10 : x21_1 < (l2.length : Int)
    case neg => rw [if_neg c10] at H; exact absurd H (by simp)
    rw [if_pos c10] at H
    have c10b0 : decide (x21_1 < (l2.length : Int)) = true := decide_eq_true c10
    clear c10
    by_cases c11 : 0 ≤ (rd l2 x21_1)
    case neg => rw [if_neg c11] at H; exact absurd H (by simp)
    rw [if_pos c11] at H
    have c11b0 : decide (0 ≤ (rd l2 x21_1)) = true := decide_eq_true c11
    clear c11
    by_cases c12 : (rd l2 x21_1) < (x7_1.length : Int)
    case neg => rw [if_neg c12] at H; exact absurd H (by simp)
    rw [if_pos c12] at H
    have c12b0 : decide ((rd l2 x21_1) < (x7_1.length : Int)) = true := decide_eq_true c12
    clear c12
    obtain ⟨y282, hy282⟩ : ∃ y_ : List Int, y_ = (x7_1.set ((rd l2 x21_1) : Int).toNat x21_1) := ⟨_, rfl⟩
    replace H : (orreryref21_Reach.l0 k1 a0 l1 y282 l2 (l2.length : Int) (wrap64 (x21_1 + 1))) = some r := by first | (rw [hy282]; with_reducible exact H) | (have H2_ := (Option.bind_some _ _).symm.trans H; rw [hy282]; with_reducible exact H2_) | (have H2_ := (Option.bind_some _ _).symm.trans H; with_reducible exact H2_) | with_reducible exact H | (rw [hy282]; exact H) | exact H
    have Ny282 := Aside0.mk hy282
    clear hy282
    have H' := Aside0.mk H
    clear H
    have p281 : 0 ≤ (x21_1 : Int) := of_decide_eq_true (by first | (with_reducible assumption) | assumption)
    have q281 : x21_1 < (l2.length : Int) := of_decide_eq_true (by first | (with_reducible assumption) | assumption)
    obtain ⟨ad281, e281, hx281_0⟩ := Kd.at_int HR2.out x21_1 p281 q281
    cases e281
    replace hx281_0 := (HB.out.cell (World.block_lt_of_cell? w _ hx281_0)).trans hx281_0
    replace p281 := eq_true p281
    replace q281 := eq_true q281
    have p13 : 0 ≤ ((rd l2 x21_1) : Int) := of_decide_eq_true (by first | (with_reducible assumption) | assumption)
    have q13 : ((rd l2 x21_1) : Int) < ((x7_1.length : Int) : Int) := of_decide_eq_true (by first | (with_reducible assumption) | assumption)
    obtain ⟨go13, co13, eo13, gb13, gl13, cl13, HG13⟩ := Kd.R_form HO_7.out (by omega)
    (first | cases eo13 | (injection eo13 with ea_ en_ ec_; (first | subst ea_ | (injection ea_ with ea_; subst ea_)); subst ec_; clear en_))
    have GB13 := Aside0.mk gb13
    have GG13 := Aside0.mk HG13
    clear gb13 gl13 HG13
    obtain ⟨hx13_0, hf13_0⟩ := Kd.R_celln 0 HO_7.out ((rd l2 x21_1) : Int) p13 q13
    replace p13 := eq_true p13
    replace q13 := eq_true q13
    have HP14 := Kd.R_putg HO_7.out ((rd l2 x21_1) : Int) x21_1
    go_wp2_with (first | ((with_reducible refine gate_store (t := 3) (p := 29) rfl ?_); refine store_event (t := 3) (p := 29) (v := ?vo_w15) (w1 := (wr.setCell ⟨go13, ((rd l2 x21_1) : Int).toNat, none⟩ (.int .i64 x21_1))) ?hg ?ho ?hn ?hr ?_; (case ho => rfl); (case hg => rfl); (case hn => rfl); (case hr => first | (go_simp; done) | (go_simp; rfl)); intro w15 hw; have hg : wr.grownBy w15 (some go13) := (by rw [hw]; exact HP14.2); have hp_ : Kd.R (Kd.int .i64) 3 w15 w.heap.size (fun _ => True) (.slice (some ⟨go13, 0, none⟩) x7_1.length co13) y282 := (by rw [hw, Ny282.out]; exact HP14.1); clear HP14; have n0_ := Aside0.mk (hp_); have n1_ := Aside0.mk ((by rw [hw]; exact below_set (HB.out) GB13.out : Below w.heap.size w w15)); clear HO_7; clear HB; have HO_7 := n0_; have HB := n1_; clear n0_ n1_; clear hg hw hp_))
    (first | go_roundg k1 | (refine Handed.intro k1 ?measure ?_; rotate_left; go_step; (repeat apply Exists.intro); (refine ⟨?rel, ?fr_⟩); (case fr_ => (simp only [add_plain]; rfl))))
    case measure => have := HK1.out; omega
    case rel => exact ⟨(y282), (wrap64 (x21_1 + 1)), (by first | rfl | (simp; done) | (simp [*]; done)), H', ⟨by have := HK1.out; omega⟩, ⟨by (with_reducible repeat (first | apply Kd.R_alloc | apply Kd.R_drewN | apply Kd.R_drew)); exact HO_7.out⟩, ⟨by repeat (first | (with_reducible first | exact HB.out | apply below_alloc | apply pw_below_drewN | apply below_drew1) | exact HB.out)⟩⟩
   rw [if_neg c8] at H
   have c8b0 : decide (x21_1 < (l2.length : Int)) = false := decide_eq_false c8
   clear c8
   obtain ⟨y283, hy283⟩ : ∃ y_ : List (List Int), y_ = (([] : List (List Int))) := ⟨_, rfl⟩
   replace H : (orreryref21_Reach.l1 k1 a0 l1 x7_1 y283 0) = some r := by first | (rw [hy283]; with_reducible exact H) | (have H2_ := (Option.bind_some _ _).symm.trans H; rw [hy283]; with_reducible exact H2_) | (have H2_ := (Option.bind_some _ _).symm.trans H; with_reducible exact H2_) | with_reducible exact H | (rw [hy283]; exact H) | exact H
   have Ny283 := Aside0.mk hy283
   clear hy283
   have H' := Aside0.mk H
   clear H
   go_wp2_with (first | ((with_reducible refine gate_dst (N := 31) rfl ?_); refine Kd.S_lit (Kd.slice 3 (Kd.int .i64)) _ 23 ?hg (N := 31) ?hd (xs := ([] : List (List Int))) (inner := []) (ok := fun _ => True) (okp := fun _ => True) ?hr ?hp (fun _ hk => hk) trivial (Below.refl _ _) (Nat.le_refl _) (by simp) ?_; (case hd => rfl); (case hg => rfl); (case hr => first | (go_simp; done) | (go_simp; rfl)); (case hp => exact (Reps.none _ _)); intro v284 w16 ho17 hb hg_ hnew_; clear hg_ hnew_; (first | rw [← Ny283.out] at ho17 | (simp only [Int.reduceToNat] at ho17; rw [← Ny283.out] at ho17)); have n0_ := Aside0.mk (Kd.R_below (by (with_reducible repeat (first | apply Kd.R_alloc | apply Kd.R_drewN | apply Kd.R_drew)); exact HO_7.out) hb); have n1_ := Aside0.mk (Kd.S_lower (Kd.S_new' ho17 (Kd.R_lt (by (with_reducible repeat (first | apply Kd.R_alloc | apply Kd.R_drewN | apply Kd.R_drew)); exact HO_7.out))) (below_size (by repeat (first | (with_reducible first | exact HB.out | apply below_alloc | apply pw_below_drewN | apply below_drew1) | exact HB.out)))); have n2_ := Aside0.mk (below_step (by repeat (first | (with_reducible first | exact HB.out | apply below_alloc | apply pw_below_drewN | apply below_drew1) | exact HB.out)) hb); clear HO_7; clear HB; have HO_7 := n0_; have HO285 := n1_; have HB := n2_; clear n0_ n1_ n2_; clear hb ho17))
   go_loopg [10, 11] k1 (fun kq v10 v11 w' => ∃ (x10_2 : List (List Int)) (x11_2 : Int), v11 = .int .i64 x11_2 ∧ Aside0 (orreryref21_Reach.l1 kq a0 l1 x7_1 x10_2 x11_2 = some r) ∧ Aside0 (kq ≤ k1) ∧ Aside0 (Kd.R (Kd.int .i64) 3 w' w.heap.size (fun _ => True) v279 x7_1) ∧ Aside0 (Kd.S (Kd.slice 3 (Kd.int .i64)) 23 w' w.heap.size (fun k_ => some k_ ≠ (v279 : Value).ownBlock) v10 x10_2) ∧ Aside0 (Below w.heap.size w w'))
   case atStart => exact ⟨(y283), (0), (by first | rfl | (simp; done) | (simp [*]; done)), H', ⟨Nat.le_refl _⟩, ⟨by (with_reducible repeat (first | apply Kd.R_alloc | apply Kd.R_drewN | apply Kd.R_drew)); exact HO_7.out⟩, ⟨by (with_reducible repeat (first | apply Kd.S_alloc | apply Kd.S_drewN | apply Kd.S_drew)); exact Kd.S_mono HO285.out (fun _ hk => hk.2)⟩, ⟨by repeat (first | (with_reducible first | exact HB.out | apply below_alloc | apply pw_below_drewN | apply below_drew1) | exact HB.out)⟩⟩
   case round =>
    clear H'
    try clear c1
    try clear p1
    try clear q1
    try clear hx1
    try clear c2
    try clear p2
    try clear q2
    try clear hx2
    try clear c4
    try clear c4b0
    try clear c4b1
    try clear c5
    try clear c5b0
    try clear c5b1
    try clear p6
    try clear c8
    try clear c8b0
    try clear c9
    try clear c9b0
    try clear c10
    try clear c10b0
    try clear c11
    try clear c11b0
    try clear c12
    try clear c12b0
    try clear p13
    try clear q13
    try clear hx13
    try clear hf13
    try clear c14
    try clear hx13_0
    try clear hx281_0
    try clear p13
    try clear p2
    try clear p281
    try clear q13
    try clear q281
    obtain ⟨x10_2, x11_2, rfl, HA, HK2, HO_7, HO_10, HB⟩ := hrel
    cases gk with
    | zero => exact absurd HA.out (by simp [orreryref21_Reach.l1])
    | succ k2 =>
     have H := HA.out
     clear HA
     simp only [orreryref21_Reach.l1] at H
     by_cases c18 : x11_2 < a0
     case pos =>
      rw [if_pos c18] at H
      have c18b0 : decide (x11_2 < a0) = true := decide_eq_true c18
      clear c18
      by_cases c19 : 0 ≤ a0
      case neg => rw [if_neg c19] at H; exact absurd H (by simp)
      rw [if_pos c19] at H
      have c19b0 := eq_true c19
      have c19b1 : decide (0 ≤ a0) = true := decide_eq_true c19
      clear c19
      by_cases c20 : (a0 : Int).toNat ≤ 35184372088832
      case neg => rw [if_neg c20] at H; exact absurd H (by simp)
      rw [if_pos c20] at H
      have c20b0 := eq_true c20
      have c20b1 : decide ((a0 : Int).toNat ≤ 35184372088832) = true := decide_eq_true c20
      clear c20
      obtain ⟨y286, hy286⟩ : ∃ y_ : List Int, y_ = (List.replicate (a0 : Int).toNat 0) := ⟨_, rfl⟩
      replace H : (if x10_2.length < 5864062014805 then (orreryref21_Reach.l1 k2 a0 l1 x7_1 (x10_2 ++ [y286]) (wrap64 (x11_2 + 1))) else (none)) = some r := by first | (rw [hy286]; with_reducible exact H) | (have H2_ := (Option.bind_some _ _).symm.trans H; rw [hy286]; with_reducible exact H2_) | (have H2_ := (Option.bind_some _ _).symm.trans H; with_reducible exact H2_) | with_reducible exact H | (rw [hy286]; exact H) | exact H
      have Ny286 := Aside0.mk hy286
      clear hy286
      by_cases c21 : x10_2.length < 5864062014805
      case neg => rw [if_neg c21] at H; exact absurd H (by simp)
      rw [if_pos c21] at H
      have LMc21 := Aside0.mk c21
      clear c21
      obtain ⟨y289, hy289⟩ : ∃ y_ : List (List Int), y_ = (x10_2 ++ [y286]) := ⟨_, rfl⟩
      replace H : (orreryref21_Reach.l1 k2 a0 l1 x7_1 y289 (wrap64 (x11_2 + 1))) = some r := by first | (rw [hy289]; with_reducible exact H) | (have H2_ := (Option.bind_some _ _).symm.trans H; rw [hy289]; with_reducible exact H2_) | (have H2_ := (Option.bind_some _ _).symm.trans H; with_reducible exact H2_) | with_reducible exact H | (rw [hy289]; exact H) | exact H
      have Ny289 := Aside0.mk hy289
      clear hy289
      have H' := Aside0.mk H
      clear H
      go_wp2_with (first | ((with_reducible refine gate_dst (N := 39) rfl ?_); refine Kd.R_make (Kd.int .i64) _ 3 rfl (N := 39) rfl 23 _ _ rfl a0 rfl rfl Try.underlying23 (.int .i64 0) 8 info3 rfl (by decide) (by omega) 0 (ok := fun _ => True) (okp := fun _ => True) rfl (fun _ hk => hk) trivial (of_decide_eq_true (by first | (with_reducible assumption) | assumption)) (Nat.le_trans (Nat.mul_le_mul_right _ (of_decide_eq_true (by first | (with_reducible assumption) | assumption) : a0.toNat ≤ 35184372088832)) (by omega)) (Below.refl _ _) (Nat.le_refl _) ?_; intro v287 w22 ho23 hb hg_ hnew_; clear hg_ hnew_; (first | rw [← Ny286.out] at ho23 | (simp only [Int.reduceToNat] at ho23; rw [← Ny286.out] at ho23)); have n0_ := Aside0.mk (Kd.R_elder' (by (with_reducible repeat (first | apply Kd.R_alloc | apply Kd.R_drewN | apply Kd.R_drew)); exact HO_7.out) (Kd.R_base ho23) hb); have n1_ := Aside0.mk (Kd.S_elder' (by (with_reducible repeat (first | apply Kd.S_alloc | apply Kd.S_drewN | apply Kd.S_drew)); exact HO_10.out) (Kd.R_base ho23) hb); have n2_ := Aside0.mk (Kd.R_lower (Kd.R_new' ho23 (Kd.R_lt (by (with_reducible repeat (first | apply Kd.R_alloc | apply Kd.R_drewN | apply Kd.R_drew)); exact HO_7.out))) (below_size (by repeat (first | (with_reducible first | exact HB.out | apply below_alloc | apply pw_below_drewN | apply below_drew1) | exact HB.out)))); have n3_ := Aside0.mk (below_step (by repeat (first | (with_reducible first | exact HB.out | apply below_alloc | apply pw_below_drewN | apply below_drew1) | exact HB.out)) hb); clear HO_7; clear HO_10; clear HB; have HO_7 := n0_; have HO_10 := n1_; have HO288 := n2_; have HB := n3_; clear n0_ n1_ n2_ n3_; clear hb ho23; obtain ⟨Ao25, co25, eo25⟩ := Kd.R_slice HO288.out; subst eo25) | ((with_reducible refine gate_builtin (b := .append) (xs := #[.tmp 37, .tmp 40]) rfl ?_); at_builtin; refine Kd.S_append (Kd.slice 3 (Kd.int .i64)) (w0 := w) w.heap.size rfl (.tmp 37) (.tmp 40) 37 23 (.slice none 0 0) 24 rfl Try.underlying37 info23 rfl (by decide) (by omega) u10 x10_2 y286 [.slice Ao25 y286.length co25] (fun k_ => some k_ ≠ (v279 : Value).ownBlock) (fun k_ => some k_ = (.slice Ao25 y286.length co25 : Value).ownBlock) rfl rfl ?aP (fun k_ hk_ => ((Kd.R_mono (ok' := fun k_ => ((fun k_ => some k_ ≠ (v279 : Value).ownBlock)) k_ ∧ some k_ ≠ (u10 : Value).ownBlock) (Kd.R_apart' (HO288.out) (Kd.S_typed HO_10.out) (by decide)) (fun k_ hk => ⟨hk.1.2, hk.2⟩))).1 k_ hk_.symm) ?aF ?aO ?aB ?aS ?aL ?_; (case aP => exact Kd.M_row (Kd.R_mono (Kd.R_tight rfl (Kd.R_mono (ok' := fun k_ => ((fun k_ => some k_ ≠ (v279 : Value).ownBlock)) k_ ∧ some k_ ≠ (u10 : Value).ownBlock) (Kd.R_apart' (HO288.out) (Kd.S_typed HO_10.out) (by decide)) (fun k_ hk => ⟨hk.1.2, hk.2⟩))) (fun _ h_ => h_))); (case aB => exact (by repeat (first | (with_reducible first | exact HB.out | apply below_alloc | apply pw_below_drewN | apply below_drew1) | exact HB.out))); (case aF => exact (fun k_ hk => Kd.fresh' (Kd.R_lt (by (with_reducible repeat (first | apply Kd.R_alloc | apply Kd.R_drewN | apply Kd.R_drew)); exact HO_7.out)) k_ hk)); (case aO => exact (by (with_reducible repeat (first | apply Kd.S_alloc | apply Kd.S_drewN | apply Kd.S_drew)); exact Kd.S_mono HO_10.out (fun k_ hk => ⟨hk.1, fun e_ => hk.2 e_⟩))); (case aS => exact (below_size (by repeat (first | (with_reducible first | exact HB.out | apply below_alloc | apply pw_below_drewN | apply below_drew1) | exact HB.out)))); (case aL => have := LMc21.out; omega); intro v290 w24 ho hb hg hat; rw [← Ny289.out] at ho; have n0_ := Aside0.mk (Kd.R_over' (by (with_reducible repeat (first | apply Kd.R_alloc | apply Kd.R_drewN | apply Kd.R_drew)); exact HO_7.out) (Kd.S_typed (by (with_reducible repeat (first | apply Kd.S_alloc | apply Kd.S_drewN | apply Kd.S_drew)); exact HO_10.out)) (by decide) hg); have n1_ := Aside0.mk (hb); have n2_ := Aside0.mk (ho); clear HO_7; clear HB; clear HO_10; clear HO288; have HO_7 := n0_; have HB := n1_; have HO291 := n2_; clear n0_ n1_ n2_; clear ho hb hg hat))
      (first | go_roundg k2 | (refine Handed.intro k2 ?measure ?_; rotate_left; go_step; (repeat apply Exists.intro); (refine ⟨?rel, ?fr_⟩); (case fr_ => (simp only [add_plain]; rfl))))
      case measure => have := HK1.out; have := HK2.out; omega
      case rel => exact ⟨(y289), (wrap64 (x11_2 + 1)), (by first | rfl | (simp; done) | (simp [*]; done)), H', ⟨by have := HK1.out; have := HK2.out; omega⟩, ⟨by (with_reducible repeat (first | apply Kd.R_alloc | apply Kd.R_drewN | apply Kd.R_drew)); exact Kd.R_mono HO_7.out (fun _ hk => trivial)⟩, ⟨by (with_reducible repeat (first | apply Kd.S_alloc | apply Kd.S_drewN | apply Kd.S_drew)); exact HO291.out⟩, ⟨by repeat (first | (with_reducible first | exact HB.out | apply below_alloc | apply pw_below_drewN | apply below_drew1) | exact HB.out)⟩⟩
     rw [if_neg c18] at H
     have c18b0 : decide (x11_2 < a0) = false := decide_eq_false c18
     clear c18
     have H' := Aside0.mk H
     clear H
     go_wp2
     go_loopg [44] k2 (fun kq v44 w' => ∃ (x7_3 : List Int) (x10_3 : List (List Int)) (x44_3 : Int), v44 = .int .i64 x44_3 ∧ Aside0 (orreryref21_Reach.l2 kq a0 x7_3 x10_3 l1 (l1.length : Int) x44_3 = some r) ∧ Aside0 (kq ≤ k2) ∧ Aside0 (Kd.R (Kd.int .i64) 3 w' w.heap.size (fun _ => True) v279 x7_3) ∧ Aside0 (Kd.S (Kd.slice 3 (Kd.int .i64)) 23 w' w.heap.size (fun k_ => some k_ ≠ (v279 : Value).ownBlock) u10 x10_3) ∧ Aside0 (Below w.heap.size w w'))
     case atStart => exact ⟨(x7_1), (x10_2), (0), (by first | rfl | (simp; done) | (simp [*]; done)), H', ⟨Nat.le_refl _⟩, ⟨by (with_reducible repeat (first | apply Kd.R_alloc | apply Kd.R_drewN | apply Kd.R_drew)); exact HO_7.out⟩, ⟨by (with_reducible repeat (first | apply Kd.S_alloc | apply Kd.S_drewN | apply Kd.S_drew)); exact HO_10.out⟩, ⟨by repeat (first | (with_reducible first | exact HB.out | apply below_alloc | apply pw_below_drewN | apply below_drew1) | exact HB.out)⟩⟩
     case round =>
      clear H'
      try clear c1
      try clear p1
      try clear q1
      try clear hx1
      try clear c2
      try clear p2
      try clear q2
      try clear hx2
      try clear c4
      try clear c4b0
      try clear c4b1
      try clear c5
      try clear c5b0
      try clear c5b1
      try clear p6
      try clear c8
      try clear c8b0
      try clear c9
      try clear c9b0
      try clear c10
      try clear c10b0
      try clear c11
      try clear c11b0
      try clear c12
      try clear c12b0
      try clear p13
      try clear q13
      try clear hx13
      try clear hf13
      try clear c14
      try clear c18
      try clear c18b0
      try clear c19
      try clear c19b0
      try clear c19b1
      try clear c20
      try clear c20b0
      try clear c20b1
      try clear c21
      try clear hx13_0
      try clear hx281_0
      try clear p1
      try clear p13
      try clear p2
      try clear p281
      try clear p6
      try clear q1
      try clear q13
      try clear q2
      try clear q281
      obtain ⟨x7_3, x10_3, x44_3, rfl, HA, HK3, HO_7, HO_10, HB⟩ := hrel
      cases gk with
      | zero => exact absurd HA.out (by simp [orreryref21_Reach.l2])
      | succ k3 =>
       have H := HA.out
       clear HA
       simp only [orreryref21_Reach.l2] at H
       by_cases c26 : x44_3 < (l1.length : Int)
       case neg =>
        rw [if_neg c26] at H
        have c26b0 : decide (x44_3 < (l1.length : Int)) = false := decide_eq_false c26
        clear c26
        have H' := Aside0.mk H
        clear H
        go_wp2
        go_loopg [14] k3 (fun kq v14 w' => ∃ (x10_4 : List (List Int)) (x14_4 : Int), v14 = .int .i64 x14_4 ∧ Aside0 (orreryref21_Reach.l3 kq a0 x10_4 x14_4 = some r) ∧ Aside0 (kq ≤ k3) ∧ Aside0 (Kd.S (Kd.slice 3 (Kd.int .i64)) 23 w' w.heap.size (fun _ => True) u10 x10_4) ∧ Aside0 (Below w.heap.size w w'))
        case atStart => exact ⟨(x10_3), (0), (by first | rfl | (simp; done) | (simp [*]; done)), H', ⟨Nat.le_refl _⟩, ⟨by (with_reducible repeat (first | apply Kd.S_alloc | apply Kd.S_drewN | apply Kd.S_drew)); exact Kd.S_mono HO_10.out (fun _ hk => trivial)⟩, ⟨by repeat (first | (with_reducible first | exact HB.out | apply below_alloc | apply pw_below_drewN | apply below_drew1) | exact HB.out)⟩⟩
        case round =>
         clear H'
         try clear c1
         try clear p1
         try clear q1
         try clear hx1
         try clear c2
         try clear p2
         try clear q2
         try clear hx2
         try clear c3
         try clear c4
         try clear c4b0
         try clear c4b1
         try clear p4
         try clear q4
         try clear hx4
         try clear hf4
         try clear c5
         try clear c5b0
         try clear c5b1
         try clear p6
         try clear c8
         try clear c8b0
         try clear c9
         try clear c9b0
         try clear c10
         try clear c10b0
         try clear c11
         try clear c11b0
         try clear c12
         try clear c12b0
         try clear p13
         try clear q13
         try clear hx13
         try clear hf13
         try clear c14
         try clear c18
         try clear c18b0
         try clear c19
         try clear c19b0
         try clear c19b1
         try clear c20
         try clear c20b0
         try clear c20b1
         try clear c21
         try clear c26
         try clear c26b0
         try clear c27
         try clear c27b0
         try clear c28
         try clear c28b0
         try clear p28
         try clear q28
         try clear hx28
         try clear c29
         try clear c29b0
         try clear p29
         try clear q29
         try clear hx29
         try clear c30
         try clear c30b0
         try clear c31
         try clear c31b0
         try clear c31b1
         try clear c37
         try clear c37b0
         try clear c38
         try clear c38b0
         try clear c39
         try clear c39b0
         try clear c40
         try clear c40b0
         try clear p41
         try clear q41
         try clear hx41
         try clear hf41
         try clear c49
         try clear q49
         try clear hcz33_0
         try clear hcz33_1
         try clear hcz33_2
         try clear hcz43_0
         try clear hcz43_1
         try clear hcz43_2
         try clear hfz33_0
         try clear hfz33_1
         try clear hfz33_2
         try clear hfz43_0
         try clear hfz43_1
         try clear hfz43_2
         try clear hx13_0
         try clear hx281_0
         try clear hx292_0
         try clear hx292_1
         try clear hx292_2
         try clear hx294_0
         try clear hx295_0
         try clear hx296_0
         try clear hx41_0
         try clear p1
         try clear p13
         try clear p2
         try clear p281
         try clear p292
         try clear p294
         try clear p295
         try clear p296
         try clear p41
         try clear p6
         try clear q1
         try clear q13
         try clear q2
         try clear q281
         try clear q292
         try clear q294
         try clear q295
         try clear q296
         try clear q41
         obtain ⟨x10_4, x14_4, rfl, HA, HK4, HO_10, HB⟩ := hrel
         cases gk with
         | zero => exact absurd HA.out (by simp [orreryref21_Reach.l3])
         | succ k4 =>
          have H := HA.out
          clear HA
          simp only [orreryref21_Reach.l3] at H
          by_cases c51 : x14_4 < a0
          case neg =>
           rw [if_neg c51] at H
           have c51b0 : decide (x14_4 < a0) = false := decide_eq_false c51
           clear c51
           obtain rfl := Option.some.inj H
           go_wp2
           go_ret
           exact ⟨_, by first | rfl | (simp [errW_none, errW_some] <;> rfl) | (simp [*, errW_none, errW_some] <;> rfl), by (with_reducible repeat (first | apply Kd.S_alloc | apply Kd.S_drewN | apply Kd.S_drew)); exact HO_10.out, by repeat (first | (with_reducible first | exact HB.out | apply below_alloc | apply pw_below_drewN | apply below_drew1) | exact HB.out)⟩
          rw [if_pos c51] at H
          have c51b0 : decide (x14_4 < a0) = true := decide_eq_true c51
          clear c51
          have H' := Aside0.mk H
          clear H
          go_wp2
          go_loopg [15] k4 (fun kq v15 w' => ∃ (x10_5 : List (List Int)) (x15_5 : Int), v15 = .int .i64 x15_5 ∧ Aside0 (orreryref21_Reach.l4 kq a0 x10_5 x14_4 x15_5 = some r) ∧ Aside0 (kq ≤ k4) ∧ Aside0 (Kd.S (Kd.slice 3 (Kd.int .i64)) 23 w' w.heap.size (fun _ => True) u10 x10_5) ∧ Aside0 (Below w.heap.size w w'))
          case atStart => exact ⟨(x10_4), (0), (by first | rfl | (simp; done) | (simp [*]; done)), H', ⟨Nat.le_refl _⟩, ⟨by (with_reducible repeat (first | apply Kd.S_alloc | apply Kd.S_drewN | apply Kd.S_drew)); exact HO_10.out⟩, ⟨by repeat (first | (with_reducible first | exact HB.out | apply below_alloc | apply pw_below_drewN | apply below_drew1) | exact HB.out)⟩⟩
          case round =>
           clear H'
           try clear c1
           try clear p1
           try clear q1
           try clear hx1
           try clear c2
           try clear p2
           try clear q2
           try clear hx2
           try clear c3
           try clear c4
           try clear c4b0
           try clear c4b1
           try clear p4
           try clear q4
           try clear hx4
           try clear hf4
           try clear c5
           try clear c5b0
           try clear c5b1
           try clear p6
           try clear c8
           try clear c8b0
           try clear c9
           try clear c9b0
           try clear c10
           try clear c10b0
           try clear c11
           try clear c11b0
           try clear c12
           try clear c12b0
           try clear p13
           try clear q13
           try clear hx13
           try clear hf13
           try clear c14
           try clear c18
           try clear c18b0
           try clear c19
           try clear c19b0
           try clear c19b1
           try clear c20
           try clear c20b0
           try clear c20b1
           try clear c21
           try clear c26
           try clear c26b0
           try clear c27
           try clear c27b0
           try clear c28
           try clear c28b0
           try clear p28
           try clear q28
           try clear hx28
           try clear c29
           try clear c29b0
           try clear p29
           try clear q29
           try clear hx29
           try clear c30
           try clear c30b0
           try clear c31
           try clear c31b0
           try clear c31b1
           try clear c37
           try clear c37b0
           try clear c38
           try clear c38b0
           try clear c39
           try clear c39b0
           try clear c40
           try clear c40b0
           try clear p41
           try clear q41
           try clear hx41
           try clear hf41
           try clear c49
           try clear q49
           try clear c51
           try clear c51b0
           try clear hcz33_0
           try clear hcz33_1
           try clear hcz33_2
           try clear hcz43_0
           try clear hcz43_1
           try clear hcz43_2
           try clear hfz33_0
           try clear hfz33_1
           try clear hfz33_2
           try clear hfz43_0
           try clear hfz43_1
           try clear hfz43_2
           try clear hx13_0
           try clear hx281_0
           try clear hx292_0
           try clear hx292_1
           try clear hx292_2
           try clear hx294_0
           try clear hx295_0
           try clear hx296_0
           try clear hx41_0
           try clear p1
           try clear p13
           try clear p2
           try clear p28
           try clear p281
           try clear p29
           try clear p292
           try clear p294
           try clear p295
           try clear p296
           try clear p4
           try clear p41
           try clear p6
           try clear q1
           try clear q13
           try clear q2
           try clear q28
           try clear q281
           try clear q29
           try clear q292
           try clear q294
           try clear q295
           try clear q296
           try clear q4
           try clear q41
           try clear q49
           obtain ⟨x10_5, x15_5, rfl, HA, HK5, HO_10, HB⟩ := hrel
           cases gk with
           | zero => exact absurd HA.out (by simp [orreryref21_Reach.l4])
           | succ k5 =>
            have H := HA.out
            clear HA
            simp only [orreryref21_Reach.l4] at H
            by_cases c52 : x15_5 < a0
            case neg =>
             rw [if_neg c52] at H
             have c52b0 : decide (x15_5 < a0) = false := decide_eq_false c52
             clear c52
             have H' := Aside0.mk H
             clear H
             go_wp2
             (first | go_roundg k5 | (refine Handed.intro k5 ?measure ?_; rotate_left; go_step; (repeat apply Exists.intro); (refine ⟨?rel, ?fr_⟩); (case fr_ => (simp only [add_plain]; rfl))))
             case measure => have := HK1.out; have := HK2.out; have := HK3.out; have := HK4.out; have := HK5.out; omega
             case rel => exact ⟨(x10_5), (wrap64 (x14_4 + 1)), (by first | rfl | (simp; done) | (simp [*]; done)), H', ⟨by have := HK1.out; have := HK2.out; have := HK3.out; have := HK4.out; have := HK5.out; omega⟩, ⟨by (with_reducible repeat (first | apply Kd.S_alloc | apply Kd.S_drewN | apply Kd.S_drew)); exact HO_10.out⟩, ⟨by repeat (first | (with_reducible first | exact HB.out | apply below_alloc | apply pw_below_drewN | apply below_drew1) | exact HB.out)⟩⟩
            rw [if_pos c52] at H
            have c52b0 : decide (x15_5 < a0) = true := decide_eq_true c52
            clear c52
            have H' := Aside0.mk H
            clear H
            go_wp2
            go_loopg [16] k5 (fun kq v16 w' => ∃ (x10_6 : List (List Int)) (x16_6 : Int), v16 = .int .i64 x16_6 ∧ Aside0 (orreryref21_Reach.l5 kq a0 x10_6 x14_4 x15_5 x16_6 = some r) ∧ Aside0 (kq ≤ k5) ∧ Aside0 (Kd.S (Kd.slice 3 (Kd.int .i64)) 23 w' w.heap.size (fun _ => True) u10 x10_6) ∧ Aside0 (Below w.heap.size w w'))
            case atStart => exact ⟨(x10_5), (0), (by first | rfl | (simp; done) | (simp [*]; done)), H', ⟨Nat.le_refl _⟩, ⟨by (with_reducible repeat (first | apply Kd.S_alloc | apply Kd.S_drewN | apply Kd.S_drew)); exact HO_10.out⟩, ⟨by repeat (first | (with_reducible first | exact HB.out | apply below_alloc | apply pw_below_drewN | apply below_drew1) | exact HB.out)⟩⟩
            case round =>
             clear H'
             try clear c1
             try clear p1
             try clear q1
             try clear hx1
             try clear c2
             try clear p2
             try clear q2
             try clear hx2
             try clear c3
             try clear c4
             try clear c4b0
             try clear c4b1
             try clear p4
             try clear q4
             try clear hx4
             try clear hf4
             try clear c5
             try clear c5b0
             try clear c5b1
             try clear p6
             try clear c8
             try clear c8b0
             try clear c9
             try clear c9b0
             try clear c10
             try clear c10b0
             try clear c11
             try clear c11b0
             try clear c12
             try clear c12b0
             try clear p13
             try clear q13
             try clear hx13
             try clear hf13
             try clear c14
             try clear c18
             try clear c18b0
             try clear c19
             try clear c19b0
             try clear c19b1
             try clear c20
             try clear c20b0
             try clear c20b1
             try clear c21
             try clear c26
             try clear c26b0
             try clear c27
             try clear c27b0
             try clear c28
             try clear c28b0
             try clear p28
             try clear q28
             try clear hx28
             try clear c29
             try clear c29b0
             try clear p29
             try clear q29
             try clear hx29
             try clear c30
             try clear c30b0
             try clear c31
             try clear c31b0
             try clear c31b1
             try clear c37
             try clear c37b0
             try clear c38
             try clear c38b0
             try clear c39
             try clear c39b0
             try clear c40
             try clear c40b0
             try clear p41
             try clear q41
             try clear hx41
             try clear hf41
             try clear c49
             try clear q49
             try clear c51
             try clear c51b0
             try clear c52
             try clear c52b0
             try clear hcz33_0
             try clear hcz33_1
             try clear hcz33_2
             try clear hcz43_0
             try clear hcz43_1
             try clear hcz43_2
             try clear hfz33_0
             try clear hfz33_1
             try clear hfz33_2
             try clear hfz43_0
             try clear hfz43_1
             try clear hfz43_2
             try clear hx13_0
             try clear hx281_0
             try clear hx292_0
             try clear hx292_1
             try clear hx292_2
             try clear hx294_0
             try clear hx295_0
             try clear hx296_0
             try clear hx41_0
             try clear p1
             try clear p13
             try clear p2
             try clear p28
             try clear p281
             try clear p29
             try clear p292
             try clear p294
             try clear p295
             try clear p296
             try clear p4
             try clear p41
             try clear p6
             try clear q1
             try clear q13
             try clear q2
             try clear q28
             try clear q281
             try clear q29
             try clear q292
             try clear q294
             try clear q295
             try clear q296
             try clear q4
             try clear q41
             try clear q49
             obtain ⟨x10_6, x16_6, rfl, HA, HK6, HO_10, HB⟩ := hrel
             cases gk with
             | zero => exact absurd HA.out (by simp [orreryref21_Reach.l5])
             | succ k6 =>
              have H := HA.out
              clear HA
              simp only [orreryref21_Reach.l5] at H
              by_cases c53 : x16_6 < a0
              case neg =>
               rw [if_neg c53] at H
               have c53b0 : decide (x16_6 < a0) = false := decide_eq_false c53
               clear c53
               have H' := Aside0.mk H
               clear H
               go_wp2
               (first | go_roundg k6 | (refine Handed.intro k6 ?measure ?_; rotate_left; go_step; (repeat apply Exists.intro); (refine ⟨?rel, ?fr_⟩); (case fr_ => (simp only [add_plain]; rfl))))
               case measure => have := HK1.out; have := HK2.out; have := HK3.out; have := HK4.out; have := HK5.out; have := HK6.out; omega
               case rel => exact ⟨(x10_6), (wrap64 (x15_5 + 1)), (by first | rfl | (simp; done) | (simp [*]; done)), H', ⟨by have := HK1.out; have := HK2.out; have := HK3.out; have := HK4.out; have := HK5.out; have := HK6.out; omega⟩, ⟨by (with_reducible repeat (first | apply Kd.S_alloc | apply Kd.S_drewN | apply Kd.S_drew)); exact HO_10.out⟩, ⟨by repeat (first | (with_reducible first | exact HB.out | apply below_alloc | apply pw_below_drewN | apply below_drew1) | exact HB.out)⟩⟩
              rw [if_pos c53] at H
              have c53b0 : decide (x16_6 < a0) = true := decide_eq_true c53
              clear c53
              by_cases c54 : 0 ≤ x15_5
              case neg => rw [if_neg c54] at H; exact absurd H (by simp)
              rw [if_pos c54] at H
              have c54b0 : decide (0 ≤ x15_5) = true := decide_eq_true c54
              clear c54
              by_cases c55 : x15_5 < (x10_6.length : Int)
              case neg => rw [if_neg c55] at H; exact absurd H (by simp)
              rw [if_pos c55] at H
              have c55b0 : decide (x15_5 < (x10_6.length : Int)) = true := decide_eq_true c55
              clear c55
              by_cases c56 : 0 ≤ x14_4
              case neg => rw [if_neg c56] at H; exact absurd H (by simp)
              rw [if_pos c56] at H
              have c56b0 : decide (0 ≤ x14_4) = true := decide_eq_true c56
              clear c56
              by_cases c57 : x14_4 < ((rd_L3 x10_6 x15_5).length : Int)
              case neg => rw [if_neg c57] at H; exact absurd H (by simp)
              rw [if_pos c57] at H
              have c57b0 : decide (x14_4 < ((rd_L3 x10_6 x15_5).length : Int)) = true := decide_eq_true c57
              clear c57
              by_cases c58 : (rd (rd_L3 x10_6 x15_5) x14_4) = 1
              case neg =>
               rw [if_neg c58] at H
               have c58b0 : ((rd (rd_L3 x10_6 x15_5) x14_4) == 1) = false := beq_eq_false_iff_ne.mpr c58
               have c58b1 : ((rd (rd_L3 x10_6 x15_5) x14_4) != 1) = true := bne_iff_ne.mpr c58
               have H' := Aside0.mk H
               clear H
               obtain ⟨Ao69, co69, eo69⟩ := Kd.S_slice HO_10.out
               subst eo69
               have p300 : 0 ≤ (x15_5 : Int) := of_decide_eq_true (by first | (with_reducible assumption) | assumption)
               have q300 : x15_5 < (x10_6.length : Int) := of_decide_eq_true (by first | (with_reducible assumption) | assumption)
               obtain ⟨ad300, A300_0, c300_0, e300, hx300_0, hl300_0, hi300_0⟩ := at_L3 (Kd.S_reads' HO_10.out).2.2 x15_5 p300 q300
               cases e300
               obtain ⟨ce300, hce300, hMe300, hcc300⟩ := Kd.S_get HO_10.out [] x15_5 p300 (by first | exact q300 | exact of_decide_eq_true (by first | (with_reducible assumption) | assumption) | (have e_ := (Kd.S_reads' HO_10.out).1; omega))
               obtain ⟨ve300_0, rfl, ge300_0⟩ := hMe300
               have hv300_0 := hcc300 0 _ rfl
               rw [Nat.add_zero, show ((Kd.slice 3 (Kd.int .i64))).sz = 1 from rfl, Nat.mul_one] at hv300_0
               replace hv300_0 := Option.some.inj (hv300_0.symm.trans hx300_0)
               rw [hv300_0] at ge300_0
               have HL300_0 := Aside0.mk (show Kd.R (Kd.int .i64) 3 _ _ _ _ (rd_L3 x10_6 x15_5) from ge300_0)
               clear hv300_0 ge300_0
               have HX300_0 := Aside0.mk hx300_0
               clear hcc300 hce300
               have HR300_0 := Aside0.mk hi300_0
               have HC300_0 := Aside0.mk hl300_0
               clear hi300_0 hl300_0
               replace p300 := eq_true p300
               replace q300 := eq_true q300
               have p301 : 0 ≤ (x14_4 : Int) := of_decide_eq_true (by first | (with_reducible assumption) | assumption)
               have q301 : x14_4 < ((rd_L3 x10_6 x15_5).length : Int) := of_decide_eq_true (by first | (with_reducible assumption) | assumption)
               obtain ⟨ad301, e301, hx301_0⟩ := Kd.at_int (by repeat (first | (with_reducible exact HR300_0.out) | (with_reducible refine Kd.C_alloc ?_ _) | (with_reducible refine Kd.C_drewN ?_ _) | (with_reducible refine Kd.C_drew ?_) | exact HR300_0.out)) x14_4 p301 q301
               cases e301
               replace p301 := eq_true p301
               replace q301 := eq_true q301
               go_wp2
               (first | go_roundg k6 | (refine Handed.intro k6 ?measure ?_; rotate_left; go_step; (repeat apply Exists.intro); (refine ⟨?rel, ?fr_⟩); (case fr_ => (simp only [add_plain]; rfl))))
               case measure => have := HK1.out; have := HK2.out; have := HK3.out; have := HK4.out; have := HK5.out; have := HK6.out; omega
               case rel => exact ⟨(x10_6), (wrap64 (x16_6 + 1)), (by first | rfl | (simp; done) | (simp [*]; done)), H', ⟨by have := HK1.out; have := HK2.out; have := HK3.out; have := HK4.out; have := HK5.out; have := HK6.out; omega⟩, ⟨by (with_reducible repeat (first | apply Kd.S_alloc | apply Kd.S_drewN | apply Kd.S_drew)); exact HO_10.out⟩, ⟨by repeat (first | (with_reducible first | exact HB.out | apply below_alloc | apply pw_below_drewN | apply below_drew1) | exact HB.out)⟩⟩
              rw [if_pos c58] at H
              have c58b0 : ((rd (rd_L3 x10_6 x15_5) x14_4) == 1) = true := beq_iff_eq.mpr c58
              have c58b1 : ((rd (rd_L3 x10_6 x15_5) x14_4) != 1) = false := bne_eq_false_iff_eq.mpr c58
              clear c58
              by_cases c59 : x14_4 < (x10_6.length : Int)
              case neg => rw [if_neg c59] at H; exact absurd H (by simp)
              rw [if_pos c59] at H
              have c59b0 : decide (x14_4 < (x10_6.length : Int)) = true := decide_eq_true c59
              clear c59
              by_cases c60 : 0 ≤ x16_6
              case neg => rw [if_neg c60] at H; exact absurd H (by simp)
              rw [if_pos c60] at H
              have c60b0 : decide (0 ≤ x16_6) = true := decide_eq_true c60
              clear c60
              by_cases c61 : x16_6 < ((rd_L3 x10_6 x14_4).length : Int)
              case neg => rw [if_neg c61] at H; exact absurd H (by simp)
              rw [if_pos c61] at H
              have c61b0 : decide (x16_6 < ((rd_L3 x10_6 x14_4).length : Int)) = true := decide_eq_true c61
              clear c61
              by_cases c62 : (rd (rd_L3 x10_6 x14_4) x16_6) = 1
              case neg =>
               rw [if_neg c62] at H
               have c62b0 : ((rd (rd_L3 x10_6 x14_4) x16_6) == 1) = false := beq_eq_false_iff_ne.mpr c62
               have c62b1 : ((rd (rd_L3 x10_6 x14_4) x16_6) != 1) = true := bne_iff_ne.mpr c62
               have H' := Aside0.mk H
               clear H
               obtain ⟨Ao68, co68, eo68⟩ := Kd.S_slice HO_10.out
               subst eo68
               have p300 : 0 ≤ (x15_5 : Int) := of_decide_eq_true (by first | (with_reducible assumption) | assumption)
               have q300 : x15_5 < (x10_6.length : Int) := of_decide_eq_true (by first | (with_reducible assumption) | assumption)
               obtain ⟨ad300, A300_0, c300_0, e300, hx300_0, hl300_0, hi300_0⟩ := at_L3 (Kd.S_reads' HO_10.out).2.2 x15_5 p300 q300
               cases e300
               obtain ⟨ce300, hce300, hMe300, hcc300⟩ := Kd.S_get HO_10.out [] x15_5 p300 (by first | exact q300 | exact of_decide_eq_true (by first | (with_reducible assumption) | assumption) | (have e_ := (Kd.S_reads' HO_10.out).1; omega))
               obtain ⟨ve300_0, rfl, ge300_0⟩ := hMe300
               have hv300_0 := hcc300 0 _ rfl
               rw [Nat.add_zero, show ((Kd.slice 3 (Kd.int .i64))).sz = 1 from rfl, Nat.mul_one] at hv300_0
               replace hv300_0 := Option.some.inj (hv300_0.symm.trans hx300_0)
               rw [hv300_0] at ge300_0
               have HL300_0 := Aside0.mk (show Kd.R (Kd.int .i64) 3 _ _ _ _ (rd_L3 x10_6 x15_5) from ge300_0)
               clear hv300_0 ge300_0
               have HX300_0 := Aside0.mk hx300_0
               clear hcc300 hce300
               have HR300_0 := Aside0.mk hi300_0
               have HC300_0 := Aside0.mk hl300_0
               clear hi300_0 hl300_0
               replace p300 := eq_true p300
               replace q300 := eq_true q300
               have p301 : 0 ≤ (x14_4 : Int) := of_decide_eq_true (by first | (with_reducible assumption) | assumption)
               have q301 : x14_4 < ((rd_L3 x10_6 x15_5).length : Int) := of_decide_eq_true (by first | (with_reducible assumption) | assumption)
               obtain ⟨ad301, e301, hx301_0⟩ := Kd.at_int (by repeat (first | (with_reducible exact HR300_0.out) | (with_reducible refine Kd.C_alloc ?_ _) | (with_reducible refine Kd.C_drewN ?_ _) | (with_reducible refine Kd.C_drew ?_) | exact HR300_0.out)) x14_4 p301 q301
               cases e301
               replace p301 := eq_true p301
               replace q301 := eq_true q301
               have p302 : 0 ≤ (x14_4 : Int) := of_decide_eq_true (by first | (with_reducible assumption) | assumption)
               have q302 : x14_4 < (x10_6.length : Int) := of_decide_eq_true (by first | (with_reducible assumption) | assumption)
               obtain ⟨ad302, A302_0, c302_0, e302, hx302_0, hl302_0, hi302_0⟩ := at_L3 (Kd.S_reads' HO_10.out).2.2 x14_4 p302 q302
               obtain rfl : ad300 = ad302 := (by injection e302)
               obtain ⟨ce302, hce302, hMe302, hcc302⟩ := Kd.S_get HO_10.out [] x14_4 p302 (by first | exact q302 | exact of_decide_eq_true (by first | (with_reducible assumption) | assumption) | (have e_ := (Kd.S_reads' HO_10.out).1; omega))
               obtain ⟨ve302_0, rfl, ge302_0⟩ := hMe302
               have hv302_0 := hcc302 0 _ rfl
               rw [Nat.add_zero, show ((Kd.slice 3 (Kd.int .i64))).sz = 1 from rfl, Nat.mul_one] at hv302_0
               replace hv302_0 := Option.some.inj (hv302_0.symm.trans hx302_0)
               rw [hv302_0] at ge302_0
               have HL302_0 := Aside0.mk (show Kd.R (Kd.int .i64) 3 _ _ _ _ (rd_L3 x10_6 x14_4) from ge302_0)
               clear hv302_0 ge302_0
               have HX302_0 := Aside0.mk hx302_0
               clear hcc302 hce302
               have HR302_0 := Aside0.mk hi302_0
               have HC302_0 := Aside0.mk hl302_0
               clear hi302_0 hl302_0
               replace p302 := eq_true p302
               replace q302 := eq_true q302
               have p303 : 0 ≤ (x16_6 : Int) := of_decide_eq_true (by first | (with_reducible assumption) | assumption)
               have q303 : x16_6 < ((rd_L3 x10_6 x14_4).length : Int) := of_decide_eq_true (by first | (with_reducible assumption) | assumption)
               obtain ⟨ad303, e303, hx303_0⟩ := Kd.at_int (by repeat (first | (with_reducible exact HR302_0.out) | (with_reducible refine Kd.C_alloc ?_ _) | (with_reducible refine Kd.C_drewN ?_ _) | (with_reducible refine Kd.C_drew ?_) | exact HR302_0.out)) x16_6 p303 q303
               cases e303
               replace p303 := eq_true p303
               replace q303 := eq_true q303
               go_wp2
               (first | go_roundg k6 | (refine Handed.intro k6 ?measure ?_; rotate_left; go_step; (repeat apply Exists.intro); (refine ⟨?rel, ?fr_⟩); (case fr_ => (simp only [add_plain]; rfl))))
               case measure => have := HK1.out; have := HK2.out; have := HK3.out; have := HK4.out; have := HK5.out; have := HK6.out; omega
               case rel => exact ⟨(x10_6), (wrap64 (x16_6 + 1)), (by first | rfl | (simp; done) | (simp [*]; done)), H', ⟨by have := HK1.out; have := HK2.out; have := HK3.out; have := HK4.out; have := HK5.out; have := HK6.out; omega⟩, ⟨by (with_reducible repeat (first | apply Kd.S_alloc | apply Kd.S_drewN | apply Kd.S_drew)); exact HO_10.out⟩, ⟨by repeat (first | (with_reducible first | exact HB.out | apply below_alloc | apply pw_below_drewN | apply below_drew1) | exact HB.out)⟩⟩
              rw [if_pos c62] at H
              have c62b0 : ((rd (rd_L3 x10_6 x14_4) x16_6) == 1) = true := beq_iff_eq.mpr c62
              have c62b1 : ((rd (rd_L3 x10_6 x14_4) x16_6) != 1) = false := bne_eq_false_iff_eq.mpr c62
              clear c62
              by_cases c63 : x16_6 < ((rd_L3 x10_6 x15_5).length : Int)
              case neg => rw [if_neg c63] at H; exact absurd H (by simp)
              rw [if_pos c63] at H
              have c63b0 : decide (x16_6 < ((rd_L3 x10_6 x15_5).length : Int)) = true := decide_eq_true c63
              clear c63
              obtain ⟨y305, hy305⟩ : ∃ y_ : List Int, y_ = ((rd_L3 x10_6 x15_5).set (x16_6 : Int).toNat 1) := ⟨_, rfl⟩
              replace H : (orreryref21_Reach.l5 k6 a0 (x10_6.set (x15_5 : Int).toNat y305) x14_4 x15_5 (wrap64 (x16_6 + 1))) = some r := by first | (rw [hy305]; with_reducible exact H) | (have H2_ := (Option.bind_some _ _).symm.trans H; rw [hy305]; with_reducible exact H2_) | (have H2_ := (Option.bind_some _ _).symm.trans H; with_reducible exact H2_) | with_reducible exact H | (rw [hy305]; exact H) | exact H
              have Ny305 := Aside0.mk hy305
              clear hy305
              obtain ⟨y307, hy307⟩ : ∃ y_ : List (List Int), y_ = (x10_6.set (x15_5 : Int).toNat y305) := ⟨_, rfl⟩
              replace H : (orreryref21_Reach.l5 k6 a0 y307 x14_4 x15_5 (wrap64 (x16_6 + 1))) = some r := by first | (rw [hy307]; with_reducible exact H) | (have H2_ := (Option.bind_some _ _).symm.trans H; rw [hy307]; with_reducible exact H2_) | (have H2_ := (Option.bind_some _ _).symm.trans H; with_reducible exact H2_) | with_reducible exact H | (rw [hy307]; exact H) | exact H
              have Ny307 := Aside0.mk hy307
              clear hy307
              have H' := Aside0.mk H
              clear H
              obtain ⟨Ao65, co65, eo65⟩ := Kd.S_slice HO_10.out
              subst eo65
              have p300 : 0 ≤ (x15_5 : Int) := of_decide_eq_true (by first | (with_reducible assumption) | assumption)
              have q300 : x15_5 < (x10_6.length : Int) := of_decide_eq_true (by first | (with_reducible assumption) | assumption)
              obtain ⟨ad300, A300_0, c300_0, e300, hx300_0, hl300_0, hi300_0⟩ := at_L3 (Kd.S_reads' HO_10.out).2.2 x15_5 p300 q300
              cases e300
              obtain ⟨ce300, hce300, hMe300, hcc300⟩ := Kd.S_get HO_10.out [] x15_5 p300 (by first | exact q300 | exact of_decide_eq_true (by first | (with_reducible assumption) | assumption) | (have e_ := (Kd.S_reads' HO_10.out).1; omega))
              obtain ⟨ve300_0, rfl, ge300_0⟩ := hMe300
              have hv300_0 := hcc300 0 _ rfl
              rw [Nat.add_zero, show ((Kd.slice 3 (Kd.int .i64))).sz = 1 from rfl, Nat.mul_one] at hv300_0
              replace hv300_0 := Option.some.inj (hv300_0.symm.trans hx300_0)
              rw [hv300_0] at ge300_0
              have HL300_0 := Aside0.mk (show Kd.R (Kd.int .i64) 3 _ _ _ _ (rd_L3 x10_6 x15_5) from ge300_0)
              clear hv300_0 ge300_0
              have HX300_0 := Aside0.mk hx300_0
              clear hcc300 hce300
              have HR300_0 := Aside0.mk hi300_0
              have HC300_0 := Aside0.mk hl300_0
              clear hi300_0 hl300_0
              replace p300 := eq_true p300
              replace q300 := eq_true q300
              have p301 : 0 ≤ (x14_4 : Int) := of_decide_eq_true (by first | (with_reducible assumption) | assumption)
              have q301 : x14_4 < ((rd_L3 x10_6 x15_5).length : Int) := of_decide_eq_true (by first | (with_reducible assumption) | assumption)
              obtain ⟨ad301, e301, hx301_0⟩ := Kd.at_int (by repeat (first | (with_reducible exact HR300_0.out) | (with_reducible refine Kd.C_alloc ?_ _) | (with_reducible refine Kd.C_drewN ?_ _) | (with_reducible refine Kd.C_drew ?_) | exact HR300_0.out)) x14_4 p301 q301
              cases e301
              replace p301 := eq_true p301
              replace q301 := eq_true q301
              have p302 : 0 ≤ (x14_4 : Int) := of_decide_eq_true (by first | (with_reducible assumption) | assumption)
              have q302 : x14_4 < (x10_6.length : Int) := of_decide_eq_true (by first | (with_reducible assumption) | assumption)
              obtain ⟨ad302, A302_0, c302_0, e302, hx302_0, hl302_0, hi302_0⟩ := at_L3 (Kd.S_reads' HO_10.out).2.2 x14_4 p302 q302
              obtain rfl : ad300 = ad302 := (by injection e302)
              obtain ⟨ce302, hce302, hMe302, hcc302⟩ := Kd.S_get HO_10.out [] x14_4 p302 (by first | exact q302 | exact of_decide_eq_true (by first | (with_reducible assumption) | assumption) | (have e_ := (Kd.S_reads' HO_10.out).1; omega))
              obtain ⟨ve302_0, rfl, ge302_0⟩ := hMe302
              have hv302_0 := hcc302 0 _ rfl
              rw [Nat.add_zero, show ((Kd.slice 3 (Kd.int .i64))).sz = 1 from rfl, Nat.mul_one] at hv302_0
              replace hv302_0 := Option.some.inj (hv302_0.symm.trans hx302_0)
              rw [hv302_0] at ge302_0
              have HL302_0 := Aside0.mk (show Kd.R (Kd.int .i64) 3 _ _ _ _ (rd_L3 x10_6 x14_4) from ge302_0)
              clear hv302_0 ge302_0
              have HX302_0 := Aside0.mk hx302_0
              clear hcc302 hce302
              have HR302_0 := Aside0.mk hi302_0
              have HC302_0 := Aside0.mk hl302_0
              clear hi302_0 hl302_0
              replace p302 := eq_true p302
              replace q302 := eq_true q302
              have p303 : 0 ≤ (x16_6 : Int) := of_decide_eq_true (by first | (with_reducible assumption) | assumption)
              have q303 : x16_6 < ((rd_L3 x10_6 x14_4).length : Int) := of_decide_eq_true (by first | (with_reducible assumption) | assumption)
              obtain ⟨ad303, e303, hx303_0⟩ := Kd.at_int (by repeat (first | (with_reducible exact HR302_0.out) | (with_reducible refine Kd.C_alloc ?_ _) | (with_reducible refine Kd.C_drewN ?_ _) | (with_reducible refine Kd.C_drew ?_) | exact HR302_0.out)) x16_6 p303 q303
              cases e303
              replace p303 := eq_true p303
              replace q303 := eq_true q303
              have p304 : 0 ≤ (x15_5 : Int) := of_decide_eq_true (by first | (with_reducible assumption) | assumption)
              have q304 : x15_5 < (x10_6.length : Int) := of_decide_eq_true (by first | (with_reducible assumption) | assumption)
              obtain ⟨ad304, A304_0, c304_0, e304, hx304_0, hl304_0, hi304_0⟩ := at_L3 (Kd.S_reads' HO_10.out).2.2 x15_5 p304 q304
              obtain rfl : ad300 = ad304 := (by injection e304)
              obtain ⟨ce304, hce304, hMe304, hcc304⟩ := Kd.S_get HO_10.out [] x15_5 p304 (by first | exact q304 | exact of_decide_eq_true (by first | (with_reducible assumption) | assumption) | (have e_ := (Kd.S_reads' HO_10.out).1; omega))
              obtain ⟨ve304_0, rfl, ge304_0⟩ := hMe304
              have hv304_0 := hcc304 0 _ rfl
              rw [Nat.add_zero, show ((Kd.slice 3 (Kd.int .i64))).sz = 1 from rfl, Nat.mul_one] at hv304_0
              replace hv304_0 := Option.some.inj (hv304_0.symm.trans hx304_0)
              rw [hv304_0] at ge304_0
              have HL304_0 := Aside0.mk (show Kd.R (Kd.int .i64) 3 _ _ _ _ (rd_L3 x10_6 x15_5) from ge304_0)
              clear hv304_0 ge304_0
              have HX304_0 := Aside0.mk hx304_0
              clear hcc304 hce304
              have HR304_0 := Aside0.mk hi304_0
              have HC304_0 := Aside0.mk hl304_0
              clear hi304_0 hl304_0
              replace p304 := eq_true p304
              replace q304 := eq_true q304
              have ea_ := Option.some.inj (hx300_0.symm.trans hx304_0)
              injection ea_ with ea_ en_ ec_
              subst ea_
              subst ec_
              clear en_
              have p64 : 0 ≤ (x16_6 : Int) := of_decide_eq_true (by first | (with_reducible assumption) | assumption)
              have q64 : (x16_6 : Int) < (((rd_L3 x10_6 x15_5).length : Int) : Int) := of_decide_eq_true (by first | (with_reducible assumption) | assumption)
              obtain ⟨go64, co64, eo64, gb64, gl64, cl64, HG64⟩ := Kd.R_form HL304_0.out (by omega)
              (first | cases eo64 | (injection eo64 with ea_ en_ ec_; (first | subst ea_ | (injection ea_ with ea_; subst ea_)); subst ec_; clear en_))
              have GB64 := Aside0.mk gb64
              have GG64 := Aside0.mk HG64
              clear gb64 gl64 HG64
              (first | simp only [add_plain] at hx301_0 | skip)
              obtain ⟨hx64_0, hf64_0⟩ := Kd.R_celln 0 HL304_0.out (x16_6 : Int) p64 q64
              replace p64 := eq_true p64
              replace q64 := eq_true q64
              have hq66 : (x15_5 : Int) < (x10_6.length : Int) := (by have h_ : (x15_5 : Int) < ((x10_6.length : Int) : Int) := of_decide_eq_true (by first | (with_reducible assumption) | assumption); first | exact h_ | (have e_ := (Kd.S_reads' HO_10.out).1; omega) | simpa only [List.length_set, List.length_set] using h_)
              obtain ⟨oki66, ce66, hcl66, hM66, hcc66, hok66, hbk66⟩ := Kd.S_borrow HO_10.out [] (x15_5 : Int) (of_decide_eq_true (by first | (with_reducible assumption) | assumption)) hq66
              obtain ⟨ve66_0, rfl, ge66_0⟩ := hM66
              have hv66 := hcc66 0 _ rfl
              rw [Nat.add_zero, show ((Kd.slice 3 (Kd.int .i64))).sz = 1 from rfl, Nat.mul_one] at hv66
              replace hv66 := Option.some.inj (hv66.symm.trans HX304_0.out)
              subst hv66
              clear hcc66 hcl66
              replace ge66_0 := (show Kd.R (Kd.int .i64) 3 _ _ _ _ (rd_L3 x10_6 x15_5) from ge66_0)
              have HP66 := Kd.R_putg ge66_0 (x16_6 : Int) 1
              go_wp2_with (first | ((with_reducible refine gate_store (t := 3) (p := 106) rfl ?_); refine store_event (t := 3) (p := 106) (v := ?vo_w67) (w1 := (wr.setCell ⟨go64, (x16_6 : Int).toNat, none⟩ (.int .i64 1))) ?hg ?ho ?hn ?hr ?_; (case ho => rfl); (case hg => rfl); (case hn => rfl); (case hr => first | (go_simp; done) | (go_simp; rfl)); intro w67 hw; have hg : wr.grownBy w67 (some go64) := (by rw [hw]; exact HP66.2); have hz_ : Kd.R (Kd.int .i64) 3 w67 w.heap.size oki66 (.slice (some ⟨go64, 0, none⟩) (rd_L3 x10_6 x15_5).length c300_0) y305 := (by rw [hw, Ny305.out]; exact HP66.1); have hp_ : Kd.S (Kd.slice 3 (Kd.int .i64)) 23 w67 w.heap.size (fun _ => True) (.slice (some ad300) x10_6.length co65) y307 := (by rw [Ny307.out]; exact hbk66 hg (fun k_ e_ => by injection e_ with e_; subst e_; exact ge66_0.1 _ rfl) (Kd.M_row hz_)); have hm_ := Kd.R_mono hz_ hok66; clear HP66 hbk66; have n0_ := Aside0.mk (hp_); have n1_ := Aside0.mk ((by rw [hw]; exact below_set (HB.out) GB64.out : Below w.heap.size w w67)); have n2_ := Aside0.mk (hm_); have n3_ := Aside0.mk ((Kd.R_reads' hm_).2.1); clear HO_10; clear HB; clear HL300_0; clear HL302_0; clear HL304_0; have HO_10 := n0_; have HB := n1_; have HL308 := n2_; have HC306 := n3_; clear n0_ n1_ n2_ n3_; clear hg hw hp_ hz_ hm_ hok66))
              (first | go_roundg k6 | (refine Handed.intro k6 ?measure ?_; rotate_left; go_step; (repeat apply Exists.intro); (refine ⟨?rel, ?fr_⟩); (case fr_ => (simp only [add_plain]; rfl))))
              case measure => have := HK1.out; have := HK2.out; have := HK3.out; have := HK4.out; have := HK5.out; have := HK6.out; omega
              case rel => exact ⟨(y307), (wrap64 (x16_6 + 1)), (by first | rfl | (simp; done) | (simp [*]; done)), H', ⟨by have := HK1.out; have := HK2.out; have := HK3.out; have := HK4.out; have := HK5.out; have := HK6.out; omega⟩, ⟨by (with_reducible repeat (first | apply Kd.S_alloc | apply Kd.S_drewN | apply Kd.S_drew)); exact HO_10.out⟩, ⟨by repeat (first | (with_reducible first | exact HB.out | apply below_alloc | apply pw_below_drewN | apply below_drew1) | exact HB.out)⟩⟩
       rw [if_pos c26] at H
       have c26b0 : decide (x44_3 < (l1.length : Int)) = true := decide_eq_true c26
       clear c26
       by_cases c27 : 0 ≤ x44_3
       case neg => rw [if_neg c27] at H; exact absurd H (by simp)
       rw [if_pos c27] at H
       have c27b0 : decide (0 ≤ x44_3) = true := decide_eq_true c27
       clear c27
       by_cases c28 : x44_3 < (l1.length : Int)
       case neg => rw [if_neg c28] at H; exact absurd H (by simp)
       rw [if_pos c28] at H
       have c28b0 : decide (x44_3 < (l1.length : Int)) = true := decide_eq_true c28
       clear c28
       by_cases c29 : 0 ≤ ((rd_T33 l1 x44_3).f1)
       case neg => rw [if_neg c29] at H; exact absurd H (by simp)
       rw [if_pos c29] at H
       have c29b0 : decide (0 ≤ ((rd_T33 l1 x44_3).f1)) = true := decide_eq_true c29
       clear c29
       by_cases c30 : ((rd_T33 l1 x44_3).f1) < (x7_3.length : Int)
       case neg => rw [if_neg c30] at H; exact absurd H (by simp)
       rw [if_pos c30] at H
       have c30b0 : decide (((rd_T33 l1 x44_3).f1) < (x7_3.length : Int)) = true := decide_eq_true c30
       clear c30
       by_cases c31 : (rd x7_3 ((rd_T33 l1 x44_3).f1)) = ((rd_T33 l1 x44_3).f0)
       case pos =>
        rw [if_pos c31] at H
        have c31b0 : ((rd x7_3 ((rd_T33 l1 x44_3).f1)) == ((rd_T33 l1 x44_3).f0)) = true := beq_iff_eq.mpr c31
        have c31b1 : ((rd x7_3 ((rd_T33 l1 x44_3).f1)) != ((rd_T33 l1 x44_3).f0)) = false := bne_eq_false_iff_eq.mpr c31
        clear c31
        have H' := Aside0.mk H
        clear H
        have p292 : 0 ≤ (x44_3 : Int) := of_decide_eq_true (by first | (with_reducible assumption) | assumption)
        have q292 : x44_3 < (l1.length : Int) := of_decide_eq_true (by first | (with_reducible assumption) | assumption)
        obtain ⟨ad292, e292, hx292_0, hx292_1, hx292_2⟩ := at_T33 HR1.out x44_3 p292 q292
        cases e292
        replace hx292_0 := (HB.out.cell (World.block_lt_of_cell? w _ hx292_0)).trans hx292_0
        replace hx292_1 := (HB.out.cell (World.block_lt_of_cell? w _ hx292_1)).trans hx292_1
        replace hx292_2 := (HB.out.cell (World.block_lt_of_cell? w _ hx292_2)).trans hx292_2
        replace p292 := eq_true p292
        replace q292 := eq_true q292
        try go_wp2_with (first | ((with_reducible refine gate_dst (N := 13) rfl ?_); refine box_event ?hg (N := 13) ?hd (cs := #[.int .i64 0, .int .i64 0, .int .i64 0]) (t := 33) ?hr ?_; (case hd => rfl); (case hg => rfl); (case hr => first | (go_simp; done) | (go_simp; rfl)); intro gb293 hg w32 hbox hb; have n0_ := Aside0.mk (Kd.R_below (by (with_reducible repeat (first | apply Kd.R_alloc | apply Kd.R_drewN | apply Kd.R_drew)); exact HO_7.out) hb); have n1_ := Aside0.mk (Kd.S_below (by (with_reducible repeat (first | apply Kd.S_alloc | apply Kd.S_drewN | apply Kd.S_drew)); exact HO_10.out) hb); have n2_ := Aside0.mk (below_step (by repeat (first | (with_reducible first | exact HB.out | apply below_alloc | apply pw_below_drewN | apply below_drew1) | exact HB.out)) hb); have n3_ := Aside0.mk (hbox); have n4_ := Aside0.mk ((by rw [hg]; exact (below_size (by repeat (first | (with_reducible first | exact HB.out | apply below_alloc | apply pw_below_drewN | apply below_drew1) | exact HB.out))) : w.heap.size ≤ gb293)); have n5_ := Aside0.mk ((by rw [hg]; exact (below_size (by repeat (first | (with_reducible first | exact HB.out | apply below_alloc | apply pw_below_drewN | apply below_drew1) | exact HB.out))) : w.heap.size ≤ gb293)); clear HO_7; clear HO_10; clear HB; have HO_7 := n0_; have HO_10 := n1_; have HB := n2_; have BK293 := n3_; have GW293 := n4_; have GE293 := n5_; clear n0_ n1_ n2_ n3_ n4_ n5_; clear hb hbox hg; have hcz33_0 : w32.cell? ⟨gb293, 0, none⟩ = some (.int .i64 0) := (blk_cell BK293.out 0).trans rfl; have hcz33_1 : w32.cell? ⟨gb293, 1, none⟩ = some (.int .i64 0) := (blk_cell BK293.out 1).trans rfl; have hcz33_2 : w32.cell? ⟨gb293, 2, none⟩ = some (.int .i64 0) := (blk_cell BK293.out 2).trans rfl; have hfz33_0 := blk_frozen BK293.out 0; have hfz33_1 := blk_frozen BK293.out 1; have hfz33_2 := blk_frozen BK293.out 2))
        have n0_ : Aside0 (Kd.R (Kd.int .i64) 3 (((w32.setCell ⟨gb293, 0, none⟩ (.int .i64 ((rd_T33 l1 x44_3).f0))).setCell ⟨gb293, 1, none⟩ (.int .i64 ((rd_T33 l1 x44_3).f1))).setCell ⟨gb293, 2, none⟩ (.int .i64 ((rd_T33 l1 x44_3).f2))) w.heap.size (fun _ => True) v279 x7_3) := ⟨by (with_reducible repeat (first | apply Kd.R_alloc | apply Kd.R_drewN | apply Kd.R_drew)); exact Kd.R_mono (Kd.R_far (p := ⟨gb293, 2, none⟩) (Kd.R_far (p := ⟨gb293, 1, none⟩) (Kd.R_far (p := ⟨gb293, 0, none⟩) (Kd.R_types HO_7.out BK293.out (by decide)) (fun _ hk => hk.2) (.int .i64 ((rd_T33 l1 x44_3).f0))) (fun _ hk => hk.2) (.int .i64 ((rd_T33 l1 x44_3).f1))) (fun _ hk => hk.2) (.int .i64 ((rd_T33 l1 x44_3).f2))) (fun _ hk => trivial)⟩
        have n1_ : Aside0 (Kd.S (Kd.slice 3 (Kd.int .i64)) 23 (((w32.setCell ⟨gb293, 0, none⟩ (.int .i64 ((rd_T33 l1 x44_3).f0))).setCell ⟨gb293, 1, none⟩ (.int .i64 ((rd_T33 l1 x44_3).f1))).setCell ⟨gb293, 2, none⟩ (.int .i64 ((rd_T33 l1 x44_3).f2))) w.heap.size (fun k_ => some k_ ≠ (v279 : Value).ownBlock) u10 x10_3) := ⟨by (with_reducible repeat (first | apply Kd.S_alloc | apply Kd.S_drewN | apply Kd.S_drew)); exact Kd.S_mono (Kd.S_far (p := ⟨gb293, 2, none⟩) (Kd.S_far (p := ⟨gb293, 1, none⟩) (Kd.S_far (p := ⟨gb293, 0, none⟩) (Kd.S_types HO_10.out BK293.out (by decide)) (fun _ hk => hk.2) (.int .i64 ((rd_T33 l1 x44_3).f0))) (fun _ hk => hk.2) (.int .i64 ((rd_T33 l1 x44_3).f1))) (fun _ hk => hk.2) (.int .i64 ((rd_T33 l1 x44_3).f2))) (fun _ hk => hk.1)⟩
        have n2_ : Aside0 ((((w32.setCell ⟨gb293, 0, none⟩ (.int .i64 ((rd_T33 l1 x44_3).f0))).setCell ⟨gb293, 1, none⟩ (.int .i64 ((rd_T33 l1 x44_3).f1))).setCell ⟨gb293, 2, none⟩ (.int .i64 ((rd_T33 l1 x44_3).f2))).heap[gb293]? = some (.cells #[.int .i64 ((rd_T33 l1 x44_3).f0), .int .i64 ((rd_T33 l1 x44_3).f1), .int .i64 ((rd_T33 l1 x44_3).f2)] 33 (0, 0))) := ⟨by (with_reducible repeat (first | refine blk_drewN ?_ _ | refine blk_drew ?_ | refine blk_alloc ?_ _)); refine blk_put (cs := #[.int .i64 ((rd_T33 l1 x44_3).f0), .int .i64 ((rd_T33 l1 x44_3).f1), .int .i64 0]) ?_ 2 _ rfl; (with_reducible repeat (first | refine blk_drewN ?_ _ | refine blk_drew ?_ | refine blk_alloc ?_ _)); refine blk_put (cs := #[.int .i64 ((rd_T33 l1 x44_3).f0), .int .i64 0, .int .i64 0]) ?_ 1 _ rfl; (with_reducible repeat (first | refine blk_drewN ?_ _ | refine blk_drew ?_ | refine blk_alloc ?_ _)); refine blk_put (cs := #[.int .i64 0, .int .i64 0, .int .i64 0]) ?_ 0 _ rfl; (with_reducible repeat (first | refine blk_drewN ?_ _ | refine blk_drew ?_ | refine blk_alloc ?_ _)); exact BK293.out⟩
        have n3_ : Aside0 (Below w.heap.size w (((w32.setCell ⟨gb293, 0, none⟩ (.int .i64 ((rd_T33 l1 x44_3).f0))).setCell ⟨gb293, 1, none⟩ (.int .i64 ((rd_T33 l1 x44_3).f1))).setCell ⟨gb293, 2, none⟩ (.int .i64 ((rd_T33 l1 x44_3).f2)))) := ⟨by repeat (first | (with_reducible first | exact HB.out | apply below_alloc | apply pw_below_drewN | apply below_drew1 | refine below_set ?_ GE293.out) | exact HB.out)⟩
        (try clear HO_7)
        (try clear HO_10)
        (try clear BK293)
        (try clear HB)
        generalize (((w32.setCell ⟨gb293, 0, none⟩ (.int .i64 ((rd_T33 l1 x44_3).f0))).setCell ⟨gb293, 1, none⟩ (.int .i64 ((rd_T33 l1 x44_3).f1))).setCell ⟨gb293, 2, none⟩ (.int .i64 ((rd_T33 l1 x44_3).f2))) = w34 at n0_ n1_ n2_ n3_ ⊢
        have HO_7 := n0_
        have HO_10 := n1_
        have BK293 := n2_
        have HB := n3_
        clear n0_ n1_ n2_ n3_
        have n0_ := Aside0.mk (Kd.R_drew HO_7.out)
        have n1_ := Aside0.mk (Kd.S_drew HO_10.out)
        have n2_ := Aside0.mk (blk_drew BK293.out)
        have n3_ := Aside0.mk (below_drew1 HB.out)
        clear HO_7
        clear HO_10
        clear BK293
        clear HB
        have HO_7 := n0_
        have HO_10 := n1_
        have BK293 := n2_
        have HB := n3_
        clear n0_ n1_ n2_ n3_
        obtain ⟨Ao36, co36, eo36⟩ := Kd.R_slice HO_7.out
        (first | subst eo36 | (injection eo36 with f1_ f2_ f3_; have f4_ := f1_.symm; have f5_ := f3_.symm; clear f1_ f2_ f3_; subst f4_; subst f5_))
        have p294 : 0 ≤ (((rd_T33 l1 x44_3).f1) : Int) := of_decide_eq_true (by first | (with_reducible assumption) | assumption)
        have q294 : ((rd_T33 l1 x44_3).f1) < (x7_3.length : Int) := of_decide_eq_true (by first | (with_reducible assumption) | assumption)
        obtain ⟨ad294, e294, hx294_0⟩ := Kd.at_int (Kd.R_reads' HO_7.out).2.2 ((rd_T33 l1 x44_3).f1) p294 q294
        cases e294
        replace p294 := eq_true p294
        replace q294 := eq_true q294
        refine start_ (n := 8) (S := fun w' => w'.cell? ⟨gb293, 0, none⟩ = some (.int .i64 ((rd_T33 l1 x44_3).f0)) ∧ w'.cell? ⟨gb293, 1, none⟩ = some (.int .i64 ((rd_T33 l1 x44_3).f1)) ∧ w'.cell? ⟨gb293, 2, none⟩ = some (.int .i64 ((rd_T33 l1 x44_3).f2)) ∧ w'.cell? (ad294.add (((rd_T33 l1 x44_3).f1)).toNat) = some (.int .i64 (rd x7_3 ((rd_T33 l1 x44_3).f1)))) (ds := []) (msk 8 0) (by kernel_rfl) rfl rfl ⟨(blk_cell BK293.out 0).trans rfl, (blk_cell BK293.out 1).trans rfl, (blk_cell BK293.out 2).trans rfl, hx294_0⟩ (fun hHeld => ?_); refine with_tabW orreryref21_Reach.tab15 orreryref21_Reach.bits15 (fun HT_ HW_ => ?_)
        generalize w34.drew = w35 at HO_7 HO_10 BK293 HB hx294_0 hHeld ⊢
        refine pu_ 0 48 (msk 8 1) HT_.out ?_ ?_ ?_ ?_ ?_
        rotate_left
        · intro w'; go_simp; with_reducible rfl
        rotate_left
        · simp only [Act.put, sq, i64_w, i32_w]; rfl
        refine pu_ 1 49 (msk 8 3) HT_.out ?_ ?_ ?_ ?_ ?_
        rotate_left
        · intro w'; go_simp; with_reducible rfl
        rotate_left
        · simp only [Act.put, sq, i64_w, i32_w]; rfl
        refine pu_ 5 53 (msk 8 35) HT_.out ?_ ?_ ?_ ?_ ?_
        rotate_left
        · intro w'; go_simp; with_reducible rfl
        rotate_left
        · simp only [Act.put, sq, i64_w, i32_w]; rfl
        refine tk_ 2 50 (msk 8 39) HT_.out HW_.out hHeld ?_ ?_ ?_ ?_ ?_
        rotate_left
        · rintro w' ⟨s0, s1, s2, s3⟩; go_simp; with_reducible rfl
        rotate_left
        · simp only [Act.put, sq, i64_w, i32_w]; rfl
        refine pu_ 3 51 (msk 8 47) HT_.out ?_ ?_ ?_ ?_ ?_
        rotate_left
        · intro w'; go_simp; with_reducible rfl
        rotate_left
        · simp only [Act.put, sq, i64_w, i32_w]; rfl
        refine tk_ 4 52 (msk 8 63) HT_.out HW_.out hHeld ?_ ?_ ?_ ?_ ?_
        rotate_left
        · rintro w' ⟨s0, s1, s2, s3⟩; go_simp; with_reducible rfl
        rotate_left
        · simp only [Act.put, sq, i64_w, i32_w]; rfl
        refine tk_ 6 54 (msk 8 127) HT_.out HW_.out hHeld ?_ ?_ ?_ ?_ ?_
        rotate_left
        · rintro w' ⟨s0, s1, s2, s3⟩; go_simp; with_reducible rfl
        rotate_left
        · simp only [Act.put, sq, i64_w, i32_w]; rfl
        refine pu_ 7 55 (msk 8 255) HT_.out ?_ ?_ ?_ ?_ ?_
        rotate_left
        · intro w'; go_simp; with_reducible rfl
        rotate_left
        · simp only [Act.put, sq, i64_w, i32_w]; rfl
        refine done_ (done_of HT_.out (by kernel_rfl)) ?_
        try go_wp2
        (first | go_roundg k3 | (refine Handed.intro k3 ?measure ?_; rotate_left; go_step; (repeat apply Exists.intro); (refine ⟨?rel, ?fr_⟩); (case fr_ => (simp only [add_plain]; rfl))))
        case measure => have := HK1.out; have := HK2.out; have := HK3.out; omega
        case rel => exact ⟨(x7_3), (x10_3), (wrap64 (x44_3 + 1)), (by first | rfl | (simp; done) | (simp [*]; done)), H', ⟨by have := HK1.out; have := HK2.out; have := HK3.out; omega⟩, ⟨by (with_reducible repeat (first | apply Kd.R_alloc | apply Kd.R_drewN | apply Kd.R_drew)); exact HO_7.out⟩, ⟨by (with_reducible repeat (first | apply Kd.S_alloc | apply Kd.S_drewN | apply Kd.S_drew)); exact HO_10.out⟩, ⟨by repeat (first | (with_reducible first | exact HB.out | apply below_alloc | apply pw_below_drewN | apply below_drew1 | refine below_set ?_ GE293.out) | exact HB.out)⟩⟩
       rw [if_neg c31] at H
       have c31b0 : ((rd x7_3 ((rd_T33 l1 x44_3).f1)) == ((rd_T33 l1 x44_3).f0)) = false := beq_eq_false_iff_ne.mpr c31
       have c31b1 : ((rd x7_3 ((rd_T33 l1 x44_3).f1)) != ((rd_T33 l1 x44_3).f0)) = true := bne_iff_ne.mpr c31
       by_cases c37 : 0 ≤ ((rd_T33 l1 x44_3).f0)
       case neg => rw [if_neg c37] at H; exact absurd H (by simp)
       rw [if_pos c37] at H
       have c37b0 : decide (0 ≤ ((rd_T33 l1 x44_3).f0)) = true := decide_eq_true c37
       clear c37
       by_cases c38 : ((rd_T33 l1 x44_3).f0) < (x10_3.length : Int)
       case neg => rw [if_neg c38] at H; exact absurd H (by simp)
       rw [if_pos c38] at H
       have c38b0 : decide (((rd_T33 l1 x44_3).f0) < (x10_3.length : Int)) = true := decide_eq_true c38
       clear c38
       by_cases c39 : 0 ≤ (rd x7_3 ((rd_T33 l1 x44_3).f1))
       case neg => rw [if_neg c39] at H; exact absurd H (by simp)
       rw [if_pos c39] at H
       have c39b0 : decide (0 ≤ (rd x7_3 ((rd_T33 l1 x44_3).f1))) = true := decide_eq_true c39
       clear c39
       by_cases c40 : (rd x7_3 ((rd_T33 l1 x44_3).f1)) < ((rd_L3 x10_3 ((rd_T33 l1 x44_3).f0)).length : Int)
       case neg => rw [if_neg c40] at H; exact absurd H (by simp)
       rw [if_pos c40] at H
       have c40b0 : decide ((rd x7_3 ((rd_T33 l1 x44_3).f1)) < ((rd_L3 x10_3 ((rd_T33 l1 x44_3).f0)).length : Int)) = true := decide_eq_true c40
       clear c40
       obtain ⟨y297, hy297⟩ : ∃ y_ : List Int, y_ = ((rd_L3 x10_3 ((rd_T33 l1 x44_3).f0)).set ((rd x7_3 ((rd_T33 l1 x44_3).f1)) : Int).toNat 1) := ⟨_, rfl⟩
       replace H : (orreryref21_Reach.l2 k3 a0 x7_3 (x10_3.set (((rd_T33 l1 x44_3).f0) : Int).toNat y297) l1 (l1.length : Int) (wrap64 (x44_3 + 1))) = some r := by first | (rw [hy297]; with_reducible exact H) | (have H2_ := (Option.bind_some _ _).symm.trans H; rw [hy297]; with_reducible exact H2_) | (have H2_ := (Option.bind_some _ _).symm.trans H; with_reducible exact H2_) | with_reducible exact H | (rw [hy297]; exact H) | exact H
       have Ny297 := Aside0.mk hy297
       clear hy297
       obtain ⟨y299, hy299⟩ : ∃ y_ : List (List Int), y_ = (x10_3.set (((rd_T33 l1 x44_3).f0) : Int).toNat y297) := ⟨_, rfl⟩
       replace H : (orreryref21_Reach.l2 k3 a0 x7_3 y299 l1 (l1.length : Int) (wrap64 (x44_3 + 1))) = some r := by first | (rw [hy299]; with_reducible exact H) | (have H2_ := (Option.bind_some _ _).symm.trans H; rw [hy299]; with_reducible exact H2_) | (have H2_ := (Option.bind_some _ _).symm.trans H; with_reducible exact H2_) | with_reducible exact H | (rw [hy299]; exact H) | exact H
       have Ny299 := Aside0.mk hy299
       clear hy299
       have H' := Aside0.mk H
       clear H
       have p292 : 0 ≤ (x44_3 : Int) := of_decide_eq_true (by first | (with_reducible assumption) | assumption)
       have q292 : x44_3 < (l1.length : Int) := of_decide_eq_true (by first | (with_reducible assumption) | assumption)
       obtain ⟨ad292, e292, hx292_0, hx292_1, hx292_2⟩ := at_T33 HR1.out x44_3 p292 q292
       cases e292
       replace hx292_0 := (HB.out.cell (World.block_lt_of_cell? w _ hx292_0)).trans hx292_0
       replace hx292_1 := (HB.out.cell (World.block_lt_of_cell? w _ hx292_1)).trans hx292_1
       replace hx292_2 := (HB.out.cell (World.block_lt_of_cell? w _ hx292_2)).trans hx292_2
       replace p292 := eq_true p292
       replace q292 := eq_true q292
       try go_wp2_with (first | ((with_reducible refine gate_dst (N := 13) rfl ?_); refine box_event ?hg (N := 13) ?hd (cs := #[.int .i64 0, .int .i64 0, .int .i64 0]) (t := 33) ?hr ?_; (case hd => rfl); (case hg => rfl); (case hr => first | (go_simp; done) | (go_simp; rfl)); intro gb293 hg w42 hbox hb; have n0_ := Aside0.mk (Kd.R_below (by (with_reducible repeat (first | apply Kd.R_alloc | apply Kd.R_drewN | apply Kd.R_drew)); exact HO_7.out) hb); have n1_ := Aside0.mk (Kd.S_below (by (with_reducible repeat (first | apply Kd.S_alloc | apply Kd.S_drewN | apply Kd.S_drew)); exact HO_10.out) hb); have n2_ := Aside0.mk (below_step (by repeat (first | (with_reducible first | exact HB.out | apply below_alloc | apply pw_below_drewN | apply below_drew1) | exact HB.out)) hb); have n3_ := Aside0.mk (hbox); have n4_ := Aside0.mk ((by rw [hg]; exact (below_size (by repeat (first | (with_reducible first | exact HB.out | apply below_alloc | apply pw_below_drewN | apply below_drew1) | exact HB.out))) : w.heap.size ≤ gb293)); have n5_ := Aside0.mk ((by rw [hg]; exact (below_size (by repeat (first | (with_reducible first | exact HB.out | apply below_alloc | apply pw_below_drewN | apply below_drew1) | exact HB.out))) : w.heap.size ≤ gb293)); clear HO_7; clear HO_10; clear HB; have HO_7 := n0_; have HO_10 := n1_; have HB := n2_; have BK293 := n3_; have GW293 := n4_; have GE293 := n5_; clear n0_ n1_ n2_ n3_ n4_ n5_; clear hb hbox hg; have hcz43_0 : w42.cell? ⟨gb293, 0, none⟩ = some (.int .i64 0) := (blk_cell BK293.out 0).trans rfl; have hcz43_1 : w42.cell? ⟨gb293, 1, none⟩ = some (.int .i64 0) := (blk_cell BK293.out 1).trans rfl; have hcz43_2 : w42.cell? ⟨gb293, 2, none⟩ = some (.int .i64 0) := (blk_cell BK293.out 2).trans rfl; have hfz43_0 := blk_frozen BK293.out 0; have hfz43_1 := blk_frozen BK293.out 1; have hfz43_2 := blk_frozen BK293.out 2))
       have n0_ : Aside0 (Kd.R (Kd.int .i64) 3 (((w42.setCell ⟨gb293, 0, none⟩ (.int .i64 ((rd_T33 l1 x44_3).f0))).setCell ⟨gb293, 1, none⟩ (.int .i64 ((rd_T33 l1 x44_3).f1))).setCell ⟨gb293, 2, none⟩ (.int .i64 ((rd_T33 l1 x44_3).f2))) w.heap.size (fun _ => True) v279 x7_3) := ⟨by (with_reducible repeat (first | apply Kd.R_alloc | apply Kd.R_drewN | apply Kd.R_drew)); exact Kd.R_mono (Kd.R_far (p := ⟨gb293, 2, none⟩) (Kd.R_far (p := ⟨gb293, 1, none⟩) (Kd.R_far (p := ⟨gb293, 0, none⟩) (Kd.R_types HO_7.out BK293.out (by decide)) (fun _ hk => hk.2) (.int .i64 ((rd_T33 l1 x44_3).f0))) (fun _ hk => hk.2) (.int .i64 ((rd_T33 l1 x44_3).f1))) (fun _ hk => hk.2) (.int .i64 ((rd_T33 l1 x44_3).f2))) (fun _ hk => trivial)⟩
       have n1_ : Aside0 (Kd.S (Kd.slice 3 (Kd.int .i64)) 23 (((w42.setCell ⟨gb293, 0, none⟩ (.int .i64 ((rd_T33 l1 x44_3).f0))).setCell ⟨gb293, 1, none⟩ (.int .i64 ((rd_T33 l1 x44_3).f1))).setCell ⟨gb293, 2, none⟩ (.int .i64 ((rd_T33 l1 x44_3).f2))) w.heap.size (fun k_ => some k_ ≠ (v279 : Value).ownBlock) u10 x10_3) := ⟨by (with_reducible repeat (first | apply Kd.S_alloc | apply Kd.S_drewN | apply Kd.S_drew)); exact Kd.S_mono (Kd.S_far (p := ⟨gb293, 2, none⟩) (Kd.S_far (p := ⟨gb293, 1, none⟩) (Kd.S_far (p := ⟨gb293, 0, none⟩) (Kd.S_types HO_10.out BK293.out (by decide)) (fun _ hk => hk.2) (.int .i64 ((rd_T33 l1 x44_3).f0))) (fun _ hk => hk.2) (.int .i64 ((rd_T33 l1 x44_3).f1))) (fun _ hk => hk.2) (.int .i64 ((rd_T33 l1 x44_3).f2))) (fun _ hk => hk.1)⟩
       have n2_ : Aside0 ((((w42.setCell ⟨gb293, 0, none⟩ (.int .i64 ((rd_T33 l1 x44_3).f0))).setCell ⟨gb293, 1, none⟩ (.int .i64 ((rd_T33 l1 x44_3).f1))).setCell ⟨gb293, 2, none⟩ (.int .i64 ((rd_T33 l1 x44_3).f2))).heap[gb293]? = some (.cells #[.int .i64 ((rd_T33 l1 x44_3).f0), .int .i64 ((rd_T33 l1 x44_3).f1), .int .i64 ((rd_T33 l1 x44_3).f2)] 33 (0, 0))) := ⟨by (with_reducible repeat (first | refine blk_drewN ?_ _ | refine blk_drew ?_ | refine blk_alloc ?_ _)); refine blk_put (cs := #[.int .i64 ((rd_T33 l1 x44_3).f0), .int .i64 ((rd_T33 l1 x44_3).f1), .int .i64 0]) ?_ 2 _ rfl; (with_reducible repeat (first | refine blk_drewN ?_ _ | refine blk_drew ?_ | refine blk_alloc ?_ _)); refine blk_put (cs := #[.int .i64 ((rd_T33 l1 x44_3).f0), .int .i64 0, .int .i64 0]) ?_ 1 _ rfl; (with_reducible repeat (first | refine blk_drewN ?_ _ | refine blk_drew ?_ | refine blk_alloc ?_ _)); refine blk_put (cs := #[.int .i64 0, .int .i64 0, .int .i64 0]) ?_ 0 _ rfl; (with_reducible repeat (first | refine blk_drewN ?_ _ | refine blk_drew ?_ | refine blk_alloc ?_ _)); exact BK293.out⟩
       have n3_ : Aside0 (Below w.heap.size w (((w42.setCell ⟨gb293, 0, none⟩ (.int .i64 ((rd_T33 l1 x44_3).f0))).setCell ⟨gb293, 1, none⟩ (.int .i64 ((rd_T33 l1 x44_3).f1))).setCell ⟨gb293, 2, none⟩ (.int .i64 ((rd_T33 l1 x44_3).f2)))) := ⟨by repeat (first | (with_reducible first | exact HB.out | apply below_alloc | apply pw_below_drewN | apply below_drew1 | refine below_set ?_ GE293.out) | exact HB.out)⟩
       (try clear HO_7)
       (try clear HO_10)
       (try clear BK293)
       (try clear HB)
       generalize (((w42.setCell ⟨gb293, 0, none⟩ (.int .i64 ((rd_T33 l1 x44_3).f0))).setCell ⟨gb293, 1, none⟩ (.int .i64 ((rd_T33 l1 x44_3).f1))).setCell ⟨gb293, 2, none⟩ (.int .i64 ((rd_T33 l1 x44_3).f2))) = w44 at n0_ n1_ n2_ n3_ ⊢
       have HO_7 := n0_
       have HO_10 := n1_
       have BK293 := n2_
       have HB := n3_
       clear n0_ n1_ n2_ n3_
       have n0_ := Aside0.mk (Kd.R_drew HO_7.out)
       have n1_ := Aside0.mk (Kd.S_drew HO_10.out)
       have n2_ := Aside0.mk (blk_drew BK293.out)
       have n3_ := Aside0.mk (below_drew1 HB.out)
       clear HO_7
       clear HO_10
       clear BK293
       clear HB
       have HO_7 := n0_
       have HO_10 := n1_
       have BK293 := n2_
       have HB := n3_
       clear n0_ n1_ n2_ n3_
       obtain ⟨Ao46, co46, eo46⟩ := Kd.R_slice HO_7.out
       (first | subst eo46 | (injection eo46 with f1_ f2_ f3_; have f4_ := f1_.symm; have f5_ := f3_.symm; clear f1_ f2_ f3_; subst f4_; subst f5_))
       have p294 : 0 ≤ (((rd_T33 l1 x44_3).f1) : Int) := of_decide_eq_true (by first | (with_reducible assumption) | assumption)
       have q294 : ((rd_T33 l1 x44_3).f1) < (x7_3.length : Int) := of_decide_eq_true (by first | (with_reducible assumption) | assumption)
       obtain ⟨ad294, e294, hx294_0⟩ := Kd.at_int (Kd.R_reads' HO_7.out).2.2 ((rd_T33 l1 x44_3).f1) p294 q294
       cases e294
       replace p294 := eq_true p294
       replace q294 := eq_true q294
       refine start_ (n := 8) (S := fun w' => w'.cell? ⟨gb293, 0, none⟩ = some (.int .i64 ((rd_T33 l1 x44_3).f0)) ∧ w'.cell? ⟨gb293, 1, none⟩ = some (.int .i64 ((rd_T33 l1 x44_3).f1)) ∧ w'.cell? ⟨gb293, 2, none⟩ = some (.int .i64 ((rd_T33 l1 x44_3).f2)) ∧ w'.cell? (ad294.add (((rd_T33 l1 x44_3).f1)).toNat) = some (.int .i64 (rd x7_3 ((rd_T33 l1 x44_3).f1)))) (ds := []) (msk 8 0) (by kernel_rfl) rfl rfl ⟨(blk_cell BK293.out 0).trans rfl, (blk_cell BK293.out 1).trans rfl, (blk_cell BK293.out 2).trans rfl, hx294_0⟩ (fun hHeld => ?_); refine with_tabW orreryref21_Reach.tab15 orreryref21_Reach.bits15 (fun HT_ HW_ => ?_)
       generalize w44.drew = w45 at HO_7 HO_10 BK293 HB hx294_0 hHeld ⊢
       refine pu_ 0 48 (msk 8 1) HT_.out ?_ ?_ ?_ ?_ ?_
       rotate_left
       · intro w'; go_simp; with_reducible rfl
       rotate_left
       · simp only [Act.put, sq, i64_w, i32_w]; rfl
       refine pu_ 1 49 (msk 8 3) HT_.out ?_ ?_ ?_ ?_ ?_
       rotate_left
       · intro w'; go_simp; with_reducible rfl
       rotate_left
       · simp only [Act.put, sq, i64_w, i32_w]; rfl
       refine pu_ 5 53 (msk 8 35) HT_.out ?_ ?_ ?_ ?_ ?_
       rotate_left
       · intro w'; go_simp; with_reducible rfl
       rotate_left
       · simp only [Act.put, sq, i64_w, i32_w]; rfl
       refine tk_ 2 50 (msk 8 39) HT_.out HW_.out hHeld ?_ ?_ ?_ ?_ ?_
       rotate_left
       · rintro w' ⟨s0, s1, s2, s3⟩; go_simp; with_reducible rfl
       rotate_left
       · simp only [Act.put, sq, i64_w, i32_w]; rfl
       refine pu_ 3 51 (msk 8 47) HT_.out ?_ ?_ ?_ ?_ ?_
       rotate_left
       · intro w'; go_simp; with_reducible rfl
       rotate_left
       · simp only [Act.put, sq, i64_w, i32_w]; rfl
       refine tk_ 4 52 (msk 8 63) HT_.out HW_.out hHeld ?_ ?_ ?_ ?_ ?_
       rotate_left
       · rintro w' ⟨s0, s1, s2, s3⟩; go_simp; with_reducible rfl
       rotate_left
       · simp only [Act.put, sq, i64_w, i32_w]; rfl
       refine tk_ 6 54 (msk 8 127) HT_.out HW_.out hHeld ?_ ?_ ?_ ?_ ?_
       rotate_left
       · rintro w' ⟨s0, s1, s2, s3⟩; go_simp; with_reducible rfl
       rotate_left
       · simp only [Act.put, sq, i64_w, i32_w]; rfl
       refine pu_ 7 55 (msk 8 255) HT_.out ?_ ?_ ?_ ?_ ?_
       rotate_left
       · intro w'; go_simp; with_reducible rfl
       rotate_left
       · simp only [Act.put, sq, i64_w, i32_w]; rfl
       refine done_ (done_of HT_.out (by kernel_rfl)) ?_
       try go_wp2
       have n0_ := Aside0.mk (Kd.R_drew HO_7.out)
       have n1_ := Aside0.mk (Kd.S_drew HO_10.out)
       have n2_ := Aside0.mk (blk_drew BK293.out)
       have n3_ := Aside0.mk (below_drew1 HB.out)
       clear HO_7
       clear HO_10
       clear BK293
       clear HB
       have HO_7 := n0_
       have HO_10 := n1_
       have BK293 := n2_
       have HB := n3_
       clear n0_ n1_ n2_ n3_
       obtain ⟨Ao48, co48, eo48⟩ := Kd.S_slice HO_10.out
       (first | subst eo48 | (injection eo48 with f1_ f2_ f3_; have f4_ := f1_.symm; have f5_ := f3_.symm; clear f1_ f2_ f3_; subst f4_; subst f5_))
       have p295 : 0 ≤ (((rd_T33 l1 x44_3).f0) : Int) := of_decide_eq_true (by first | (with_reducible assumption) | assumption)
       have q295 : ((rd_T33 l1 x44_3).f0) < (x10_3.length : Int) := of_decide_eq_true (by first | (with_reducible assumption) | assumption)
       obtain ⟨ad295, A295_0, c295_0, e295, hx295_0, hl295_0, hi295_0⟩ := at_L3 (Kd.S_reads' HO_10.out).2.2 ((rd_T33 l1 x44_3).f0) p295 q295
       cases e295
       obtain ⟨ce295, hce295, hMe295, hcc295⟩ := Kd.S_get HO_10.out [] ((rd_T33 l1 x44_3).f0) p295 (by first | exact q295 | exact of_decide_eq_true (by first | (with_reducible assumption) | assumption) | (have e_ := (Kd.S_reads' HO_10.out).1; omega))
       obtain ⟨ve295_0, rfl, ge295_0⟩ := hMe295
       have hv295_0 := hcc295 0 _ rfl
       rw [Nat.add_zero, show ((Kd.slice 3 (Kd.int .i64))).sz = 1 from rfl, Nat.mul_one] at hv295_0
       replace hv295_0 := Option.some.inj (hv295_0.symm.trans hx295_0)
       rw [hv295_0] at ge295_0
       have HL295_0 := Aside0.mk (show Kd.R (Kd.int .i64) 3 _ _ _ _ (rd_L3 x10_3 ((rd_T33 l1 x44_3).f0)) from ge295_0)
       clear hv295_0 ge295_0
       have HX295_0 := Aside0.mk hx295_0
       have RF295_0_HO_7 := Aside0.mk (Kd.R_farB HL295_0.out (fun k_ hk => hk.1))
       clear hcc295 hce295
       have HR295_0 := Aside0.mk hi295_0
       have HC295_0 := Aside0.mk hl295_0
       clear hi295_0 hl295_0
       replace p295 := eq_true p295
       replace q295 := eq_true q295
       have p296 : 0 ≤ (((rd_T33 l1 x44_3).f1) : Int) := of_decide_eq_true (by first | (with_reducible assumption) | assumption)
       have q296 : ((rd_T33 l1 x44_3).f1) < (x7_3.length : Int) := of_decide_eq_true (by first | (with_reducible assumption) | assumption)
       obtain ⟨ad296, e296, hx296_0⟩ := Kd.at_int (Kd.R_reads' HO_7.out).2.2 ((rd_T33 l1 x44_3).f1) p296 q296
       obtain rfl : ad294 = ad296 := (by injection e296)
       replace p296 := eq_true p296
       replace q296 := eq_true q296
       have p41 : 0 ≤ ((rd x7_3 ((rd_T33 l1 x44_3).f1)) : Int) := of_decide_eq_true (by first | (with_reducible assumption) | assumption)
       have q41 : ((rd x7_3 ((rd_T33 l1 x44_3).f1)) : Int) < (((rd_L3 x10_3 ((rd_T33 l1 x44_3).f0)).length : Int) : Int) := of_decide_eq_true (by first | (with_reducible assumption) | assumption)
       obtain ⟨go41, co41, eo41, gb41, gl41, cl41, HG41⟩ := Kd.R_form HL295_0.out (by omega)
       (first | cases eo41 | (injection eo41 with ea_ en_ ec_; (first | subst ea_ | (injection ea_ with ea_; subst ea_)); subst ec_; clear en_))
       have GB41 := Aside0.mk gb41
       have GG41 := Aside0.mk HG41
       clear gb41 gl41 HG41
       obtain ⟨hx41_0, hf41_0⟩ := Kd.R_celln 0 HL295_0.out ((rd x7_3 ((rd_T33 l1 x44_3).f1)) : Int) p41 q41
       replace p41 := eq_true p41
       replace q41 := eq_true q41
       have hq49 : (((rd_T33 l1 x44_3).f0) : Int) < (x10_3.length : Int) := (by have h_ : (((rd_T33 l1 x44_3).f0) : Int) < ((x10_3.length : Int) : Int) := of_decide_eq_true (by first | (with_reducible assumption) | assumption); first | exact h_ | (have e_ := (Kd.S_reads' HO_10.out).1; omega) | simpa only [List.length_set, List.length_set] using h_)
       obtain ⟨oki49, ce49, hcl49, hM49, hcc49, hok49, hbk49⟩ := Kd.S_borrow HO_10.out [] (((rd_T33 l1 x44_3).f0) : Int) (of_decide_eq_true (by first | (with_reducible assumption) | assumption)) hq49
       obtain ⟨ve49_0, rfl, ge49_0⟩ := hM49
       have hv49 := hcc49 0 _ rfl
       rw [Nat.add_zero, show ((Kd.slice 3 (Kd.int .i64))).sz = 1 from rfl, Nat.mul_one] at hv49
       replace hv49 := Option.some.inj (hv49.symm.trans HX295_0.out)
       subst hv49
       clear hcc49 hcl49
       replace ge49_0 := (show Kd.R (Kd.int .i64) 3 _ _ _ _ (rd_L3 x10_3 ((rd_T33 l1 x44_3).f0)) from ge49_0)
       have HP49 := Kd.R_putg ge49_0 ((rd x7_3 ((rd_T33 l1 x44_3).f1)) : Int) 1
       rw [← Ny297.out] at HP49
       have HS49 := hbk49 HP49.2 (fun k_ e_ => by injection e_ with e_; subst e_; exact ge49_0.1 _ rfl) (x' := y297) (Kd.M_row HP49.1)
       rw [← Ny299.out] at HS49
       have HQ49 := Aside0.mk HS49
       clear HP49 HS49 hbk49 hok49
       refine start_ (n := 12) (S := fun w' => w'.cell? ⟨gb293, 0, none⟩ = some (.int .i64 ((rd_T33 l1 x44_3).f0)) ∧ w'.cell? ⟨gb293, 1, none⟩ = some (.int .i64 ((rd_T33 l1 x44_3).f1)) ∧ w'.cell? ⟨gb293, 2, none⟩ = some (.int .i64 ((rd_T33 l1 x44_3).f2)) ∧ w'.cell? (ad295.add (((rd_T33 l1 x44_3).f0)).toNat) = some (.slice (some ⟨go41, 0, none⟩) (rd_L3 x10_3 ((rd_T33 l1 x44_3).f0)).length c295_0) ∧ w'.cell? (ad294.add (((rd_T33 l1 x44_3).f1)).toNat) = some (.int .i64 (rd x7_3 ((rd_T33 l1 x44_3).f1)))) (ds := [11]) (msk 12 0) (by kernel_rfl) rfl rfl ⟨(blk_cell BK293.out 0).trans rfl, (blk_cell BK293.out 1).trans rfl, (blk_cell BK293.out 2).trans rfl, hx295_0, hx296_0⟩ (fun hHeld => ?_); refine with_tabW orreryref21_Reach.tab16 orreryref21_Reach.bits16 (fun HT_ HW_ => ?_)
       generalize w45.drew = w47 at HO_7 HO_10 BK293 HB GG41 HL295_0 HQ49 HR295_0 HX295_0 hf41_0 hx295_0 hx296_0 hx41_0 hHeld ⊢
       refine pu_ 0 56 (msk 12 1) HT_.out ?_ ?_ ?_ ?_ ?_
       rotate_left
       · intro w'; go_simp; with_reducible rfl
       rotate_left
       · simp only [Act.put, sq, i64_w, i32_w]; rfl
       refine pu_ 1 57 (msk 12 3) HT_.out ?_ ?_ ?_ ?_ ?_
       rotate_left
       · intro w'; go_simp; with_reducible rfl
       rotate_left
       · simp only [Act.put, sq, i64_w, i32_w]; rfl
       refine pu_ 5 61 (msk 12 35) HT_.out ?_ ?_ ?_ ?_ ?_
       rotate_left
       · intro w'; go_simp; with_reducible rfl
       rotate_left
       · simp only [Act.put, sq, i64_w, i32_w]; rfl
       refine pu_ 6 62 (msk 12 99) HT_.out ?_ ?_ ?_ ?_ ?_
       rotate_left
       · intro w'; go_simp; with_reducible rfl
       rotate_left
       · simp only [Act.put, sq, i64_w, i32_w]; rfl
       refine tk_ 2 58 (msk 12 103) HT_.out HW_.out hHeld ?_ ?_ ?_ ?_ ?_
       rotate_left
       · rintro w' ⟨s0, s1, s2, s3, s4⟩; go_simp; with_reducible rfl
       rotate_left
       · simp only [Act.put, sq, i64_w, i32_w]; rfl
       refine pu_ 3 59 (msk 12 111) HT_.out ?_ ?_ ?_ ?_ ?_
       rotate_left
       · intro w'; go_simp; with_reducible rfl
       rotate_left
       · simp only [Act.put, sq, i64_w, i32_w]; rfl
       refine tk_ 4 60 (msk 12 127) HT_.out HW_.out hHeld ?_ ?_ ?_ ?_ ?_
       rotate_left
       · rintro w' ⟨s0, s1, s2, s3, s4⟩; go_simp; with_reducible rfl
       rotate_left
       · simp only [Act.put, sq, i64_w, i32_w]; rfl
       refine tk_ 7 63 (msk 12 255) HT_.out HW_.out hHeld ?_ ?_ ?_ ?_ ?_
       rotate_left
       · rintro w' ⟨s0, s1, s2, s3, s4⟩; go_simp; with_reducible rfl
       rotate_left
       · simp only [Act.put, sq, i64_w, i32_w]; rfl
       refine pu_ 8 64 (msk 12 511) HT_.out ?_ ?_ ?_ ?_ ?_
       rotate_left
       · intro w'; go_simp; with_reducible rfl
       rotate_left
       · simp only [Act.put, sq, i64_w, i32_w]; rfl
       refine tk_ 9 65 (msk 12 1023) HT_.out HW_.out hHeld ?_ ?_ ?_ ?_ ?_
       rotate_left
       · rintro w' ⟨s0, s1, s2, s3, s4⟩; go_simp; with_reducible rfl
       rotate_left
       · simp only [Act.put, sq, i64_w, i32_w]; rfl
       refine pu_ 10 66 (msk 12 2047) HT_.out ?_ ?_ ?_ ?_ ?_
       rotate_left
       · intro w'; go_simp; with_reducible rfl
       rotate_left
       · simp only [Act.put, sq, i64_w, i32_w]; rfl
       refine last_ (i := 11) (N := none) (msk 12 4095) rfl rfl (one_of HT_.out (by kernel_rfl)) (by decide) (fun K hK => ?_)
       refine skip_ (w1 := ?_) (by rfl) rfl ?_ ?_
       rotate_left
       · go_simp
         rfl
       refine hK.out _ _ ?_
       clear hK K
       refine done_ (done_of HT_.out (by kernel_rfl)) ?_
       try go_wp2
       (first | go_roundg k3 | (refine Handed.intro k3 ?measure ?_; rotate_left; go_step; (repeat apply Exists.intro); (refine ⟨?rel, ?fr_⟩); (case fr_ => (simp only [add_plain]; rfl))))
       case measure => have := HK1.out; have := HK2.out; have := HK3.out; omega
       case rel => exact ⟨(x7_3), (y299), (wrap64 (x44_3 + 1)), (by first | rfl | (simp; done) | (simp [*]; done)), H', ⟨by have := HK1.out; have := HK2.out; have := HK3.out; omega⟩, ⟨by (with_reducible repeat (first | apply Kd.R_alloc | apply Kd.R_drewN | apply Kd.R_drew)); exact Kd.R_mono (Kd.R_far (p := ⟨go41, ((rd x7_3 ((rd_T33 l1 x44_3).f1)) : Int).toNat, none⟩) (Kd.R_far1 HO_7.out rfl ((HL295_0.out.1 _ rfl).1)) (fun _ hk => hk.2) (.int .i64 1)) (fun _ hk => trivial)⟩, ⟨by (with_reducible repeat (first | apply Kd.S_alloc | apply Kd.S_drewN | apply Kd.S_drew)); exact HQ49.out⟩, ⟨by repeat (first | (with_reducible first | exact HB.out | apply below_alloc | apply pw_below_drewN | apply below_drew1 | refine below_set ?_ GB41.out | refine below_set ?_ GE293.out) | exact HB.out)⟩⟩

end Go.Proofs.Ytlaneafplmbcnaa.PO
