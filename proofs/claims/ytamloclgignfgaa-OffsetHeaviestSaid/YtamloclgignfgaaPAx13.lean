/- What the Go functions of this part compute, as Lean functions, and that the machine's calls come to just that; written for this claim by a program of the session (gen.sh, after the kit's printer). -/
import Derived.Test.YtamloclgignfgaaPAx0
import Derived.Test.YtamloclgignfgaaSq
namespace Go.Proofs.Ytamloclgignfgaa.PA
open Go.RowKit Go.Proofs.YtamloclgignfgaaW.PrintWords Go.Proofs.YtamloclgignfgaaW.PrintLast Go.Proofs.YtamloclgignfgaaW.PrintMore
attribute [local go_sem] max2_int min2_int max_two min_two max_three min_three max_four min_four   -- for this text's walks alone
set_option linter.unusedVariables false
set_option linter.unusedSimpArgs false

/-! ### orreryref20_Least: function 20 -/
mutual
def orreryref20_Least.l0 : Nat → List (List Int) → List Int → Int → List Int → Option (List Int × List Int × Bool)
  | 0, _, _, _, _ => none
  | k + 1, x0, x1, x7, x8 => if 0 ≤ x7 then (if (x7 : Int).toNat ≤ 35184372088832 then ((some (List.replicate (x7 : Int).toNat 0 : List Int)).bind fun y194 => (orreryref20_Least.l1 k x0 x1 x7 x8 y194 (y194.length : Int) 0)) else (none)) else (none)
def orreryref20_Least.l1 : Nat → List (List Int) → List Int → Int → List Int → List Int → Int → Int → Option (List Int × List Int × Bool)
  | 0, _, _, _, _, _, _, _ => none
  | k + 1, x0, x1, x7, x8, x9, x22, x23 => if x23 < x22 then (orreryref20_Least.l2 k x0 x1 x7 x8 x9 x23 x22 x23 (x0.length : Int) 0) else (orreryref20_Least.l3 k x0 x1 x7 x8 x9 true (x0.length : Int) 0)
def orreryref20_Least.l2 : Nat → List (List Int) → List Int → Int → List Int → List Int → Int → Int → Int → Int → Int → Option (List Int × List Int × Bool)
  | 0, _, _, _, _, _, _, _, _, _, _ => none
  | k + 1, x0, x1, x7, x8, x9, x10, x22, x23, x27, x28 => if x28 < x27 then (if 0 ≤ x28 then (if x28 < (x0.length : Int) then (if 0 ≤ x10 then (if x10 < ((rd_L3 x0 x28).length : Int) then (if (rd (rd_L3 x0 x28) x10) ≥ 0 then (if x28 < (x8.length : Int) then (if x10 < (x9.length : Int) then (if (wrap64 ((rd (rd_L3 x0 x28) x10) + (rd x8 x28))) > (rd x9 x10) then (orreryref20_Least.l2 k x0 x1 x7 x8 (x9.set (x10 : Int).toNat (wrap64 ((rd (rd_L3 x0 x28) x10) + (rd x8 x28)))) x10 x22 x23 x27 (wrap64 (x28 + 1))) else (orreryref20_Least.l2 k x0 x1 x7 x8 x9 x10 x22 x23 x27 (wrap64 (x28 + 1)))) else (none)) else (none)) else (orreryref20_Least.l2 k x0 x1 x7 x8 x9 x10 x22 x23 x27 (wrap64 (x28 + 1)))) else (none)) else (none)) else (none)) else (none)) else (orreryref20_Least.l1 k x0 x1 x7 x8 x9 x22 (wrap64 (x23 + 1)))
def orreryref20_Least.l3 : Nat → List (List Int) → List Int → Int → List Int → List Int → Bool → Int → Int → Option (List Int × List Int × Bool)
  | 0, _, _, _, _, _, _, _, _ => none
  | k + 1, x0, x1, x7, x8, x9, x12, x76, x77 => if x77 < x76 then (if 0 ≤ x77 then (if x77 < (x1.length : Int) then (if 0 ≤ (rd x1 x77) then (if (rd x1 x77) < (x9.length : Int) then (if x77 < (x0.length : Int) then (if (rd x1 x77) < ((rd_L3 x0 x77).length : Int) then (if (wrap64 ((rd x9 (rd x1 x77)) - (rd (rd_L3 x0 x77) (rd x1 x77)))) > 6 then (some (([] : List Int), ([] : List Int), false)) else (if x12 = true then (if x77 < (x8.length : Int) then (orreryref20_Least.l3 k x0 x1 x7 (x8.set (x77 : Int).toNat (wrap64 ((rd x9 (rd x1 x77)) - (rd (rd_L3 x0 x77) (rd x1 x77))))) x9 ((wrap64 ((rd x9 (rd x1 x77)) - (rd (rd_L3 x0 x77) (rd x1 x77)))) == (rd x8 x77)) x76 (wrap64 (x77 + 1))) else (none)) else (if x77 < (x8.length : Int) then (orreryref20_Least.l3 k x0 x1 x7 (x8.set (x77 : Int).toNat (wrap64 ((rd x9 (rd x1 x77)) - (rd (rd_L3 x0 x77) (rd x1 x77))))) x9 false x76 (wrap64 (x77 + 1))) else (none)))) else (none)) else (none)) else (none)) else (none)) else (none)) else (none)) else (if x12 = true then (some (x8, x9, true)) else (orreryref20_Least.l0 k x0 x1 x7 x8))
end
def orreryref20_Least.f (k : Nat) (l0 : List (List Int)) (l1 : List Int) : Option (List Int × List Int × Bool) := if 0 ≤ (l0.length : Int) then (if ((l0.length : Int) : Int).toNat ≤ 35184372088832 then (orreryref20_Least.l0 k l0 l1 (l0.length : Int) (List.replicate ((l0.length : Int) : Int).toNat 0)) else (none)) else (none)
theorem orreryref20_Least.mono_l : ∀ k, (∀ y0 y1 y2 y3, LeO (orreryref20_Least.l0 k y0 y1 y2 y3) (orreryref20_Least.l0 (k + 1) y0 y1 y2 y3)) ∧ (∀ y0 y1 y2 y3 y4 y5 y6, LeO (orreryref20_Least.l1 k y0 y1 y2 y3 y4 y5 y6) (orreryref20_Least.l1 (k + 1) y0 y1 y2 y3 y4 y5 y6)) ∧ (∀ y0 y1 y2 y3 y4 y5 y6 y7 y8 y9, LeO (orreryref20_Least.l2 k y0 y1 y2 y3 y4 y5 y6 y7 y8 y9) (orreryref20_Least.l2 (k + 1) y0 y1 y2 y3 y4 y5 y6 y7 y8 y9)) ∧ (∀ y0 y1 y2 y3 y4 y5 y6 y7, LeO (orreryref20_Least.l3 k y0 y1 y2 y3 y4 y5 y6 y7) (orreryref20_Least.l3 (k + 1) y0 y1 y2 y3 y4 y5 y6 y7))
  | 0 => ⟨fun _ _ _ _ r h => by simp [orreryref20_Least.l0] at h, fun _ _ _ _ _ _ _ r h => by simp [orreryref20_Least.l1] at h, fun _ _ _ _ _ _ _ _ _ _ r h => by simp [orreryref20_Least.l2] at h, fun _ _ _ _ _ _ _ _ r h => by simp [orreryref20_Least.l3] at h⟩
  | k + 1 => by
    obtain ⟨ih0, ih1, ih2, ih3⟩ := orreryref20_Least.mono_l k
    refine ⟨?_, ?_, ?_, ?_⟩
    · intro y0 y1 y2 y3
      unfold orreryref20_Least.l0
      repeat' first
      | (with_reducible exact ih0 _ _ _ _)
      | (with_reducible exact ih1 _ _ _ _ _ _ _)
      | (with_reducible exact ih2 _ _ _ _ _ _ _ _ _ _)
      | (with_reducible exact ih3 _ _ _ _ _ _ _ _)
      | (with_reducible exact LeO.refl _)
      | (with_reducible exact LeO.none _)
      | (with_reducible refine LeO.ite ?_ ?_)
      | (with_reducible refine LeO.bind ?_ (fun _ => ?_))
      | exact ih0 _ _ _ _
      | exact ih1 _ _ _ _ _ _ _
      | exact ih2 _ _ _ _ _ _ _ _ _ _
      | exact ih3 _ _ _ _ _ _ _ _
      | exact LeO.none _
      | refine LeO.ite ?_ ?_
      | refine LeO.bind ?_ (fun _ => ?_)
    · intro y0 y1 y2 y3 y4 y5 y6
      unfold orreryref20_Least.l1
      repeat' first
      | (with_reducible exact ih0 _ _ _ _)
      | (with_reducible exact ih1 _ _ _ _ _ _ _)
      | (with_reducible exact ih2 _ _ _ _ _ _ _ _ _ _)
      | (with_reducible exact ih3 _ _ _ _ _ _ _ _)
      | (with_reducible exact LeO.refl _)
      | (with_reducible exact LeO.none _)
      | (with_reducible refine LeO.ite ?_ ?_)
      | (with_reducible refine LeO.bind ?_ (fun _ => ?_))
      | exact ih0 _ _ _ _
      | exact ih1 _ _ _ _ _ _ _
      | exact ih2 _ _ _ _ _ _ _ _ _ _
      | exact ih3 _ _ _ _ _ _ _ _
      | exact LeO.none _
      | refine LeO.ite ?_ ?_
      | refine LeO.bind ?_ (fun _ => ?_)
    · intro y0 y1 y2 y3 y4 y5 y6 y7 y8 y9
      unfold orreryref20_Least.l2
      repeat' first
      | (with_reducible exact ih0 _ _ _ _)
      | (with_reducible exact ih1 _ _ _ _ _ _ _)
      | (with_reducible exact ih2 _ _ _ _ _ _ _ _ _ _)
      | (with_reducible exact ih3 _ _ _ _ _ _ _ _)
      | (with_reducible exact LeO.refl _)
      | (with_reducible exact LeO.none _)
      | (with_reducible refine LeO.ite ?_ ?_)
      | (with_reducible refine LeO.bind ?_ (fun _ => ?_))
      | exact ih0 _ _ _ _
      | exact ih1 _ _ _ _ _ _ _
      | exact ih2 _ _ _ _ _ _ _ _ _ _
      | exact ih3 _ _ _ _ _ _ _ _
      | exact LeO.none _
      | refine LeO.ite ?_ ?_
      | refine LeO.bind ?_ (fun _ => ?_)
    · intro y0 y1 y2 y3 y4 y5 y6 y7
      unfold orreryref20_Least.l3
      repeat' first
      | (with_reducible exact ih0 _ _ _ _)
      | (with_reducible exact ih1 _ _ _ _ _ _ _)
      | (with_reducible exact ih2 _ _ _ _ _ _ _ _ _ _)
      | (with_reducible exact ih3 _ _ _ _ _ _ _ _)
      | (with_reducible exact LeO.refl _)
      | (with_reducible exact LeO.none _)
      | (with_reducible refine LeO.ite ?_ ?_)
      | (with_reducible refine LeO.bind ?_ (fun _ => ?_))
      | exact ih0 _ _ _ _
      | exact ih1 _ _ _ _ _ _ _
      | exact ih2 _ _ _ _ _ _ _ _ _ _
      | exact ih3 _ _ _ _ _ _ _ _
      | exact LeO.none _
      | refine LeO.ite ?_ ?_
      | refine LeO.bind ?_ (fun _ => ?_)
theorem orreryref20_Least.mono : ∀ a0 a1 k, LeO (orreryref20_Least.f k a0 a1) (orreryref20_Least.f (k + 1) a0 a1) := by
 intro a0 a1 k
 obtain ⟨ih0, ih1, ih2, ih3⟩ := orreryref20_Least.mono_l k
 unfold orreryref20_Least.f
 repeat' first
     | (with_reducible exact ih0 _ _ _ _)
     | (with_reducible exact ih1 _ _ _ _ _ _ _)
     | (with_reducible exact ih2 _ _ _ _ _ _ _ _ _ _)
     | (with_reducible exact ih3 _ _ _ _ _ _ _ _)
     | (with_reducible exact LeO.refl _)
     | (with_reducible exact LeO.none _)
     | (with_reducible refine LeO.ite ?_ ?_)
     | (with_reducible refine LeO.bind ?_ (fun _ => ?_))
     | exact ih0 _ _ _ _
     | exact ih1 _ _ _ _ _ _ _
     | exact ih2 _ _ _ _ _ _ _ _ _ _
     | exact ih3 _ _ _ _ _ _ _ _
     | exact LeO.none _
     | refine LeO.ite ?_ ?_
     | refine LeO.bind ?_ (fun _ => ?_)
def orreryref20_Least.T10 : Bool × List (List Nat × List Nat) := (true, [([], []), ([], []), ([0, 1], [0, 1]), ([2], [2]), ([], []), ([3, 4], [3, 4]), ([5], [5]), ([6], [6]), ([7], [7]), ([8], [8]), ([8], [8]), ([9, 10, 8], [8, 9, 10]), ([11, 8], [8, 11]), ([8], [8]), ([12, 13, 8], [8, 12, 13]), ([14, 8], [8, 14]), ([8], [8]), ([8], [8]), ([16, 17, 8], [8, 16, 17]), ([18, 8], [8, 18]), ([15, 19, 8], [8, 15, 19]), ([8], [8]), ([8], [8]), ([21, 22, 8], [8, 21, 22]), ([23, 8], [8, 23]), ([20, 24, 8], [8, 20, 24]), ([8, 25], [8, 25])])
def orreryref20_Least.B10 : List Nat := [0, 0, 3, 7, 0, 31, 63, 127, 255, 511, 511, 2047, 4095, 511, 16383, 32767, 511, 511, 197119, 459263, 1048575, 511, 511, 6291967, 14680575, 33554431, 67108863]
theorem orreryref20_Least.tab10 : rtab .any (opsOf Try.f20 10) = orreryref20_Least.T10 := by kernel_rfl
theorem orreryref20_Least.bits10 : waitsOk orreryref20_Least.T10.2 orreryref20_Least.B10 = true := by kernel_rfl
def orreryref20_Least.T11 : Bool × List (List Nat × List Nat) := (true, [([], []), ([], []), ([], []), ([], []), ([2, 3], [2, 3]), ([4], [4]), ([], []), ([5, 6], [5, 6]), ([7], [7]), ([], []), ([], []), ([9, 10], [9, 10]), ([11], [11]), ([8, 12], [8, 12]), ([0, 1, 0, 1, 2, 3, 4, 5, 6, 7, 8, 9, 10, 11, 12, 13], [0, 1]), ([14, 13, 0, 1, 2, 3, 4, 5, 6, 7, 8, 9, 10, 11, 12, 13], [13, 14])])
def orreryref20_Least.B11 : List Nat := [0, 0, 0, 0, 12, 28, 0, 124, 252, 0, 0, 1536, 3584, 8188, 16383, 32767]
theorem orreryref20_Least.tab11 : rtab .any (opsOf Try.f20 11) = orreryref20_Least.T11 := by kernel_rfl
theorem orreryref20_Least.bits11 : waitsOk orreryref20_Least.T11.2 orreryref20_Least.B11 = true := by kernel_rfl
def orreryref20_Least.T18 : Bool × List (List Nat × List Nat) := (true, [([], []), ([], []), ([], []), ([1, 2], [1, 2]), ([3], [3]), ([0, 4], [0, 4]), ([5], [5]), ([], []), ([], []), ([7, 8], [7, 8]), ([9], [9]), ([], []), ([], []), ([11, 12], [11, 12]), ([13], [13]), ([10, 14], [10, 14]), ([15], [15]), ([6, 16], [6, 16]), ([17, 0, 1, 2, 3, 4, 5, 6, 7, 8, 9, 10, 11, 12, 13, 14, 15, 16, 17], [17])])
def orreryref20_Least.B18 : List Nat := [0, 0, 0, 6, 14, 31, 63, 0, 0, 384, 896, 0, 0, 6144, 14336, 32640, 65408, 131071, 262143]
theorem orreryref20_Least.tab18 : rtab .any (opsOf Try.f20 18) = orreryref20_Least.T18 := by kernel_rfl
theorem orreryref20_Least.bits18 : waitsOk orreryref20_Least.T18.2 orreryref20_Least.B18 = true := by kernel_rfl
set_option maxHeartbeats 8000000 in
set_option maxRecDepth 100000 in
theorem orreryref20_Least.calls (k : Nat) (A0 : Option Addr) (c0 : Nat) (l0 : List (List Int)) (A1 : Option Addr) (c1 : Nat) (l1 : List Int) (r1 : List Int) (r2 : List Int) (r3 : Bool) (w : World) (hr0 : Kd.C (Kd.slice 3 (Kd.int .i64)) w A0 l0.length l0) (hc0 : l0.length ≤ c0) (hr1 : Kd.C (Kd.int .i64) w A1 l1.length l1) (hc1 : l1.length ≤ c1) (h : orreryref20_Least.f k l0 l1 = some (r1, r2, r3)) :
    Calls Try.prog 20 #[.slice A0 l0.length c0, .slice A1 l1.length c1] w fun e w' => ∃ v0_ v1_ : Value, e = .returned (.tuple #[v0_, v1_, .bool r3]) ∧ Kd.R (Kd.int .i64) 3 w' w.heap.size (fun k_ => some k_ ≠ (v1_ : Value).ownBlock) v0_ r1 ∧ Kd.R (Kd.int .i64) 3 w' w.heap.size (fun k_ => some k_ ≠ (v0_ : Value).ownBlock) v1_ r2 ∧ Below w.heap.size w w' := by
 have HR0 := Aside0.mk hr0
 have HC0 := Aside0.mk hc0
 clear hr0 hc0
 have HR1 := Aside0.mk hr1
 have HC1 := Aside0.mk hc1
 clear hr1 hc1
 have HB := Aside0.mk (Below.refl w.heap.size w)
 have H : (if 0 ≤ (l0.length : Int) then (if ((l0.length : Int) : Int).toNat ≤ 35184372088832 then (orreryref20_Least.l0 k l0 l1 (l0.length : Int) (List.replicate ((l0.length : Int) : Int).toNat 0)) else (none)) else (none)) = some (r1, r2, r3) := h
 clear h
 by_cases c3 : 0 ≤ (l0.length : Int)
 case neg => rw [if_neg c3] at H; exact absurd H (by simp)
 rw [if_pos c3] at H
 have c3b0 := eq_true c3
 have c3b1 : decide (0 ≤ (l0.length : Int)) = true := decide_eq_true c3
 clear c3
 by_cases c4 : ((l0.length : Int) : Int).toNat ≤ 35184372088832
 case neg => rw [if_neg c4] at H; exact absurd H (by simp)
 rw [if_pos c4] at H
 have c4b0 := eq_true c4
 have c4b1 : decide (((l0.length : Int) : Int).toNat ≤ 35184372088832) = true := decide_eq_true c4
 clear c4
 obtain ⟨y191, hy191⟩ : ∃ y_ : List Int, y_ = (List.replicate ((l0.length : Int) : Int).toNat 0) := ⟨_, rfl⟩
 replace H : (orreryref20_Least.l0 k l0 l1 (l0.length : Int) y191) = some (r1, r2, r3) := by first | (rw [hy191]; with_reducible exact H) | (have H2_ := (Option.bind_some _ _).symm.trans H; rw [hy191]; with_reducible exact H2_) | (have H2_ := (Option.bind_some _ _).symm.trans H; with_reducible exact H2_) | with_reducible exact H | (rw [hy191]; exact H) | exact H
 have Ny191 := Aside0.mk hy191
 clear hy191
 have H' := Aside0.mk H
 clear H
 go_enter Try.func20, Try.ntmps20
 go_wp2_with (first | ((with_reducible refine gate_dst (N := 18) rfl ?_); refine Kd.R_make (Kd.int .i64) _ 3 rfl (N := 18) rfl 23 _ _ rfl (l0.length : Int) rfl rfl Try.underlying23 (.int .i64 0) 8 info3 rfl (by decide) (by omega) 0 (ok := fun _ => True) (okp := fun _ => True) rfl (fun _ hk => hk) trivial (of_decide_eq_true (by first | (with_reducible assumption) | assumption)) (Nat.le_trans (Nat.mul_le_mul_right _ (of_decide_eq_true (by first | (with_reducible assumption) | assumption) : (l0.length : Int).toNat ≤ 35184372088832)) (by omega)) (Below.refl _ _) (Nat.le_refl _) ?_; intro v192 w5 ho6 hb hg_ hnew_; clear hg_ hnew_; (first | rw [← Ny191.out] at ho6 | (simp only [Int.reduceToNat] at ho6; rw [← Ny191.out] at ho6)); have n0_ := Aside0.mk (Kd.R_lower ho6 (below_size (by repeat (first | (with_reducible first | exact HB.out | apply below_alloc | apply pw_below_drewN | apply below_drew1) | exact HB.out)))); have n1_ := Aside0.mk (below_step (by repeat (first | (with_reducible first | exact HB.out | apply below_alloc | apply pw_below_drewN | apply below_drew1) | exact HB.out)) hb); clear HB; have HO193 := n0_; have HB := n1_; clear n0_ n1_; clear hb ho6))
 go_loopg [] k (fun kq w' => ∃ (x8_1 : List Int), Aside0 (orreryref20_Least.l0 kq l0 l1 (l0.length : Int) x8_1 = some (r1, r2, r3)) ∧ Aside0 (kq ≤ k) ∧ Aside0 (Kd.R (Kd.int .i64) 3 w' w.heap.size (fun _ => True) v192 x8_1) ∧ Aside0 (Below w.heap.size w w'))
 case atStart => exact ⟨(y191), H', ⟨Nat.le_refl _⟩, ⟨by (with_reducible repeat (first | apply Kd.R_alloc | apply Kd.R_drewN | apply Kd.R_drew)); exact HO193.out⟩, ⟨by repeat (first | (with_reducible first | exact HB.out | apply below_alloc | apply pw_below_drewN | apply below_drew1) | exact HB.out)⟩⟩
 case round =>
  clear H'
  try clear c1
  try clear c2
  try clear p2
  try clear c3
  try clear c3b0
  try clear c3b1
  try clear c4
  try clear c4b0
  try clear c4b1
  obtain ⟨x8_1, HA, HK1, HO_8, HB⟩ := hrel
  cases gk with
  | zero => exact absurd HA.out (by simp [orreryref20_Least.l0])
  | succ k1 =>
   have H := HA.out
   clear HA
   simp only [orreryref20_Least.l0] at H
   by_cases c7 : 0 ≤ (l0.length : Int)
   case neg => rw [if_neg c7] at H; exact absurd H (by simp)
   rw [if_pos c7] at H
   have c7b0 := eq_true c7
   have c7b1 : decide (0 ≤ (l0.length : Int)) = true := decide_eq_true c7
   clear c7
   by_cases c8 : ((l0.length : Int) : Int).toNat ≤ 35184372088832
   case neg => rw [if_neg c8] at H; exact absurd H (by simp)
   rw [if_pos c8] at H
   have c8b0 := eq_true c8
   have c8b1 : decide (((l0.length : Int) : Int).toNat ≤ 35184372088832) = true := decide_eq_true c8
   clear c8
   obtain ⟨y194, hy194⟩ : ∃ y_ : List Int, y_ = (List.replicate ((l0.length : Int) : Int).toNat 0) := ⟨_, rfl⟩
   replace H : (orreryref20_Least.l1 k1 l0 l1 (l0.length : Int) x8_1 y194 (y194.length : Int) 0) = some (r1, r2, r3) := by first | (rw [hy194]; with_reducible exact H) | (have H2_ := (Option.bind_some _ _).symm.trans H; rw [hy194]; with_reducible exact H2_) | (have H2_ := (Option.bind_some _ _).symm.trans H; with_reducible exact H2_) | with_reducible exact H | (rw [hy194]; exact H) | exact H
   have Ny194 := Aside0.mk hy194
   clear hy194
   have H' := Aside0.mk H
   clear H
   go_wp2_with (first | ((with_reducible refine gate_dst (N := 20) rfl ?_); refine Kd.R_make (Kd.int .i64) _ 3 rfl (N := 20) rfl 23 _ _ rfl (l0.length : Int) rfl rfl Try.underlying23 (.int .i64 0) 8 info3 rfl (by decide) (by omega) 0 (ok := fun _ => True) (okp := fun _ => True) rfl (fun _ hk => hk) trivial (of_decide_eq_true (by first | (with_reducible assumption) | assumption)) (Nat.le_trans (Nat.mul_le_mul_right _ (of_decide_eq_true (by first | (with_reducible assumption) | assumption) : (l0.length : Int).toNat ≤ 35184372088832)) (by omega)) (Below.refl _ _) (Nat.le_refl _) ?_; intro v195 w9 ho10 hb hg_ hnew_; clear hg_ hnew_; (first | rw [← Ny194.out] at ho10 | (simp only [Int.reduceToNat] at ho10; rw [← Ny194.out] at ho10)); have n0_ := Aside0.mk (Kd.R_elder' (by (with_reducible repeat (first | apply Kd.R_alloc | apply Kd.R_drewN | apply Kd.R_drew)); exact HO_8.out) (Kd.R_base ho10) hb); have n1_ := Aside0.mk (Kd.R_lower (Kd.R_new' ho10 (Kd.R_lt (by (with_reducible repeat (first | apply Kd.R_alloc | apply Kd.R_drewN | apply Kd.R_drew)); exact HO_8.out))) (below_size (by repeat (first | (with_reducible first | exact HB.out | apply below_alloc | apply pw_below_drewN | apply below_drew1) | exact HB.out)))); have n2_ := Aside0.mk (below_step (by repeat (first | (with_reducible first | exact HB.out | apply below_alloc | apply pw_below_drewN | apply below_drew1) | exact HB.out)) hb); clear HO_8; clear HB; have HO_8 := n0_; have HO196 := n1_; have HB := n2_; clear n0_ n1_ n2_; clear hb ho10; obtain ⟨Ao11, co11, eo11⟩ := Kd.R_slice HO196.out; subst eo11))
   go_loopg [23] k1 (fun kq v23 w' => ∃ (x9_2 : List Int) (x23_2 : Int), v23 = .int .i64 x23_2 ∧ Aside0 (orreryref20_Least.l1 kq l0 l1 (l0.length : Int) x8_1 x9_2 (y194.length : Int) x23_2 = some (r1, r2, r3)) ∧ Aside0 (kq ≤ k1) ∧ Aside0 (Kd.R (Kd.int .i64) 3 w' w.heap.size (fun k_ => some k_ ≠ ((.slice Ao11 y194.length co11) : Value).ownBlock) v192 x8_1) ∧ Aside0 (Kd.R (Kd.int .i64) 3 w' w.heap.size (fun k_ => some k_ ≠ (v192 : Value).ownBlock) (.slice Ao11 y194.length co11) x9_2) ∧ Aside0 (Below w.heap.size w w'))
   case atStart => exact ⟨(y194), (0), (by first | rfl | (simp; done) | (simp [*]; done)), H', ⟨Nat.le_refl _⟩, ⟨by (with_reducible repeat (first | apply Kd.R_alloc | apply Kd.R_drewN | apply Kd.R_drew)); exact Kd.R_mono HO_8.out (fun _ hk => hk.2)⟩, ⟨by (with_reducible repeat (first | apply Kd.R_alloc | apply Kd.R_drewN | apply Kd.R_drew)); exact Kd.R_mono HO196.out (fun _ hk => hk.2)⟩, ⟨by repeat (first | (with_reducible first | exact HB.out | apply below_alloc | apply pw_below_drewN | apply below_drew1) | exact HB.out)⟩⟩
   case round =>
    clear H'
    try clear c1
    try clear c2
    try clear p2
    try clear c3
    try clear c3b0
    try clear c3b1
    try clear c4
    try clear c4b0
    try clear c4b1
    try clear c7
    try clear c7b0
    try clear c7b1
    try clear c8
    try clear c8b0
    try clear c8b1
    try clear p2
    obtain ⟨x9_2, x23_2, rfl, HA, HK2, HO_8, HO_9, HB⟩ := hrel
    have hl9_2 := (Kd.R_reads' HO_9.out).1
    rw [hl9_2] at HO_9
    (try simp only [hl9_2])
    (try simp only [hl9_2] at HO_8)
    cases gk with
    | zero => exact absurd HA.out (by simp [orreryref20_Least.l1])
    | succ k2 =>
     have H := HA.out
     clear HA
     simp only [orreryref20_Least.l1] at H
     by_cases c12 : x23_2 < (y194.length : Int)
     case neg =>
      rw [if_neg c12] at H
      have c12b0 : decide (x23_2 < (y194.length : Int)) = false := decide_eq_false c12
      clear c12
      (try (have c12b0r := c12b0; simp only [hl9_2] at c12b0r))
      have H' := Aside0.mk H
      clear H
      go_wp2
      go_loopg [12, 77] k2 (fun kq v12 v77 w' => ∃ (x8_3 : List Int) (x12_3 : Bool) (x77_3 : Int), v12 = .bool x12_3 ∧ v77 = .int .i64 x77_3 ∧ Aside0 (orreryref20_Least.l3 kq l0 l1 (l0.length : Int) x8_3 x9_2 x12_3 (l0.length : Int) x77_3 = some (r1, r2, r3)) ∧ Aside0 (kq ≤ k2) ∧ Aside0 (Kd.R (Kd.int .i64) 3 w' w.heap.size (fun k_ => some k_ ≠ ((.slice Ao11 x9_2.length co11) : Value).ownBlock) v192 x8_3) ∧ Aside0 (Kd.R (Kd.int .i64) 3 w' w.heap.size (fun k_ => some k_ ≠ (v192 : Value).ownBlock) (.slice Ao11 x9_2.length co11) x9_2) ∧ Aside0 (Below w.heap.size w w'))
      case atStart => exact ⟨(x8_1), (true), (0), (by first | rfl | (simp; done) | (simp [*]; done)), (by first | rfl | (simp; done) | (simp [*]; done)), H', ⟨Nat.le_refl _⟩, ⟨by (try simp only [hl9_2]); (with_reducible repeat (first | apply Kd.R_alloc | apply Kd.R_drewN | apply Kd.R_drew)); exact HO_8.out⟩, ⟨by (try simp only [hl9_2]); (with_reducible repeat (first | apply Kd.R_alloc | apply Kd.R_drewN | apply Kd.R_drew)); exact HO_9.out⟩, ⟨by repeat (first | (with_reducible first | exact HB.out | apply below_alloc | apply pw_below_drewN | apply below_drew1) | exact HB.out)⟩⟩
      case round =>
       clear H'
       try clear c1
       try clear p1
       try clear q1
       try clear hx1
       try clear c2
       try clear p2
       try clear q2
       try clear hx2
       try clear p6
       try clear c12
       try clear c12b0
       try clear c13
       try clear c13b0
       try clear c14
       try clear c15
       try clear c16
       try clear c17
       try clear c18
       try clear c18b0
       try clear c19
       try clear p19
       try clear q19
       try clear hx19
       try clear c20
       try clear p20
       try clear q20
       try clear hx20
       try clear c21
       try clear c21b0
       try clear hx197_0
       try clear hx198_0
       try clear hx199_0
       try clear hx200_0
       try clear hx201_0
       try clear hx202_0
       try clear p197
       try clear p198
       try clear p199
       try clear p200
       try clear p201
       try clear p202
       try clear q197
       try clear q198
       try clear q199
       try clear q200
       try clear q201
       try clear q202
       obtain ⟨x8_3, x12_3, x77_3, rfl, rfl, HA, HK3, HO_8, HO_9, HB⟩ := hrel
       cases gk with
       | zero => exact absurd HA.out (by simp [orreryref20_Least.l3])
       | succ k3 =>
        have H := HA.out
        clear HA
        simp only [orreryref20_Least.l3] at H
        by_cases c30 : x77_3 < (l0.length : Int)
        case neg =>
         rw [if_neg c30] at H
         have c30b0 : decide (x77_3 < (l0.length : Int)) = false := decide_eq_false c30
         clear c30
         (try (have c30b0r := c30b0; simp only [hl9_2] at c30b0r))
         by_cases c51 : x12_3 = true
         case pos =>
          subst c51
          have H1 : (some (x8_3, x9_2, true)) = some (r1, r2, r3) := by rw [if_pos rfl] at H; exact H
          clear H
          have H := H1
          clear H1
          simp only [Option.some.injEq, Prod.mk.injEq] at H
          obtain ⟨rfl, rfl, rfl⟩ := H
          go_wp2
          go_ret3
          exact ⟨_, _, by first | rfl | (simp [errW_none, errW_some] <;> rfl) | (simp [*, errW_none, errW_some] <;> rfl), by (with_reducible repeat (first | apply Kd.R_alloc | apply Kd.R_drewN | apply Kd.R_drew)); exact HO_8.out, by (with_reducible repeat (first | apply Kd.R_alloc | apply Kd.R_drewN | apply Kd.R_drew)); exact HO_9.out, by repeat (first | (with_reducible first | exact HB.out | apply below_alloc | apply pw_below_drewN | apply below_drew1) | exact HB.out)⟩
         replace c51 := Bool.eq_false_iff.mpr c51
         subst c51
         have H1 : (orreryref20_Least.l0 k3 l0 l1 (l0.length : Int) x8_3) = some (r1, r2, r3) := by rw [if_neg (show ¬ (false = true) by decide)] at H; exact H
         clear H
         have H := H1
         clear H1
         have H' := Aside0.mk H
         clear H
         go_wp2
         (try simp only [← hl9_2])
         (first | go_roundg k3 | (refine Handed.intro k3 ?measure ?_; rotate_left; go_step; (repeat apply Exists.intro); (refine ⟨?rel, ?fr_⟩); (case fr_ => (simp only [add_plain]; rfl))))
         case measure => have := HK1.out; have := HK2.out; have := HK3.out; omega
         case rel => exact ⟨(x8_3), H', ⟨by have := HK1.out; have := HK2.out; have := HK3.out; omega⟩, ⟨by (try simp only [hl9_2]); (with_reducible repeat (first | apply Kd.R_alloc | apply Kd.R_drewN | apply Kd.R_drew)); exact Kd.R_mono HO_8.out (fun _ hk => trivial)⟩, ⟨by repeat (first | (with_reducible first | exact HB.out | apply below_alloc | apply pw_below_drewN | apply below_drew1) | exact HB.out)⟩⟩
        rw [if_pos c30] at H
        have c30b0 : decide (x77_3 < (l0.length : Int)) = true := decide_eq_true c30
        clear c30
        (try (have c30b0r := c30b0; simp only [hl9_2] at c30b0r))
        by_cases c31 : 0 ≤ x77_3
        case neg => rw [if_neg c31] at H; exact absurd H (by simp)
        rw [if_pos c31] at H
        have c31b0 : decide (0 ≤ x77_3) = true := decide_eq_true c31
        clear c31
        (try (have c31b0r := c31b0; simp only [hl9_2] at c31b0r))
        by_cases c32 : x77_3 < (l1.length : Int)
        case neg => rw [if_neg c32] at H; exact absurd H (by simp)
        rw [if_pos c32] at H
        have c32b0 : decide (x77_3 < (l1.length : Int)) = true := decide_eq_true c32
        clear c32
        (try (have c32b0r := c32b0; simp only [hl9_2] at c32b0r))
        by_cases c33 : 0 ≤ (rd l1 x77_3)
        case neg => rw [if_neg c33] at H; exact absurd H (by simp)
        rw [if_pos c33] at H
        have c33b0 : decide (0 ≤ (rd l1 x77_3)) = true := decide_eq_true c33
        clear c33
        (try (have c33b0r := c33b0; simp only [hl9_2] at c33b0r))
        by_cases c34 : (rd l1 x77_3) < (x9_2.length : Int)
        case neg => rw [if_neg c34] at H; exact absurd H (by simp)
        rw [if_pos c34] at H
        have c34b0 : decide ((rd l1 x77_3) < (x9_2.length : Int)) = true := decide_eq_true c34
        clear c34
        (try (have c34b0r := c34b0; simp only [hl9_2] at c34b0r))
        by_cases c35 : x77_3 < (l0.length : Int)
        case neg => rw [if_neg c35] at H; exact absurd H (by simp)
        rw [if_pos c35] at H
        have c35b0 : decide (x77_3 < (l0.length : Int)) = true := decide_eq_true c35
        clear c35
        (try (have c35b0r := c35b0; simp only [hl9_2] at c35b0r))
        by_cases c36 : (rd l1 x77_3) < ((rd_L3 l0 x77_3).length : Int)
        case neg => rw [if_neg c36] at H; exact absurd H (by simp)
        rw [if_pos c36] at H
        have c36b0 : decide ((rd l1 x77_3) < ((rd_L3 l0 x77_3).length : Int)) = true := decide_eq_true c36
        clear c36
        (try (have c36b0r := c36b0; simp only [hl9_2] at c36b0r))
        by_cases c37 : (wrap64 ((rd x9_2 (rd l1 x77_3)) - (rd (rd_L3 l0 x77_3) (rd l1 x77_3)))) > 6
        case pos =>
         rw [if_pos c37] at H
         have c37b0 : decide (6 < (wrap64 ((rd x9_2 (rd l1 x77_3)) - (rd (rd_L3 l0 x77_3) (rd l1 x77_3))))) = true := decide_eq_true c37
         clear c37
         (try (have c37b0r := c37b0; simp only [hl9_2] at c37b0r))
         simp only [Option.some.injEq, Prod.mk.injEq] at H
         obtain ⟨rfl, rfl, rfl⟩ := H
         try go_wp2
         have n0_ := Aside0.mk (Kd.R_drew HO_8.out)
         have n1_ := Aside0.mk (Kd.R_drew HO_9.out)
         have n2_ := Aside0.mk (below_drew1 HB.out)
         clear HO_8
         clear HO_9
         clear HB
         have HO_8 := n0_
         have HO_9 := n1_
         have HB := n2_
         clear n0_ n1_ n2_
         have p207 : 0 ≤ (x77_3 : Int) := of_decide_eq_true (by first | (with_reducible assumption) | assumption)
         have q207 : x77_3 < (l1.length : Int) := of_decide_eq_true (by first | (with_reducible assumption) | assumption)
         obtain ⟨ad207, e207, hx207_0⟩ := Kd.at_int HR1.out x77_3 p207 q207
         have hw207_0 := hx207_0
         cases e207
         replace hx207_0 := (HB.out.cell (World.block_lt_of_cell? w _ hx207_0)).trans hx207_0
         replace p207 := eq_true p207
         replace q207 := eq_true q207
         have p208 : 0 ≤ ((rd l1 x77_3) : Int) := of_decide_eq_true (by first | (with_reducible assumption) | assumption)
         have q208 : (rd l1 x77_3) < (x9_2.length : Int) := of_decide_eq_true (by first | (with_reducible assumption) | assumption)
         obtain ⟨ad208, e208, hx208_0⟩ := Kd.at_int (Kd.R_reads' HO_9.out).2.2 (rd l1 x77_3) p208 q208
         cases e208
         replace p208 := eq_true p208
         replace q208 := eq_true q208
         have p209 : 0 ≤ (x77_3 : Int) := of_decide_eq_true (by first | (with_reducible assumption) | assumption)
         have q209 : x77_3 < (l0.length : Int) := of_decide_eq_true (by first | (with_reducible assumption) | assumption)
         obtain ⟨ad209, A209_0, c209_0, e209, hx209_0, hl209_0, hi209_0⟩ := at_L3 HR0.out x77_3 p209 q209
         have hw209_0 := hx209_0
         cases e209
         replace hx209_0 := (HB.out.cell (World.block_lt_of_cell? w _ hx209_0)).trans hx209_0
         have HR209_0 := Aside0.mk hi209_0
         have HC209_0 := Aside0.mk hl209_0
         clear hi209_0 hl209_0
         replace p209 := eq_true p209
         replace q209 := eq_true q209
         have p210 : 0 ≤ (x77_3 : Int) := of_decide_eq_true (by first | (with_reducible assumption) | assumption)
         have q210 : x77_3 < (l1.length : Int) := of_decide_eq_true (by first | (with_reducible assumption) | assumption)
         obtain ⟨ad210, e210, hx210_0⟩ := Kd.at_int HR1.out x77_3 p210 q210
         have hw210_0 := hx210_0
         obtain rfl : ad207 = ad210 := (by injection e210)
         replace hx210_0 := (HB.out.cell (World.block_lt_of_cell? w _ hx210_0)).trans hx210_0
         replace p210 := eq_true p210
         replace q210 := eq_true q210
         have p211 : 0 ≤ ((rd l1 x77_3) : Int) := of_decide_eq_true (by first | (with_reducible assumption) | assumption)
         have q211 : (rd l1 x77_3) < ((rd_L3 l0 x77_3).length : Int) := of_decide_eq_true (by first | (with_reducible assumption) | assumption)
         obtain ⟨ad211, e211, hx211_0⟩ := Kd.at_int HR209_0.out (rd l1 x77_3) p211 q211
         have hw211_0 := hx211_0
         cases e211
         replace hx211_0 := (HB.out.cell (World.block_lt_of_cell? w _ hx211_0)).trans hx211_0
         replace p211 := eq_true p211
         replace q211 := eq_true q211
         refine start_ (n := 19) (S := fun w' => w'.cell? (ad207.add (x77_3).toNat) = some (.int .i64 (rd l1 x77_3)) ∧ w'.cell? (ad208.add ((rd l1 x77_3)).toNat) = some (.int .i64 (rd x9_2 (rd l1 x77_3))) ∧ w'.cell? (ad209.add (x77_3).toNat) = some (.slice (some ad211) (rd_L3 l0 x77_3).length c209_0) ∧ w'.cell? (ad207.add (x77_3).toNat) = some (.int .i64 (rd l1 x77_3)) ∧ w'.cell? (ad211.add ((rd l1 x77_3)).toNat) = some (.int .i64 (rd (rd_L3 l0 x77_3) (rd l1 x77_3)))) (ds := []) (msk 19 0) (by kernel_rfl) rfl rfl ⟨((HB.out.cell (World.block_lt_of_cell? w _ hw207_0)).trans hw207_0), hx208_0, ((HB.out.cell (World.block_lt_of_cell? w _ hw209_0)).trans hw209_0), ((HB.out.cell (World.block_lt_of_cell? w _ hw210_0)).trans hw210_0), ((HB.out.cell (World.block_lt_of_cell? w _ hw211_0)).trans hw211_0)⟩ (fun hHeld => ?_); refine with_tabW orreryref20_Least.tab18 orreryref20_Least.bits18 (fun HT_ HW_ => ?_)
         generalize wr.drew = w38 at HO_8 HO_9 HB HR209_0 hx207_0 hx208_0 hx209_0 hx210_0 hx211_0 hHeld ⊢
         refine pu_ 0 80 (msk 19 1) HT_.out ?_ ?_ ?_ ?_ ?_
         rotate_left
         · intro w'; go_simp; with_reducible rfl
         rotate_left
         · simp only [Act.put, sq, i64_w, i32_w]; rfl
         refine pu_ 1 81 (msk 19 3) HT_.out ?_ ?_ ?_ ?_ ?_
         rotate_left
         · intro w'; go_simp; with_reducible rfl
         rotate_left
         · simp only [Act.put, sq, i64_w, i32_w]; rfl
         refine pu_ 2 82 (msk 19 7) HT_.out ?_ ?_ ?_ ?_ ?_
         rotate_left
         · intro w'; go_simp; with_reducible rfl
         rotate_left
         · simp only [Act.put, sq, i64_w, i32_w]; rfl
         refine pu_ 3 83 (msk 19 15) HT_.out ?_ ?_ ?_ ?_ ?_
         rotate_left
         · intro w'; go_simp; with_reducible rfl
         rotate_left
         · simp only [Act.put, sq, i64_w, i32_w]; rfl
         refine pu_ 7 87 (msk 19 143) HT_.out ?_ ?_ ?_ ?_ ?_
         rotate_left
         · intro w'; go_simp; with_reducible rfl
         rotate_left
         · simp only [Act.put, sq, i64_w, i32_w]; rfl
         refine pu_ 8 88 (msk 19 399) HT_.out ?_ ?_ ?_ ?_ ?_
         rotate_left
         · intro w'; go_simp; with_reducible rfl
         rotate_left
         · simp only [Act.put, sq, i64_w, i32_w]; rfl
         refine pu_ 9 89 (msk 19 911) HT_.out ?_ ?_ ?_ ?_ ?_
         rotate_left
         · intro w'; go_simp; with_reducible rfl
         rotate_left
         · simp only [Act.put, sq, i64_w, i32_w]; rfl
         refine pu_ 11 91 (msk 19 2959) HT_.out ?_ ?_ ?_ ?_ ?_
         rotate_left
         · intro w'; go_simp; with_reducible rfl
         rotate_left
         · simp only [Act.put, sq, i64_w, i32_w]; rfl
         refine pu_ 12 92 (msk 19 7055) HT_.out ?_ ?_ ?_ ?_ ?_
         rotate_left
         · intro w'; go_simp; with_reducible rfl
         rotate_left
         · simp only [Act.put, sq, i64_w, i32_w]; rfl
         refine pu_ 13 93 (msk 19 15247) HT_.out ?_ ?_ ?_ ?_ ?_
         rotate_left
         · intro w'; go_simp; with_reducible rfl
         rotate_left
         · simp only [Act.put, sq, i64_w, i32_w]; rfl
         refine tk_ 4 84 (msk 19 15263) HT_.out HW_.out hHeld ?_ ?_ ?_ ?_ ?_
         rotate_left
         · rintro w' ⟨s0, s1, s2, s3, s4⟩; go_simp; with_reducible rfl
         rotate_left
         · simp only [Act.put, sq, i64_w, i32_w]; rfl
         refine pu_ 5 85 (msk 19 15295) HT_.out ?_ ?_ ?_ ?_ ?_
         rotate_left
         · intro w'; go_simp; with_reducible rfl
         rotate_left
         · simp only [Act.put, sq, i64_w, i32_w]; rfl
         refine tk_ 6 86 (msk 19 15359) HT_.out HW_.out hHeld ?_ ?_ ?_ ?_ ?_
         rotate_left
         · rintro w' ⟨s0, s1, s2, s3, s4⟩; go_simp; with_reducible rfl
         rotate_left
         · simp only [Act.put, sq, i64_w, i32_w]; rfl
         refine tk_ 10 90 (msk 19 16383) HT_.out HW_.out hHeld ?_ ?_ ?_ ?_ ?_
         rotate_left
         · rintro w' ⟨s0, s1, s2, s3, s4⟩; go_simp; with_reducible rfl
         rotate_left
         · simp only [Act.put, sq, i64_w, i32_w]; rfl
         refine tk_ 14 94 (msk 19 32767) HT_.out HW_.out hHeld ?_ ?_ ?_ ?_ ?_
         rotate_left
         · rintro w' ⟨s0, s1, s2, s3, s4⟩; go_simp; with_reducible rfl
         rotate_left
         · simp only [Act.put, sq, i64_w, i32_w]; rfl
         refine pu_ 15 95 (msk 19 65535) HT_.out ?_ ?_ ?_ ?_ ?_
         rotate_left
         · intro w'; go_simp; with_reducible rfl
         rotate_left
         · simp only [Act.put, sq, i64_w, i32_w]; rfl
         refine tk_ 16 96 (msk 19 131071) HT_.out HW_.out hHeld ?_ ?_ ?_ ?_ ?_
         rotate_left
         · rintro w' ⟨s0, s1, s2, s3, s4⟩; go_simp; with_reducible rfl
         rotate_left
         · simp only [Act.put, sq, i64_w, i32_w]; rfl
         refine pu_ 17 97 (msk 19 262143) HT_.out ?_ ?_ ?_ ?_ ?_
         rotate_left
         · intro w'; go_simp; with_reducible rfl
         rotate_left
         · simp only [Act.put, sq, i64_w, i32_w]; rfl
         refine pu_ 18 14 (msk 19 524287) HT_.out ?_ ?_ ?_ ?_ ?_
         rotate_left
         · intro w'; go_simp; with_reducible rfl
         rotate_left
         · simp only [Act.put, sq, i64_w, i32_w]; rfl
         refine done_ (done_of HT_.out (by kernel_rfl)) ?_
         try go_wp2
         go_ret3
         exact ⟨_, _, by first | rfl | (simp [errW_none, errW_some] <;> rfl) | (simp [*, errW_none, errW_some] <;> rfl), by first | exact Kd.R_nil _ _ _ _ _ | exact Kd.N_nil _ _ _ _ _ | exact Kd.V_nil _ _ _ _ _ | exact Kd.Q_nil _ _ _ _ _ | exact Kd.S_nil _ _ _ _ _, by first | exact Kd.R_nil _ _ _ _ _ | exact Kd.N_nil _ _ _ _ _ | exact Kd.V_nil _ _ _ _ _ | exact Kd.Q_nil _ _ _ _ _ | exact Kd.S_nil _ _ _ _ _, by repeat (first | (with_reducible first | exact HB.out | apply below_alloc | apply pw_below_drewN | apply below_drew1) | exact HB.out)⟩
        rw [if_neg c37] at H
        have c37b0 : decide (6 < (wrap64 ((rd x9_2 (rd l1 x77_3)) - (rd (rd_L3 l0 x77_3) (rd l1 x77_3))))) = false := decide_eq_false c37
        clear c37
        (try (have c37b0r := c37b0; simp only [hl9_2] at c37b0r))
        by_cases c39 : x12_3 = true
        case neg =>
         replace c39 := Bool.eq_false_iff.mpr c39
         subst c39
         have H1 : (if x77_3 < (x8_3.length : Int) then (orreryref20_Least.l3 k3 l0 l1 (l0.length : Int) (x8_3.set (x77_3 : Int).toNat (wrap64 ((rd x9_2 (rd l1 x77_3)) - (rd (rd_L3 l0 x77_3) (rd l1 x77_3))))) x9_2 false (l0.length : Int) (wrap64 (x77_3 + 1))) else (none)) = some (r1, r2, r3) := by rw [if_neg (show ¬ (false = true) by decide)] at H; exact H
         clear H
         have H := H1
         clear H1
         by_cases c46 : x77_3 < (x8_3.length : Int)
         case neg => rw [if_neg c46] at H; exact absurd H (by simp)
         rw [if_pos c46] at H
         have c46b0 : decide (x77_3 < (x8_3.length : Int)) = true := decide_eq_true c46
         clear c46
         (try (have c46b0r := c46b0; simp only [hl9_2] at c46b0r))
         obtain ⟨y214, hy214⟩ : ∃ y_ : List Int, y_ = (x8_3.set (x77_3 : Int).toNat (wrap64 ((rd x9_2 (rd l1 x77_3)) - (rd (rd_L3 l0 x77_3) (rd l1 x77_3))))) := ⟨_, rfl⟩
         replace H : (orreryref20_Least.l3 k3 l0 l1 (l0.length : Int) y214 x9_2 false (l0.length : Int) (wrap64 (x77_3 + 1))) = some (r1, r2, r3) := by first | (rw [hy214]; with_reducible exact H) | (have H2_ := (Option.bind_some _ _).symm.trans H; rw [hy214]; with_reducible exact H2_) | (have H2_ := (Option.bind_some _ _).symm.trans H; with_reducible exact H2_) | with_reducible exact H | (rw [hy214]; exact H) | exact H
         have Ny214 := Aside0.mk hy214
         clear hy214
         have H' := Aside0.mk H
         clear H
         try go_wp2
         have n0_ := Aside0.mk (Kd.R_drew HO_8.out)
         have n1_ := Aside0.mk (Kd.R_drew HO_9.out)
         have n2_ := Aside0.mk (below_drew1 HB.out)
         clear HO_8
         clear HO_9
         clear HB
         have HO_8 := n0_
         have HO_9 := n1_
         have HB := n2_
         clear n0_ n1_ n2_
         have p207 : 0 ≤ (x77_3 : Int) := of_decide_eq_true (by first | (with_reducible assumption) | assumption)
         have q207 : x77_3 < (l1.length : Int) := of_decide_eq_true (by first | (with_reducible assumption) | assumption)
         obtain ⟨ad207, e207, hx207_0⟩ := Kd.at_int HR1.out x77_3 p207 q207
         have hw207_0 := hx207_0
         cases e207
         replace hx207_0 := (HB.out.cell (World.block_lt_of_cell? w _ hx207_0)).trans hx207_0
         replace p207 := eq_true p207
         replace q207 := eq_true q207
         have p208 : 0 ≤ ((rd l1 x77_3) : Int) := of_decide_eq_true (by first | (with_reducible assumption) | assumption)
         have q208 : (rd l1 x77_3) < (x9_2.length : Int) := of_decide_eq_true (by first | (with_reducible assumption) | assumption)
         obtain ⟨ad208, e208, hx208_0⟩ := Kd.at_int (Kd.R_reads' HO_9.out).2.2 (rd l1 x77_3) p208 q208
         cases e208
         replace p208 := eq_true p208
         replace q208 := eq_true q208
         have p209 : 0 ≤ (x77_3 : Int) := of_decide_eq_true (by first | (with_reducible assumption) | assumption)
         have q209 : x77_3 < (l0.length : Int) := of_decide_eq_true (by first | (with_reducible assumption) | assumption)
         obtain ⟨ad209, A209_0, c209_0, e209, hx209_0, hl209_0, hi209_0⟩ := at_L3 HR0.out x77_3 p209 q209
         have hw209_0 := hx209_0
         cases e209
         replace hx209_0 := (HB.out.cell (World.block_lt_of_cell? w _ hx209_0)).trans hx209_0
         have HR209_0 := Aside0.mk hi209_0
         have HC209_0 := Aside0.mk hl209_0
         clear hi209_0 hl209_0
         replace p209 := eq_true p209
         replace q209 := eq_true q209
         have p210 : 0 ≤ (x77_3 : Int) := of_decide_eq_true (by first | (with_reducible assumption) | assumption)
         have q210 : x77_3 < (l1.length : Int) := of_decide_eq_true (by first | (with_reducible assumption) | assumption)
         obtain ⟨ad210, e210, hx210_0⟩ := Kd.at_int HR1.out x77_3 p210 q210
         have hw210_0 := hx210_0
         obtain rfl : ad207 = ad210 := (by injection e210)
         replace hx210_0 := (HB.out.cell (World.block_lt_of_cell? w _ hx210_0)).trans hx210_0
         replace p210 := eq_true p210
         replace q210 := eq_true q210
         have p211 : 0 ≤ ((rd l1 x77_3) : Int) := of_decide_eq_true (by first | (with_reducible assumption) | assumption)
         have q211 : (rd l1 x77_3) < ((rd_L3 l0 x77_3).length : Int) := of_decide_eq_true (by first | (with_reducible assumption) | assumption)
         obtain ⟨ad211, e211, hx211_0⟩ := Kd.at_int HR209_0.out (rd l1 x77_3) p211 q211
         have hw211_0 := hx211_0
         cases e211
         replace hx211_0 := (HB.out.cell (World.block_lt_of_cell? w _ hx211_0)).trans hx211_0
         replace p211 := eq_true p211
         replace q211 := eq_true q211
         refine start_ (n := 19) (S := fun w' => w'.cell? (ad207.add (x77_3).toNat) = some (.int .i64 (rd l1 x77_3)) ∧ w'.cell? (ad208.add ((rd l1 x77_3)).toNat) = some (.int .i64 (rd x9_2 (rd l1 x77_3))) ∧ w'.cell? (ad209.add (x77_3).toNat) = some (.slice (some ad211) (rd_L3 l0 x77_3).length c209_0) ∧ w'.cell? (ad207.add (x77_3).toNat) = some (.int .i64 (rd l1 x77_3)) ∧ w'.cell? (ad211.add ((rd l1 x77_3)).toNat) = some (.int .i64 (rd (rd_L3 l0 x77_3) (rd l1 x77_3)))) (ds := []) (msk 19 0) (by kernel_rfl) rfl rfl ⟨((HB.out.cell (World.block_lt_of_cell? w _ hw207_0)).trans hw207_0), hx208_0, ((HB.out.cell (World.block_lt_of_cell? w _ hw209_0)).trans hw209_0), ((HB.out.cell (World.block_lt_of_cell? w _ hw210_0)).trans hw210_0), ((HB.out.cell (World.block_lt_of_cell? w _ hw211_0)).trans hw211_0)⟩ (fun hHeld => ?_); refine with_tabW orreryref20_Least.tab18 orreryref20_Least.bits18 (fun HT_ HW_ => ?_)
         generalize wr.drew = w48 at HO_8 HO_9 HB HR209_0 hx207_0 hx208_0 hx209_0 hx210_0 hx211_0 hHeld ⊢
         refine pu_ 0 80 (msk 19 1) HT_.out ?_ ?_ ?_ ?_ ?_
         rotate_left
         · intro w'; go_simp; with_reducible rfl
         rotate_left
         · simp only [Act.put, sq, i64_w, i32_w]; rfl
         refine pu_ 1 81 (msk 19 3) HT_.out ?_ ?_ ?_ ?_ ?_
         rotate_left
         · intro w'; go_simp; with_reducible rfl
         rotate_left
         · simp only [Act.put, sq, i64_w, i32_w]; rfl
         refine pu_ 2 82 (msk 19 7) HT_.out ?_ ?_ ?_ ?_ ?_
         rotate_left
         · intro w'; go_simp; with_reducible rfl
         rotate_left
         · simp only [Act.put, sq, i64_w, i32_w]; rfl
         refine pu_ 3 83 (msk 19 15) HT_.out ?_ ?_ ?_ ?_ ?_
         rotate_left
         · intro w'; go_simp; with_reducible rfl
         rotate_left
         · simp only [Act.put, sq, i64_w, i32_w]; rfl
         refine pu_ 7 87 (msk 19 143) HT_.out ?_ ?_ ?_ ?_ ?_
         rotate_left
         · intro w'; go_simp; with_reducible rfl
         rotate_left
         · simp only [Act.put, sq, i64_w, i32_w]; rfl
         refine pu_ 8 88 (msk 19 399) HT_.out ?_ ?_ ?_ ?_ ?_
         rotate_left
         · intro w'; go_simp; with_reducible rfl
         rotate_left
         · simp only [Act.put, sq, i64_w, i32_w]; rfl
         refine pu_ 9 89 (msk 19 911) HT_.out ?_ ?_ ?_ ?_ ?_
         rotate_left
         · intro w'; go_simp; with_reducible rfl
         rotate_left
         · simp only [Act.put, sq, i64_w, i32_w]; rfl
         refine pu_ 11 91 (msk 19 2959) HT_.out ?_ ?_ ?_ ?_ ?_
         rotate_left
         · intro w'; go_simp; with_reducible rfl
         rotate_left
         · simp only [Act.put, sq, i64_w, i32_w]; rfl
         refine pu_ 12 92 (msk 19 7055) HT_.out ?_ ?_ ?_ ?_ ?_
         rotate_left
         · intro w'; go_simp; with_reducible rfl
         rotate_left
         · simp only [Act.put, sq, i64_w, i32_w]; rfl
         refine pu_ 13 93 (msk 19 15247) HT_.out ?_ ?_ ?_ ?_ ?_
         rotate_left
         · intro w'; go_simp; with_reducible rfl
         rotate_left
         · simp only [Act.put, sq, i64_w, i32_w]; rfl
         refine tk_ 4 84 (msk 19 15263) HT_.out HW_.out hHeld ?_ ?_ ?_ ?_ ?_
         rotate_left
         · rintro w' ⟨s0, s1, s2, s3, s4⟩; go_simp; with_reducible rfl
         rotate_left
         · simp only [Act.put, sq, i64_w, i32_w]; rfl
         refine pu_ 5 85 (msk 19 15295) HT_.out ?_ ?_ ?_ ?_ ?_
         rotate_left
         · intro w'; go_simp; with_reducible rfl
         rotate_left
         · simp only [Act.put, sq, i64_w, i32_w]; rfl
         refine tk_ 6 86 (msk 19 15359) HT_.out HW_.out hHeld ?_ ?_ ?_ ?_ ?_
         rotate_left
         · rintro w' ⟨s0, s1, s2, s3, s4⟩; go_simp; with_reducible rfl
         rotate_left
         · simp only [Act.put, sq, i64_w, i32_w]; rfl
         refine tk_ 10 90 (msk 19 16383) HT_.out HW_.out hHeld ?_ ?_ ?_ ?_ ?_
         rotate_left
         · rintro w' ⟨s0, s1, s2, s3, s4⟩; go_simp; with_reducible rfl
         rotate_left
         · simp only [Act.put, sq, i64_w, i32_w]; rfl
         refine tk_ 14 94 (msk 19 32767) HT_.out HW_.out hHeld ?_ ?_ ?_ ?_ ?_
         rotate_left
         · rintro w' ⟨s0, s1, s2, s3, s4⟩; go_simp; with_reducible rfl
         rotate_left
         · simp only [Act.put, sq, i64_w, i32_w]; rfl
         refine pu_ 15 95 (msk 19 65535) HT_.out ?_ ?_ ?_ ?_ ?_
         rotate_left
         · intro w'; go_simp; with_reducible rfl
         rotate_left
         · simp only [Act.put, sq, i64_w, i32_w]; rfl
         refine tk_ 16 96 (msk 19 131071) HT_.out HW_.out hHeld ?_ ?_ ?_ ?_ ?_
         rotate_left
         · rintro w' ⟨s0, s1, s2, s3, s4⟩; go_simp; with_reducible rfl
         rotate_left
         · simp only [Act.put, sq, i64_w, i32_w]; rfl
         refine pu_ 17 97 (msk 19 262143) HT_.out ?_ ?_ ?_ ?_ ?_
         rotate_left
         · intro w'; go_simp; with_reducible rfl
         rotate_left
         · simp only [Act.put, sq, i64_w, i32_w]; rfl
         refine pu_ 18 14 (msk 19 524287) HT_.out ?_ ?_ ?_ ?_ ?_
         rotate_left
         · intro w'; go_simp; with_reducible rfl
         rotate_left
         · simp only [Act.put, sq, i64_w, i32_w]; rfl
         refine done_ (done_of HT_.out (by kernel_rfl)) ?_
         have p47 : 0 ≤ (x77_3 : Int) := of_decide_eq_true (by first | (with_reducible assumption) | assumption)
         have q47 : (x77_3 : Int) < ((x8_3.length : Int) : Int) := of_decide_eq_true (by first | (with_reducible assumption) | assumption)
         obtain ⟨go47, co47, eo47, gb47, gl47, cl47, HG47⟩ := Kd.R_form HO_8.out (by omega)
         (first | cases eo47 | (injection eo47 with ea_ en_ ec_; (first | subst ea_ | (injection ea_ with ea_; subst ea_)); subst ec_; clear en_))
         have GB47 := Aside0.mk gb47
         have GG47 := Aside0.mk HG47
         clear gb47 gl47 HG47
         obtain ⟨hx47_0, hf47_0⟩ := Kd.R_celln 0 HO_8.out (x77_3 : Int) p47 q47
         replace p47 := eq_true p47
         replace q47 := eq_true q47
         obtain ⟨hy49_, hz49_⟩ := Kd.R_celln 0 HO_8.out (x77_3 : Int) (of_decide_eq_true (by first | (with_reducible assumption) | assumption)) (of_decide_eq_true (by first | (with_reducible assumption) | assumption))
         have HP49 := Kd.R_putg HO_8.out (x77_3 : Int) (wrap64 ((rd x9_2 (rd l1 x77_3)) - (rd (rd_L3 l0 x77_3) (rd l1 x77_3))))
         try go_wp2_with (first | ((with_reducible refine gate_store (t := 3) (p := 112) rfl ?_); refine store_event (t := 3) (p := 112) (v := ?vo_w50) (w1 := (w48.setCell ⟨go47, (x77_3 : Int).toNat, none⟩ (.int .i64 (wrap64 ((rd x9_2 (rd l1 x77_3)) - (rd (rd_L3 l0 x77_3) (rd l1 x77_3))))))) ?hg ?ho ?hn ?hr ?_; (case ho => rfl); (case hg => rfl); (case hn => rfl); (case hr => first | (go_simp; done) | (go_simp; rfl)); intro w50 hw; have hg : w48.grownBy w50 (some go47) := (by rw [hw]; exact HP49.2); have hp_ : Kd.R (Kd.int .i64) 3 w50 w.heap.size (fun k_ => some k_ ≠ (.slice (some ad208) x9_2.length co11 : Value).ownBlock) (.slice (some ⟨go47, 0, none⟩) x8_3.length co47) y214 := (by rw [hw, Ny214.out]; exact HP49.1); clear HP49; have n0_ := Aside0.mk (hp_); have n1_ := Aside0.mk (Kd.R_after (v := (.slice (some ⟨go47, 0, none⟩) x8_3.length co47)) (v1 := (.slice (some ⟨go47, 0, none⟩) x8_3.length co47)) (ok := (fun _ => True)) (by (with_reducible repeat (first | apply Kd.R_alloc | apply Kd.R_drewN | apply Kd.R_drew)); exact Kd.R_mono HO_9.out (fun _ hk => ⟨trivial, hk⟩)) hg (.inl rfl)); have n2_ := Aside0.mk ((by rw [hw]; exact below_set (HB.out) GB47.out : Below w.heap.size w w50)); clear HO_8; clear HO_9; clear HB; have HO_8 := n0_; have HO_9 := n1_; have HB := n2_; clear n0_ n1_ n2_; clear hg hw hp_))
         (first | go_roundg k3 | (refine Handed.intro k3 ?measure ?_; rotate_left; go_step; (repeat apply Exists.intro); (refine ⟨?rel, ?fr_⟩); (case fr_ => (simp only [add_plain]; rfl))))
         case measure => have := HK1.out; have := HK2.out; have := HK3.out; omega
         case rel => exact ⟨(y214), (false), (wrap64 (x77_3 + 1)), (by first | rfl | (simp; done) | (simp [*]; done)), (by first | rfl | (simp; done) | (simp [*]; done)), H', ⟨by have := HK1.out; have := HK2.out; have := HK3.out; omega⟩, ⟨by (try simp only [hl9_2]); (with_reducible repeat (first | apply Kd.R_alloc | apply Kd.R_drewN | apply Kd.R_drew)); exact HO_8.out⟩, ⟨by (try simp only [hl9_2]); (with_reducible repeat (first | apply Kd.R_alloc | apply Kd.R_drewN | apply Kd.R_drew)); exact Kd.R_mono HO_9.out (fun _ hk => hk.2)⟩, ⟨by repeat (first | (with_reducible first | exact HB.out | apply below_alloc | apply pw_below_drewN | apply below_drew1) | exact HB.out)⟩⟩
        subst c39
        have H1 : (if x77_3 < (x8_3.length : Int) then (orreryref20_Least.l3 k3 l0 l1 (l0.length : Int) (x8_3.set (x77_3 : Int).toNat (wrap64 ((rd x9_2 (rd l1 x77_3)) - (rd (rd_L3 l0 x77_3) (rd l1 x77_3))))) x9_2 ((wrap64 ((rd x9_2 (rd l1 x77_3)) - (rd (rd_L3 l0 x77_3) (rd l1 x77_3)))) == (rd x8_3 x77_3)) (l0.length : Int) (wrap64 (x77_3 + 1))) else (none)) = some (r1, r2, r3) := by rw [if_pos rfl] at H; exact H
        clear H
        have H := H1
        clear H1
        by_cases c40 : x77_3 < (x8_3.length : Int)
        case neg => rw [if_neg c40] at H; exact absurd H (by simp)
        rw [if_pos c40] at H
        have c40b0 : decide (x77_3 < (x8_3.length : Int)) = true := decide_eq_true c40
        clear c40
        (try (have c40b0r := c40b0; simp only [hl9_2] at c40b0r))
        obtain ⟨y213, hy213⟩ : ∃ y_ : List Int, y_ = (x8_3.set (x77_3 : Int).toNat (wrap64 ((rd x9_2 (rd l1 x77_3)) - (rd (rd_L3 l0 x77_3) (rd l1 x77_3))))) := ⟨_, rfl⟩
        replace H : (orreryref20_Least.l3 k3 l0 l1 (l0.length : Int) y213 x9_2 ((wrap64 ((rd x9_2 (rd l1 x77_3)) - (rd (rd_L3 l0 x77_3) (rd l1 x77_3)))) == (rd x8_3 x77_3)) (l0.length : Int) (wrap64 (x77_3 + 1))) = some (r1, r2, r3) := by first | (rw [hy213]; with_reducible exact H) | (have H2_ := (Option.bind_some _ _).symm.trans H; rw [hy213]; with_reducible exact H2_) | (have H2_ := (Option.bind_some _ _).symm.trans H; with_reducible exact H2_) | with_reducible exact H | (rw [hy213]; exact H) | exact H
        have Ny213 := Aside0.mk hy213
        clear hy213
        have H' := Aside0.mk H
        clear H
        try go_wp2
        have n0_ := Aside0.mk (Kd.R_drew HO_8.out)
        have n1_ := Aside0.mk (Kd.R_drew HO_9.out)
        have n2_ := Aside0.mk (below_drew1 HB.out)
        clear HO_8
        clear HO_9
        clear HB
        have HO_8 := n0_
        have HO_9 := n1_
        have HB := n2_
        clear n0_ n1_ n2_
        have p207 : 0 ≤ (x77_3 : Int) := of_decide_eq_true (by first | (with_reducible assumption) | assumption)
        have q207 : x77_3 < (l1.length : Int) := of_decide_eq_true (by first | (with_reducible assumption) | assumption)
        obtain ⟨ad207, e207, hx207_0⟩ := Kd.at_int HR1.out x77_3 p207 q207
        have hw207_0 := hx207_0
        cases e207
        replace hx207_0 := (HB.out.cell (World.block_lt_of_cell? w _ hx207_0)).trans hx207_0
        replace p207 := eq_true p207
        replace q207 := eq_true q207
        have p208 : 0 ≤ ((rd l1 x77_3) : Int) := of_decide_eq_true (by first | (with_reducible assumption) | assumption)
        have q208 : (rd l1 x77_3) < (x9_2.length : Int) := of_decide_eq_true (by first | (with_reducible assumption) | assumption)
        obtain ⟨ad208, e208, hx208_0⟩ := Kd.at_int (Kd.R_reads' HO_9.out).2.2 (rd l1 x77_3) p208 q208
        cases e208
        replace p208 := eq_true p208
        replace q208 := eq_true q208
        have p209 : 0 ≤ (x77_3 : Int) := of_decide_eq_true (by first | (with_reducible assumption) | assumption)
        have q209 : x77_3 < (l0.length : Int) := of_decide_eq_true (by first | (with_reducible assumption) | assumption)
        obtain ⟨ad209, A209_0, c209_0, e209, hx209_0, hl209_0, hi209_0⟩ := at_L3 HR0.out x77_3 p209 q209
        have hw209_0 := hx209_0
        cases e209
        replace hx209_0 := (HB.out.cell (World.block_lt_of_cell? w _ hx209_0)).trans hx209_0
        have HR209_0 := Aside0.mk hi209_0
        have HC209_0 := Aside0.mk hl209_0
        clear hi209_0 hl209_0
        replace p209 := eq_true p209
        replace q209 := eq_true q209
        have p210 : 0 ≤ (x77_3 : Int) := of_decide_eq_true (by first | (with_reducible assumption) | assumption)
        have q210 : x77_3 < (l1.length : Int) := of_decide_eq_true (by first | (with_reducible assumption) | assumption)
        obtain ⟨ad210, e210, hx210_0⟩ := Kd.at_int HR1.out x77_3 p210 q210
        have hw210_0 := hx210_0
        obtain rfl : ad207 = ad210 := (by injection e210)
        replace hx210_0 := (HB.out.cell (World.block_lt_of_cell? w _ hx210_0)).trans hx210_0
        replace p210 := eq_true p210
        replace q210 := eq_true q210
        have p211 : 0 ≤ ((rd l1 x77_3) : Int) := of_decide_eq_true (by first | (with_reducible assumption) | assumption)
        have q211 : (rd l1 x77_3) < ((rd_L3 l0 x77_3).length : Int) := of_decide_eq_true (by first | (with_reducible assumption) | assumption)
        obtain ⟨ad211, e211, hx211_0⟩ := Kd.at_int HR209_0.out (rd l1 x77_3) p211 q211
        have hw211_0 := hx211_0
        cases e211
        replace hx211_0 := (HB.out.cell (World.block_lt_of_cell? w _ hx211_0)).trans hx211_0
        replace p211 := eq_true p211
        replace q211 := eq_true q211
        refine start_ (n := 19) (S := fun w' => w'.cell? (ad207.add (x77_3).toNat) = some (.int .i64 (rd l1 x77_3)) ∧ w'.cell? (ad208.add ((rd l1 x77_3)).toNat) = some (.int .i64 (rd x9_2 (rd l1 x77_3))) ∧ w'.cell? (ad209.add (x77_3).toNat) = some (.slice (some ad211) (rd_L3 l0 x77_3).length c209_0) ∧ w'.cell? (ad207.add (x77_3).toNat) = some (.int .i64 (rd l1 x77_3)) ∧ w'.cell? (ad211.add ((rd l1 x77_3)).toNat) = some (.int .i64 (rd (rd_L3 l0 x77_3) (rd l1 x77_3)))) (ds := []) (msk 19 0) (by kernel_rfl) rfl rfl ⟨((HB.out.cell (World.block_lt_of_cell? w _ hw207_0)).trans hw207_0), hx208_0, ((HB.out.cell (World.block_lt_of_cell? w _ hw209_0)).trans hw209_0), ((HB.out.cell (World.block_lt_of_cell? w _ hw210_0)).trans hw210_0), ((HB.out.cell (World.block_lt_of_cell? w _ hw211_0)).trans hw211_0)⟩ (fun hHeld => ?_); refine with_tabW orreryref20_Least.tab18 orreryref20_Least.bits18 (fun HT_ HW_ => ?_)
        generalize wr.drew = w42 at HO_8 HO_9 HB HR209_0 hx207_0 hx208_0 hx209_0 hx210_0 hx211_0 hHeld ⊢
        refine pu_ 0 80 (msk 19 1) HT_.out ?_ ?_ ?_ ?_ ?_
        rotate_left
        · intro w'; go_simp; with_reducible rfl
        rotate_left
        · simp only [Act.put, sq, i64_w, i32_w]; rfl
        refine pu_ 1 81 (msk 19 3) HT_.out ?_ ?_ ?_ ?_ ?_
        rotate_left
        · intro w'; go_simp; with_reducible rfl
        rotate_left
        · simp only [Act.put, sq, i64_w, i32_w]; rfl
        refine pu_ 2 82 (msk 19 7) HT_.out ?_ ?_ ?_ ?_ ?_
        rotate_left
        · intro w'; go_simp; with_reducible rfl
        rotate_left
        · simp only [Act.put, sq, i64_w, i32_w]; rfl
        refine pu_ 3 83 (msk 19 15) HT_.out ?_ ?_ ?_ ?_ ?_
        rotate_left
        · intro w'; go_simp; with_reducible rfl
        rotate_left
        · simp only [Act.put, sq, i64_w, i32_w]; rfl
        refine pu_ 7 87 (msk 19 143) HT_.out ?_ ?_ ?_ ?_ ?_
        rotate_left
        · intro w'; go_simp; with_reducible rfl
        rotate_left
        · simp only [Act.put, sq, i64_w, i32_w]; rfl
        refine pu_ 8 88 (msk 19 399) HT_.out ?_ ?_ ?_ ?_ ?_
        rotate_left
        · intro w'; go_simp; with_reducible rfl
        rotate_left
        · simp only [Act.put, sq, i64_w, i32_w]; rfl
        refine pu_ 9 89 (msk 19 911) HT_.out ?_ ?_ ?_ ?_ ?_
        rotate_left
        · intro w'; go_simp; with_reducible rfl
        rotate_left
        · simp only [Act.put, sq, i64_w, i32_w]; rfl
        refine pu_ 11 91 (msk 19 2959) HT_.out ?_ ?_ ?_ ?_ ?_
        rotate_left
        · intro w'; go_simp; with_reducible rfl
        rotate_left
        · simp only [Act.put, sq, i64_w, i32_w]; rfl
        refine pu_ 12 92 (msk 19 7055) HT_.out ?_ ?_ ?_ ?_ ?_
        rotate_left
        · intro w'; go_simp; with_reducible rfl
        rotate_left
        · simp only [Act.put, sq, i64_w, i32_w]; rfl
        refine pu_ 13 93 (msk 19 15247) HT_.out ?_ ?_ ?_ ?_ ?_
        rotate_left
        · intro w'; go_simp; with_reducible rfl
        rotate_left
        · simp only [Act.put, sq, i64_w, i32_w]; rfl
        refine tk_ 4 84 (msk 19 15263) HT_.out HW_.out hHeld ?_ ?_ ?_ ?_ ?_
        rotate_left
        · rintro w' ⟨s0, s1, s2, s3, s4⟩; go_simp; with_reducible rfl
        rotate_left
        · simp only [Act.put, sq, i64_w, i32_w]; rfl
        refine pu_ 5 85 (msk 19 15295) HT_.out ?_ ?_ ?_ ?_ ?_
        rotate_left
        · intro w'; go_simp; with_reducible rfl
        rotate_left
        · simp only [Act.put, sq, i64_w, i32_w]; rfl
        refine tk_ 6 86 (msk 19 15359) HT_.out HW_.out hHeld ?_ ?_ ?_ ?_ ?_
        rotate_left
        · rintro w' ⟨s0, s1, s2, s3, s4⟩; go_simp; with_reducible rfl
        rotate_left
        · simp only [Act.put, sq, i64_w, i32_w]; rfl
        refine tk_ 10 90 (msk 19 16383) HT_.out HW_.out hHeld ?_ ?_ ?_ ?_ ?_
        rotate_left
        · rintro w' ⟨s0, s1, s2, s3, s4⟩; go_simp; with_reducible rfl
        rotate_left
        · simp only [Act.put, sq, i64_w, i32_w]; rfl
        refine tk_ 14 94 (msk 19 32767) HT_.out HW_.out hHeld ?_ ?_ ?_ ?_ ?_
        rotate_left
        · rintro w' ⟨s0, s1, s2, s3, s4⟩; go_simp; with_reducible rfl
        rotate_left
        · simp only [Act.put, sq, i64_w, i32_w]; rfl
        refine pu_ 15 95 (msk 19 65535) HT_.out ?_ ?_ ?_ ?_ ?_
        rotate_left
        · intro w'; go_simp; with_reducible rfl
        rotate_left
        · simp only [Act.put, sq, i64_w, i32_w]; rfl
        refine tk_ 16 96 (msk 19 131071) HT_.out HW_.out hHeld ?_ ?_ ?_ ?_ ?_
        rotate_left
        · rintro w' ⟨s0, s1, s2, s3, s4⟩; go_simp; with_reducible rfl
        rotate_left
        · simp only [Act.put, sq, i64_w, i32_w]; rfl
        refine pu_ 17 97 (msk 19 262143) HT_.out ?_ ?_ ?_ ?_ ?_
        rotate_left
        · intro w'; go_simp; with_reducible rfl
        rotate_left
        · simp only [Act.put, sq, i64_w, i32_w]; rfl
        refine pu_ 18 14 (msk 19 524287) HT_.out ?_ ?_ ?_ ?_ ?_
        rotate_left
        · intro w'; go_simp; with_reducible rfl
        rotate_left
        · simp only [Act.put, sq, i64_w, i32_w]; rfl
        refine done_ (done_of HT_.out (by kernel_rfl)) ?_
        obtain ⟨Ao43, co43, eo43⟩ := Kd.R_slice HO_8.out
        subst eo43
        have p212 : 0 ≤ (x77_3 : Int) := of_decide_eq_true (by first | (with_reducible assumption) | assumption)
        have q212 : x77_3 < (x8_3.length : Int) := of_decide_eq_true (by first | (with_reducible assumption) | assumption)
        obtain ⟨ad212, e212, hx212_0⟩ := Kd.at_int (Kd.R_reads' HO_8.out).2.2 x77_3 p212 q212
        cases e212
        replace p212 := eq_true p212
        replace q212 := eq_true q212
        have p41 : 0 ≤ (x77_3 : Int) := of_decide_eq_true (by first | (with_reducible assumption) | assumption)
        have q41 : (x77_3 : Int) < ((x8_3.length : Int) : Int) := of_decide_eq_true (by first | (with_reducible assumption) | assumption)
        obtain ⟨go41, co41, eo41, gb41, gl41, cl41, HG41⟩ := Kd.R_form HO_8.out (by omega)
        (first | cases eo41 | (injection eo41 with ea_ en_ ec_; (first | subst ea_ | (injection ea_ with ea_; subst ea_)); subst ec_; clear en_))
        have GB41 := Aside0.mk gb41
        have GG41 := Aside0.mk HG41
        clear gb41 gl41 HG41
        (first | simp only [add_plain] at hx212_0 | skip)
        obtain ⟨hx41_0, hf41_0⟩ := Kd.R_celln 0 HO_8.out (x77_3 : Int) p41 q41
        replace p41 := eq_true p41
        replace q41 := eq_true q41
        obtain ⟨hy44_, hz44_⟩ := Kd.R_celln 0 HO_8.out (x77_3 : Int) (of_decide_eq_true (by first | (with_reducible assumption) | assumption)) (of_decide_eq_true (by first | (with_reducible assumption) | assumption))
        have HP44 := Kd.R_putg HO_8.out (x77_3 : Int) (wrap64 ((rd x9_2 (rd l1 x77_3)) - (rd (rd_L3 l0 x77_3) (rd l1 x77_3))))
        try go_wp2_with (first | ((with_reducible refine gate_store (t := 3) (p := 112) rfl ?_); refine store_event (t := 3) (p := 112) (v := ?vo_w45) (w1 := (w42.setCell ⟨go41, (x77_3 : Int).toNat, none⟩ (.int .i64 (wrap64 ((rd x9_2 (rd l1 x77_3)) - (rd (rd_L3 l0 x77_3) (rd l1 x77_3))))))) ?hg ?ho ?hn ?hr ?_; (case ho => rfl); (case hg => rfl); (case hn => rfl); (case hr => first | (go_simp; done) | (go_simp; rfl)); intro w45 hw; have hg : w42.grownBy w45 (some go41) := (by rw [hw]; exact HP44.2); have hp_ : Kd.R (Kd.int .i64) 3 w45 w.heap.size (fun k_ => some k_ ≠ (.slice (some ad208) x9_2.length co11 : Value).ownBlock) (.slice (some ⟨go41, 0, none⟩) x8_3.length co43) y213 := (by rw [hw, Ny213.out]; exact HP44.1); clear HP44; have n0_ := Aside0.mk (hp_); have n1_ := Aside0.mk (Kd.R_after (v := (.slice (some ⟨go41, 0, none⟩) x8_3.length co43)) (v1 := (.slice (some ⟨go41, 0, none⟩) x8_3.length co43)) (ok := (fun _ => True)) (by (with_reducible repeat (first | apply Kd.R_alloc | apply Kd.R_drewN | apply Kd.R_drew)); exact Kd.R_mono HO_9.out (fun _ hk => ⟨trivial, hk⟩)) hg (.inl rfl)); have n2_ := Aside0.mk ((by rw [hw]; exact below_set (HB.out) GB41.out : Below w.heap.size w w45)); clear HO_8; clear HO_9; clear HB; have HO_8 := n0_; have HO_9 := n1_; have HB := n2_; clear n0_ n1_ n2_; clear hg hw hp_))
        (first | go_roundg k3 | (refine Handed.intro k3 ?measure ?_; rotate_left; go_step; (repeat apply Exists.intro); (refine ⟨?rel, ?fr_⟩); (case fr_ => (simp only [add_plain]; rfl))))
        case measure => have := HK1.out; have := HK2.out; have := HK3.out; omega
        case rel => exact ⟨(y213), (((wrap64 ((rd x9_2 (rd l1 x77_3)) - (rd (rd_L3 l0 x77_3) (rd l1 x77_3)))) == (rd x8_3 x77_3))), (wrap64 (x77_3 + 1)), (by first | rfl | (simp; done) | (simp [*]; done)), (by first | rfl | (simp; done) | (simp [*]; done)), H', ⟨by have := HK1.out; have := HK2.out; have := HK3.out; omega⟩, ⟨by (try simp only [hl9_2]); (with_reducible repeat (first | apply Kd.R_alloc | apply Kd.R_drewN | apply Kd.R_drew)); exact HO_8.out⟩, ⟨by (try simp only [hl9_2]); (with_reducible repeat (first | apply Kd.R_alloc | apply Kd.R_drewN | apply Kd.R_drew)); exact Kd.R_mono HO_9.out (fun _ hk => hk.2)⟩, ⟨by repeat (first | (with_reducible first | exact HB.out | apply below_alloc | apply pw_below_drewN | apply below_drew1) | exact HB.out)⟩⟩
     rw [if_pos c12] at H
     have c12b0 : decide (x23_2 < (y194.length : Int)) = true := decide_eq_true c12
     clear c12
     (try (have c12b0r := c12b0; simp only [hl9_2] at c12b0r))
     have H' := Aside0.mk H
     clear H
     go_wp2
     go_loopg [28] k2 (fun kq v28 w' => ∃ (x9_3 : List Int) (x28_3 : Int), v28 = .int .i64 x28_3 ∧ Aside0 (orreryref20_Least.l2 kq l0 l1 (l0.length : Int) x8_1 x9_3 x23_2 (y194.length : Int) x23_2 (l0.length : Int) x28_3 = some (r1, r2, r3)) ∧ Aside0 (kq ≤ k2) ∧ Aside0 (Kd.R (Kd.int .i64) 3 w' w.heap.size (fun k_ => some k_ ≠ ((.slice Ao11 x9_2.length co11) : Value).ownBlock) v192 x8_1) ∧ Aside0 (Kd.R (Kd.int .i64) 3 w' w.heap.size (fun k_ => some k_ ≠ (v192 : Value).ownBlock) (.slice Ao11 x9_2.length co11) x9_3) ∧ Aside0 (Below w.heap.size w w'))
     case atStart => exact ⟨(x9_2), (0), (by first | rfl | (simp; done) | (simp [*]; done)), H', ⟨Nat.le_refl _⟩, ⟨by (try simp only [hl9_2]); (with_reducible repeat (first | apply Kd.R_alloc | apply Kd.R_drewN | apply Kd.R_drew)); exact HO_8.out⟩, ⟨by (try simp only [hl9_2]); (with_reducible repeat (first | apply Kd.R_alloc | apply Kd.R_drewN | apply Kd.R_drew)); exact HO_9.out⟩, ⟨by repeat (first | (with_reducible first | exact HB.out | apply below_alloc | apply pw_below_drewN | apply below_drew1) | exact HB.out)⟩⟩
     case round =>
      clear H'
      try clear c1
      try clear c2
      try clear p2
      try clear c3
      try clear c3b0
      try clear c3b1
      try clear c4
      try clear c4b0
      try clear c4b1
      try clear c7
      try clear c7b0
      try clear c7b1
      try clear c8
      try clear c8b0
      try clear c8b1
      try clear c12
      try clear c12b0
      try clear p2
      obtain ⟨x9_3, x28_3, rfl, HA, HK3, HO_8, HO_9, HB⟩ := hrel
      have hl9_3 := (Kd.R_reads' HO_9.out).1
      rw [hl9_3] at HO_9
      (try simp only [hl9_3])
      (try simp only [hl9_3] at HO_8)
      cases gk with
      | zero => exact absurd HA.out (by simp [orreryref20_Least.l2])
      | succ k3 =>
       have H := HA.out
       clear HA
       simp only [orreryref20_Least.l2] at H
       by_cases c13 : x28_3 < (l0.length : Int)
       case neg =>
        rw [if_neg c13] at H
        have c13b0 : decide (x28_3 < (l0.length : Int)) = false := decide_eq_false c13
        clear c13
        (try (have c13b0r := c13b0; simp only [hl9_2, hl9_3] at c13b0r))
        have H' := Aside0.mk H
        clear H
        go_wp2
        (try simp only [← hl9_2, ← hl9_3])
        (first | go_roundg k3 | (refine Handed.intro k3 ?measure ?_; rotate_left; go_step; (repeat apply Exists.intro); (refine ⟨?rel, ?fr_⟩); (case fr_ => (simp only [add_plain]; rfl))))
        case measure => have := HK1.out; have := HK2.out; have := HK3.out; omega
        case rel => exact ⟨(x9_3), (wrap64 (x23_2 + 1)), (by first | rfl | (simp; done) | (simp [*]; done)), H', ⟨by have := HK1.out; have := HK2.out; have := HK3.out; omega⟩, ⟨by (try simp only [hl9_2]); (try simp only [hl9_3]); (with_reducible repeat (first | apply Kd.R_alloc | apply Kd.R_drewN | apply Kd.R_drew)); exact HO_8.out⟩, ⟨by (try simp only [hl9_2]); (try simp only [hl9_3]); (with_reducible repeat (first | apply Kd.R_alloc | apply Kd.R_drewN | apply Kd.R_drew)); exact HO_9.out⟩, ⟨by repeat (first | (with_reducible first | exact HB.out | apply below_alloc | apply pw_below_drewN | apply below_drew1) | exact HB.out)⟩⟩
       rw [if_pos c13] at H
       have c13b0 : decide (x28_3 < (l0.length : Int)) = true := decide_eq_true c13
       clear c13
       (try (have c13b0r := c13b0; simp only [hl9_2, hl9_3] at c13b0r))
       by_cases c14 : 0 ≤ x28_3
       case neg => rw [if_neg c14] at H; exact absurd H (by simp)
       rw [if_pos c14] at H
       have c14b0 : decide (0 ≤ x28_3) = true := decide_eq_true c14
       clear c14
       (try (have c14b0r := c14b0; simp only [hl9_2, hl9_3] at c14b0r))
       by_cases c15 : x28_3 < (l0.length : Int)
       case neg => rw [if_neg c15] at H; exact absurd H (by simp)
       rw [if_pos c15] at H
       have c15b0 : decide (x28_3 < (l0.length : Int)) = true := decide_eq_true c15
       clear c15
       (try (have c15b0r := c15b0; simp only [hl9_2, hl9_3] at c15b0r))
       by_cases c16 : 0 ≤ x23_2
       case neg => rw [if_neg c16] at H; exact absurd H (by simp)
       rw [if_pos c16] at H
       have c16b0 : decide (0 ≤ x23_2) = true := decide_eq_true c16
       clear c16
       (try (have c16b0r := c16b0; simp only [hl9_2, hl9_3] at c16b0r))
       by_cases c17 : x23_2 < ((rd_L3 l0 x28_3).length : Int)
       case neg => rw [if_neg c17] at H; exact absurd H (by simp)
       rw [if_pos c17] at H
       have c17b0 : decide (x23_2 < ((rd_L3 l0 x28_3).length : Int)) = true := decide_eq_true c17
       clear c17
       (try (have c17b0r := c17b0; simp only [hl9_2, hl9_3] at c17b0r))
       by_cases c18 : (rd (rd_L3 l0 x28_3) x23_2) ≥ 0
       case neg =>
        rw [if_neg c18] at H
        have c18b0 : decide (0 ≤ (rd (rd_L3 l0 x28_3) x23_2)) = false := decide_eq_false c18
        clear c18
        (try (have c18b0r := c18b0; simp only [hl9_2, hl9_3] at c18b0r))
        have H' := Aside0.mk H
        clear H
        try go_wp2
        have n0_ := Aside0.mk (Kd.R_drew HO_8.out)
        have n1_ := Aside0.mk (Kd.R_drew HO_9.out)
        have n2_ := Aside0.mk (below_drew1 HB.out)
        clear HO_8
        clear HO_9
        clear HB
        have HO_8 := n0_
        have HO_9 := n1_
        have HB := n2_
        clear n0_ n1_ n2_
        have p197 : 0 ≤ (x28_3 : Int) := of_decide_eq_true (by first | (with_reducible assumption) | assumption)
        have q197 : x28_3 < (l0.length : Int) := of_decide_eq_true (by first | (with_reducible assumption) | assumption)
        obtain ⟨ad197, A197_0, c197_0, e197, hx197_0, hl197_0, hi197_0⟩ := at_L3 HR0.out x28_3 p197 q197
        have hw197_0 := hx197_0
        cases e197
        replace hx197_0 := (HB.out.cell (World.block_lt_of_cell? w _ hx197_0)).trans hx197_0
        have HR197_0 := Aside0.mk hi197_0
        have HC197_0 := Aside0.mk hl197_0
        clear hi197_0 hl197_0
        replace p197 := eq_true p197
        replace q197 := eq_true q197
        have p198 : 0 ≤ (x23_2 : Int) := of_decide_eq_true (by first | (with_reducible assumption) | assumption)
        have q198 : x23_2 < ((rd_L3 l0 x28_3).length : Int) := of_decide_eq_true (by first | (with_reducible assumption) | assumption)
        obtain ⟨ad198, e198, hx198_0⟩ := Kd.at_int HR197_0.out x23_2 p198 q198
        have hw198_0 := hx198_0
        cases e198
        replace hx198_0 := (HB.out.cell (World.block_lt_of_cell? w _ hx198_0)).trans hx198_0
        replace p198 := eq_true p198
        replace q198 := eq_true q198
        refine start_ (n := 27) (S := fun w' => w'.cell? (ad197.add (x28_3).toNat) = some (.slice (some ad198) (rd_L3 l0 x28_3).length c197_0) ∧ w'.cell? (ad198.add (x23_2).toNat) = some (.int .i64 (rd (rd_L3 l0 x28_3) x23_2))) (ds := []) (msk 27 0) (by kernel_rfl) rfl rfl ⟨((HB.out.cell (World.block_lt_of_cell? w _ hw197_0)).trans hw197_0), ((HB.out.cell (World.block_lt_of_cell? w _ hw198_0)).trans hw198_0)⟩ (fun hHeld => ?_); refine with_tabW orreryref20_Least.tab10 orreryref20_Least.bits10 (fun HT_ HW_ => ?_)
        generalize wr.drew = w29 at HO_8 HO_9 HB HR197_0 hx197_0 hx198_0 hHeld ⊢
        refine pu_ 0 31 (msk 27 1) HT_.out ?_ ?_ ?_ ?_ ?_
        rotate_left
        · intro w'; go_simp; with_reducible rfl
        rotate_left
        · simp only [Act.put, sq, i64_w, i32_w]; rfl
        refine pu_ 1 32 (msk 27 3) HT_.out ?_ ?_ ?_ ?_ ?_
        rotate_left
        · intro w'; go_simp; with_reducible rfl
        rotate_left
        · simp only [Act.put, sq, i64_w, i32_w]; rfl
        refine pu_ 2 33 (msk 27 7) HT_.out ?_ ?_ ?_ ?_ ?_
        rotate_left
        · intro w'; go_simp; with_reducible rfl
        rotate_left
        · simp only [Act.put, sq, i64_w, i32_w]; rfl
        refine pu_ 4 35 (msk 27 23) HT_.out ?_ ?_ ?_ ?_ ?_
        rotate_left
        · intro w'; go_simp; with_reducible rfl
        rotate_left
        · simp only [Act.put, sq, i64_w, i32_w]; rfl
        refine tk_ 3 34 (msk 27 31) HT_.out HW_.out hHeld ?_ ?_ ?_ ?_ ?_
        rotate_left
        · rintro w' ⟨s0, s1⟩; go_simp; with_reducible rfl
        rotate_left
        · simp only [Act.put, sq, i64_w, i32_w]; rfl
        refine pu_ 5 36 (msk 27 63) HT_.out ?_ ?_ ?_ ?_ ?_
        rotate_left
        · intro w'; go_simp; with_reducible rfl
        rotate_left
        · simp only [Act.put, sq, i64_w, i32_w]; rfl
        refine tk_ 6 37 (msk 27 127) HT_.out HW_.out hHeld ?_ ?_ ?_ ?_ ?_
        rotate_left
        · rintro w' ⟨s0, s1⟩; go_simp; with_reducible rfl
        rotate_left
        · simp only [Act.put, sq, i64_w, i32_w]; rfl
        refine pu_ 7 38 (msk 27 255) HT_.out ?_ ?_ ?_ ?_ ?_
        rotate_left
        · intro w'; go_simp; with_reducible rfl
        rotate_left
        · simp only [Act.put, sq, i64_w, i32_w]; rfl
        refine pu_ 8 39 (msk 27 511) HT_.out ?_ ?_ ?_ ?_ ?_
        rotate_left
        · intro w'; go_simp; with_reducible rfl
        rotate_left
        · simp only [Act.put, sq, i64_w, i32_w]; rfl
        refine pv_ 9 40 (msk 27 1023) HT_.out ?_ ?_ ?_
        rotate_left
        · simp only [Act.put, sq, i64_w, i32_w]; rfl
        refine pv_ 10 41 (msk 27 2047) HT_.out ?_ ?_ ?_
        rotate_left
        · simp only [Act.put, sq, i64_w, i32_w]; rfl
        refine pv_ 11 42 (msk 27 4095) HT_.out ?_ ?_ ?_
        rotate_left
        · simp only [Act.put, sq, i64_w, i32_w]; rfl
        refine pv_ 12 43 (msk 27 8191) HT_.out ?_ ?_ ?_
        rotate_left
        · simp only [Act.put, sq, i64_w, i32_w]; rfl
        refine pv_ 13 44 (msk 27 16383) HT_.out ?_ ?_ ?_
        rotate_left
        · simp only [Act.put, sq, i64_w, i32_w]; rfl
        refine pv_ 14 45 (msk 27 32767) HT_.out ?_ ?_ ?_
        rotate_left
        · simp only [Act.put, sq, i64_w, i32_w]; rfl
        refine pv_ 15 46 (msk 27 65535) HT_.out ?_ ?_ ?_
        rotate_left
        · simp only [Act.put, sq, i64_w, i32_w]; rfl
        refine pv_ 16 47 (msk 27 131071) HT_.out ?_ ?_ ?_
        rotate_left
        · simp only [Act.put, sq, i64_w, i32_w]; rfl
        refine pv_ 17 48 (msk 27 262143) HT_.out ?_ ?_ ?_
        rotate_left
        · simp only [Act.put, sq, i64_w, i32_w]; rfl
        refine pv_ 18 49 (msk 27 524287) HT_.out ?_ ?_ ?_
        rotate_left
        · simp only [Act.put, sq, i64_w, i32_w]; rfl
        refine pv_ 19 50 (msk 27 1048575) HT_.out ?_ ?_ ?_
        rotate_left
        · simp only [Act.put, sq, i64_w, i32_w]; rfl
        refine pv_ 20 51 (msk 27 2097151) HT_.out ?_ ?_ ?_
        rotate_left
        · simp only [Act.put, sq, i64_w, i32_w]; rfl
        refine pv_ 21 52 (msk 27 4194303) HT_.out ?_ ?_ ?_
        rotate_left
        · simp only [Act.put, sq, i64_w, i32_w]; rfl
        refine pv_ 22 53 (msk 27 8388607) HT_.out ?_ ?_ ?_
        rotate_left
        · simp only [Act.put, sq, i64_w, i32_w]; rfl
        refine pv_ 23 54 (msk 27 16777215) HT_.out ?_ ?_ ?_
        rotate_left
        · simp only [Act.put, sq, i64_w, i32_w]; rfl
        refine pv_ 24 55 (msk 27 33554431) HT_.out ?_ ?_ ?_
        rotate_left
        · simp only [Act.put, sq, i64_w, i32_w]; rfl
        refine pv_ 25 56 (msk 27 67108863) HT_.out ?_ ?_ ?_
        rotate_left
        · simp only [Act.put, sq, i64_w, i32_w]; rfl
        refine pu_ 26 57 (msk 27 134217727) HT_.out ?_ ?_ ?_ ?_ ?_
        rotate_left
        · intro w'; go_simp; with_reducible rfl
        rotate_left
        · simp only [Act.put, sq, i64_w, i32_w]; rfl
        refine done_ (done_of HT_.out (by kernel_rfl)) ?_
        try go_wp2
        (try simp only [← hl9_3])
        (first | go_roundg k3 | (refine Handed.intro k3 ?measure ?_; rotate_left; go_step; (repeat apply Exists.intro); (refine ⟨?rel, ?fr_⟩); (case fr_ => (simp only [add_plain]; rfl))))
        case measure => have := HK1.out; have := HK2.out; have := HK3.out; omega
        case rel => exact ⟨(x9_3), (wrap64 (x28_3 + 1)), (by first | rfl | (simp; done) | (simp [*]; done)), H', ⟨by have := HK1.out; have := HK2.out; have := HK3.out; omega⟩, ⟨by (try simp only [hl9_2]); (try simp only [hl9_3]); (with_reducible repeat (first | apply Kd.R_alloc | apply Kd.R_drewN | apply Kd.R_drew)); exact HO_8.out⟩, ⟨by (try simp only [hl9_2]); (try simp only [hl9_3]); (with_reducible repeat (first | apply Kd.R_alloc | apply Kd.R_drewN | apply Kd.R_drew)); exact HO_9.out⟩, ⟨by repeat (first | (with_reducible first | exact HB.out | apply below_alloc | apply pw_below_drewN | apply below_drew1) | exact HB.out)⟩⟩
       rw [if_pos c18] at H
       have c18b0 : decide (0 ≤ (rd (rd_L3 l0 x28_3) x23_2)) = true := decide_eq_true c18
       clear c18
       (try (have c18b0r := c18b0; simp only [hl9_2, hl9_3] at c18b0r))
       by_cases c19 : x28_3 < (x8_1.length : Int)
       case neg => rw [if_neg c19] at H; exact absurd H (by simp)
       rw [if_pos c19] at H
       have c19b0 : decide (x28_3 < (x8_1.length : Int)) = true := decide_eq_true c19
       clear c19
       (try (have c19b0r := c19b0; simp only [hl9_2, hl9_3] at c19b0r))
       by_cases c20 : x23_2 < (x9_3.length : Int)
       case neg => rw [if_neg c20] at H; exact absurd H (by simp)
       rw [if_pos c20] at H
       have c20b0 : decide (x23_2 < (x9_3.length : Int)) = true := decide_eq_true c20
       clear c20
       (try (have c20b0r := c20b0; simp only [hl9_2, hl9_3] at c20b0r))
       by_cases c21 : (wrap64 ((rd (rd_L3 l0 x28_3) x23_2) + (rd x8_1 x28_3))) > (rd x9_3 x23_2)
       case neg =>
        rw [if_neg c21] at H
        have c21b0 : decide ((rd x9_3 x23_2) < (wrap64 ((rd (rd_L3 l0 x28_3) x23_2) + (rd x8_1 x28_3)))) = false := decide_eq_false c21
        clear c21
        (try (have c21b0r := c21b0; simp only [hl9_2, hl9_3] at c21b0r))
        have H' := Aside0.mk H
        clear H
        try go_wp2
        have n0_ := Aside0.mk (Kd.R_drew HO_8.out)
        have n1_ := Aside0.mk (Kd.R_drew HO_9.out)
        have n2_ := Aside0.mk (below_drew1 HB.out)
        clear HO_8
        clear HO_9
        clear HB
        have HO_8 := n0_
        have HO_9 := n1_
        have HB := n2_
        clear n0_ n1_ n2_
        have p197 : 0 ≤ (x28_3 : Int) := of_decide_eq_true (by first | (with_reducible assumption) | assumption)
        have q197 : x28_3 < (l0.length : Int) := of_decide_eq_true (by first | (with_reducible assumption) | assumption)
        obtain ⟨ad197, A197_0, c197_0, e197, hx197_0, hl197_0, hi197_0⟩ := at_L3 HR0.out x28_3 p197 q197
        have hw197_0 := hx197_0
        cases e197
        replace hx197_0 := (HB.out.cell (World.block_lt_of_cell? w _ hx197_0)).trans hx197_0
        have HR197_0 := Aside0.mk hi197_0
        have HC197_0 := Aside0.mk hl197_0
        clear hi197_0 hl197_0
        replace p197 := eq_true p197
        replace q197 := eq_true q197
        have p198 : 0 ≤ (x23_2 : Int) := of_decide_eq_true (by first | (with_reducible assumption) | assumption)
        have q198 : x23_2 < ((rd_L3 l0 x28_3).length : Int) := of_decide_eq_true (by first | (with_reducible assumption) | assumption)
        obtain ⟨ad198, e198, hx198_0⟩ := Kd.at_int HR197_0.out x23_2 p198 q198
        have hw198_0 := hx198_0
        cases e198
        replace hx198_0 := (HB.out.cell (World.block_lt_of_cell? w _ hx198_0)).trans hx198_0
        replace p198 := eq_true p198
        replace q198 := eq_true q198
        have p199 : 0 ≤ (x28_3 : Int) := of_decide_eq_true (by first | (with_reducible assumption) | assumption)
        have q199 : x28_3 < (l0.length : Int) := of_decide_eq_true (by first | (with_reducible assumption) | assumption)
        obtain ⟨ad199, A199_0, c199_0, e199, hx199_0, hl199_0, hi199_0⟩ := at_L3 HR0.out x28_3 p199 q199
        have hw199_0 := hx199_0
        obtain rfl : ad197 = ad199 := (by injection e199)
        replace hx199_0 := (HB.out.cell (World.block_lt_of_cell? w _ hx199_0)).trans hx199_0
        have HR199_0 := Aside0.mk hi199_0
        have HC199_0 := Aside0.mk hl199_0
        clear hi199_0 hl199_0
        replace p199 := eq_true p199
        replace q199 := eq_true q199
        have ea_ := Option.some.inj (hx197_0.symm.trans hx199_0)
        injection ea_ with ea_ en_ ec_
        subst ea_
        subst ec_
        clear en_
        have p200 : 0 ≤ (x23_2 : Int) := of_decide_eq_true (by first | (with_reducible assumption) | assumption)
        have q200 : x23_2 < ((rd_L3 l0 x28_3).length : Int) := of_decide_eq_true (by first | (with_reducible assumption) | assumption)
        obtain ⟨ad200, e200, hx200_0⟩ := Kd.at_int HR199_0.out x23_2 p200 q200
        have hw200_0 := hx200_0
        cases e200
        replace hx200_0 := (HB.out.cell (World.block_lt_of_cell? w _ hx200_0)).trans hx200_0
        replace p200 := eq_true p200
        replace q200 := eq_true q200
        obtain ⟨Ao28, co28, eo28⟩ := Kd.R_slice HO_8.out
        (first | subst eo28 | (injection eo28 with f1_ f2_ f3_; have f4_ := f1_.symm; have f5_ := f3_.symm; clear f1_ f2_ f3_; subst f4_; subst f5_))
        have p201 : 0 ≤ (x28_3 : Int) := of_decide_eq_true (by first | (with_reducible assumption) | assumption)
        have q201 : x28_3 < (x8_1.length : Int) := of_decide_eq_true (by first | (with_reducible assumption) | assumption)
        obtain ⟨ad201, e201, hx201_0⟩ := Kd.at_int (Kd.R_reads' HO_8.out).2.2 x28_3 p201 q201
        cases e201
        replace p201 := eq_true p201
        replace q201 := eq_true q201
        have p202 : 0 ≤ (x23_2 : Int) := of_decide_eq_true (by first | (with_reducible assumption) | assumption)
        have q202 : x23_2 < (x9_3.length : Int) := of_decide_eq_true (by first | (with_reducible assumption) | assumption)
        obtain ⟨ad202, e202, hx202_0⟩ := Kd.at_int (Kd.R_reads' HO_9.out).2.2 x23_2 p202 q202
        cases e202
        replace p202 := eq_true p202
        replace q202 := eq_true q202
        refine start_ (n := 27) (S := fun w' => w'.cell? (ad197.add (x28_3).toNat) = some (.slice (some ad198) (rd_L3 l0 x28_3).length c197_0) ∧ w'.cell? (ad198.add (x23_2).toNat) = some (.int .i64 (rd (rd_L3 l0 x28_3) x23_2)) ∧ w'.cell? (ad197.add (x28_3).toNat) = some (.slice (some ad198) (rd_L3 l0 x28_3).length c197_0) ∧ w'.cell? (ad198.add (x23_2).toNat) = some (.int .i64 (rd (rd_L3 l0 x28_3) x23_2)) ∧ w'.cell? (ad201.add (x28_3).toNat) = some (.int .i64 (rd x8_1 x28_3)) ∧ w'.cell? (ad202.add (x23_2).toNat) = some (.int .i64 (rd x9_3 x23_2))) (ds := []) (msk 27 0) (by kernel_rfl) rfl rfl ⟨((HB.out.cell (World.block_lt_of_cell? w _ hw197_0)).trans hw197_0), ((HB.out.cell (World.block_lt_of_cell? w _ hw198_0)).trans hw198_0), ((HB.out.cell (World.block_lt_of_cell? w _ hw199_0)).trans hw199_0), ((HB.out.cell (World.block_lt_of_cell? w _ hw200_0)).trans hw200_0), hx201_0, hx202_0⟩ (fun hHeld => ?_); refine with_tabW orreryref20_Least.tab10 orreryref20_Least.bits10 (fun HT_ HW_ => ?_)
        generalize wr.drew = w27 at HO_8 HO_9 HB HR197_0 HR199_0 hx197_0 hx198_0 hx199_0 hx200_0 hx201_0 hx202_0 hHeld ⊢
        refine pu_ 0 31 (msk 27 1) HT_.out ?_ ?_ ?_ ?_ ?_
        rotate_left
        · intro w'; go_simp; with_reducible rfl
        rotate_left
        · simp only [Act.put, sq, i64_w, i32_w]; rfl
        refine pu_ 1 32 (msk 27 3) HT_.out ?_ ?_ ?_ ?_ ?_
        rotate_left
        · intro w'; go_simp; with_reducible rfl
        rotate_left
        · simp only [Act.put, sq, i64_w, i32_w]; rfl
        refine pu_ 2 33 (msk 27 7) HT_.out ?_ ?_ ?_ ?_ ?_
        rotate_left
        · intro w'; go_simp; with_reducible rfl
        rotate_left
        · simp only [Act.put, sq, i64_w, i32_w]; rfl
        refine pu_ 4 35 (msk 27 23) HT_.out ?_ ?_ ?_ ?_ ?_
        rotate_left
        · intro w'; go_simp; with_reducible rfl
        rotate_left
        · simp only [Act.put, sq, i64_w, i32_w]; rfl
        refine tk_ 3 34 (msk 27 31) HT_.out HW_.out hHeld ?_ ?_ ?_ ?_ ?_
        rotate_left
        · rintro w' ⟨s0, s1, s2, s3, s4, s5⟩; go_simp; with_reducible rfl
        rotate_left
        · simp only [Act.put, sq, i64_w, i32_w]; rfl
        refine pu_ 5 36 (msk 27 63) HT_.out ?_ ?_ ?_ ?_ ?_
        rotate_left
        · intro w'; go_simp; with_reducible rfl
        rotate_left
        · simp only [Act.put, sq, i64_w, i32_w]; rfl
        refine tk_ 6 37 (msk 27 127) HT_.out HW_.out hHeld ?_ ?_ ?_ ?_ ?_
        rotate_left
        · rintro w' ⟨s0, s1, s2, s3, s4, s5⟩; go_simp; with_reducible rfl
        rotate_left
        · simp only [Act.put, sq, i64_w, i32_w]; rfl
        refine pu_ 7 38 (msk 27 255) HT_.out ?_ ?_ ?_ ?_ ?_
        rotate_left
        · intro w'; go_simp; with_reducible rfl
        rotate_left
        · simp only [Act.put, sq, i64_w, i32_w]; rfl
        refine pu_ 8 39 (msk 27 511) HT_.out ?_ ?_ ?_ ?_ ?_
        rotate_left
        · intro w'; go_simp; with_reducible rfl
        rotate_left
        · simp only [Act.put, sq, i64_w, i32_w]; rfl
        refine pu_ 9 40 (msk 27 1023) HT_.out ?_ ?_ ?_ ?_ ?_
        rotate_left
        · intro w'; go_simp; with_reducible rfl
        rotate_left
        · simp only [Act.put, sq, i64_w, i32_w]; rfl
        refine pu_ 10 41 (msk 27 2047) HT_.out ?_ ?_ ?_ ?_ ?_
        rotate_left
        · intro w'; go_simp; with_reducible rfl
        rotate_left
        · simp only [Act.put, sq, i64_w, i32_w]; rfl
        refine pu_ 11 42 (msk 27 4095) HT_.out ?_ ?_ ?_ ?_ ?_
        rotate_left
        · intro w'; go_simp; with_reducible rfl
        rotate_left
        · simp only [Act.put, sq, i64_w, i32_w]; rfl
        refine pu_ 13 44 (msk 27 12287) HT_.out ?_ ?_ ?_ ?_ ?_
        rotate_left
        · intro w'; go_simp; with_reducible rfl
        rotate_left
        · simp only [Act.put, sq, i64_w, i32_w]; rfl
        refine pu_ 16 47 (msk 27 77823) HT_.out ?_ ?_ ?_ ?_ ?_
        rotate_left
        · intro w'; go_simp; with_reducible rfl
        rotate_left
        · simp only [Act.put, sq, i64_w, i32_w]; rfl
        refine pu_ 17 48 (msk 27 208895) HT_.out ?_ ?_ ?_ ?_ ?_
        rotate_left
        · intro w'; go_simp; with_reducible rfl
        rotate_left
        · simp only [Act.put, sq, i64_w, i32_w]; rfl
        refine pu_ 18 49 (msk 27 471039) HT_.out ?_ ?_ ?_ ?_ ?_
        rotate_left
        · intro w'; go_simp; with_reducible rfl
        rotate_left
        · simp only [Act.put, sq, i64_w, i32_w]; rfl
        refine pu_ 21 52 (msk 27 2568191) HT_.out ?_ ?_ ?_ ?_ ?_
        rotate_left
        · intro w'; go_simp; with_reducible rfl
        rotate_left
        · simp only [Act.put, sq, i64_w, i32_w]; rfl
        refine pu_ 22 53 (msk 27 6762495) HT_.out ?_ ?_ ?_ ?_ ?_
        rotate_left
        · intro w'; go_simp; with_reducible rfl
        rotate_left
        · simp only [Act.put, sq, i64_w, i32_w]; rfl
        refine pu_ 23 54 (msk 27 15151103) HT_.out ?_ ?_ ?_ ?_ ?_
        rotate_left
        · intro w'; go_simp; with_reducible rfl
        rotate_left
        · simp only [Act.put, sq, i64_w, i32_w]; rfl
        refine tk_ 12 43 (msk 27 15155199) HT_.out HW_.out hHeld ?_ ?_ ?_ ?_ ?_
        rotate_left
        · rintro w' ⟨s0, s1, s2, s3, s4, s5⟩; go_simp; with_reducible rfl
        rotate_left
        · simp only [Act.put, sq, i64_w, i32_w]; rfl
        refine pu_ 14 45 (msk 27 15171583) HT_.out ?_ ?_ ?_ ?_ ?_
        rotate_left
        · intro w'; go_simp; with_reducible rfl
        rotate_left
        · simp only [Act.put, sq, i64_w, i32_w]; rfl
        refine tk_ 15 46 (msk 27 15204351) HT_.out HW_.out hHeld ?_ ?_ ?_ ?_ ?_
        rotate_left
        · rintro w' ⟨s0, s1, s2, s3, s4, s5⟩; go_simp; with_reducible rfl
        rotate_left
        · simp only [Act.put, sq, i64_w, i32_w]; rfl
        refine tk_ 19 50 (msk 27 15728639) HT_.out HW_.out hHeld ?_ ?_ ?_ ?_ ?_
        rotate_left
        · rintro w' ⟨s0, s1, s2, s3, s4, s5⟩; go_simp; with_reducible rfl
        rotate_left
        · simp only [Act.put, sq, i64_w, i32_w]; rfl
        refine pu_ 20 51 (msk 27 16777215) HT_.out ?_ ?_ ?_ ?_ ?_
        rotate_left
        · intro w'; go_simp; with_reducible rfl
        rotate_left
        · simp only [Act.put, sq, i64_w, i32_w]; rfl
        refine tk_ 24 55 (msk 27 33554431) HT_.out HW_.out hHeld ?_ ?_ ?_ ?_ ?_
        rotate_left
        · rintro w' ⟨s0, s1, s2, s3, s4, s5⟩; go_simp; with_reducible rfl
        rotate_left
        · simp only [Act.put, sq, i64_w, i32_w]; rfl
        refine pu_ 25 56 (msk 27 67108863) HT_.out ?_ ?_ ?_ ?_ ?_
        rotate_left
        · intro w'; go_simp; with_reducible rfl
        rotate_left
        · simp only [Act.put, sq, i64_w, i32_w]; rfl
        refine pu_ 26 57 (msk 27 134217727) HT_.out ?_ ?_ ?_ ?_ ?_
        rotate_left
        · intro w'; go_simp; with_reducible rfl
        rotate_left
        · simp only [Act.put, sq, i64_w, i32_w]; rfl
        refine done_ (done_of HT_.out (by kernel_rfl)) ?_
        try go_wp2
        (try simp only [← hl9_3])
        (first | go_roundg k3 | (refine Handed.intro k3 ?measure ?_; rotate_left; go_step; (repeat apply Exists.intro); (refine ⟨?rel, ?fr_⟩); (case fr_ => (simp only [add_plain]; rfl))))
        case measure => have := HK1.out; have := HK2.out; have := HK3.out; omega
        case rel => exact ⟨(x9_3), (wrap64 (x28_3 + 1)), (by first | rfl | (simp; done) | (simp [*]; done)), H', ⟨by have := HK1.out; have := HK2.out; have := HK3.out; omega⟩, ⟨by (try simp only [hl9_2]); (try simp only [hl9_3]); (with_reducible repeat (first | apply Kd.R_alloc | apply Kd.R_drewN | apply Kd.R_drew)); exact HO_8.out⟩, ⟨by (try simp only [hl9_2]); (try simp only [hl9_3]); (with_reducible repeat (first | apply Kd.R_alloc | apply Kd.R_drewN | apply Kd.R_drew)); exact HO_9.out⟩, ⟨by repeat (first | (with_reducible first | exact HB.out | apply below_alloc | apply pw_below_drewN | apply below_drew1) | exact HB.out)⟩⟩
       rw [if_pos c21] at H
       have c21b0 : decide ((rd x9_3 x23_2) < (wrap64 ((rd (rd_L3 l0 x28_3) x23_2) + (rd x8_1 x28_3)))) = true := decide_eq_true c21
       clear c21
       (try (have c21b0r := c21b0; simp only [hl9_2, hl9_3] at c21b0r))
       obtain ⟨y206, hy206⟩ : ∃ y_ : List Int, y_ = (x9_3.set (x23_2 : Int).toNat (wrap64 ((rd (rd_L3 l0 x28_3) x23_2) + (rd x8_1 x28_3)))) := ⟨_, rfl⟩
       replace H : (orreryref20_Least.l2 k3 l0 l1 (l0.length : Int) x8_1 y206 x23_2 (y194.length : Int) x23_2 (l0.length : Int) (wrap64 (x28_3 + 1))) = some (r1, r2, r3) := by first | (rw [hy206]; with_reducible exact H) | (have H2_ := (Option.bind_some _ _).symm.trans H; rw [hy206]; with_reducible exact H2_) | (have H2_ := (Option.bind_some _ _).symm.trans H; with_reducible exact H2_) | with_reducible exact H | (rw [hy206]; exact H) | exact H
       have Ny206 := Aside0.mk hy206
       clear hy206
       have H' := Aside0.mk H
       clear H
       try go_wp2
       have n0_ := Aside0.mk (Kd.R_drew HO_8.out)
       have n1_ := Aside0.mk (Kd.R_drew HO_9.out)
       have n2_ := Aside0.mk (below_drew1 HB.out)
       clear HO_8
       clear HO_9
       clear HB
       have HO_8 := n0_
       have HO_9 := n1_
       have HB := n2_
       clear n0_ n1_ n2_
       have p197 : 0 ≤ (x28_3 : Int) := of_decide_eq_true (by first | (with_reducible assumption) | assumption)
       have q197 : x28_3 < (l0.length : Int) := of_decide_eq_true (by first | (with_reducible assumption) | assumption)
       obtain ⟨ad197, A197_0, c197_0, e197, hx197_0, hl197_0, hi197_0⟩ := at_L3 HR0.out x28_3 p197 q197
       have hw197_0 := hx197_0
       cases e197
       replace hx197_0 := (HB.out.cell (World.block_lt_of_cell? w _ hx197_0)).trans hx197_0
       have HR197_0 := Aside0.mk hi197_0
       have HC197_0 := Aside0.mk hl197_0
       clear hi197_0 hl197_0
       replace p197 := eq_true p197
       replace q197 := eq_true q197
       have p198 : 0 ≤ (x23_2 : Int) := of_decide_eq_true (by first | (with_reducible assumption) | assumption)
       have q198 : x23_2 < ((rd_L3 l0 x28_3).length : Int) := of_decide_eq_true (by first | (with_reducible assumption) | assumption)
       obtain ⟨ad198, e198, hx198_0⟩ := Kd.at_int HR197_0.out x23_2 p198 q198
       have hw198_0 := hx198_0
       cases e198
       replace hx198_0 := (HB.out.cell (World.block_lt_of_cell? w _ hx198_0)).trans hx198_0
       replace p198 := eq_true p198
       replace q198 := eq_true q198
       have p199 : 0 ≤ (x28_3 : Int) := of_decide_eq_true (by first | (with_reducible assumption) | assumption)
       have q199 : x28_3 < (l0.length : Int) := of_decide_eq_true (by first | (with_reducible assumption) | assumption)
       obtain ⟨ad199, A199_0, c199_0, e199, hx199_0, hl199_0, hi199_0⟩ := at_L3 HR0.out x28_3 p199 q199
       have hw199_0 := hx199_0
       obtain rfl : ad197 = ad199 := (by injection e199)
       replace hx199_0 := (HB.out.cell (World.block_lt_of_cell? w _ hx199_0)).trans hx199_0
       have HR199_0 := Aside0.mk hi199_0
       have HC199_0 := Aside0.mk hl199_0
       clear hi199_0 hl199_0
       replace p199 := eq_true p199
       replace q199 := eq_true q199
       have ea_ := Option.some.inj (hx197_0.symm.trans hx199_0)
       injection ea_ with ea_ en_ ec_
       subst ea_
       subst ec_
       clear en_
       have p200 : 0 ≤ (x23_2 : Int) := of_decide_eq_true (by first | (with_reducible assumption) | assumption)
       have q200 : x23_2 < ((rd_L3 l0 x28_3).length : Int) := of_decide_eq_true (by first | (with_reducible assumption) | assumption)
       obtain ⟨ad200, e200, hx200_0⟩ := Kd.at_int HR199_0.out x23_2 p200 q200
       have hw200_0 := hx200_0
       cases e200
       replace hx200_0 := (HB.out.cell (World.block_lt_of_cell? w _ hx200_0)).trans hx200_0
       replace p200 := eq_true p200
       replace q200 := eq_true q200
       obtain ⟨Ao24, co24, eo24⟩ := Kd.R_slice HO_8.out
       (first | subst eo24 | (injection eo24 with f1_ f2_ f3_; have f4_ := f1_.symm; have f5_ := f3_.symm; clear f1_ f2_ f3_; subst f4_; subst f5_))
       have p201 : 0 ≤ (x28_3 : Int) := of_decide_eq_true (by first | (with_reducible assumption) | assumption)
       have q201 : x28_3 < (x8_1.length : Int) := of_decide_eq_true (by first | (with_reducible assumption) | assumption)
       obtain ⟨ad201, e201, hx201_0⟩ := Kd.at_int (Kd.R_reads' HO_8.out).2.2 x28_3 p201 q201
       cases e201
       replace p201 := eq_true p201
       replace q201 := eq_true q201
       have p202 : 0 ≤ (x23_2 : Int) := of_decide_eq_true (by first | (with_reducible assumption) | assumption)
       have q202 : x23_2 < (x9_3.length : Int) := of_decide_eq_true (by first | (with_reducible assumption) | assumption)
       obtain ⟨ad202, e202, hx202_0⟩ := Kd.at_int (Kd.R_reads' HO_9.out).2.2 x23_2 p202 q202
       cases e202
       replace p202 := eq_true p202
       replace q202 := eq_true q202
       refine start_ (n := 27) (S := fun w' => w'.cell? (ad197.add (x28_3).toNat) = some (.slice (some ad198) (rd_L3 l0 x28_3).length c197_0) ∧ w'.cell? (ad198.add (x23_2).toNat) = some (.int .i64 (rd (rd_L3 l0 x28_3) x23_2)) ∧ w'.cell? (ad197.add (x28_3).toNat) = some (.slice (some ad198) (rd_L3 l0 x28_3).length c197_0) ∧ w'.cell? (ad198.add (x23_2).toNat) = some (.int .i64 (rd (rd_L3 l0 x28_3) x23_2)) ∧ w'.cell? (ad201.add (x28_3).toNat) = some (.int .i64 (rd x8_1 x28_3)) ∧ w'.cell? (ad202.add (x23_2).toNat) = some (.int .i64 (rd x9_3 x23_2))) (ds := []) (msk 27 0) (by kernel_rfl) rfl rfl ⟨((HB.out.cell (World.block_lt_of_cell? w _ hw197_0)).trans hw197_0), ((HB.out.cell (World.block_lt_of_cell? w _ hw198_0)).trans hw198_0), ((HB.out.cell (World.block_lt_of_cell? w _ hw199_0)).trans hw199_0), ((HB.out.cell (World.block_lt_of_cell? w _ hw200_0)).trans hw200_0), hx201_0, hx202_0⟩ (fun hHeld => ?_); refine with_tabW orreryref20_Least.tab10 orreryref20_Least.bits10 (fun HT_ HW_ => ?_)
       generalize wr.drew = w23 at HO_8 HO_9 HB HR197_0 HR199_0 hx197_0 hx198_0 hx199_0 hx200_0 hx201_0 hx202_0 hHeld ⊢
       refine pu_ 0 31 (msk 27 1) HT_.out ?_ ?_ ?_ ?_ ?_
       rotate_left
       · intro w'; go_simp; with_reducible rfl
       rotate_left
       · simp only [Act.put, sq, i64_w, i32_w]; rfl
       refine pu_ 1 32 (msk 27 3) HT_.out ?_ ?_ ?_ ?_ ?_
       rotate_left
       · intro w'; go_simp; with_reducible rfl
       rotate_left
       · simp only [Act.put, sq, i64_w, i32_w]; rfl
       refine pu_ 2 33 (msk 27 7) HT_.out ?_ ?_ ?_ ?_ ?_
       rotate_left
       · intro w'; go_simp; with_reducible rfl
       rotate_left
       · simp only [Act.put, sq, i64_w, i32_w]; rfl
       refine pu_ 4 35 (msk 27 23) HT_.out ?_ ?_ ?_ ?_ ?_
       rotate_left
       · intro w'; go_simp; with_reducible rfl
       rotate_left
       · simp only [Act.put, sq, i64_w, i32_w]; rfl
       refine tk_ 3 34 (msk 27 31) HT_.out HW_.out hHeld ?_ ?_ ?_ ?_ ?_
       rotate_left
       · rintro w' ⟨s0, s1, s2, s3, s4, s5⟩; go_simp; with_reducible rfl
       rotate_left
       · simp only [Act.put, sq, i64_w, i32_w]; rfl
       refine pu_ 5 36 (msk 27 63) HT_.out ?_ ?_ ?_ ?_ ?_
       rotate_left
       · intro w'; go_simp; with_reducible rfl
       rotate_left
       · simp only [Act.put, sq, i64_w, i32_w]; rfl
       refine tk_ 6 37 (msk 27 127) HT_.out HW_.out hHeld ?_ ?_ ?_ ?_ ?_
       rotate_left
       · rintro w' ⟨s0, s1, s2, s3, s4, s5⟩; go_simp; with_reducible rfl
       rotate_left
       · simp only [Act.put, sq, i64_w, i32_w]; rfl
       refine pu_ 7 38 (msk 27 255) HT_.out ?_ ?_ ?_ ?_ ?_
       rotate_left
       · intro w'; go_simp; with_reducible rfl
       rotate_left
       · simp only [Act.put, sq, i64_w, i32_w]; rfl
       refine pu_ 8 39 (msk 27 511) HT_.out ?_ ?_ ?_ ?_ ?_
       rotate_left
       · intro w'; go_simp; with_reducible rfl
       rotate_left
       · simp only [Act.put, sq, i64_w, i32_w]; rfl
       refine pu_ 9 40 (msk 27 1023) HT_.out ?_ ?_ ?_ ?_ ?_
       rotate_left
       · intro w'; go_simp; with_reducible rfl
       rotate_left
       · simp only [Act.put, sq, i64_w, i32_w]; rfl
       refine pu_ 10 41 (msk 27 2047) HT_.out ?_ ?_ ?_ ?_ ?_
       rotate_left
       · intro w'; go_simp; with_reducible rfl
       rotate_left
       · simp only [Act.put, sq, i64_w, i32_w]; rfl
       refine pu_ 11 42 (msk 27 4095) HT_.out ?_ ?_ ?_ ?_ ?_
       rotate_left
       · intro w'; go_simp; with_reducible rfl
       rotate_left
       · simp only [Act.put, sq, i64_w, i32_w]; rfl
       refine pu_ 13 44 (msk 27 12287) HT_.out ?_ ?_ ?_ ?_ ?_
       rotate_left
       · intro w'; go_simp; with_reducible rfl
       rotate_left
       · simp only [Act.put, sq, i64_w, i32_w]; rfl
       refine pu_ 16 47 (msk 27 77823) HT_.out ?_ ?_ ?_ ?_ ?_
       rotate_left
       · intro w'; go_simp; with_reducible rfl
       rotate_left
       · simp only [Act.put, sq, i64_w, i32_w]; rfl
       refine pu_ 17 48 (msk 27 208895) HT_.out ?_ ?_ ?_ ?_ ?_
       rotate_left
       · intro w'; go_simp; with_reducible rfl
       rotate_left
       · simp only [Act.put, sq, i64_w, i32_w]; rfl
       refine pu_ 18 49 (msk 27 471039) HT_.out ?_ ?_ ?_ ?_ ?_
       rotate_left
       · intro w'; go_simp; with_reducible rfl
       rotate_left
       · simp only [Act.put, sq, i64_w, i32_w]; rfl
       refine pu_ 21 52 (msk 27 2568191) HT_.out ?_ ?_ ?_ ?_ ?_
       rotate_left
       · intro w'; go_simp; with_reducible rfl
       rotate_left
       · simp only [Act.put, sq, i64_w, i32_w]; rfl
       refine pu_ 22 53 (msk 27 6762495) HT_.out ?_ ?_ ?_ ?_ ?_
       rotate_left
       · intro w'; go_simp; with_reducible rfl
       rotate_left
       · simp only [Act.put, sq, i64_w, i32_w]; rfl
       refine pu_ 23 54 (msk 27 15151103) HT_.out ?_ ?_ ?_ ?_ ?_
       rotate_left
       · intro w'; go_simp; with_reducible rfl
       rotate_left
       · simp only [Act.put, sq, i64_w, i32_w]; rfl
       refine tk_ 12 43 (msk 27 15155199) HT_.out HW_.out hHeld ?_ ?_ ?_ ?_ ?_
       rotate_left
       · rintro w' ⟨s0, s1, s2, s3, s4, s5⟩; go_simp; with_reducible rfl
       rotate_left
       · simp only [Act.put, sq, i64_w, i32_w]; rfl
       refine pu_ 14 45 (msk 27 15171583) HT_.out ?_ ?_ ?_ ?_ ?_
       rotate_left
       · intro w'; go_simp; with_reducible rfl
       rotate_left
       · simp only [Act.put, sq, i64_w, i32_w]; rfl
       refine tk_ 15 46 (msk 27 15204351) HT_.out HW_.out hHeld ?_ ?_ ?_ ?_ ?_
       rotate_left
       · rintro w' ⟨s0, s1, s2, s3, s4, s5⟩; go_simp; with_reducible rfl
       rotate_left
       · simp only [Act.put, sq, i64_w, i32_w]; rfl
       refine tk_ 19 50 (msk 27 15728639) HT_.out HW_.out hHeld ?_ ?_ ?_ ?_ ?_
       rotate_left
       · rintro w' ⟨s0, s1, s2, s3, s4, s5⟩; go_simp; with_reducible rfl
       rotate_left
       · simp only [Act.put, sq, i64_w, i32_w]; rfl
       refine pu_ 20 51 (msk 27 16777215) HT_.out ?_ ?_ ?_ ?_ ?_
       rotate_left
       · intro w'; go_simp; with_reducible rfl
       rotate_left
       · simp only [Act.put, sq, i64_w, i32_w]; rfl
       refine tk_ 24 55 (msk 27 33554431) HT_.out HW_.out hHeld ?_ ?_ ?_ ?_ ?_
       rotate_left
       · rintro w' ⟨s0, s1, s2, s3, s4, s5⟩; go_simp; with_reducible rfl
       rotate_left
       · simp only [Act.put, sq, i64_w, i32_w]; rfl
       refine pu_ 25 56 (msk 27 67108863) HT_.out ?_ ?_ ?_ ?_ ?_
       rotate_left
       · intro w'; go_simp; with_reducible rfl
       rotate_left
       · simp only [Act.put, sq, i64_w, i32_w]; rfl
       refine pu_ 26 57 (msk 27 134217727) HT_.out ?_ ?_ ?_ ?_ ?_
       rotate_left
       · intro w'; go_simp; with_reducible rfl
       rotate_left
       · simp only [Act.put, sq, i64_w, i32_w]; rfl
       refine done_ (done_of HT_.out (by kernel_rfl)) ?_
       try go_wp2
       have n0_ := Aside0.mk (Kd.R_drew HO_8.out)
       have n1_ := Aside0.mk (Kd.R_drew HO_9.out)
       have n2_ := Aside0.mk (below_drew1 HB.out)
       clear HO_8
       clear HO_9
       clear HB
       have HO_8 := n0_
       have HO_9 := n1_
       have HB := n2_
       clear n0_ n1_ n2_
       have p203 : 0 ≤ (x28_3 : Int) := of_decide_eq_true (by first | (with_reducible assumption) | assumption)
       have q203 : x28_3 < (l0.length : Int) := of_decide_eq_true (by first | (with_reducible assumption) | assumption)
       obtain ⟨ad203, A203_0, c203_0, e203, hx203_0, hl203_0, hi203_0⟩ := at_L3 HR0.out x28_3 p203 q203
       have hw203_0 := hx203_0
       obtain rfl : ad197 = ad203 := (by injection e203)
       replace hx203_0 := (HB.out.cell (World.block_lt_of_cell? w _ hx203_0)).trans hx203_0
       have HR203_0 := Aside0.mk hi203_0
       have HC203_0 := Aside0.mk hl203_0
       clear hi203_0 hl203_0
       replace p203 := eq_true p203
       replace q203 := eq_true q203
       have p204 : 0 ≤ (x23_2 : Int) := of_decide_eq_true (by first | (with_reducible assumption) | assumption)
       have q204 : x23_2 < ((rd_L3 l0 x28_3).length : Int) := of_decide_eq_true (by first | (with_reducible assumption) | assumption)
       obtain ⟨ad204, e204, hx204_0⟩ := Kd.at_int HR203_0.out x23_2 p204 q204
       have hw204_0 := hx204_0
       cases e204
       replace hx204_0 := (HB.out.cell (World.block_lt_of_cell? w _ hx204_0)).trans hx204_0
       replace p204 := eq_true p204
       replace q204 := eq_true q204
       have p205 : 0 ≤ (x28_3 : Int) := of_decide_eq_true (by first | (with_reducible assumption) | assumption)
       have q205 : x28_3 < (x8_1.length : Int) := of_decide_eq_true (by first | (with_reducible assumption) | assumption)
       obtain ⟨ad205, e205, hx205_0⟩ := Kd.at_int (Kd.R_reads' HO_8.out).2.2 x28_3 p205 q205
       obtain rfl : ad201 = ad205 := (by injection e205)
       replace p205 := eq_true p205
       replace q205 := eq_true q205
       have p22 : 0 ≤ (x23_2 : Int) := of_decide_eq_true (by first | (with_reducible assumption) | assumption)
       have q22 : (x23_2 : Int) < ((x9_3.length : Int) : Int) := of_decide_eq_true (by first | (with_reducible assumption) | assumption)
       obtain ⟨go22, co22, eo22, gb22, gl22, cl22, HG22⟩ := Kd.R_form HO_9.out (by omega)
       (first | cases eo22 | (injection eo22 with ea_ en_ ec_; (first | subst ea_ | (injection ea_ with ea_; subst ea_)); subst ec_; clear en_))
       have GB22 := Aside0.mk gb22
       have GG22 := Aside0.mk HG22
       clear gb22 gl22 HG22
       (first | simp only [add_plain] at hx202_0 | skip)
       obtain ⟨hx22_0, hf22_0⟩ := Kd.R_celln 0 HO_9.out (x23_2 : Int) p22 q22
       replace p22 := eq_true p22
       replace q22 := eq_true q22
       have HP26 := Kd.R_putn HO_9.out (x23_2 : Int) (wrap64 ((rd (rd_L3 l0 x28_3) x23_2) + (rd x8_1 x28_3)))
       rw [← Ny206.out] at HP26
       have HQ26 := Aside0.mk HP26
       clear HP26
       refine start_ (n := 16) (S := fun w' => w'.cell? (ad197.add (x28_3).toNat) = some (.slice (some ad204) (rd_L3 l0 x28_3).length c203_0) ∧ w'.cell? (ad204.add (x23_2).toNat) = some (.int .i64 (rd (rd_L3 l0 x28_3) x23_2)) ∧ w'.cell? (ad201.add (x28_3).toNat) = some (.int .i64 (rd x8_1 x28_3))) (ds := [15]) (msk 16 0) (by kernel_rfl) rfl rfl ⟨((HB.out.cell (World.block_lt_of_cell? w _ hw203_0)).trans hw203_0), ((HB.out.cell (World.block_lt_of_cell? w _ hw204_0)).trans hw204_0), hx205_0⟩ (fun hHeld => ?_); refine with_tabW orreryref20_Least.tab11 orreryref20_Least.bits11 (fun HT_ HW_ => ?_)
       generalize w23.drew = w25 at HO_8 HO_9 HB GG22 HQ26 HR203_0 hf22_0 hx202_0 hx203_0 hx204_0 hx205_0 hx22_0 hHeld ⊢
       refine pu_ 0 58 (msk 16 1) HT_.out ?_ ?_ ?_ ?_ ?_
       rotate_left
       · intro w'; go_simp; with_reducible rfl
       rotate_left
       · simp only [Act.put, sq, i64_w, i32_w]; rfl
       refine pu_ 1 59 (msk 16 3) HT_.out ?_ ?_ ?_ ?_ ?_
       rotate_left
       · intro w'; go_simp; with_reducible rfl
       rotate_left
       · simp only [Act.put, sq, i64_w, i32_w]; rfl
       refine pu_ 2 60 (msk 16 7) HT_.out ?_ ?_ ?_ ?_ ?_
       rotate_left
       · intro w'; go_simp; with_reducible rfl
       rotate_left
       · simp only [Act.put, sq, i64_w, i32_w]; rfl
       refine pu_ 3 61 (msk 16 15) HT_.out ?_ ?_ ?_ ?_ ?_
       rotate_left
       · intro w'; go_simp; with_reducible rfl
       rotate_left
       · simp only [Act.put, sq, i64_w, i32_w]; rfl
       refine pu_ 4 62 (msk 16 31) HT_.out ?_ ?_ ?_ ?_ ?_
       rotate_left
       · intro w'; go_simp; with_reducible rfl
       rotate_left
       · simp only [Act.put, sq, i64_w, i32_w]; rfl
       refine pu_ 6 64 (msk 16 95) HT_.out ?_ ?_ ?_ ?_ ?_
       rotate_left
       · intro w'; go_simp; with_reducible rfl
       rotate_left
       · simp only [Act.put, sq, i64_w, i32_w]; rfl
       refine pu_ 9 67 (msk 16 607) HT_.out ?_ ?_ ?_ ?_ ?_
       rotate_left
       · intro w'; go_simp; with_reducible rfl
       rotate_left
       · simp only [Act.put, sq, i64_w, i32_w]; rfl
       refine pu_ 10 68 (msk 16 1631) HT_.out ?_ ?_ ?_ ?_ ?_
       rotate_left
       · intro w'; go_simp; with_reducible rfl
       rotate_left
       · simp only [Act.put, sq, i64_w, i32_w]; rfl
       refine pu_ 11 69 (msk 16 3679) HT_.out ?_ ?_ ?_ ?_ ?_
       rotate_left
       · intro w'; go_simp; with_reducible rfl
       rotate_left
       · simp only [Act.put, sq, i64_w, i32_w]; rfl
       refine tk_ 5 63 (msk 16 3711) HT_.out HW_.out hHeld ?_ ?_ ?_ ?_ ?_
       rotate_left
       · rintro w' ⟨s0, s1, s2⟩; go_simp; with_reducible rfl
       rotate_left
       · simp only [Act.put, sq, i64_w, i32_w]; rfl
       refine pu_ 7 65 (msk 16 3839) HT_.out ?_ ?_ ?_ ?_ ?_
       rotate_left
       · intro w'; go_simp; with_reducible rfl
       rotate_left
       · simp only [Act.put, sq, i64_w, i32_w]; rfl
       refine tk_ 8 66 (msk 16 4095) HT_.out HW_.out hHeld ?_ ?_ ?_ ?_ ?_
       rotate_left
       · rintro w' ⟨s0, s1, s2⟩; go_simp; with_reducible rfl
       rotate_left
       · simp only [Act.put, sq, i64_w, i32_w]; rfl
       refine tk_ 12 70 (msk 16 8191) HT_.out HW_.out hHeld ?_ ?_ ?_ ?_ ?_
       rotate_left
       · rintro w' ⟨s0, s1, s2⟩; go_simp; with_reducible rfl
       rotate_left
       · simp only [Act.put, sq, i64_w, i32_w]; rfl
       refine pu_ 13 71 (msk 16 16383) HT_.out ?_ ?_ ?_ ?_ ?_
       rotate_left
       · intro w'; go_simp; with_reducible rfl
       rotate_left
       · simp only [Act.put, sq, i64_w, i32_w]; rfl
       refine pu_ 14 72 (msk 16 32767) HT_.out ?_ ?_ ?_ ?_ ?_
       rotate_left
       · intro w'; go_simp; with_reducible rfl
       rotate_left
       · simp only [Act.put, sq, i64_w, i32_w]; rfl
       refine last_ (i := 15) (N := none) (msk 16 65535) rfl rfl (one_of HT_.out (by kernel_rfl)) (by decide) (fun K hK => ?_)
       refine skip_ (w1 := ?_) (by rfl) rfl ?_ ?_
       rotate_left
       · go_simp
         rfl
       refine hK.out _ _ ?_
       clear hK K
       refine done_ (done_of HT_.out (by kernel_rfl)) ?_
       try go_wp2
       (try simp only [← hl9_3])
       (first | go_roundg k3 | (refine Handed.intro k3 ?measure ?_; rotate_left; go_step; (repeat apply Exists.intro); (refine ⟨?rel, ?fr_⟩); (case fr_ => (simp only [add_plain]; rfl))))
       case measure => have := HK1.out; have := HK2.out; have := HK3.out; omega
       case rel => exact ⟨(y206), (wrap64 (x28_3 + 1)), (by first | rfl | (simp; done) | (simp [*]; done)), H', ⟨by have := HK1.out; have := HK2.out; have := HK3.out; omega⟩, ⟨by (try simp only [hl9_2]); (try simp only [hl9_3]); (with_reducible repeat (first | apply Kd.R_alloc | apply Kd.R_drewN | apply Kd.R_drew)); exact Kd.R_mono (Kd.R_far (p := ⟨go22, (x23_2 : Int).toNat, none⟩) (Kd.R_mono HO_8.out (fun k_ hk => (⟨hk, fun e_ => hk (by rw [e_]; rfl)⟩ : _ ∧ k_ ≠ go22))) (fun _ hk => hk.2) (.int .i64 (wrap64 ((rd (rd_L3 l0 x28_3) x23_2) + (rd x8_1 x28_3))))) (fun _ hk => hk.1)⟩, ⟨by (try simp only [hl9_2]); (try simp only [hl9_3]); (with_reducible repeat (first | apply Kd.R_alloc | apply Kd.R_drewN | apply Kd.R_drew)); exact HQ26.out⟩, ⟨by repeat (first | (with_reducible first | exact HB.out | apply below_alloc | apply pw_below_drewN | apply below_drew1 | refine below_set ?_ GB22.out) | exact HB.out)⟩⟩

end Go.Proofs.Ytamloclgignfgaa.PA
