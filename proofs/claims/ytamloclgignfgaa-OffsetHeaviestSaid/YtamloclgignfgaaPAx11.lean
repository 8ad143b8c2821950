/- What the Go functions of this part compute, as Lean functions, and that the machine's calls come to just that; written for this claim by a program of the session (gen.sh, after the kit's printer). -/
import Derived.Test.YtamloclgignfgaaPAx0
import Derived.Test.YtamloclgignfgaaSq
import Derived.Test.YtamloclgignfgaaGiven
namespace Go.Proofs.Ytamloclgignfgaa.PA
open Go.RowKit Go.Proofs.YtamloclgignfgaaW.PrintWords Go.Proofs.YtamloclgignfgaaW.PrintLast Go.Proofs.YtamloclgignfgaaW.PrintMore
attribute [local go_sem] max2_int min2_int max_two min_two max_three min_three max_four min_four   -- for this text's walks alone
set_option linter.unusedVariables false
set_option linter.unusedSimpArgs false

/-! ### offset_Offsets: function 18 -/
mutual
def offset_Offsets.l0 : Nat → Int → List (S40) → List Int → List Int → List (S40) → Int → Int → Option (List Int × List Int × Int)
  | 0, _, _, _, _, _, _, _ => none
  | k + 1, x0, x1, x2, x9, x27, x28, x29 => if x29 < x28 then (if 0 ≤ x29 then (if x29 < (x27.length : Int) then (if 0 ≤ ((rd_T40 x27 x29).f0) then (if ((rd_T40 x27 x29).f0) < (x2.length : Int) then (if (rd x2 ((rd_T40 x27 x29).f0)) = ((rd_T40 x27 x29).f1) then (if ((rd_T40 x27 x29).f0) < (x9.length : Int) then (offset_Offsets.l0 k x0 x1 x2 (x9.set (((rd_T40 x27 x29).f0) : Int).toNat (mx (rd x9 ((rd_T40 x27 x29).f0)) ((rd_T40 x27 x29).f2))) x27 x28 (wrap64 (x29 + 1))) else (none)) else (offset_Offsets.l0 k x0 x1 x2 x9 x27 x28 (wrap64 (x29 + 1)))) else (none)) else (none)) else (none)) else (none)) else (if 0 ≤ x0 then (if (x0 : Int).toNat ≤ 35184372088832 then (offset_Offsets.l1 k x1 x2 x9 (List.replicate (x0 : Int).toNat 0) (List.replicate (x0 : Int).toNat 0)) else (none)) else (none))
def offset_Offsets.l1 : Nat → List (S40) → List Int → List Int → List Int → List Int → Option (List Int × List Int × Int)
  | 0, _, _, _, _, _ => none
  | k + 1, x1, x2, x9, x12, x13 => offset_Offsets.l2 k x1 x2 x9 x12 x13 x1 (x1.length : Int) 0
def offset_Offsets.l2 : Nat → List (S40) → List Int → List Int → List Int → List Int → List (S40) → Int → Int → Option (List Int × List Int × Int)
  | 0, _, _, _, _, _, _, _, _ => none
  | k + 1, x1, x2, x9, x12, x13, x58, x59, x60 => if x60 < x59 then (if 0 ≤ x60 then (if x60 < (x58.length : Int) then (if 0 ≤ ((rd_T40 x58 x60).f1) then (if ((rd_T40 x58 x60).f1) < (x13.length : Int) then (if 0 ≤ ((rd_T40 x58 x60).f0) then (if ((rd_T40 x58 x60).f0) < (x12.length : Int) then (offset_Offsets.l2 k x1 x2 x9 x12 (x13.set (((rd_T40 x58 x60).f1) : Int).toNat (mx (rd x13 ((rd_T40 x58 x60).f1)) (wrap64 (((rd_T40 x58 x60).f2) + (rd x12 ((rd_T40 x58 x60).f0)))))) x58 x59 (wrap64 (x60 + 1))) else (none)) else (none)) else (none)) else (none)) else (none)) else (none)) else (offset_Offsets.l3 k x1 x2 x9 x12 x13 false x2 (x2.length : Int) 0)
def offset_Offsets.l3 : Nat → List (S40) → List Int → List Int → List Int → List Int → Bool → List Int → Int → Int → Option (List Int × List Int × Int)
  | 0, _, _, _, _, _, _, _, _, _ => none
  | k + 1, x1, x2, x9, x12, x13, x16, x83, x84, x85 => if x85 < x84 then (if 0 ≤ x85 then (if x85 < (x83.length : Int) then (if 0 ≤ (rd x83 x85) then (if (rd x83 x85) < (x13.length : Int) then (if x85 < (x9.length : Int) then (if x85 < (x12.length : Int) then (if (wrap64 ((rd x13 (rd x83 x85)) - (rd x9 x85))) = (rd x12 x85) then (if (rd x12 x85) > 6 then (some (([] : List Int), ([] : List Int), 2)) else (offset_Offsets.l3 k x1 x2 x9 x12 x13 x16 x83 x84 (wrap64 (x85 + 1)))) else ((some (x12.set (x85 : Int).toNat (wrap64 ((rd x13 (rd x83 x85)) - (rd x9 x85))) : List Int)).bind fun y183 => (if (rd y183 x85) > 6 then (some (([] : List Int), ([] : List Int), 2)) else (offset_Offsets.l3 k x1 x2 x9 y183 x13 true x83 x84 (wrap64 (x85 + 1)))))) else (none)) else (none)) else (none)) else (none)) else (none)) else (none)) else (if x16 = true then (offset_Offsets.l1 k x1 x2 x9 x12 x13) else (some (x12, x13, 0)))
end
def offset_Offsets.f (k : Nat) (a0 : Int) (l1 : List (S40)) (l2 : List Int) : Option (List Int × List Int × Int) := (offset_right.f a0 l1 l2).bind fun t158 => (if t158 = true then (if 0 ≤ a0 then (if (a0 : Int).toNat ≤ 35184372088832 then (offset_Offsets.l0 k a0 l1 l2 (List.replicate (a0 : Int).toNat 0) l1 (l1.length : Int) 0) else (none)) else (none)) else (some (([] : List Int), ([] : List Int), 170)))
theorem offset_Offsets.mono_l : ∀ k, (∀ y0 y1 y2 y3 y4 y5 y6, LeO (offset_Offsets.l0 k y0 y1 y2 y3 y4 y5 y6) (offset_Offsets.l0 (k + 1) y0 y1 y2 y3 y4 y5 y6)) ∧ (∀ y0 y1 y2 y3 y4, LeO (offset_Offsets.l1 k y0 y1 y2 y3 y4) (offset_Offsets.l1 (k + 1) y0 y1 y2 y3 y4)) ∧ (∀ y0 y1 y2 y3 y4 y5 y6 y7, LeO (offset_Offsets.l2 k y0 y1 y2 y3 y4 y5 y6 y7) (offset_Offsets.l2 (k + 1) y0 y1 y2 y3 y4 y5 y6 y7)) ∧ (∀ y0 y1 y2 y3 y4 y5 y6 y7 y8, LeO (offset_Offsets.l3 k y0 y1 y2 y3 y4 y5 y6 y7 y8) (offset_Offsets.l3 (k + 1) y0 y1 y2 y3 y4 y5 y6 y7 y8))
  | 0 => ⟨fun _ _ _ _ _ _ _ r h => by simp [offset_Offsets.l0] at h, fun _ _ _ _ _ r h => by simp [offset_Offsets.l1] at h, fun _ _ _ _ _ _ _ _ r h => by simp [offset_Offsets.l2] at h, fun _ _ _ _ _ _ _ _ _ r h => by simp [offset_Offsets.l3] at h⟩
  | k + 1 => by
    obtain ⟨ih0, ih1, ih2, ih3⟩ := offset_Offsets.mono_l k
    refine ⟨?_, ?_, ?_, ?_⟩
    · intro y0 y1 y2 y3 y4 y5 y6
      unfold offset_Offsets.l0
      repeat' first
      | (with_reducible exact ih0 _ _ _ _ _ _ _)
      | (with_reducible exact ih1 _ _ _ _ _)
      | (with_reducible exact ih2 _ _ _ _ _ _ _ _)
      | (with_reducible exact ih3 _ _ _ _ _ _ _ _ _)
      | (with_reducible exact LeO.refl _)
      | (with_reducible exact LeO.none _)
      | (with_reducible refine LeO.ite ?_ ?_)
      | (with_reducible refine LeO.bind ?_ (fun _ => ?_))
      | exact ih0 _ _ _ _ _ _ _
      | exact ih1 _ _ _ _ _
      | exact ih2 _ _ _ _ _ _ _ _
      | exact ih3 _ _ _ _ _ _ _ _ _
      | exact LeO.none _
      | refine LeO.ite ?_ ?_
      | refine LeO.bind ?_ (fun _ => ?_)
    · intro y0 y1 y2 y3 y4
      unfold offset_Offsets.l1
      repeat' first
      | (with_reducible exact ih0 _ _ _ _ _ _ _)
      | (with_reducible exact ih1 _ _ _ _ _)
      | (with_reducible exact ih2 _ _ _ _ _ _ _ _)
      | (with_reducible exact ih3 _ _ _ _ _ _ _ _ _)
      | (with_reducible exact LeO.refl _)
      | (with_reducible exact LeO.none _)
      | (with_reducible refine LeO.ite ?_ ?_)
      | (with_reducible refine LeO.bind ?_ (fun _ => ?_))
      | exact ih0 _ _ _ _ _ _ _
      | exact ih1 _ _ _ _ _
      | exact ih2 _ _ _ _ _ _ _ _
      | exact ih3 _ _ _ _ _ _ _ _ _
      | exact LeO.none _
      | refine LeO.ite ?_ ?_
      | refine LeO.bind ?_ (fun _ => ?_)
    · intro y0 y1 y2 y3 y4 y5 y6 y7
      unfold offset_Offsets.l2
      repeat' first
      | (with_reducible exact ih0 _ _ _ _ _ _ _)
      | (with_reducible exact ih1 _ _ _ _ _)
      | (with_reducible exact ih2 _ _ _ _ _ _ _ _)
      | (with_reducible exact ih3 _ _ _ _ _ _ _ _ _)
      | (with_reducible exact LeO.refl _)
      | (with_reducible exact LeO.none _)
      | (with_reducible refine LeO.ite ?_ ?_)
      | (with_reducible refine LeO.bind ?_ (fun _ => ?_))
      | exact ih0 _ _ _ _ _ _ _
      | exact ih1 _ _ _ _ _
      | exact ih2 _ _ _ _ _ _ _ _
      | exact ih3 _ _ _ _ _ _ _ _ _
      | exact LeO.none _
      | refine LeO.ite ?_ ?_
      | refine LeO.bind ?_ (fun _ => ?_)
    · intro y0 y1 y2 y3 y4 y5 y6 y7 y8
      unfold offset_Offsets.l3
      repeat' first
      | (with_reducible exact ih0 _ _ _ _ _ _ _)
      | (with_reducible exact ih1 _ _ _ _ _)
      | (with_reducible exact ih2 _ _ _ _ _ _ _ _)
      | (with_reducible exact ih3 _ _ _ _ _ _ _ _ _)
      | (with_reducible exact LeO.refl _)
      | (with_reducible exact LeO.none _)
      | (with_reducible refine LeO.ite ?_ ?_)
      | (with_reducible refine LeO.bind ?_ (fun _ => ?_))
      | exact ih0 _ _ _ _ _ _ _
      | exact ih1 _ _ _ _ _
      | exact ih2 _ _ _ _ _ _ _ _
      | exact ih3 _ _ _ _ _ _ _ _ _
      | exact LeO.none _
      | refine LeO.ite ?_ ?_
      | refine LeO.bind ?_ (fun _ => ?_)
theorem offset_Offsets.mono : ∀ a0 a1 a2 k, LeO (offset_Offsets.f k a0 a1 a2) (offset_Offsets.f (k + 1) a0 a1 a2) := by
 intro a0 a1 a2 k
 obtain ⟨ih0, ih1, ih2, ih3⟩ := offset_Offsets.mono_l k
 unfold offset_Offsets.f
 repeat' first
     | (with_reducible exact ih0 _ _ _ _ _ _ _)
     | (with_reducible exact ih1 _ _ _ _ _)
     | (with_reducible exact ih2 _ _ _ _ _ _ _ _)
     | (with_reducible exact ih3 _ _ _ _ _ _ _ _ _)
     | (with_reducible exact LeO.refl _)
     | (with_reducible exact LeO.none _)
     | (with_reducible refine LeO.ite ?_ ?_)
     | (with_reducible refine LeO.bind ?_ (fun _ => ?_))
     | exact ih0 _ _ _ _ _ _ _
     | exact ih1 _ _ _ _ _
     | exact ih2 _ _ _ _ _ _ _ _
     | exact ih3 _ _ _ _ _ _ _ _ _
     | exact LeO.none _
     | refine LeO.ite ?_ ?_
     | refine LeO.bind ?_ (fun _ => ?_)
def offset_Offsets.T7 : Bool × List (List Nat × List Nat) := (true, [([], []), ([], []), ([1], [1]), ([0, 2], [0, 2]), ([3], [3]), ([], []), ([5], [5]), ([4, 6], [4, 6])])
def offset_Offsets.B7 : List Nat := [0, 0, 2, 7, 15, 0, 32, 127]
theorem offset_Offsets.tab7 : rtab .any (opsOf Try.f18 7) = offset_Offsets.T7 := by kernel_rfl
theorem offset_Offsets.bits7 : waitsOk offset_Offsets.T7.2 offset_Offsets.B7 = true := by kernel_rfl
def offset_Offsets.T8 : Bool × List (List Nat × List Nat) := (true, [([], []), ([], []), ([1], [1]), ([], []), ([], []), ([4], [4]), ([3, 5], [3, 5]), ([6], [6]), ([], []), ([8], [8]), ([7, 9], [7, 9]), ([0, 2, 0, 1, 2, 3, 4, 5, 6, 7, 8, 9, 10], [0, 2]), ([11, 10, 0, 1, 2, 3, 4, 5, 6, 7, 8, 9, 10], [10, 11])])
def offset_Offsets.B8 : List Nat := [0, 0, 2, 0, 0, 16, 56, 120, 0, 256, 1016, 2047, 4095]
theorem offset_Offsets.tab8 : rtab .any (opsOf Try.f18 8) = offset_Offsets.T8 := by kernel_rfl
theorem offset_Offsets.bits8 : waitsOk offset_Offsets.T8.2 offset_Offsets.B8 = true := by kernel_rfl
def offset_Offsets.T14 : Bool × List (List Nat × List Nat) := (true, [([], []), ([], []), ([1], [1]), ([], []), ([], []), ([4], [4]), ([3, 5], [3, 5]), ([6], [6]), ([], []), ([8], [8]), ([], []), ([], []), ([11], [11]), ([10, 12], [10, 12]), ([13], [13]), ([9, 14], [9, 14]), ([7, 15], [7, 15]), ([0, 2, 0, 1, 2, 3, 4, 5, 6, 7, 8, 9, 10, 11, 12, 13, 14, 15, 16], [0, 2]), ([17, 16, 0, 1, 2, 3, 4, 5, 6, 7, 8, 9, 10, 11, 12, 13, 14, 15, 16], [16, 17])])
def offset_Offsets.B14 : List Nat := [0, 0, 2, 0, 0, 16, 56, 120, 0, 256, 0, 0, 2048, 7168, 15360, 32512, 65528, 131071, 262143]
theorem offset_Offsets.tab14 : rtab .any (opsOf Try.f18 14) = offset_Offsets.T14 := by kernel_rfl
theorem offset_Offsets.bits14 : waitsOk offset_Offsets.T14.2 offset_Offsets.B14 = true := by kernel_rfl
def offset_Offsets.T20 : Bool × List (List Nat × List Nat) := (true, [([], []), ([], []), ([0, 1], [0, 1]), ([2], [2]), ([], []), ([], []), ([4, 5], [4, 5]), ([6], [6]), ([3, 7], [3, 7]), ([8, 0, 1, 2, 3, 4, 5, 6, 7, 8], [8])])
def offset_Offsets.B20 : List Nat := [0, 0, 3, 7, 0, 0, 48, 112, 255, 511]
theorem offset_Offsets.tab20 : rtab .any (opsOf Try.f18 20) = offset_Offsets.T20 := by kernel_rfl
theorem offset_Offsets.bits20 : waitsOk offset_Offsets.T20.2 offset_Offsets.B20 = true := by kernel_rfl
set_option maxHeartbeats 8000000 in
set_option maxRecDepth 100000 in
theorem offset_Offsets.calls (k : Nat) (a0 : Int) (A1 : Option Addr) (c1 : Nat) (l1 : List (S40)) (A2 : Option Addr) (c2 : Nat) (l2 : List Int) (r1 : List Int) (r2 : List Int) (r3 : Int) (w : World) (hr1 : Kd.C k40 w A1 l1.length l1) (hc1 : l1.length ≤ c1) (hr2 : Kd.C (Kd.int .i64) w A2 l2.length l2) (hc2 : l2.length ≤ c2) (h : offset_Offsets.f k a0 l1 l2 = some (r1, r2, r3)) :
    Calls Try.prog 18 #[.int .i64 a0, .slice A1 l1.length c1, .slice A2 l2.length c2] w fun e w' => ∃ v0_ v1_ : Value, e = .returned (.tuple #[v0_, v1_, .int .i64 r3]) ∧ Kd.R (Kd.int .i64) 3 w' w.heap.size (fun k_ => some k_ ≠ (v1_ : Value).ownBlock) v0_ r1 ∧ Kd.R (Kd.int .i64) 3 w' w.heap.size (fun k_ => some k_ ≠ (v0_ : Value).ownBlock) v1_ r2 ∧ Below w.heap.size w w' := by
 have hu40 := Try.underlying40
 have HR1 := Aside0.mk hr1
 have HC1 := Aside0.mk hc1
 clear hr1 hc1
 have HR2 := Aside0.mk hr2
 have HC2 := Aside0.mk hc2
 clear hr2 hc2
 have HB := Aside0.mk (Below.refl w.heap.size w)
 have H : ((offset_right.f a0 l1 l2).bind fun t158 => (if t158 = true then (if 0 ≤ a0 then (if (a0 : Int).toNat ≤ 35184372088832 then (offset_Offsets.l0 k a0 l1 l2 (List.replicate (a0 : Int).toNat 0) l1 (l1.length : Int) 0) else (none)) else (none)) else (some (([] : List Int), ([] : List Int), 170)))) = some (r1, r2, r3) := h
 clear h
 replace H := Option.bind_eq_some_iff.mp H
 obtain ⟨t158, A40, H⟩ := H
 replace H : (if t158 = true then (if 0 ≤ a0 then (if (a0 : Int).toNat ≤ 35184372088832 then (offset_Offsets.l0 k a0 l1 l2 (List.replicate (a0 : Int).toNat 0) l1 (l1.length : Int) 0) else (none)) else (none)) else (some (([] : List Int), ([] : List Int), 170))) = some (r1, r2, r3) := H
 have A4 := Aside0.mk A40
 clear A40
 by_cases c5 : t158 = true
 case neg =>
  replace c5 := Bool.eq_false_iff.mpr c5
  subst c5
  have H1 : (some (([] : List Int), ([] : List Int), 170)) = some (r1, r2, r3) := by rw [if_neg (show ¬ (false = true) by decide)] at H; exact H
  clear H
  have H := H1
  clear H1
  simp only [Option.some.injEq, Prod.mk.injEq] at H
  obtain ⟨rfl, rfl, rfl⟩ := H
  go_enter Try.func18, Try.ntmps18
  go_wp2
  refine wp_scope_body ?_
  go_wp2_with (first | ((with_reducible refine gate_callee (f := 30) rfl ?_); refine goesL_ (some 23) rfl rfl Try.func30 (by kernel_rfl) rfl #[.int .i64 a0, .slice A1 l1.length c1, .slice A2 l2.length c2] rfl (by (try simp only [List.map_toArray, List.map_cons, List.map_nil]); first | done | rfl | (simp only [List.length_drop, List.length_take]; rfl)) ?_; (with_reducible refine (offset_right.calls a0 _ _ l1 _ _ l2 false _ ?side1 ?side2 ?side3 ?side4 A4.out).mono ?_); (case side1 => repeat (first | exact HR1.out | (with_reducible refine Kd.C_alloc ?_ _) | (with_reducible refine Kd.C_drewN ?_ _) | (with_reducible refine Kd.C_drew ?_))); (case side2 => exact HC1.out); (case side3 => repeat (first | exact HR2.out | (with_reducible refine Kd.C_alloc ?_ _) | (with_reducible refine Kd.C_drewN ?_ _) | (with_reducible refine Kd.C_drew ?_))); (case side4 => exact HC2.out); rintro e w87 ⟨rfl, hb⟩; refine ⟨_, rfl, ?_⟩; have n0_ := Aside0.mk (below_step (by repeat (first | (with_reducible first | exact HB.out | apply below_alloc | apply pw_below_drewN | apply below_drew1) | exact HB.out)) hb); clear HB; have HB := n0_; clear n0_; (try clear hb); (try clear hb2); (try clear hk); (try clear hi)))
  go_ret3
  exact ⟨_, _, by first | rfl | (simp [errW_none, errW_some] <;> rfl) | (simp [*, errW_none, errW_some] <;> rfl), by first | exact Kd.R_nil _ _ _ _ _ | exact Kd.N_nil _ _ _ _ _ | exact Kd.V_nil _ _ _ _ _ | exact Kd.Q_nil _ _ _ _ _ | exact Kd.S_nil _ _ _ _ _, by first | exact Kd.R_nil _ _ _ _ _ | exact Kd.N_nil _ _ _ _ _ | exact Kd.V_nil _ _ _ _ _ | exact Kd.Q_nil _ _ _ _ _ | exact Kd.S_nil _ _ _ _ _, by repeat (first | (with_reducible first | exact HB.out | apply below_alloc | apply pw_below_drewN | apply below_drew1) | exact HB.out)⟩
 subst c5
 have H1 : (if 0 ≤ a0 then (if (a0 : Int).toNat ≤ 35184372088832 then (offset_Offsets.l0 k a0 l1 l2 (List.replicate (a0 : Int).toNat 0) l1 (l1.length : Int) 0) else (none)) else (none)) = some (r1, r2, r3) := by rw [if_pos rfl] at H; exact H
 clear H
 have H := H1
 clear H1
 by_cases c6 : 0 ≤ a0
 case neg => rw [if_neg c6] at H; exact absurd H (by simp)
 rw [if_pos c6] at H
 have c6b0 := eq_true c6
 have c6b1 : decide (0 ≤ a0) = true := decide_eq_true c6
 clear c6
 by_cases c7 : (a0 : Int).toNat ≤ 35184372088832
 case neg => rw [if_neg c7] at H; exact absurd H (by simp)
 rw [if_pos c7] at H
 have c7b0 := eq_true c7
 have c7b1 : decide ((a0 : Int).toNat ≤ 35184372088832) = true := decide_eq_true c7
 clear c7
 obtain ⟨y159, hy159⟩ : ∃ y_ : List Int, y_ = (List.replicate (a0 : Int).toNat 0) := ⟨_, rfl⟩
 replace H : (offset_Offsets.l0 k a0 l1 l2 y159 l1 (l1.length : Int) 0) = some (r1, r2, r3) := by first | (rw [hy159]; with_reducible exact H) | (have H2_ := (Option.bind_some _ _).symm.trans H; rw [hy159]; with_reducible exact H2_) | (have H2_ := (Option.bind_some _ _).symm.trans H; with_reducible exact H2_) | with_reducible exact H | (rw [hy159]; exact H) | exact H
 have Ny159 := Aside0.mk hy159
 clear hy159
 have H' := Aside0.mk H
 clear H
 go_enter Try.func18, Try.ntmps18
 go_wp2
 refine wp_scope_body ?_
 go_wp2_with (first | ((with_reducible refine gate_callee (f := 30) rfl ?_); refine goesL_ (some 23) rfl rfl Try.func30 (by kernel_rfl) rfl #[.int .i64 a0, .slice A1 l1.length c1, .slice A2 l2.length c2] rfl (by (try simp only [List.map_toArray, List.map_cons, List.map_nil]); first | done | rfl | (simp only [List.length_drop, List.length_take]; rfl)) ?_; (with_reducible refine (offset_right.calls a0 _ _ l1 _ _ l2 true _ ?side1 ?side2 ?side3 ?side4 A4.out).mono ?_); (case side1 => repeat (first | exact HR1.out | (with_reducible refine Kd.C_alloc ?_ _) | (with_reducible refine Kd.C_drewN ?_ _) | (with_reducible refine Kd.C_drew ?_))); (case side2 => exact HC1.out); (case side3 => repeat (first | exact HR2.out | (with_reducible refine Kd.C_alloc ?_ _) | (with_reducible refine Kd.C_drewN ?_ _) | (with_reducible refine Kd.C_drew ?_))); (case side4 => exact HC2.out); rintro e w8 ⟨rfl, hb⟩; refine ⟨_, rfl, ?_⟩; have n0_ := Aside0.mk (below_step (by repeat (first | (with_reducible first | exact HB.out | apply below_alloc | apply pw_below_drewN | apply below_drew1) | exact HB.out)) hb); clear HB; have HB := n0_; clear n0_; (try clear hb); (try clear hb2); (try clear hk); (try clear hi)) | ((with_reducible refine gate_dst (N := 26) rfl ?_); refine Kd.R_make (Kd.int .i64) _ 3 rfl (N := 26) rfl 23 _ _ rfl a0 rfl rfl Try.underlying23 (.int .i64 0) 8 info3 rfl (by decide) (by omega) 0 (ok := fun _ => True) (okp := fun _ => True) rfl (fun _ hk => hk) trivial (of_decide_eq_true (by first | (with_reducible assumption) | assumption)) (Nat.le_trans (Nat.mul_le_mul_right _ (of_decide_eq_true (by first | (with_reducible assumption) | assumption) : a0.toNat ≤ 35184372088832)) (by omega)) (Below.refl _ _) (Nat.le_refl _) ?_; intro v160 w9 ho10 hb hg_ hnew_; clear hg_ hnew_; (first | rw [← Ny159.out] at ho10 | (simp only [Int.reduceToNat] at ho10; rw [← Ny159.out] at ho10)); have n0_ := Aside0.mk (Kd.R_lower ho10 (below_size (by repeat (first | (with_reducible first | exact HB.out | apply below_alloc | apply pw_below_drewN | apply below_drew1) | exact HB.out)))); have n1_ := Aside0.mk (below_step (by repeat (first | (with_reducible first | exact HB.out | apply below_alloc | apply pw_below_drewN | apply below_drew1) | exact HB.out)) hb); clear HB; have HO161 := n0_; have HB := n1_; clear n0_ n1_; clear hb ho10))
 (try (go_step3; go_wp2))
 go_loopg [29] k (fun kq v29 w' => ∃ (x9_1 : List Int) (x29_1 : Int), v29 = .int .i64 x29_1 ∧ Aside0 (offset_Offsets.l0 kq a0 l1 l2 x9_1 l1 (l1.length : Int) x29_1 = some (r1, r2, r3)) ∧ Aside0 (kq ≤ k) ∧ Aside0 (Kd.R (Kd.int .i64) 3 w' w.heap.size (fun _ => True) v160 x9_1) ∧ Aside0 (Below w.heap.size w w'))
 case atStart => exact ⟨(y159), (0), (by first | rfl | (simp; done) | (simp [*]; done)), H', ⟨Nat.le_refl _⟩, ⟨by (with_reducible repeat (first | apply Kd.R_alloc | apply Kd.R_drewN | apply Kd.R_drew)); exact HO161.out⟩, ⟨by repeat (first | (with_reducible first | exact HB.out | apply below_alloc | apply pw_below_drewN | apply below_drew1) | exact HB.out)⟩⟩
 case round =>
  clear H'
  try clear c1
  try clear c2
  try clear p2
  try clear c3
  try clear c5
  try clear c6
  try clear c6b0
  try clear c6b1
  try clear c7
  try clear c7b0
  try clear c7b1
  obtain ⟨x9_1, x29_1, rfl, HA, HK1, HO_9, HB⟩ := hrel
  cases gk with
  | zero => exact absurd HA.out (by simp [offset_Offsets.l0])
  | succ k1 =>
   have H := HA.out
   clear HA
   simp only [offset_Offsets.l0] at H
   by_cases c11 : x29_1 < (l1.length : Int)
   case pos =>
    rw [if_pos c11] at H
    have c11b0 : decide (x29_1 < (l1.length : Int)) = true := decide_eq_true c11
    clear c11
    by_cases c12 : 0 ≤ x29_1
    case neg => rw [if_neg c12] at H; exact absurd H (by simp)
    rw [if_pos c12] at H
    have c12b0 : decide (0 ≤ x29_1) = true := decide_eq_true c12
    clear c12
    by_cases c13 : x29_1 < (l1.length : Int)
    case neg => rw [if_neg c13] at H; exact absurd H (by simp)
    rw [if_pos c13] at H
    have c13b0 : decide (x29_1 < (l1.length : Int)) = true := decide_eq_true c13
    clear c13
    by_cases c14 : 0 ≤ ((rd_T40 l1 x29_1).f0)
    case neg => rw [if_neg c14] at H; exact absurd H (by simp)
    rw [if_pos c14] at H
    have c14b0 : decide (0 ≤ ((rd_T40 l1 x29_1).f0)) = true := decide_eq_true c14
    clear c14
    by_cases c15 : ((rd_T40 l1 x29_1).f0) < (l2.length : Int)
    case neg => rw [if_neg c15] at H; exact absurd H (by simp)
    rw [if_pos c15] at H
    have c15b0 : decide (((rd_T40 l1 x29_1).f0) < (l2.length : Int)) = true := decide_eq_true c15
    clear c15
    by_cases c16 : (rd l2 ((rd_T40 l1 x29_1).f0)) = ((rd_T40 l1 x29_1).f1)
    case neg =>
     rw [if_neg c16] at H
     have c16b0 : ((rd l2 ((rd_T40 l1 x29_1).f0)) == ((rd_T40 l1 x29_1).f1)) = false := beq_eq_false_iff_ne.mpr c16
     have c16b1 : ((rd l2 ((rd_T40 l1 x29_1).f0)) != ((rd_T40 l1 x29_1).f1)) = true := bne_iff_ne.mpr c16
     have H' := Aside0.mk H
     clear H
     have p162 : 0 ≤ (x29_1 : Int) := of_decide_eq_true (by first | (with_reducible assumption) | assumption)
     have q162 : x29_1 < (l1.length : Int) := of_decide_eq_true (by first | (with_reducible assumption) | assumption)
     obtain ⟨ad162, e162, hx162_0, hx162_1, hx162_2⟩ := at_T40 HR1.out x29_1 p162 q162
     cases e162
     replace hx162_0 := (HB.out.cell (World.block_lt_of_cell? w _ hx162_0)).trans hx162_0
     replace hx162_1 := (HB.out.cell (World.block_lt_of_cell? w _ hx162_1)).trans hx162_1
     replace hx162_2 := (HB.out.cell (World.block_lt_of_cell? w _ hx162_2)).trans hx162_2
     replace p162 := eq_true p162
     replace q162 := eq_true q162
     try go_wp2_with (first | ((with_reducible refine gate_dst (N := 11) rfl ?_); refine box_event ?hg (N := 11) ?hd (cs := #[.int .i64 0, .int .i64 0, .int .i64 0]) (t := 40) ?hr ?_; (case hd => rfl); (case hg => rfl); (case hr => first | (go_simp; done) | (go_simp; rfl)); intro gb163 hg w27 hbox hb; have n0_ := Aside0.mk (Kd.R_below (by (with_reducible repeat (first | apply Kd.R_alloc | apply Kd.R_drewN | apply Kd.R_drew)); exact HO_9.out) hb); have n1_ := Aside0.mk (below_step (by repeat (first | (with_reducible first | exact HB.out | apply below_alloc | apply pw_below_drewN | apply below_drew1) | exact HB.out)) hb); have n2_ := Aside0.mk (hbox); have n3_ := Aside0.mk ((by rw [hg]; exact (below_size (by repeat (first | (with_reducible first | exact HB.out | apply below_alloc | apply pw_below_drewN | apply below_drew1) | exact HB.out))) : w.heap.size ≤ gb163)); have n4_ := Aside0.mk ((by rw [hg]; exact (below_size (by repeat (first | (with_reducible first | exact HB.out | apply below_alloc | apply pw_below_drewN | apply below_drew1) | exact HB.out))) : w.heap.size ≤ gb163)); clear HO_9; clear HB; have HO_9 := n0_; have HB := n1_; have BK163 := n2_; have GW163 := n3_; have GE163 := n4_; clear n0_ n1_ n2_ n3_ n4_; clear hb hbox hg; have hcz28_0 : w27.cell? ⟨gb163, 0, none⟩ = some (.int .i64 0) := (blk_cell BK163.out 0).trans rfl; have hcz28_1 : w27.cell? ⟨gb163, 1, none⟩ = some (.int .i64 0) := (blk_cell BK163.out 1).trans rfl; have hcz28_2 : w27.cell? ⟨gb163, 2, none⟩ = some (.int .i64 0) := (blk_cell BK163.out 2).trans rfl; have hfz28_0 := blk_frozen BK163.out 0; have hfz28_1 := blk_frozen BK163.out 1; have hfz28_2 := blk_frozen BK163.out 2))
     have n0_ : Aside0 (Kd.R (Kd.int .i64) 3 (((w27.setCell ⟨gb163, 0, none⟩ (.int .i64 ((rd_T40 l1 x29_1).f0))).setCell ⟨gb163, 1, none⟩ (.int .i64 ((rd_T40 l1 x29_1).f1))).setCell ⟨gb163, 2, none⟩ (.int .i64 ((rd_T40 l1 x29_1).f2))) w.heap.size (fun _ => True) v160 x9_1) := ⟨by (with_reducible repeat (first | apply Kd.R_alloc | apply Kd.R_drewN | apply Kd.R_drew)); exact Kd.R_mono (Kd.R_far (p := ⟨gb163, 2, none⟩) (Kd.R_far (p := ⟨gb163, 1, none⟩) (Kd.R_far (p := ⟨gb163, 0, none⟩) (Kd.R_types HO_9.out BK163.out (by decide)) (fun _ hk => hk.2) (.int .i64 ((rd_T40 l1 x29_1).f0))) (fun _ hk => hk.2) (.int .i64 ((rd_T40 l1 x29_1).f1))) (fun _ hk => hk.2) (.int .i64 ((rd_T40 l1 x29_1).f2))) (fun _ hk => trivial)⟩
     have n1_ : Aside0 ((((w27.setCell ⟨gb163, 0, none⟩ (.int .i64 ((rd_T40 l1 x29_1).f0))).setCell ⟨gb163, 1, none⟩ (.int .i64 ((rd_T40 l1 x29_1).f1))).setCell ⟨gb163, 2, none⟩ (.int .i64 ((rd_T40 l1 x29_1).f2))).heap[gb163]? = some (.cells #[.int .i64 ((rd_T40 l1 x29_1).f0), .int .i64 ((rd_T40 l1 x29_1).f1), .int .i64 ((rd_T40 l1 x29_1).f2)] 40 (0, 0))) := ⟨by (with_reducible repeat (first | refine blk_drewN ?_ _ | refine blk_drew ?_ | refine blk_alloc ?_ _)); refine blk_put (cs := #[.int .i64 ((rd_T40 l1 x29_1).f0), .int .i64 ((rd_T40 l1 x29_1).f1), .int .i64 0]) ?_ 2 _ rfl; (with_reducible repeat (first | refine blk_drewN ?_ _ | refine blk_drew ?_ | refine blk_alloc ?_ _)); refine blk_put (cs := #[.int .i64 ((rd_T40 l1 x29_1).f0), .int .i64 0, .int .i64 0]) ?_ 1 _ rfl; (with_reducible repeat (first | refine blk_drewN ?_ _ | refine blk_drew ?_ | refine blk_alloc ?_ _)); refine blk_put (cs := #[.int .i64 0, .int .i64 0, .int .i64 0]) ?_ 0 _ rfl; (with_reducible repeat (first | refine blk_drewN ?_ _ | refine blk_drew ?_ | refine blk_alloc ?_ _)); exact BK163.out⟩
     have n2_ : Aside0 (Below w.heap.size w (((w27.setCell ⟨gb163, 0, none⟩ (.int .i64 ((rd_T40 l1 x29_1).f0))).setCell ⟨gb163, 1, none⟩ (.int .i64 ((rd_T40 l1 x29_1).f1))).setCell ⟨gb163, 2, none⟩ (.int .i64 ((rd_T40 l1 x29_1).f2)))) := ⟨by repeat (first | (with_reducible first | exact HB.out | apply below_alloc | apply pw_below_drewN | apply below_drew1 | refine below_set ?_ GE163.out) | exact HB.out)⟩
     (try clear HO_9)
     (try clear BK163)
     (try clear HB)
     generalize (((w27.setCell ⟨gb163, 0, none⟩ (.int .i64 ((rd_T40 l1 x29_1).f0))).setCell ⟨gb163, 1, none⟩ (.int .i64 ((rd_T40 l1 x29_1).f1))).setCell ⟨gb163, 2, none⟩ (.int .i64 ((rd_T40 l1 x29_1).f2))) = w29 at n0_ n1_ n2_ ⊢
     have HO_9 := n0_
     have BK163 := n1_
     have HB := n2_
     clear n0_ n1_ n2_
     have n0_ := Aside0.mk (Kd.R_drew HO_9.out)
     have n1_ := Aside0.mk (blk_drew BK163.out)
     have n2_ := Aside0.mk (below_drew1 HB.out)
     clear HO_9
     clear BK163
     clear HB
     have HO_9 := n0_
     have BK163 := n1_
     have HB := n2_
     clear n0_ n1_ n2_
     have p164 : 0 ≤ (((rd_T40 l1 x29_1).f0) : Int) := of_decide_eq_true (by first | (with_reducible assumption) | assumption)
     have q164 : ((rd_T40 l1 x29_1).f0) < (l2.length : Int) := of_decide_eq_true (by first | (with_reducible assumption) | assumption)
     obtain ⟨ad164, e164, hx164_0⟩ := Kd.at_int HR2.out ((rd_T40 l1 x29_1).f0) p164 q164
     have hw164_0 := hx164_0
     cases e164
     replace hx164_0 := (HB.out.cell (World.block_lt_of_cell? w _ hx164_0)).trans hx164_0
     replace p164 := eq_true p164
     replace q164 := eq_true q164
     refine start_ (n := 8) (S := fun w' => w'.cell? ⟨gb163, 0, none⟩ = some (.int .i64 ((rd_T40 l1 x29_1).f0)) ∧ w'.cell? ⟨gb163, 1, none⟩ = some (.int .i64 ((rd_T40 l1 x29_1).f1)) ∧ w'.cell? ⟨gb163, 2, none⟩ = some (.int .i64 ((rd_T40 l1 x29_1).f2)) ∧ w'.cell? (ad164.add (((rd_T40 l1 x29_1).f0)).toNat) = some (.int .i64 (rd l2 ((rd_T40 l1 x29_1).f0)))) (ds := []) (msk 8 0) (by kernel_rfl) rfl rfl ⟨(blk_cell BK163.out 0).trans rfl, (blk_cell BK163.out 1).trans rfl, (blk_cell BK163.out 2).trans rfl, ((HB.out.cell (World.block_lt_of_cell? w _ hw164_0)).trans hw164_0)⟩ (fun hHeld => ?_); refine with_tabW offset_Offsets.tab7 offset_Offsets.bits7 (fun HT_ HW_ => ?_)
     generalize w29.drew = w30 at HO_9 BK163 HB hx164_0 hHeld ⊢
     refine pu_ 0 33 (msk 8 1) HT_.out ?_ ?_ ?_ ?_ ?_
     rotate_left
     · intro w'; go_simp; with_reducible rfl
     rotate_left
     · simp only [Act.put, sq, i64_w, i32_w]; rfl
     refine pu_ 1 34 (msk 8 3) HT_.out ?_ ?_ ?_ ?_ ?_
     rotate_left
     · intro w'; go_simp; with_reducible rfl
     rotate_left
     · simp only [Act.put, sq, i64_w, i32_w]; rfl
     refine pu_ 5 38 (msk 8 35) HT_.out ?_ ?_ ?_ ?_ ?_
     rotate_left
     · intro w'; go_simp; with_reducible rfl
     rotate_left
     · simp only [Act.put, sq, i64_w, i32_w]; rfl
     refine tk_ 2 35 (msk 8 39) HT_.out HW_.out hHeld ?_ ?_ ?_ ?_ ?_
     rotate_left
     · rintro w' ⟨s0, s1, s2, s3⟩; go_simp; with_reducible rfl
     rotate_left
     · simp only [Act.put, sq, i64_w, i32_w]; rfl
     refine pu_ 3 36 (msk 8 47) HT_.out ?_ ?_ ?_ ?_ ?_
     rotate_left
     · intro w'; go_simp; with_reducible rfl
     rotate_left
     · simp only [Act.put, sq, i64_w, i32_w]; rfl
     refine tk_ 4 37 (msk 8 63) HT_.out HW_.out hHeld ?_ ?_ ?_ ?_ ?_
     rotate_left
     · rintro w' ⟨s0, s1, s2, s3⟩; go_simp; with_reducible rfl
     rotate_left
     · simp only [Act.put, sq, i64_w, i32_w]; rfl
     refine tk_ 6 39 (msk 8 127) HT_.out HW_.out hHeld ?_ ?_ ?_ ?_ ?_
     rotate_left
     · rintro w' ⟨s0, s1, s2, s3⟩; go_simp; with_reducible rfl
     rotate_left
     · simp only [Act.put, sq, i64_w, i32_w]; rfl
     refine pu_ 7 40 (msk 8 255) HT_.out ?_ ?_ ?_ ?_ ?_
     rotate_left
     · intro w'; go_simp; with_reducible rfl
     rotate_left
     · simp only [Act.put, sq, i64_w, i32_w]; rfl
     refine done_ (done_of HT_.out (by kernel_rfl)) ?_
     try go_wp2
     (first | go_roundg k1 | (refine Handed.intro k1 ?measure ?_; rotate_left; go_step; (repeat apply Exists.intro); (refine ⟨?rel, ?fr_⟩); (case fr_ => (simp only [add_plain]; rfl))))
     case measure => have := HK1.out; omega
     case rel => exact ⟨(x9_1), (wrap64 (x29_1 + 1)), (by first | rfl | (simp; done) | (simp [*]; done)), H', ⟨by have := HK1.out; omega⟩, ⟨by (with_reducible repeat (first | apply Kd.R_alloc | apply Kd.R_drewN | apply Kd.R_drew)); exact HO_9.out⟩, ⟨by repeat (first | (with_reducible first | exact HB.out | apply below_alloc | apply pw_below_drewN | apply below_drew1 | refine below_set ?_ GE163.out) | exact HB.out)⟩⟩
    rw [if_pos c16] at H
    have c16b0 : ((rd l2 ((rd_T40 l1 x29_1).f0)) == ((rd_T40 l1 x29_1).f1)) = true := beq_iff_eq.mpr c16
    have c16b1 : ((rd l2 ((rd_T40 l1 x29_1).f0)) != ((rd_T40 l1 x29_1).f1)) = false := bne_eq_false_iff_eq.mpr c16
    clear c16
    by_cases c17 : ((rd_T40 l1 x29_1).f0) < (x9_1.length : Int)
    case neg => rw [if_neg c17] at H; exact absurd H (by simp)
    rw [if_pos c17] at H
    have c17b0 : decide (((rd_T40 l1 x29_1).f0) < (x9_1.length : Int)) = true := decide_eq_true c17
    clear c17
    obtain ⟨ji18, hji18⟩ : ∃ j_ : Int, (mx (rd x9_1 ((rd_T40 l1 x29_1).f0)) ((rd_T40 l1 x29_1).f2)) = j_ := ⟨_, rfl⟩
    replace H : (offset_Offsets.l0 k1 a0 l1 l2 (x9_1.set (((rd_T40 l1 x29_1).f0) : Int).toNat (ji18)) l1 (l1.length : Int) (wrap64 (x29_1 + 1))) = some (r1, r2, r3) := by first | (rw [hji18] at H; exact H) | (simp only [hji18] at H ⊢; exact H)
    have hji18_ : (if (rd x9_1 ((rd_T40 l1 x29_1).f0)) < ((rd_T40 l1 x29_1).f2) then ((rd_T40 l1 x29_1).f2) else (rd x9_1 ((rd_T40 l1 x29_1).f0))) = ji18 := hji18
    obtain ⟨y166, hy166⟩ : ∃ y_ : List Int, y_ = (x9_1.set (((rd_T40 l1 x29_1).f0) : Int).toNat (ji18)) := ⟨_, rfl⟩
    replace H : (offset_Offsets.l0 k1 a0 l1 l2 y166 l1 (l1.length : Int) (wrap64 (x29_1 + 1))) = some (r1, r2, r3) := by first | (rw [hy166]; with_reducible exact H) | (have H2_ := (Option.bind_some _ _).symm.trans H; rw [hy166]; with_reducible exact H2_) | (have H2_ := (Option.bind_some _ _).symm.trans H; with_reducible exact H2_) | with_reducible exact H | (rw [hy166]; exact H) | exact H
    have Ny166 := Aside0.mk hy166
    clear hy166
    have H' := Aside0.mk H
    clear H
    have p162 : 0 ≤ (x29_1 : Int) := of_decide_eq_true (by first | (with_reducible assumption) | assumption)
    have q162 : x29_1 < (l1.length : Int) := of_decide_eq_true (by first | (with_reducible assumption) | assumption)
    obtain ⟨ad162, e162, hx162_0, hx162_1, hx162_2⟩ := at_T40 HR1.out x29_1 p162 q162
    cases e162
    replace hx162_0 := (HB.out.cell (World.block_lt_of_cell? w _ hx162_0)).trans hx162_0
    replace hx162_1 := (HB.out.cell (World.block_lt_of_cell? w _ hx162_1)).trans hx162_1
    replace hx162_2 := (HB.out.cell (World.block_lt_of_cell? w _ hx162_2)).trans hx162_2
    replace p162 := eq_true p162
    replace q162 := eq_true q162
    try go_wp2_with (first | ((with_reducible refine gate_dst (N := 11) rfl ?_); refine box_event ?hg (N := 11) ?hd (cs := #[.int .i64 0, .int .i64 0, .int .i64 0]) (t := 40) ?hr ?_; (case hd => rfl); (case hg => rfl); (case hr => first | (go_simp; done) | (go_simp; rfl)); intro gb163 hg w20 hbox hb; have n0_ := Aside0.mk (Kd.R_below (by (with_reducible repeat (first | apply Kd.R_alloc | apply Kd.R_drewN | apply Kd.R_drew)); exact HO_9.out) hb); have n1_ := Aside0.mk (below_step (by repeat (first | (with_reducible first | exact HB.out | apply below_alloc | apply pw_below_drewN | apply below_drew1) | exact HB.out)) hb); have n2_ := Aside0.mk (hbox); have n3_ := Aside0.mk ((by rw [hg]; exact (below_size (by repeat (first | (with_reducible first | exact HB.out | apply below_alloc | apply pw_below_drewN | apply below_drew1) | exact HB.out))) : w.heap.size ≤ gb163)); have n4_ := Aside0.mk ((by rw [hg]; exact (below_size (by repeat (first | (with_reducible first | exact HB.out | apply below_alloc | apply pw_below_drewN | apply below_drew1) | exact HB.out))) : w.heap.size ≤ gb163)); clear HO_9; clear HB; have HO_9 := n0_; have HB := n1_; have BK163 := n2_; have GW163 := n3_; have GE163 := n4_; clear n0_ n1_ n2_ n3_ n4_; clear hb hbox hg; have hcz21_0 : w20.cell? ⟨gb163, 0, none⟩ = some (.int .i64 0) := (blk_cell BK163.out 0).trans rfl; have hcz21_1 : w20.cell? ⟨gb163, 1, none⟩ = some (.int .i64 0) := (blk_cell BK163.out 1).trans rfl; have hcz21_2 : w20.cell? ⟨gb163, 2, none⟩ = some (.int .i64 0) := (blk_cell BK163.out 2).trans rfl; have hfz21_0 := blk_frozen BK163.out 0; have hfz21_1 := blk_frozen BK163.out 1; have hfz21_2 := blk_frozen BK163.out 2))
    have n0_ : Aside0 (Kd.R (Kd.int .i64) 3 (((w20.setCell ⟨gb163, 0, none⟩ (.int .i64 ((rd_T40 l1 x29_1).f0))).setCell ⟨gb163, 1, none⟩ (.int .i64 ((rd_T40 l1 x29_1).f1))).setCell ⟨gb163, 2, none⟩ (.int .i64 ((rd_T40 l1 x29_1).f2))) w.heap.size (fun _ => True) v160 x9_1) := ⟨by (with_reducible repeat (first | apply Kd.R_alloc | apply Kd.R_drewN | apply Kd.R_drew)); exact Kd.R_mono (Kd.R_far (p := ⟨gb163, 2, none⟩) (Kd.R_far (p := ⟨gb163, 1, none⟩) (Kd.R_far (p := ⟨gb163, 0, none⟩) (Kd.R_types HO_9.out BK163.out (by decide)) (fun _ hk => hk.2) (.int .i64 ((rd_T40 l1 x29_1).f0))) (fun _ hk => hk.2) (.int .i64 ((rd_T40 l1 x29_1).f1))) (fun _ hk => hk.2) (.int .i64 ((rd_T40 l1 x29_1).f2))) (fun _ hk => trivial)⟩
    have n1_ : Aside0 ((((w20.setCell ⟨gb163, 0, none⟩ (.int .i64 ((rd_T40 l1 x29_1).f0))).setCell ⟨gb163, 1, none⟩ (.int .i64 ((rd_T40 l1 x29_1).f1))).setCell ⟨gb163, 2, none⟩ (.int .i64 ((rd_T40 l1 x29_1).f2))).heap[gb163]? = some (.cells #[.int .i64 ((rd_T40 l1 x29_1).f0), .int .i64 ((rd_T40 l1 x29_1).f1), .int .i64 ((rd_T40 l1 x29_1).f2)] 40 (0, 0))) := ⟨by (with_reducible repeat (first | refine blk_drewN ?_ _ | refine blk_drew ?_ | refine blk_alloc ?_ _)); refine blk_put (cs := #[.int .i64 ((rd_T40 l1 x29_1).f0), .int .i64 ((rd_T40 l1 x29_1).f1), .int .i64 0]) ?_ 2 _ rfl; (with_reducible repeat (first | refine blk_drewN ?_ _ | refine blk_drew ?_ | refine blk_alloc ?_ _)); refine blk_put (cs := #[.int .i64 ((rd_T40 l1 x29_1).f0), .int .i64 0, .int .i64 0]) ?_ 1 _ rfl; (with_reducible repeat (first | refine blk_drewN ?_ _ | refine blk_drew ?_ | refine blk_alloc ?_ _)); refine blk_put (cs := #[.int .i64 0, .int .i64 0, .int .i64 0]) ?_ 0 _ rfl; (with_reducible repeat (first | refine blk_drewN ?_ _ | refine blk_drew ?_ | refine blk_alloc ?_ _)); exact BK163.out⟩
    have n2_ : Aside0 (Below w.heap.size w (((w20.setCell ⟨gb163, 0, none⟩ (.int .i64 ((rd_T40 l1 x29_1).f0))).setCell ⟨gb163, 1, none⟩ (.int .i64 ((rd_T40 l1 x29_1).f1))).setCell ⟨gb163, 2, none⟩ (.int .i64 ((rd_T40 l1 x29_1).f2)))) := ⟨by repeat (first | (with_reducible first | exact HB.out | apply below_alloc | apply pw_below_drewN | apply below_drew1 | refine below_set ?_ GE163.out) | exact HB.out)⟩
    (try clear HO_9)
    (try clear BK163)
    (try clear HB)
    generalize (((w20.setCell ⟨gb163, 0, none⟩ (.int .i64 ((rd_T40 l1 x29_1).f0))).setCell ⟨gb163, 1, none⟩ (.int .i64 ((rd_T40 l1 x29_1).f1))).setCell ⟨gb163, 2, none⟩ (.int .i64 ((rd_T40 l1 x29_1).f2))) = w22 at n0_ n1_ n2_ ⊢
    have HO_9 := n0_
    have BK163 := n1_
    have HB := n2_
    clear n0_ n1_ n2_
    have n0_ := Aside0.mk (Kd.R_drew HO_9.out)
    have n1_ := Aside0.mk (blk_drew BK163.out)
    have n2_ := Aside0.mk (below_drew1 HB.out)
    clear HO_9
    clear BK163
    clear HB
    have HO_9 := n0_
    have BK163 := n1_
    have HB := n2_
    clear n0_ n1_ n2_
    have p164 : 0 ≤ (((rd_T40 l1 x29_1).f0) : Int) := of_decide_eq_true (by first | (with_reducible assumption) | assumption)
    have q164 : ((rd_T40 l1 x29_1).f0) < (l2.length : Int) := of_decide_eq_true (by first | (with_reducible assumption) | assumption)
    obtain ⟨ad164, e164, hx164_0⟩ := Kd.at_int HR2.out ((rd_T40 l1 x29_1).f0) p164 q164
    have hw164_0 := hx164_0
    cases e164
    replace hx164_0 := (HB.out.cell (World.block_lt_of_cell? w _ hx164_0)).trans hx164_0
    replace p164 := eq_true p164
    replace q164 := eq_true q164
    refine start_ (n := 8) (S := fun w' => w'.cell? ⟨gb163, 0, none⟩ = some (.int .i64 ((rd_T40 l1 x29_1).f0)) ∧ w'.cell? ⟨gb163, 1, none⟩ = some (.int .i64 ((rd_T40 l1 x29_1).f1)) ∧ w'.cell? ⟨gb163, 2, none⟩ = some (.int .i64 ((rd_T40 l1 x29_1).f2)) ∧ w'.cell? (ad164.add (((rd_T40 l1 x29_1).f0)).toNat) = some (.int .i64 (rd l2 ((rd_T40 l1 x29_1).f0)))) (ds := []) (msk 8 0) (by kernel_rfl) rfl rfl ⟨(blk_cell BK163.out 0).trans rfl, (blk_cell BK163.out 1).trans rfl, (blk_cell BK163.out 2).trans rfl, ((HB.out.cell (World.block_lt_of_cell? w _ hw164_0)).trans hw164_0)⟩ (fun hHeld => ?_); refine with_tabW offset_Offsets.tab7 offset_Offsets.bits7 (fun HT_ HW_ => ?_)
    generalize w22.drew = w23 at HO_9 BK163 HB hx164_0 hHeld ⊢
    refine pu_ 0 33 (msk 8 1) HT_.out ?_ ?_ ?_ ?_ ?_
    rotate_left
    · intro w'; go_simp; with_reducible rfl
    rotate_left
    · simp only [Act.put, sq, i64_w, i32_w]; rfl
    refine pu_ 1 34 (msk 8 3) HT_.out ?_ ?_ ?_ ?_ ?_
    rotate_left
    · intro w'; go_simp; with_reducible rfl
    rotate_left
    · simp only [Act.put, sq, i64_w, i32_w]; rfl
    refine pu_ 5 38 (msk 8 35) HT_.out ?_ ?_ ?_ ?_ ?_
    rotate_left
    · intro w'; go_simp; with_reducible rfl
    rotate_left
    · simp only [Act.put, sq, i64_w, i32_w]; rfl
    refine tk_ 2 35 (msk 8 39) HT_.out HW_.out hHeld ?_ ?_ ?_ ?_ ?_
    rotate_left
    · rintro w' ⟨s0, s1, s2, s3⟩; go_simp; with_reducible rfl
    rotate_left
    · simp only [Act.put, sq, i64_w, i32_w]; rfl
    refine pu_ 3 36 (msk 8 47) HT_.out ?_ ?_ ?_ ?_ ?_
    rotate_left
    · intro w'; go_simp; with_reducible rfl
    rotate_left
    · simp only [Act.put, sq, i64_w, i32_w]; rfl
    refine tk_ 4 37 (msk 8 63) HT_.out HW_.out hHeld ?_ ?_ ?_ ?_ ?_
    rotate_left
    · rintro w' ⟨s0, s1, s2, s3⟩; go_simp; with_reducible rfl
    rotate_left
    · simp only [Act.put, sq, i64_w, i32_w]; rfl
    refine tk_ 6 39 (msk 8 127) HT_.out HW_.out hHeld ?_ ?_ ?_ ?_ ?_
    rotate_left
    · rintro w' ⟨s0, s1, s2, s3⟩; go_simp; with_reducible rfl
    rotate_left
    · simp only [Act.put, sq, i64_w, i32_w]; rfl
    refine pu_ 7 40 (msk 8 255) HT_.out ?_ ?_ ?_ ?_ ?_
    rotate_left
    · intro w'; go_simp; with_reducible rfl
    rotate_left
    · simp only [Act.put, sq, i64_w, i32_w]; rfl
    refine done_ (done_of HT_.out (by kernel_rfl)) ?_
    try go_wp2
    have n0_ := Aside0.mk (Kd.R_drew HO_9.out)
    have n1_ := Aside0.mk (blk_drew BK163.out)
    have n2_ := Aside0.mk (below_drew1 HB.out)
    clear HO_9
    clear BK163
    clear HB
    have HO_9 := n0_
    have BK163 := n1_
    have HB := n2_
    clear n0_ n1_ n2_
    obtain ⟨Ao25, co25, eo25⟩ := Kd.R_slice HO_9.out
    (first | subst eo25 | (injection eo25 with f1_ f2_ f3_; have f4_ := f1_.symm; have f5_ := f3_.symm; clear f1_ f2_ f3_; subst f4_; subst f5_))
    have p165 : 0 ≤ (((rd_T40 l1 x29_1).f0) : Int) := of_decide_eq_true (by first | (with_reducible assumption) | assumption)
    have q165 : ((rd_T40 l1 x29_1).f0) < (x9_1.length : Int) := of_decide_eq_true (by first | (with_reducible assumption) | assumption)
    obtain ⟨ad165, e165, hx165_0⟩ := Kd.at_int (Kd.R_reads' HO_9.out).2.2 ((rd_T40 l1 x29_1).f0) p165 q165
    cases e165
    replace p165 := eq_true p165
    replace q165 := eq_true q165
    have p19 : 0 ≤ (((rd_T40 l1 x29_1).f0) : Int) := of_decide_eq_true (by first | (with_reducible assumption) | assumption)
    have q19 : (((rd_T40 l1 x29_1).f0) : Int) < ((x9_1.length : Int) : Int) := of_decide_eq_true (by first | (with_reducible assumption) | assumption)
    obtain ⟨go19, co19, eo19, gb19, gl19, cl19, HG19⟩ := Kd.R_form HO_9.out (by omega)
    (first | cases eo19 | (injection eo19 with ea_ en_ ec_; (first | subst ea_ | (injection ea_ with ea_; subst ea_)); subst ec_; clear en_))
    have GB19 := Aside0.mk gb19
    have GG19 := Aside0.mk HG19
    clear gb19 gl19 HG19
    (first | simp only [add_plain] at hx165_0 | skip)
    obtain ⟨hx19_0, hf19_0⟩ := Kd.R_celln 0 HO_9.out (((rd_T40 l1 x29_1).f0) : Int) p19 q19
    replace p19 := eq_true p19
    replace q19 := eq_true q19
    have HP26 := Kd.R_putn HO_9.out (((rd_T40 l1 x29_1).f0) : Int) ji18
    rw [← Ny166.out] at HP26
    have HQ26 := Aside0.mk HP26
    clear HP26
    refine start_ (n := 13) (S := fun w' => w'.cell? ⟨gb163, 0, none⟩ = some (.int .i64 ((rd_T40 l1 x29_1).f0)) ∧ w'.cell? ⟨gb163, 1, none⟩ = some (.int .i64 ((rd_T40 l1 x29_1).f1)) ∧ w'.cell? ⟨gb163, 2, none⟩ = some (.int .i64 ((rd_T40 l1 x29_1).f2)) ∧ w'.cell? ⟨go19, (((rd_T40 l1 x29_1).f0)).toNat, none⟩ = some (.int .i64 (rd x9_1 ((rd_T40 l1 x29_1).f0)))) (ds := [12]) (msk 13 0) (by kernel_rfl) rfl rfl ⟨(blk_cell BK163.out 0).trans rfl, (blk_cell BK163.out 1).trans rfl, (blk_cell BK163.out 2).trans rfl, hx165_0⟩ (fun hHeld => ?_); refine with_tabW offset_Offsets.tab8 offset_Offsets.bits8 (fun HT_ HW_ => ?_)
    generalize w23.drew = w24 at HO_9 BK163 HB GG19 HQ26 hf19_0 hx165_0 hx19_0 hHeld ⊢
    refine pu_ 0 41 (msk 13 1) HT_.out ?_ ?_ ?_ ?_ ?_
    rotate_left
    · intro w'; go_simp; with_reducible rfl
    rotate_left
    · simp only [Act.put, sq, i64_w, i32_w]; rfl
    refine pu_ 1 42 (msk 13 3) HT_.out ?_ ?_ ?_ ?_ ?_
    rotate_left
    · intro w'; go_simp; with_reducible rfl
    rotate_left
    · simp only [Act.put, sq, i64_w, i32_w]; rfl
    refine pu_ 3 44 (msk 13 11) HT_.out ?_ ?_ ?_ ?_ ?_
    rotate_left
    · intro w'; go_simp; with_reducible rfl
    rotate_left
    · simp only [Act.put, sq, i64_w, i32_w]; rfl
    refine pu_ 4 45 (msk 13 27) HT_.out ?_ ?_ ?_ ?_ ?_
    rotate_left
    · intro w'; go_simp; with_reducible rfl
    rotate_left
    · simp only [Act.put, sq, i64_w, i32_w]; rfl
    refine pu_ 8 49 (msk 13 283) HT_.out ?_ ?_ ?_ ?_ ?_
    rotate_left
    · intro w'; go_simp; with_reducible rfl
    rotate_left
    · simp only [Act.put, sq, i64_w, i32_w]; rfl
    refine tk_ 2 43 (msk 13 287) HT_.out HW_.out hHeld ?_ ?_ ?_ ?_ ?_
    rotate_left
    · rintro w' ⟨s0, s1, s2, s3⟩; go_simp; with_reducible rfl
    rotate_left
    · simp only [Act.put, sq, i64_w, i32_w]; rfl
    refine tk_ 5 46 (msk 13 319) HT_.out HW_.out hHeld ?_ ?_ ?_ ?_ ?_
    rotate_left
    · rintro w' ⟨s0, s1, s2, s3⟩; go_simp; with_reducible rfl
    rotate_left
    · simp only [Act.put, sq, i64_w, i32_w]; rfl
    refine pu_ 6 47 (msk 13 383) HT_.out ?_ ?_ ?_ ?_ ?_
    rotate_left
    · intro w'; go_simp; with_reducible rfl
    rotate_left
    · simp only [Act.put, sq, i64_w, i32_w]; rfl
    refine tk_ 7 48 (msk 13 511) HT_.out HW_.out hHeld ?_ ?_ ?_ ?_ ?_
    rotate_left
    · rintro w' ⟨s0, s1, s2, s3⟩; go_simp; with_reducible rfl
    rotate_left
    · simp only [Act.put, sq, i64_w, i32_w]; rfl
    refine tk_ 9 50 (msk 13 1023) HT_.out HW_.out hHeld ?_ ?_ ?_ ?_ ?_
    rotate_left
    · rintro w' ⟨s0, s1, s2, s3⟩; go_simp; with_reducible rfl
    rotate_left
    · simp only [Act.put, sq, i64_w, i32_w]; rfl
    refine pu_ 10 51 (msk 13 2047) HT_.out ?_ ?_ ?_ ?_ ?_
    rotate_left
    · intro w'; go_simp; with_reducible rfl
    rotate_left
    · simp only [Act.put, sq, i64_w, i32_w]; rfl
    refine pu_ 11 52 (msk 13 4095) HT_.out ?_ ?_ ?_ ?_ ?_
    rotate_left
    · intro w'; go_simp; with_reducible rfl
    rotate_left
    · simp only [Act.put, sq, i64_w, i32_w]; rfl
    refine last_ (i := 12) (N := none) (msk 13 8191) rfl rfl (one_of HT_.out (by kernel_rfl)) (by decide) (fun K hK => ?_)
    refine skip_ (w1 := ?_) (by rfl) rfl ?_ ?_
    rotate_left
    · go_simp
      rfl
    refine hK.out _ _ ?_
    clear hK K
    refine done_ (done_of HT_.out (by kernel_rfl)) ?_
    try go_wp2
    (first | go_roundg k1 | (refine Handed.intro k1 ?measure ?_; rotate_left; go_step; (repeat apply Exists.intro); (refine ⟨?rel, ?fr_⟩); (case fr_ => (simp only [add_plain]; rfl))))
    case measure => have := HK1.out; omega
    case rel => exact ⟨(y166), (wrap64 (x29_1 + 1)), (by first | rfl | (simp; done) | (simp [*]; done)), H', ⟨by have := HK1.out; omega⟩, ⟨by (with_reducible repeat (first | apply Kd.R_alloc | apply Kd.R_drewN | apply Kd.R_drew)); exact HQ26.out⟩, ⟨by repeat (first | (with_reducible first | exact HB.out | apply below_alloc | apply pw_below_drewN | apply below_drew1 | refine below_set ?_ GB19.out | refine below_set ?_ GE163.out) | exact HB.out)⟩⟩
   rw [if_neg c11] at H
   have c11b0 : decide (x29_1 < (l1.length : Int)) = false := decide_eq_false c11
   clear c11
   by_cases c31 : 0 ≤ a0
   case neg => rw [if_neg c31] at H; exact absurd H (by simp)
   rw [if_pos c31] at H
   have c31b0 := eq_true c31
   have c31b1 : decide (0 ≤ a0) = true := decide_eq_true c31
   clear c31
   by_cases c32 : (a0 : Int).toNat ≤ 35184372088832
   case neg => rw [if_neg c32] at H; exact absurd H (by simp)
   rw [if_pos c32] at H
   have c32b0 := eq_true c32
   have c32b1 : decide ((a0 : Int).toNat ≤ 35184372088832) = true := decide_eq_true c32
   clear c32
   obtain ⟨y167, hy167⟩ : ∃ y_ : List Int, y_ = (List.replicate (a0 : Int).toNat 0) := ⟨_, rfl⟩
   replace H : (offset_Offsets.l1 k1 l1 l2 x9_1 y167 (List.replicate (a0 : Int).toNat 0)) = some (r1, r2, r3) := by first | (rw [hy167]; with_reducible exact H) | (have H2_ := (Option.bind_some _ _).symm.trans H; rw [hy167]; with_reducible exact H2_) | (have H2_ := (Option.bind_some _ _).symm.trans H; with_reducible exact H2_) | with_reducible exact H | (rw [hy167]; exact H) | exact H
   have Ny167 := Aside0.mk hy167
   clear hy167
   obtain ⟨y170, hy170⟩ : ∃ y_ : List Int, y_ = (List.replicate (a0 : Int).toNat 0) := ⟨_, rfl⟩
   replace H : (offset_Offsets.l1 k1 l1 l2 x9_1 y167 y170) = some (r1, r2, r3) := by first | (rw [hy170]; with_reducible exact H) | (have H2_ := (Option.bind_some _ _).symm.trans H; rw [hy170]; with_reducible exact H2_) | (have H2_ := (Option.bind_some _ _).symm.trans H; with_reducible exact H2_) | with_reducible exact H | (rw [hy170]; exact H) | exact H
   have Ny170 := Aside0.mk hy170
   clear hy170
   have H' := Aside0.mk H
   clear H
   try go_wp2
   have n0_ := Aside0.mk (Kd.R_drew HO_9.out)
   have n1_ := Aside0.mk (below_drew1 HB.out)
   clear HO_9
   clear HB
   have HO_9 := n0_
   have HB := n1_
   clear n0_ n1_
   refine start_ (n := 6) (S := fun w' => True) (ds := []) (msk 6 0) (by kernel_rfl) rfl rfl trivial (fun hHeld => ?_)
   generalize wr.drew = w33 at HO_9 HB hHeld ⊢
   refine pure_ (i := 0) (N := some 54) (v := ?_) (a' := ?_) (msk 6 1) rfl rfl (by kernel_rfl) (fun _ _ _ h => h) (Or.inl ⟨by rfl, ?_⟩) ?_ ?_
   rotate_left
   · intro w'; go_simp; with_reducible rfl
   rotate_left
   · simp only [Act.put, sq, i64_w, i32_w]; rfl
   refine pure_ (i := 2) (N := some 56) (v := ?_) (a' := ?_) (msk 6 5) rfl rfl (by kernel_rfl) (fun _ _ _ h => h) (Or.inl ⟨by rfl, ?_⟩) ?_ ?_
   rotate_left
   · intro w'; go_simp; with_reducible rfl
   rotate_left
   · simp only [Act.put, sq, i64_w, i32_w]; rfl
   refine join_ (σ := Value × Value) 1 (msk 6 31) (fun s_ => [(55, s_.1), (57, s_.2), (12, s_.1)]) (fun s_ w' => (Kd.R (Kd.int .i64) 3 w' w.heap.size (fun k_ => some k_ ≠ (s_.2 : Value).ownBlock ∧ some k_ ≠ (v160 : Value).ownBlock) s_.1 y167) ∧ (Kd.R (Kd.int .i64) 3 w' w.heap.size (fun k_ => some k_ ≠ (s_.1 : Value).ownBlock ∧ some k_ ≠ (v160 : Value).ownBlock) s_.2 y170) ∧ (Kd.R (Kd.int .i64) 3 w' w.heap.size (fun k_ => some k_ ≠ (s_.1 : Value).ownBlock ∧ some k_ ≠ (s_.2 : Value).ownBlock) v160 x9_1) ∧ (Below w.heap.size w w')) ?_ ?_
   rotate_left
   · intro hCont
     refine two_ (i := 1) (j := 3) (Ni := some 55) (Nj := some 57) (msk 6 7) (msk 6 13) rfl rfl rfl rfl (by kernel_rfl) (by decide) (by decide) (fun K hK => ?_) (fun K hK => ?_)
     · skip
       refine Kd.R_make_step (Kd.int .i64) _ 3 (by rfl) (N := 55) rfl 23 _ _ rfl a0 rfl rfl Try.underlying23 (.int .i64 0) 8 info3 rfl (by decide) (by omega) 0 (ok := fun _ => True) (okp := fun _ => True) rfl (fun _ hk => hk) trivial (of_decide_eq_true (by first | (with_reducible assumption) | assumption)) (Nat.le_trans (Nat.mul_le_mul_right _ (of_decide_eq_true (by first | (with_reducible assumption) | assumption) : a0.toNat ≤ 35184372088832)) (by omega)) (Below.refl _ _) (Nat.le_refl _) ?_
       intro v168 w34 ho35 hb hg_ hnew_
       clear hg_ hnew_
       (first | rw [← Ny167.out] at ho35 | (simp only [Int.reduceToNat] at ho35; rw [← Ny167.out] at ho35))
       have n0_ := Aside0.mk (Kd.R_elder' (by (with_reducible repeat (first | apply Kd.R_alloc | apply Kd.R_drewN | apply Kd.R_drew)); exact HO_9.out) (Kd.R_base ho35) hb)
       have n1_ := Aside0.mk (Kd.R_lower (Kd.R_new' ho35 (Kd.R_lt (by (with_reducible repeat (first | apply Kd.R_alloc | apply Kd.R_drewN | apply Kd.R_drew)); exact HO_9.out))) (below_size (by repeat (first | (with_reducible first | exact HB.out | apply below_alloc | apply pw_below_drewN | apply below_drew1) | exact HB.out))))
       have n2_ := Aside0.mk (below_step (by repeat (first | (with_reducible first | exact HB.out | apply below_alloc | apply pw_below_drewN | apply below_drew1) | exact HB.out)) hb)
       clear HO_9
       clear HB
       have HO_9 := n0_
       have HO169 := n1_
       have HB := n2_
       clear n0_ n1_ n2_
       clear hb ho35
       refine hK.out _ _ trivial (fun hHeld => ?_)
       clear hK K
       refine norm_ (a' := ?_) ?_ ?_
       rotate_left
       · show Act.put _ (some 55) _ = _
         simp only [Act.put, sq, i64_w, i32_w]
         rfl
       refine pure_ (i := 4) (N := some 12) (v := ?_) (a' := ?_) (msk 6 23) rfl rfl (by kernel_rfl) (fun _ _ _ h => h) (Or.inl ⟨by rfl, ?_⟩) ?_ ?_
       rotate_left
       · intro w'; go_simp; with_reducible rfl
       rotate_left
       · simp only [Act.put, sq, i64_w, i32_w]; rfl
       refine one_ (i := 3) (N := some 57) (msk 6 31) rfl rfl (by kernel_rfl) (by decide) (fun K hK => ?_)
       refine Kd.R_make_step (Kd.int .i64) _ 3 (by rfl) (N := 57) rfl 23 _ _ rfl a0 rfl rfl Try.underlying23 (.int .i64 0) 8 info3 rfl (by decide) (by omega) 0 (ok := fun _ => True) (okp := fun _ => True) rfl (fun _ hk => hk) trivial (of_decide_eq_true (by first | (with_reducible assumption) | assumption)) (Nat.le_trans (Nat.mul_le_mul_right _ (of_decide_eq_true (by first | (with_reducible assumption) | assumption) : a0.toNat ≤ 35184372088832)) (by omega)) (Below.refl _ _) (Nat.le_refl _) ?_
       intro v171 w36 ho37 hb hg_ hnew_
       clear hg_ hnew_
       (first | rw [← Ny170.out] at ho37 | (simp only [Int.reduceToNat] at ho37; rw [← Ny170.out] at ho37))
       have n0_ := Aside0.mk (Kd.R_elder' (by (with_reducible repeat (first | apply Kd.R_alloc | apply Kd.R_drewN | apply Kd.R_drew)); exact HO_9.out) (Kd.R_base ho37) hb)
       have n1_ := Aside0.mk (Kd.R_elder' (by (with_reducible repeat (first | apply Kd.R_alloc | apply Kd.R_drewN | apply Kd.R_drew)); exact HO169.out) (Kd.R_base ho37) hb)
       have n2_ := Aside0.mk (Kd.R_lower (Kd.R_new' (Kd.R_new' ho37 (Kd.R_lt (by (with_reducible repeat (first | apply Kd.R_alloc | apply Kd.R_drewN | apply Kd.R_drew)); exact HO_9.out))) (Kd.R_lt (by (with_reducible repeat (first | apply Kd.R_alloc | apply Kd.R_drewN | apply Kd.R_drew)); exact HO169.out))) (below_size (by repeat (first | (with_reducible first | exact HB.out | apply below_alloc | apply pw_below_drewN | apply below_drew1) | exact HB.out))))
       have n3_ := Aside0.mk (below_step (by repeat (first | (with_reducible first | exact HB.out | apply below_alloc | apply pw_below_drewN | apply below_drew1) | exact HB.out)) hb)
       clear HO_9
       clear HO169
       clear HB
       have HO_9 := n0_
       have HO169 := n1_
       have HO172 := n2_
       have HB := n3_
       clear n0_ n1_ n2_ n3_
       clear hb ho37
       refine hK.out _ _ trivial (fun hHeld => ?_)
       clear hK K
       refine norm_ (a' := ?_) ?_ ?_
       rotate_left
       · show Act.put _ (some 57) _ = _
         simp only [Act.put, sq, i64_w, i32_w]
         rfl
       exact norm_ (by simp only [putAll, Act.put, List.setIfInBounds_toArray, List.set_cons_zero, List.set_cons_succ]) (hCont (v168, v171) _ ⟨(by (with_reducible repeat (first | apply Kd.R_alloc | apply Kd.R_drewN | apply Kd.R_drew)); exact Kd.R_mono HO169.out (fun _ hk => ⟨hk.2, hk.1.2⟩)), (by (with_reducible repeat (first | apply Kd.R_alloc | apply Kd.R_drewN | apply Kd.R_drew)); exact Kd.R_mono HO172.out (fun _ hk => ⟨hk.2, hk.1.2⟩)), (by (with_reducible repeat (first | apply Kd.R_alloc | apply Kd.R_drewN | apply Kd.R_drew)); exact Kd.R_mono HO_9.out (fun _ hk => ⟨hk.1.2, hk.2⟩)), (by repeat (first | (with_reducible first | exact HB.out | apply below_alloc | apply pw_below_drewN | apply below_drew1) | exact HB.out))⟩)
     · skip
       refine Kd.R_make_step (Kd.int .i64) _ 3 (by rfl) (N := 57) rfl 23 _ _ rfl a0 rfl rfl Try.underlying23 (.int .i64 0) 8 info3 rfl (by decide) (by omega) 0 (ok := fun _ => True) (okp := fun _ => True) rfl (fun _ hk => hk) trivial (of_decide_eq_true (by first | (with_reducible assumption) | assumption)) (Nat.le_trans (Nat.mul_le_mul_right _ (of_decide_eq_true (by first | (with_reducible assumption) | assumption) : a0.toNat ≤ 35184372088832)) (by omega)) (Below.refl _ _) (Nat.le_refl _) ?_
       intro v171 w34 ho35 hb hg_ hnew_
       clear hg_ hnew_
       (first | rw [← Ny170.out] at ho35 | (simp only [Int.reduceToNat] at ho35; rw [← Ny170.out] at ho35))
       have n0_ := Aside0.mk (Kd.R_elder' (by (with_reducible repeat (first | apply Kd.R_alloc | apply Kd.R_drewN | apply Kd.R_drew)); exact HO_9.out) (Kd.R_base ho35) hb)
       have n1_ := Aside0.mk (Kd.R_lower (Kd.R_new' ho35 (Kd.R_lt (by (with_reducible repeat (first | apply Kd.R_alloc | apply Kd.R_drewN | apply Kd.R_drew)); exact HO_9.out))) (below_size (by repeat (first | (with_reducible first | exact HB.out | apply below_alloc | apply pw_below_drewN | apply below_drew1) | exact HB.out))))
       have n2_ := Aside0.mk (below_step (by repeat (first | (with_reducible first | exact HB.out | apply below_alloc | apply pw_below_drewN | apply below_drew1) | exact HB.out)) hb)
       clear HO_9
       clear HB
       have HO_9 := n0_
       have HO172 := n1_
       have HB := n2_
       clear n0_ n1_ n2_
       clear hb ho35
       refine hK.out _ _ trivial (fun hHeld => ?_)
       clear hK K
       refine norm_ (a' := ?_) ?_ ?_
       rotate_left
       · show Act.put _ (some 57) _ = _
         simp only [Act.put, sq, i64_w, i32_w]
         rfl
       refine one_ (i := 1) (N := some 55) (msk 6 15) rfl rfl (by kernel_rfl) (by decide) (fun K hK => ?_)
       refine Kd.R_make_step (Kd.int .i64) _ 3 (by rfl) (N := 55) rfl 23 _ _ rfl a0 rfl rfl Try.underlying23 (.int .i64 0) 8 info3 rfl (by decide) (by omega) 0 (ok := fun _ => True) (okp := fun _ => True) rfl (fun _ hk => hk) trivial (of_decide_eq_true (by first | (with_reducible assumption) | assumption)) (Nat.le_trans (Nat.mul_le_mul_right _ (of_decide_eq_true (by first | (with_reducible assumption) | assumption) : a0.toNat ≤ 35184372088832)) (by omega)) (Below.refl _ _) (Nat.le_refl _) ?_
       intro v168 w36 ho37 hb hg_ hnew_
       clear hg_ hnew_
       (first | rw [← Ny167.out] at ho37 | (simp only [Int.reduceToNat] at ho37; rw [← Ny167.out] at ho37))
       have n0_ := Aside0.mk (Kd.R_elder' (by (with_reducible repeat (first | apply Kd.R_alloc | apply Kd.R_drewN | apply Kd.R_drew)); exact HO_9.out) (Kd.R_base ho37) hb)
       have n1_ := Aside0.mk (Kd.R_elder' (by (with_reducible repeat (first | apply Kd.R_alloc | apply Kd.R_drewN | apply Kd.R_drew)); exact HO172.out) (Kd.R_base ho37) hb)
       have n2_ := Aside0.mk (Kd.R_lower (Kd.R_new' (Kd.R_new' ho37 (Kd.R_lt (by (with_reducible repeat (first | apply Kd.R_alloc | apply Kd.R_drewN | apply Kd.R_drew)); exact HO_9.out))) (Kd.R_lt (by (with_reducible repeat (first | apply Kd.R_alloc | apply Kd.R_drewN | apply Kd.R_drew)); exact HO172.out))) (below_size (by repeat (first | (with_reducible first | exact HB.out | apply below_alloc | apply pw_below_drewN | apply below_drew1) | exact HB.out))))
       have n3_ := Aside0.mk (below_step (by repeat (first | (with_reducible first | exact HB.out | apply below_alloc | apply pw_below_drewN | apply below_drew1) | exact HB.out)) hb)
       clear HO_9
       clear HO172
       clear HB
       have HO_9 := n0_
       have HO172 := n1_
       have HO169 := n2_
       have HB := n3_
       clear n0_ n1_ n2_ n3_
       clear hb ho37
       refine hK.out _ _ trivial (fun hHeld => ?_)
       clear hK K
       refine norm_ (a' := ?_) ?_ ?_
       rotate_left
       · show Act.put _ (some 55) _ = _
         simp only [Act.put, sq, i64_w, i32_w]
         rfl
       refine pure_ (i := 4) (N := some 12) (v := ?_) (a' := ?_) (msk 6 31) rfl rfl (by kernel_rfl) (fun _ _ _ h => h) (Or.inl ⟨by rfl, ?_⟩) ?_ ?_
       rotate_left
       · intro w'; go_simp; with_reducible rfl
       rotate_left
       · simp only [Act.put, sq, i64_w, i32_w]; rfl
       exact norm_ (by simp only [putAll, Act.put, List.setIfInBounds_toArray, List.set_cons_zero, List.set_cons_succ]) (hCont (v168, v171) _ ⟨(by (with_reducible repeat (first | apply Kd.R_alloc | apply Kd.R_drewN | apply Kd.R_drew)); exact Kd.R_mono HO169.out (fun _ hk => ⟨hk.2, hk.1.2⟩)), (by (with_reducible repeat (first | apply Kd.R_alloc | apply Kd.R_drewN | apply Kd.R_drew)); exact Kd.R_mono HO172.out (fun _ hk => ⟨hk.2, hk.1.2⟩)), (by (with_reducible repeat (first | apply Kd.R_alloc | apply Kd.R_drewN | apply Kd.R_drew)); exact Kd.R_mono HO_9.out (fun _ hk => ⟨hk.2, hk.1.2⟩)), (by repeat (first | (with_reducible first | exact HB.out | apply below_alloc | apply pw_below_drewN | apply below_drew1) | exact HB.out))⟩)
   rintro ⟨v168, v171⟩ w38 ⟨h0_, h1_, h2_, h3_⟩
   have n0_ : Aside0 (Kd.R (Kd.int .i64) 3 w38 w.heap.size (fun k_ => some k_ ≠ (v171 : Value).ownBlock ∧ some k_ ≠ (v160 : Value).ownBlock) v168 y167) := ⟨h0_⟩
   have n1_ : Aside0 (Kd.R (Kd.int .i64) 3 w38 w.heap.size (fun k_ => some k_ ≠ (v168 : Value).ownBlock ∧ some k_ ≠ (v160 : Value).ownBlock) v171 y170) := ⟨h1_⟩
   have n2_ : Aside0 (Kd.R (Kd.int .i64) 3 w38 w.heap.size (fun k_ => some k_ ≠ (v168 : Value).ownBlock ∧ some k_ ≠ (v171 : Value).ownBlock) v160 x9_1) := ⟨h2_⟩
   have n3_ : Aside0 (Below w.heap.size w w38) := ⟨h3_⟩
   clear HO_9
   clear HB
   clear h0_ h1_ h2_ h3_
   have HO169 := n0_
   have HO172 := n1_
   have HO_9 := n2_
   have HB := n3_
   clear n0_ n1_ n2_ n3_
   have hHeld := trivial
   refine norm_ (a' := ?_) ?_ ?_
   rotate_left
   · simp only [putAll, Act.put, List.setIfInBounds_toArray, List.set_cons_zero, List.set_cons_succ]
     rfl
   refine pure_ (i := 5) (N := some 13) (v := ?_) (a' := ?_) (msk 6 63) rfl rfl (by kernel_rfl) (fun _ _ _ h => h) (Or.inl ⟨by rfl, ?_⟩) ?_ ?_
   rotate_left
   · intro w'; go_simp; with_reducible rfl
   rotate_left
   · simp only [Act.put, sq, i64_w, i32_w]; rfl
   refine done_ (by kernel_rfl) ?_
   try go_wp2
   (try (go_step3; go_wp2))
   go_loopg [] k1 (fun kq w' => ∃ (x12_2 : List Int) (x13_2 : List Int), Aside0 (offset_Offsets.l1 kq l1 l2 x9_1 x12_2 x13_2 = some (r1, r2, r3)) ∧ Aside0 (kq ≤ k1) ∧ Aside0 (Kd.R (Kd.int .i64) 3 w' w.heap.size (fun k_ => some k_ ≠ (v168 : Value).ownBlock ∧ some k_ ≠ (v171 : Value).ownBlock) v160 x9_1) ∧ Aside0 (Kd.R (Kd.int .i64) 3 w' w.heap.size (fun k_ => some k_ ≠ (v160 : Value).ownBlock ∧ some k_ ≠ (v171 : Value).ownBlock) v168 x12_2) ∧ Aside0 (Kd.R (Kd.int .i64) 3 w' w.heap.size (fun k_ => some k_ ≠ (v160 : Value).ownBlock ∧ some k_ ≠ (v168 : Value).ownBlock) v171 x13_2) ∧ Aside0 (Below w.heap.size w w'))
   case atStart => exact ⟨(y167), (y170), H', ⟨Nat.le_refl _⟩, ⟨by (with_reducible repeat (first | apply Kd.R_alloc | apply Kd.R_drewN | apply Kd.R_drew)); exact HO_9.out⟩, ⟨by (with_reducible repeat (first | apply Kd.R_alloc | apply Kd.R_drewN | apply Kd.R_drew)); exact Kd.R_mono HO169.out (fun _ hk => ⟨hk.2, hk.1⟩)⟩, ⟨by (with_reducible repeat (first | apply Kd.R_alloc | apply Kd.R_drewN | apply Kd.R_drew)); exact Kd.R_mono HO172.out (fun _ hk => ⟨hk.2, hk.1⟩)⟩, ⟨by repeat (first | (with_reducible first | exact HB.out | apply below_alloc | apply pw_below_drewN | apply below_drew1) | exact HB.out)⟩⟩
   case round =>
    clear H'
    try clear c1
    try clear p1
    try clear q1
    try clear hx1
    try clear p2
    try clear c3
    try clear p6
    try clear c11
    try clear c11b0
    try clear c12
    try clear c13
    try clear c13b0
    try clear c14
    try clear c14b0
    try clear c15
    try clear c15b0
    try clear c16
    try clear c16b0
    try clear c16b1
    try clear p16
    try clear q16
    try clear hx16
    try clear c17
    try clear c17b0
    try clear p19
    try clear q19
    try clear hx19
    try clear hf19
    try clear c31
    try clear c31b0
    try clear c31b1
    try clear c32
    try clear c32b0
    try clear c32b1
    try clear hcz21_0
    try clear hcz21_1
    try clear hcz21_2
    try clear hcz28_0
    try clear hcz28_1
    try clear hcz28_2
    try clear hfz21_0
    try clear hfz21_1
    try clear hfz21_2
    try clear hfz28_0
    try clear hfz28_1
    try clear hfz28_2
    try clear hx162_0
    try clear hx162_1
    try clear hx162_2
    try clear hx164_0
    try clear hx165_0
    try clear hx19_0
    try clear p162
    try clear p164
    try clear p165
    try clear p19
    try clear q162
    try clear q164
    try clear q165
    try clear q19
    obtain ⟨x12_2, x13_2, HA, HK2, HO_9, HO_12, HO_13, HB⟩ := hrel
    cases gk with
    | zero => exact absurd HA.out (by simp [offset_Offsets.l1])
    | succ k2 =>
     have H := HA.out
     clear HA
     simp only [offset_Offsets.l1] at H
     have H' := Aside0.mk H
     clear H
     go_wp2
     (try (go_step3; go_wp2))
     go_loopg [60] k2 (fun kq v60 w' => ∃ (x13_3 : List Int) (x60_3 : Int), v60 = .int .i64 x60_3 ∧ Aside0 (offset_Offsets.l2 kq l1 l2 x9_1 x12_2 x13_3 l1 (l1.length : Int) x60_3 = some (r1, r2, r3)) ∧ Aside0 (kq ≤ k2) ∧ Aside0 (Kd.R (Kd.int .i64) 3 w' w.heap.size (fun k_ => some k_ ≠ (v168 : Value).ownBlock ∧ some k_ ≠ (v171 : Value).ownBlock) v160 x9_1) ∧ Aside0 (Kd.R (Kd.int .i64) 3 w' w.heap.size (fun k_ => some k_ ≠ (v160 : Value).ownBlock ∧ some k_ ≠ (v171 : Value).ownBlock) v168 x12_2) ∧ Aside0 (Kd.R (Kd.int .i64) 3 w' w.heap.size (fun k_ => some k_ ≠ (v160 : Value).ownBlock ∧ some k_ ≠ (v168 : Value).ownBlock) v171 x13_3) ∧ Aside0 (Below w.heap.size w w'))
     case atStart => exact ⟨(x13_2), (0), (by first | rfl | (simp; done) | (simp [*]; done)), H', ⟨Nat.le_refl _⟩, ⟨by (with_reducible repeat (first | apply Kd.R_alloc | apply Kd.R_drewN | apply Kd.R_drew)); exact HO_9.out⟩, ⟨by (with_reducible repeat (first | apply Kd.R_alloc | apply Kd.R_drewN | apply Kd.R_drew)); exact HO_12.out⟩, ⟨by (with_reducible repeat (first | apply Kd.R_alloc | apply Kd.R_drewN | apply Kd.R_drew)); exact HO_13.out⟩, ⟨by repeat (first | (with_reducible first | exact HB.out | apply below_alloc | apply pw_below_drewN | apply below_drew1) | exact HB.out)⟩⟩
     case round =>
      clear H'
      try clear c1
      try clear p1
      try clear q1
      try clear hx1
      try clear p2
      try clear c3
      try clear p6
      try clear c11
      try clear c11b0
      try clear c12
      try clear c13
      try clear c13b0
      try clear c14
      try clear c14b0
      try clear c15
      try clear c15b0
      try clear c16
      try clear c16b0
      try clear c16b1
      try clear p16
      try clear q16
      try clear hx16
      try clear c17
      try clear c17b0
      try clear p19
      try clear q19
      try clear hx19
      try clear hf19
      try clear c31
      try clear c31b0
      try clear c31b1
      try clear c32
      try clear c32b0
      try clear c32b1
      try clear hcz21_0
      try clear hcz21_1
      try clear hcz21_2
      try clear hcz28_0
      try clear hcz28_1
      try clear hcz28_2
      try clear hfz21_0
      try clear hfz21_1
      try clear hfz21_2
      try clear hfz28_0
      try clear hfz28_1
      try clear hfz28_2
      try clear hx162_0
      try clear hx162_1
      try clear hx162_2
      try clear hx164_0
      try clear hx165_0
      try clear hx19_0
      try clear p1
      try clear p16
      try clear p162
      try clear p164
      try clear p165
      try clear p19
      try clear p2
      try clear p6
      try clear q1
      try clear q16
      try clear q162
      try clear q164
      try clear q165
      try clear q19
      obtain ⟨x13_3, x60_3, rfl, HA, HK3, HO_9, HO_12, HO_13, HB⟩ := hrel
      cases gk with
      | zero => exact absurd HA.out (by simp [offset_Offsets.l2])
      | succ k3 =>
       have H := HA.out
       clear HA
       simp only [offset_Offsets.l2] at H
       by_cases c39 : x60_3 < (l1.length : Int)
       case pos =>
        rw [if_pos c39] at H
        have c39b0 : decide (x60_3 < (l1.length : Int)) = true := decide_eq_true c39
        clear c39
        by_cases c40 : 0 ≤ x60_3
        case neg => rw [if_neg c40] at H; exact absurd H (by simp)
        rw [if_pos c40] at H
        have c40b0 : decide (0 ≤ x60_3) = true := decide_eq_true c40
        clear c40
        by_cases c41 : x60_3 < (l1.length : Int)
        case neg => rw [if_neg c41] at H; exact absurd H (by simp)
        rw [if_pos c41] at H
        have c41b0 : decide (x60_3 < (l1.length : Int)) = true := decide_eq_true c41
        clear c41
        by_cases c42 : 0 ≤ ((rd_T40 l1 x60_3).f1)
        case neg => rw [if_neg c42] at H; exact absurd H (by simp)
        rw [if_pos c42] at H
        have c42b0 : decide (0 ≤ ((rd_T40 l1 x60_3).f1)) = true := decide_eq_true c42
        clear c42
        by_cases c43 : ((rd_T40 l1 x60_3).f1) < (x13_3.length : Int)
        case neg => rw [if_neg c43] at H; exact absurd H (by simp)
        rw [if_pos c43] at H
        have c43b0 : decide (((rd_T40 l1 x60_3).f1) < (x13_3.length : Int)) = true := decide_eq_true c43
        clear c43
        by_cases c44 : 0 ≤ ((rd_T40 l1 x60_3).f0)
        case neg => rw [if_neg c44] at H; exact absurd H (by simp)
        rw [if_pos c44] at H
        have c44b0 : decide (0 ≤ ((rd_T40 l1 x60_3).f0)) = true := decide_eq_true c44
        clear c44
        by_cases c45 : ((rd_T40 l1 x60_3).f0) < (x12_2.length : Int)
        case neg => rw [if_neg c45] at H; exact absurd H (by simp)
        rw [if_pos c45] at H
        have c45b0 : decide (((rd_T40 l1 x60_3).f0) < (x12_2.length : Int)) = true := decide_eq_true c45
        clear c45
        obtain ⟨ji46, hji46⟩ : ∃ j_ : Int, (mx (rd x13_3 ((rd_T40 l1 x60_3).f1)) (wrap64 (((rd_T40 l1 x60_3).f2) + (rd x12_2 ((rd_T40 l1 x60_3).f0))))) = j_ := ⟨_, rfl⟩
        replace H : (offset_Offsets.l2 k3 l1 l2 x9_1 x12_2 (x13_3.set (((rd_T40 l1 x60_3).f1) : Int).toNat (ji46)) l1 (l1.length : Int) (wrap64 (x60_3 + 1))) = some (r1, r2, r3) := by first | (rw [hji46] at H; exact H) | (simp only [hji46] at H ⊢; exact H)
        have hji46_ : (if (rd x13_3 ((rd_T40 l1 x60_3).f1)) < (wrap64 (((rd_T40 l1 x60_3).f2) + (rd x12_2 ((rd_T40 l1 x60_3).f0)))) then (wrap64 (((rd_T40 l1 x60_3).f2) + (rd x12_2 ((rd_T40 l1 x60_3).f0)))) else (rd x13_3 ((rd_T40 l1 x60_3).f1))) = ji46 := hji46
        obtain ⟨y177, hy177⟩ : ∃ y_ : List Int, y_ = (x13_3.set (((rd_T40 l1 x60_3).f1) : Int).toNat (ji46)) := ⟨_, rfl⟩
        replace H : (offset_Offsets.l2 k3 l1 l2 x9_1 x12_2 y177 l1 (l1.length : Int) (wrap64 (x60_3 + 1))) = some (r1, r2, r3) := by first | (rw [hy177]; with_reducible exact H) | (have H2_ := (Option.bind_some _ _).symm.trans H; rw [hy177]; with_reducible exact H2_) | (have H2_ := (Option.bind_some _ _).symm.trans H; with_reducible exact H2_) | with_reducible exact H | (rw [hy177]; exact H) | exact H
        have Ny177 := Aside0.mk hy177
        clear hy177
        have H' := Aside0.mk H
        clear H
        have p173 : 0 ≤ (x60_3 : Int) := of_decide_eq_true (by first | (with_reducible assumption) | assumption)
        have q173 : x60_3 < (l1.length : Int) := of_decide_eq_true (by first | (with_reducible assumption) | assumption)
        obtain ⟨ad173, e173, hx173_0, hx173_1, hx173_2⟩ := at_T40 HR1.out x60_3 p173 q173
        cases e173
        replace hx173_0 := (HB.out.cell (World.block_lt_of_cell? w _ hx173_0)).trans hx173_0
        replace hx173_1 := (HB.out.cell (World.block_lt_of_cell? w _ hx173_1)).trans hx173_1
        replace hx173_2 := (HB.out.cell (World.block_lt_of_cell? w _ hx173_2)).trans hx173_2
        replace p173 := eq_true p173
        replace q173 := eq_true q173
        try go_wp2_with (first | ((with_reducible refine gate_dst (N := 15) rfl ?_); refine box_event ?hg (N := 15) ?hd (cs := #[.int .i64 0, .int .i64 0, .int .i64 0]) (t := 40) ?hr ?_; (case hd => rfl); (case hg => rfl); (case hr => first | (go_simp; done) | (go_simp; rfl)); intro gb174 hg w48 hbox hb; have n0_ := Aside0.mk (Kd.R_below (by (with_reducible repeat (first | apply Kd.R_alloc | apply Kd.R_drewN | apply Kd.R_drew)); exact HO_9.out) hb); have n1_ := Aside0.mk (Kd.R_below (by (with_reducible repeat (first | apply Kd.R_alloc | apply Kd.R_drewN | apply Kd.R_drew)); exact HO_12.out) hb); have n2_ := Aside0.mk (Kd.R_below (by (with_reducible repeat (first | apply Kd.R_alloc | apply Kd.R_drewN | apply Kd.R_drew)); exact HO_13.out) hb); have n3_ := Aside0.mk (below_step (by repeat (first | (with_reducible first | exact HB.out | apply below_alloc | apply pw_below_drewN | apply below_drew1) | exact HB.out)) hb); have n4_ := Aside0.mk (hbox); have n5_ := Aside0.mk ((by rw [hg]; exact (below_size (by repeat (first | (with_reducible first | exact HB.out | apply below_alloc | apply pw_below_drewN | apply below_drew1) | exact HB.out))) : w.heap.size ≤ gb174)); have n6_ := Aside0.mk ((by rw [hg]; exact (below_size (by repeat (first | (with_reducible first | exact HB.out | apply below_alloc | apply pw_below_drewN | apply below_drew1) | exact HB.out))) : w.heap.size ≤ gb174)); clear HO_9; clear HO_12; clear HO_13; clear HB; have HO_9 := n0_; have HO_12 := n1_; have HO_13 := n2_; have HB := n3_; have BK174 := n4_; have GW174 := n5_; have GE174 := n6_; clear n0_ n1_ n2_ n3_ n4_ n5_ n6_; clear hb hbox hg; have hcz49_0 : w48.cell? ⟨gb174, 0, none⟩ = some (.int .i64 0) := (blk_cell BK174.out 0).trans rfl; have hcz49_1 : w48.cell? ⟨gb174, 1, none⟩ = some (.int .i64 0) := (blk_cell BK174.out 1).trans rfl; have hcz49_2 : w48.cell? ⟨gb174, 2, none⟩ = some (.int .i64 0) := (blk_cell BK174.out 2).trans rfl; have hfz49_0 := blk_frozen BK174.out 0; have hfz49_1 := blk_frozen BK174.out 1; have hfz49_2 := blk_frozen BK174.out 2))
        have n0_ : Aside0 (Kd.R (Kd.int .i64) 3 (((w48.setCell ⟨gb174, 0, none⟩ (.int .i64 ((rd_T40 l1 x60_3).f0))).setCell ⟨gb174, 1, none⟩ (.int .i64 ((rd_T40 l1 x60_3).f1))).setCell ⟨gb174, 2, none⟩ (.int .i64 ((rd_T40 l1 x60_3).f2))) w.heap.size (fun k_ => some k_ ≠ (v168 : Value).ownBlock ∧ some k_ ≠ (v171 : Value).ownBlock) v160 x9_1) := ⟨by (with_reducible repeat (first | apply Kd.R_alloc | apply Kd.R_drewN | apply Kd.R_drew)); exact Kd.R_mono (Kd.R_far (p := ⟨gb174, 2, none⟩) (Kd.R_far (p := ⟨gb174, 1, none⟩) (Kd.R_far (p := ⟨gb174, 0, none⟩) (Kd.R_types HO_9.out BK174.out (by decide)) (fun _ hk => hk.2) (.int .i64 ((rd_T40 l1 x60_3).f0))) (fun _ hk => hk.2) (.int .i64 ((rd_T40 l1 x60_3).f1))) (fun _ hk => hk.2) (.int .i64 ((rd_T40 l1 x60_3).f2))) (fun _ hk => ⟨hk.1.1, hk.1.2⟩)⟩
        have n1_ : Aside0 (Kd.R (Kd.int .i64) 3 (((w48.setCell ⟨gb174, 0, none⟩ (.int .i64 ((rd_T40 l1 x60_3).f0))).setCell ⟨gb174, 1, none⟩ (.int .i64 ((rd_T40 l1 x60_3).f1))).setCell ⟨gb174, 2, none⟩ (.int .i64 ((rd_T40 l1 x60_3).f2))) w.heap.size (fun k_ => some k_ ≠ (v160 : Value).ownBlock ∧ some k_ ≠ (v171 : Value).ownBlock) v168 x12_2) := ⟨by (with_reducible repeat (first | apply Kd.R_alloc | apply Kd.R_drewN | apply Kd.R_drew)); exact Kd.R_mono (Kd.R_far (p := ⟨gb174, 2, none⟩) (Kd.R_far (p := ⟨gb174, 1, none⟩) (Kd.R_far (p := ⟨gb174, 0, none⟩) (Kd.R_types HO_12.out BK174.out (by decide)) (fun _ hk => hk.2) (.int .i64 ((rd_T40 l1 x60_3).f0))) (fun _ hk => hk.2) (.int .i64 ((rd_T40 l1 x60_3).f1))) (fun _ hk => hk.2) (.int .i64 ((rd_T40 l1 x60_3).f2))) (fun _ hk => ⟨hk.1.1, hk.1.2⟩)⟩
        have n2_ : Aside0 (Kd.R (Kd.int .i64) 3 (((w48.setCell ⟨gb174, 0, none⟩ (.int .i64 ((rd_T40 l1 x60_3).f0))).setCell ⟨gb174, 1, none⟩ (.int .i64 ((rd_T40 l1 x60_3).f1))).setCell ⟨gb174, 2, none⟩ (.int .i64 ((rd_T40 l1 x60_3).f2))) w.heap.size (fun k_ => some k_ ≠ (v160 : Value).ownBlock ∧ some k_ ≠ (v168 : Value).ownBlock) v171 x13_3) := ⟨by (with_reducible repeat (first | apply Kd.R_alloc | apply Kd.R_drewN | apply Kd.R_drew)); exact Kd.R_mono (Kd.R_far (p := ⟨gb174, 2, none⟩) (Kd.R_far (p := ⟨gb174, 1, none⟩) (Kd.R_far (p := ⟨gb174, 0, none⟩) (Kd.R_types HO_13.out BK174.out (by decide)) (fun _ hk => hk.2) (.int .i64 ((rd_T40 l1 x60_3).f0))) (fun _ hk => hk.2) (.int .i64 ((rd_T40 l1 x60_3).f1))) (fun _ hk => hk.2) (.int .i64 ((rd_T40 l1 x60_3).f2))) (fun _ hk => ⟨hk.1.1, hk.1.2⟩)⟩
        have n3_ : Aside0 ((((w48.setCell ⟨gb174, 0, none⟩ (.int .i64 ((rd_T40 l1 x60_3).f0))).setCell ⟨gb174, 1, none⟩ (.int .i64 ((rd_T40 l1 x60_3).f1))).setCell ⟨gb174, 2, none⟩ (.int .i64 ((rd_T40 l1 x60_3).f2))).heap[gb174]? = some (.cells #[.int .i64 ((rd_T40 l1 x60_3).f0), .int .i64 ((rd_T40 l1 x60_3).f1), .int .i64 ((rd_T40 l1 x60_3).f2)] 40 (0, 0))) := ⟨by (with_reducible repeat (first | refine blk_drewN ?_ _ | refine blk_drew ?_ | refine blk_alloc ?_ _)); refine blk_put (cs := #[.int .i64 ((rd_T40 l1 x60_3).f0), .int .i64 ((rd_T40 l1 x60_3).f1), .int .i64 0]) ?_ 2 _ rfl; (with_reducible repeat (first | refine blk_drewN ?_ _ | refine blk_drew ?_ | refine blk_alloc ?_ _)); refine blk_put (cs := #[.int .i64 ((rd_T40 l1 x60_3).f0), .int .i64 0, .int .i64 0]) ?_ 1 _ rfl; (with_reducible repeat (first | refine blk_drewN ?_ _ | refine blk_drew ?_ | refine blk_alloc ?_ _)); refine blk_put (cs := #[.int .i64 0, .int .i64 0, .int .i64 0]) ?_ 0 _ rfl; (with_reducible repeat (first | refine blk_drewN ?_ _ | refine blk_drew ?_ | refine blk_alloc ?_ _)); exact BK174.out⟩
        have n4_ : Aside0 (Below w.heap.size w (((w48.setCell ⟨gb174, 0, none⟩ (.int .i64 ((rd_T40 l1 x60_3).f0))).setCell ⟨gb174, 1, none⟩ (.int .i64 ((rd_T40 l1 x60_3).f1))).setCell ⟨gb174, 2, none⟩ (.int .i64 ((rd_T40 l1 x60_3).f2)))) := ⟨by repeat (first | (with_reducible first | exact HB.out | apply below_alloc | apply pw_below_drewN | apply below_drew1 | refine below_set ?_ GE174.out) | exact HB.out)⟩
        (try clear HO_9)
        (try clear HO_12)
        (try clear HO_13)
        (try clear BK174)
        (try clear HB)
        generalize (((w48.setCell ⟨gb174, 0, none⟩ (.int .i64 ((rd_T40 l1 x60_3).f0))).setCell ⟨gb174, 1, none⟩ (.int .i64 ((rd_T40 l1 x60_3).f1))).setCell ⟨gb174, 2, none⟩ (.int .i64 ((rd_T40 l1 x60_3).f2))) = w50 at n0_ n1_ n2_ n3_ n4_ ⊢
        have HO_9 := n0_
        have HO_12 := n1_
        have HO_13 := n2_
        have BK174 := n3_
        have HB := n4_
        clear n0_ n1_ n2_ n3_ n4_
        have n0_ := Aside0.mk (Kd.R_drew HO_9.out)
        have n1_ := Aside0.mk (Kd.R_drew HO_12.out)
        have n2_ := Aside0.mk (Kd.R_drew HO_13.out)
        have n3_ := Aside0.mk (blk_drew BK174.out)
        have n4_ := Aside0.mk (below_drew1 HB.out)
        clear HO_9
        clear HO_12
        clear HO_13
        clear BK174
        clear HB
        have HO_9 := n0_
        have HO_12 := n1_
        have HO_13 := n2_
        have BK174 := n3_
        have HB := n4_
        clear n0_ n1_ n2_ n3_ n4_
        obtain ⟨Ao52, co52, eo52⟩ := Kd.R_slice HO_13.out
        (first | subst eo52 | (injection eo52 with f1_ f2_ f3_; have f4_ := f1_.symm; have f5_ := f3_.symm; clear f1_ f2_ f3_; subst f4_; subst f5_))
        have p175 : 0 ≤ (((rd_T40 l1 x60_3).f1) : Int) := of_decide_eq_true (by first | (with_reducible assumption) | assumption)
        have q175 : ((rd_T40 l1 x60_3).f1) < (x13_3.length : Int) := of_decide_eq_true (by first | (with_reducible assumption) | assumption)
        obtain ⟨ad175, e175, hx175_0⟩ := Kd.at_int (Kd.R_reads' HO_13.out).2.2 ((rd_T40 l1 x60_3).f1) p175 q175
        cases e175
        replace p175 := eq_true p175
        replace q175 := eq_true q175
        obtain ⟨Ao53, co53, eo53⟩ := Kd.R_slice HO_12.out
        (first | subst eo53 | (injection eo53 with f1_ f2_ f3_; have f4_ := f1_.symm; have f5_ := f3_.symm; clear f1_ f2_ f3_; subst f4_; subst f5_))
        have p176 : 0 ≤ (((rd_T40 l1 x60_3).f0) : Int) := of_decide_eq_true (by first | (with_reducible assumption) | assumption)
        have q176 : ((rd_T40 l1 x60_3).f0) < (x12_2.length : Int) := of_decide_eq_true (by first | (with_reducible assumption) | assumption)
        obtain ⟨ad176, e176, hx176_0⟩ := Kd.at_int (Kd.R_reads' HO_12.out).2.2 ((rd_T40 l1 x60_3).f0) p176 q176
        cases e176
        replace p176 := eq_true p176
        replace q176 := eq_true q176
        have p47 : 0 ≤ (((rd_T40 l1 x60_3).f1) : Int) := of_decide_eq_true (by first | (with_reducible assumption) | assumption)
        have q47 : (((rd_T40 l1 x60_3).f1) : Int) < ((x13_3.length : Int) : Int) := of_decide_eq_true (by first | (with_reducible assumption) | assumption)
        obtain ⟨go47, co47, eo47, gb47, gl47, cl47, HG47⟩ := Kd.R_form HO_13.out (by omega)
        (first | cases eo47 | (injection eo47 with ea_ en_ ec_; (first | subst ea_ | (injection ea_ with ea_; subst ea_)); subst ec_; clear en_))
        have GB47 := Aside0.mk gb47
        have GG47 := Aside0.mk HG47
        clear gb47 gl47 HG47
        (first | simp only [add_plain] at hx175_0 | skip)
        obtain ⟨hx47_0, hf47_0⟩ := Kd.R_celln 0 HO_13.out (((rd_T40 l1 x60_3).f1) : Int) p47 q47
        replace p47 := eq_true p47
        replace q47 := eq_true q47
        have HP54 := Kd.R_putn HO_13.out (((rd_T40 l1 x60_3).f1) : Int) ji46
        rw [← Ny177.out] at HP54
        have HQ54 := Aside0.mk HP54
        clear HP54
        refine start_ (n := 19) (S := fun w' => w'.cell? ⟨gb174, 0, none⟩ = some (.int .i64 ((rd_T40 l1 x60_3).f0)) ∧ w'.cell? ⟨gb174, 1, none⟩ = some (.int .i64 ((rd_T40 l1 x60_3).f1)) ∧ w'.cell? ⟨gb174, 2, none⟩ = some (.int .i64 ((rd_T40 l1 x60_3).f2)) ∧ w'.cell? ⟨go47, (((rd_T40 l1 x60_3).f1)).toNat, none⟩ = some (.int .i64 (rd x13_3 ((rd_T40 l1 x60_3).f1))) ∧ w'.cell? (ad176.add (((rd_T40 l1 x60_3).f0)).toNat) = some (.int .i64 (rd x12_2 ((rd_T40 l1 x60_3).f0)))) (ds := [18]) (msk 19 0) (by kernel_rfl) rfl rfl ⟨(blk_cell BK174.out 0).trans rfl, (blk_cell BK174.out 1).trans rfl, (blk_cell BK174.out 2).trans rfl, hx175_0, hx176_0⟩ (fun hHeld => ?_); refine with_tabW offset_Offsets.tab14 offset_Offsets.bits14 (fun HT_ HW_ => ?_)
        generalize w50.drew = w51 at HO_9 HO_12 HO_13 BK174 HB GG47 HQ54 hf47_0 hx175_0 hx176_0 hx47_0 hHeld ⊢
        refine pu_ 0 64 (msk 19 1) HT_.out ?_ ?_ ?_ ?_ ?_
        rotate_left
        · intro w'; go_simp; with_reducible rfl
        rotate_left
        · simp only [Act.put, sq, i64_w, i32_w]; rfl
        refine pu_ 1 65 (msk 19 3) HT_.out ?_ ?_ ?_ ?_ ?_
        rotate_left
        · intro w'; go_simp; with_reducible rfl
        rotate_left
        · simp only [Act.put, sq, i64_w, i32_w]; rfl
        refine pu_ 3 67 (msk 19 11) HT_.out ?_ ?_ ?_ ?_ ?_
        rotate_left
        · intro w'; go_simp; with_reducible rfl
        rotate_left
        · simp only [Act.put, sq, i64_w, i32_w]; rfl
        refine pu_ 4 68 (msk 19 27) HT_.out ?_ ?_ ?_ ?_ ?_
        rotate_left
        · intro w'; go_simp; with_reducible rfl
        rotate_left
        · simp only [Act.put, sq, i64_w, i32_w]; rfl
        refine pu_ 8 72 (msk 19 283) HT_.out ?_ ?_ ?_ ?_ ?_
        rotate_left
        · intro w'; go_simp; with_reducible rfl
        rotate_left
        · simp only [Act.put, sq, i64_w, i32_w]; rfl
        refine pu_ 10 74 (msk 19 1307) HT_.out ?_ ?_ ?_ ?_ ?_
        rotate_left
        · intro w'; go_simp; with_reducible rfl
        rotate_left
        · simp only [Act.put, sq, i64_w, i32_w]; rfl
        refine pu_ 11 75 (msk 19 3355) HT_.out ?_ ?_ ?_ ?_ ?_
        rotate_left
        · intro w'; go_simp; with_reducible rfl
        rotate_left
        · simp only [Act.put, sq, i64_w, i32_w]; rfl
        refine tk_ 2 66 (msk 19 3359) HT_.out HW_.out hHeld ?_ ?_ ?_ ?_ ?_
        rotate_left
        · rintro w' ⟨s0, s1, s2, s3, s4⟩; go_simp; with_reducible rfl
        rotate_left
        · simp only [Act.put, sq, i64_w, i32_w]; rfl
        refine tk_ 5 69 (msk 19 3391) HT_.out HW_.out hHeld ?_ ?_ ?_ ?_ ?_
        rotate_left
        · rintro w' ⟨s0, s1, s2, s3, s4⟩; go_simp; with_reducible rfl
        rotate_left
        · simp only [Act.put, sq, i64_w, i32_w]; rfl
        refine pu_ 6 70 (msk 19 3455) HT_.out ?_ ?_ ?_ ?_ ?_
        rotate_left
        · intro w'; go_simp; with_reducible rfl
        rotate_left
        · simp only [Act.put, sq, i64_w, i32_w]; rfl
        refine tk_ 7 71 (msk 19 3583) HT_.out HW_.out hHeld ?_ ?_ ?_ ?_ ?_
        rotate_left
        · rintro w' ⟨s0, s1, s2, s3, s4⟩; go_simp; with_reducible rfl
        rotate_left
        · simp only [Act.put, sq, i64_w, i32_w]; rfl
        refine tk_ 9 73 (msk 19 4095) HT_.out HW_.out hHeld ?_ ?_ ?_ ?_ ?_
        rotate_left
        · rintro w' ⟨s0, s1, s2, s3, s4⟩; go_simp; with_reducible rfl
        rotate_left
        · simp only [Act.put, sq, i64_w, i32_w]; rfl
        refine tk_ 12 76 (msk 19 8191) HT_.out HW_.out hHeld ?_ ?_ ?_ ?_ ?_
        rotate_left
        · rintro w' ⟨s0, s1, s2, s3, s4⟩; go_simp; with_reducible rfl
        rotate_left
        · simp only [Act.put, sq, i64_w, i32_w]; rfl
        refine pu_ 13 77 (msk 19 16383) HT_.out ?_ ?_ ?_ ?_ ?_
        rotate_left
        · intro w'; go_simp; with_reducible rfl
        rotate_left
        · simp only [Act.put, sq, i64_w, i32_w]; rfl
        refine tk_ 14 78 (msk 19 32767) HT_.out HW_.out hHeld ?_ ?_ ?_ ?_ ?_
        rotate_left
        · rintro w' ⟨s0, s1, s2, s3, s4⟩; go_simp; with_reducible rfl
        rotate_left
        · simp only [Act.put, sq, i64_w, i32_w]; rfl
        refine pu_ 15 79 (msk 19 65535) HT_.out ?_ ?_ ?_ ?_ ?_
        rotate_left
        · intro w'; go_simp; with_reducible rfl
        rotate_left
        · simp only [Act.put, sq, i64_w, i32_w]; rfl
        refine pu_ 16 80 (msk 19 131071) HT_.out ?_ ?_ ?_ ?_ ?_
        rotate_left
        · intro w'; go_simp; with_reducible rfl
        rotate_left
        · simp only [Act.put, sq, i64_w, i32_w]; rfl
        refine pu_ 17 81 (msk 19 262143) HT_.out ?_ ?_ ?_ ?_ ?_
        rotate_left
        · intro w'; go_simp; with_reducible rfl
        rotate_left
        · simp only [Act.put, sq, i64_w, i32_w]; rfl
        refine last_ (i := 18) (N := none) (msk 19 524287) rfl rfl (one_of HT_.out (by kernel_rfl)) (by decide) (fun K hK => ?_)
        refine skip_ (w1 := ?_) (by rfl) rfl ?_ ?_
        rotate_left
        · go_simp
          rfl
        refine hK.out _ _ ?_
        clear hK K
        refine done_ (done_of HT_.out (by kernel_rfl)) ?_
        try go_wp2
        (first | go_roundg k3 | (refine Handed.intro k3 ?measure ?_; rotate_left; go_step; (repeat apply Exists.intro); (refine ⟨?rel, ?fr_⟩); (case fr_ => (simp only [add_plain]; rfl))))
        case measure => have := HK1.out; have := HK2.out; have := HK3.out; omega
        case rel => exact ⟨(y177), (wrap64 (x60_3 + 1)), (by first | rfl | (simp; done) | (simp [*]; done)), H', ⟨by have := HK1.out; have := HK2.out; have := HK3.out; omega⟩, ⟨by (with_reducible repeat (first | apply Kd.R_alloc | apply Kd.R_drewN | apply Kd.R_drew)); exact Kd.R_mono (Kd.R_far (p := ⟨go47, (((rd_T40 l1 x60_3).f1) : Int).toNat, none⟩) (Kd.R_mono HO_9.out (fun k_ hk => (⟨hk, fun e_ => hk.2 (by rw [e_]; rfl)⟩ : _ ∧ k_ ≠ go47))) (fun _ hk => hk.2) (.int .i64 ji46)) (fun _ hk => ⟨hk.1.1, hk.1.2⟩)⟩, ⟨by (with_reducible repeat (first | apply Kd.R_alloc | apply Kd.R_drewN | apply Kd.R_drew)); exact Kd.R_mono (Kd.R_far (p := ⟨go47, (((rd_T40 l1 x60_3).f1) : Int).toNat, none⟩) (Kd.R_mono HO_12.out (fun k_ hk => (⟨hk, fun e_ => hk.2 (by rw [e_]; rfl)⟩ : _ ∧ k_ ≠ go47))) (fun _ hk => hk.2) (.int .i64 ji46)) (fun _ hk => ⟨hk.1.1, hk.1.2⟩)⟩, ⟨by (with_reducible repeat (first | apply Kd.R_alloc | apply Kd.R_drewN | apply Kd.R_drew)); exact HQ54.out⟩, ⟨by repeat (first | (with_reducible first | exact HB.out | apply below_alloc | apply pw_below_drewN | apply below_drew1 | refine below_set ?_ GB47.out | refine below_set ?_ GE174.out) | exact HB.out)⟩⟩
       rw [if_neg c39] at H
       have c39b0 : decide (x60_3 < (l1.length : Int)) = false := decide_eq_false c39
       clear c39
       have H' := Aside0.mk H
       clear H
       go_wp2
       (try (go_step3; go_wp2))
       go_loopg [16, 85] k3 (fun kq v16 v85 w' => ∃ (x12_4 : List Int) (x16_4 : Bool) (x85_4 : Int), v16 = .bool x16_4 ∧ v85 = .int .i64 x85_4 ∧ Aside0 (offset_Offsets.l3 kq l1 l2 x9_1 x12_4 x13_3 x16_4 l2 (l2.length : Int) x85_4 = some (r1, r2, r3)) ∧ Aside0 (kq ≤ k3) ∧ Aside0 (Kd.R (Kd.int .i64) 3 w' w.heap.size (fun k_ => some k_ ≠ (v168 : Value).ownBlock ∧ some k_ ≠ (v171 : Value).ownBlock) v160 x9_1) ∧ Aside0 (Kd.R (Kd.int .i64) 3 w' w.heap.size (fun k_ => some k_ ≠ (v160 : Value).ownBlock ∧ some k_ ≠ (v171 : Value).ownBlock) v168 x12_4) ∧ Aside0 (Kd.R (Kd.int .i64) 3 w' w.heap.size (fun k_ => some k_ ≠ (v160 : Value).ownBlock ∧ some k_ ≠ (v168 : Value).ownBlock) v171 x13_3) ∧ Aside0 (Below w.heap.size w w'))
       case atStart => exact ⟨(x12_2), (false), (0), (by first | rfl | (simp; done) | (simp [*]; done)), (by first | rfl | (simp; done) | (simp [*]; done)), H', ⟨Nat.le_refl _⟩, ⟨by (with_reducible repeat (first | apply Kd.R_alloc | apply Kd.R_drewN | apply Kd.R_drew)); exact HO_9.out⟩, ⟨by (with_reducible repeat (first | apply Kd.R_alloc | apply Kd.R_drewN | apply Kd.R_drew)); exact HO_12.out⟩, ⟨by (with_reducible repeat (first | apply Kd.R_alloc | apply Kd.R_drewN | apply Kd.R_drew)); exact HO_13.out⟩, ⟨by repeat (first | (with_reducible first | exact HB.out | apply below_alloc | apply pw_below_drewN | apply below_drew1) | exact HB.out)⟩⟩
       case round =>
        clear H'
        try clear c1
        try clear p1
        try clear q1
        try clear hx1
        try clear p2
        try clear c3
        try clear c4
        try clear p4
        try clear q4
        try clear hx4
        try clear hf4
        try clear p6
        try clear c11
        try clear c11b0
        try clear c12
        try clear c13
        try clear c13b0
        try clear c14
        try clear c14b0
        try clear c15
        try clear c15b0
        try clear c16
        try clear c16b0
        try clear c16b1
        try clear p16
        try clear q16
        try clear hx16
        try clear c17
        try clear c17b0
        try clear p17
        try clear q17
        try clear hx17
        try clear p19
        try clear q19
        try clear hx19
        try clear hf19
        try clear c31
        try clear c31b0
        try clear c31b1
        try clear c32
        try clear c32b0
        try clear c32b1
        try clear c39
        try clear c39b0
        try clear c40
        try clear c40b0
        try clear c41
        try clear c41b0
        try clear c42
        try clear c42b0
        try clear c43
        try clear c43b0
        try clear c44
        try clear c44b0
        try clear c45
        try clear c45b0
        try clear p47
        try clear q47
        try clear hx47
        try clear hf47
        try clear hcz21_0
        try clear hcz21_1
        try clear hcz21_2
        try clear hcz28_0
        try clear hcz28_1
        try clear hcz28_2
        try clear hcz49_0
        try clear hcz49_1
        try clear hcz49_2
        try clear hfz21_0
        try clear hfz21_1
        try clear hfz21_2
        try clear hfz28_0
        try clear hfz28_1
        try clear hfz28_2
        try clear hfz49_0
        try clear hfz49_1
        try clear hfz49_2
        try clear hx162_0
        try clear hx162_1
        try clear hx162_2
        try clear hx164_0
        try clear hx165_0
        try clear hx173_0
        try clear hx173_1
        try clear hx173_2
        try clear hx175_0
        try clear hx176_0
        try clear hx19_0
        try clear hx47_0
        try clear p1
        try clear p16
        try clear p162
        try clear p164
        try clear p165
        try clear p173
        try clear p175
        try clear p176
        try clear p19
        try clear p2
        try clear p47
        try clear p6
        try clear q1
        try clear q16
        try clear q162
        try clear q164
        try clear q165
        try clear q173
        try clear q175
        try clear q176
        try clear q19
        try clear q47
        obtain ⟨x12_4, x16_4, x85_4, rfl, rfl, HA, HK4, HO_9, HO_12, HO_13, HB⟩ := hrel
        cases gk with
        | zero => exact absurd HA.out (by simp [offset_Offsets.l3])
        | succ k4 =>
         have H := HA.out
         clear HA
         simp only [offset_Offsets.l3] at H
         by_cases c55 : x85_4 < (l2.length : Int)
         case neg =>
          rw [if_neg c55] at H
          have c55b0 : decide (x85_4 < (l2.length : Int)) = false := decide_eq_false c55
          clear c55
          by_cases c86 : x16_4 = true
          case neg =>
           replace c86 := Bool.eq_false_iff.mpr c86
           subst c86
           have H1 : (some (x12_4, x13_3, 0)) = some (r1, r2, r3) := by rw [if_neg (show ¬ (false = true) by decide)] at H; exact H
           clear H
           have H := H1
           clear H1
           simp only [Option.some.injEq, Prod.mk.injEq] at H
           obtain ⟨rfl, rfl, rfl⟩ := H
           go_wp2
           go_ret3
           exact ⟨_, _, by first | rfl | (simp [errW_none, errW_some] <;> rfl) | (simp [*, errW_none, errW_some] <;> rfl), by (with_reducible repeat (first | apply Kd.R_alloc | apply Kd.R_drewN | apply Kd.R_drew)); exact Kd.R_mono HO_12.out (fun _ hk => hk.2), by (with_reducible repeat (first | apply Kd.R_alloc | apply Kd.R_drewN | apply Kd.R_drew)); exact Kd.R_mono HO_13.out (fun _ hk => hk.2), by repeat (first | (with_reducible first | exact HB.out | apply below_alloc | apply pw_below_drewN | apply below_drew1) | exact HB.out)⟩
          subst c86
          have H1 : (offset_Offsets.l1 k4 l1 l2 x9_1 x12_4 x13_3) = some (r1, r2, r3) := by rw [if_pos rfl] at H; exact H
          clear H
          have H := H1
          clear H1
          have H' := Aside0.mk H
          clear H
          go_wp2
          (first | go_roundg k4 | (refine Handed.intro k4 ?measure ?_; rotate_left; go_step; (repeat apply Exists.intro); (refine ⟨?rel, ?fr_⟩); (case fr_ => (simp only [add_plain]; rfl))))
          case measure => have := HK1.out; have := HK2.out; have := HK3.out; have := HK4.out; omega
          case rel => exact ⟨(x12_4), (x13_3), H', ⟨by have := HK1.out; have := HK2.out; have := HK3.out; have := HK4.out; omega⟩, ⟨by (with_reducible repeat (first | apply Kd.R_alloc | apply Kd.R_drewN | apply Kd.R_drew)); exact HO_9.out⟩, ⟨by (with_reducible repeat (first | apply Kd.R_alloc | apply Kd.R_drewN | apply Kd.R_drew)); exact HO_12.out⟩, ⟨by (with_reducible repeat (first | apply Kd.R_alloc | apply Kd.R_drewN | apply Kd.R_drew)); exact HO_13.out⟩, ⟨by repeat (first | (with_reducible first | exact HB.out | apply below_alloc | apply pw_below_drewN | apply below_drew1) | exact HB.out)⟩⟩
         rw [if_pos c55] at H
         have c55b0 : decide (x85_4 < (l2.length : Int)) = true := decide_eq_true c55
         clear c55
         by_cases c56 : 0 ≤ x85_4
         case neg => rw [if_neg c56] at H; exact absurd H (by simp)
         rw [if_pos c56] at H
         have c56b0 : decide (0 ≤ x85_4) = true := decide_eq_true c56
         clear c56
         by_cases c57 : x85_4 < (l2.length : Int)
         case neg => rw [if_neg c57] at H; exact absurd H (by simp)
         rw [if_pos c57] at H
         have c57b0 : decide (x85_4 < (l2.length : Int)) = true := decide_eq_true c57
         clear c57
         by_cases c58 : 0 ≤ (rd l2 x85_4)
         case neg => rw [if_neg c58] at H; exact absurd H (by simp)
         rw [if_pos c58] at H
         have c58b0 : decide (0 ≤ (rd l2 x85_4)) = true := decide_eq_true c58
         clear c58
         by_cases c59 : (rd l2 x85_4) < (x13_3.length : Int)
         case neg => rw [if_neg c59] at H; exact absurd H (by simp)
         rw [if_pos c59] at H
         have c59b0 : decide ((rd l2 x85_4) < (x13_3.length : Int)) = true := decide_eq_true c59
         clear c59
         by_cases c60 : x85_4 < (x9_1.length : Int)
         case neg => rw [if_neg c60] at H; exact absurd H (by simp)
         rw [if_pos c60] at H
         have c60b0 : decide (x85_4 < (x9_1.length : Int)) = true := decide_eq_true c60
         clear c60
         by_cases c61 : x85_4 < (x12_4.length : Int)
         case neg => rw [if_neg c61] at H; exact absurd H (by simp)
         rw [if_pos c61] at H
         have c61b0 : decide (x85_4 < (x12_4.length : Int)) = true := decide_eq_true c61
         clear c61
         by_cases c62 : (wrap64 ((rd x13_3 (rd l2 x85_4)) - (rd x9_1 x85_4))) = (rd x12_4 x85_4)
         case pos =>
          rw [if_pos c62] at H
          have c62b0 : ((wrap64 ((rd x13_3 (rd l2 x85_4)) - (rd x9_1 x85_4))) == (rd x12_4 x85_4)) = true := beq_iff_eq.mpr c62
          have c62b1 : ((wrap64 ((rd x13_3 (rd l2 x85_4)) - (rd x9_1 x85_4))) != (rd x12_4 x85_4)) = false := bne_eq_false_iff_eq.mpr c62
          clear c62
          by_cases c63 : (rd x12_4 x85_4) > 6
          case pos =>
           rw [if_pos c63] at H
           have c63b0 : decide (6 < (rd x12_4 x85_4)) = true := decide_eq_true c63
           clear c63
           simp only [Option.some.injEq, Prod.mk.injEq] at H
           obtain ⟨rfl, rfl, rfl⟩ := H
           have p178 : 0 ≤ (x85_4 : Int) := of_decide_eq_true (by first | (with_reducible assumption) | assumption)
           have q178 : x85_4 < (l2.length : Int) := of_decide_eq_true (by first | (with_reducible assumption) | assumption)
           obtain ⟨ad178, e178, hx178_0⟩ := Kd.at_int HR2.out x85_4 p178 q178
           cases e178
           replace hx178_0 := (HB.out.cell (World.block_lt_of_cell? w _ hx178_0)).trans hx178_0
           replace p178 := eq_true p178
           replace q178 := eq_true q178
           try go_wp2
           have n0_ := Aside0.mk (Kd.R_drew HO_9.out)
           have n1_ := Aside0.mk (Kd.R_drew HO_12.out)
           have n2_ := Aside0.mk (Kd.R_drew HO_13.out)
           have n3_ := Aside0.mk (below_drew1 HB.out)
           clear HO_9
           clear HO_12
           clear HO_13
           clear HB
           have HO_9 := n0_
           have HO_12 := n1_
           have HO_13 := n2_
           have HB := n3_
           clear n0_ n1_ n2_ n3_
           obtain ⟨Ao65, co65, eo65⟩ := Kd.R_slice HO_13.out
           (first | subst eo65 | (injection eo65 with f1_ f2_ f3_; have f4_ := f1_.symm; have f5_ := f3_.symm; clear f1_ f2_ f3_; subst f4_; subst f5_))
           have p179 : 0 ≤ ((rd l2 x85_4) : Int) := of_decide_eq_true (by first | (with_reducible assumption) | assumption)
           have q179 : (rd l2 x85_4) < (x13_3.length : Int) := of_decide_eq_true (by first | (with_reducible assumption) | assumption)
           obtain ⟨ad179, e179, hx179_0⟩ := Kd.at_int (Kd.R_reads' HO_13.out).2.2 (rd l2 x85_4) p179 q179
           cases e179
           replace p179 := eq_true p179
           replace q179 := eq_true q179
           obtain ⟨Ao66, co66, eo66⟩ := Kd.R_slice HO_9.out
           (first | subst eo66 | (injection eo66 with f1_ f2_ f3_; have f4_ := f1_.symm; have f5_ := f3_.symm; clear f1_ f2_ f3_; subst f4_; subst f5_))
           have p180 : 0 ≤ (x85_4 : Int) := of_decide_eq_true (by first | (with_reducible assumption) | assumption)
           have q180 : x85_4 < (x9_1.length : Int) := of_decide_eq_true (by first | (with_reducible assumption) | assumption)
           obtain ⟨ad180, e180, hx180_0⟩ := Kd.at_int (Kd.R_reads' HO_9.out).2.2 x85_4 p180 q180
           cases e180
           replace p180 := eq_true p180
           replace q180 := eq_true q180
           refine start_ (n := 10) (S := fun w' => w'.cell? (ad179.add ((rd l2 x85_4)).toNat) = some (.int .i64 (rd x13_3 (rd l2 x85_4))) ∧ w'.cell? (ad180.add (x85_4).toNat) = some (.int .i64 (rd x9_1 x85_4))) (ds := []) (msk 10 0) (by kernel_rfl) rfl rfl ⟨hx179_0, hx180_0⟩ (fun hHeld => ?_); refine with_tabW offset_Offsets.tab20 offset_Offsets.bits20 (fun HT_ HW_ => ?_)
           generalize wr.drew = w64 at HO_9 HO_12 HO_13 HB hx179_0 hx180_0 hHeld ⊢
           refine pu_ 0 90 (msk 10 1) HT_.out ?_ ?_ ?_ ?_ ?_
           rotate_left
           · intro w'; go_simp; with_reducible rfl
           rotate_left
           · simp only [Act.put, sq, i64_w, i32_w]; rfl
           refine pu_ 1 91 (msk 10 3) HT_.out ?_ ?_ ?_ ?_ ?_
           rotate_left
           · intro w'; go_simp; with_reducible rfl
           rotate_left
           · simp only [Act.put, sq, i64_w, i32_w]; rfl
           refine pu_ 2 92 (msk 10 7) HT_.out ?_ ?_ ?_ ?_ ?_
           rotate_left
           · intro w'; go_simp; with_reducible rfl
           rotate_left
           · simp only [Act.put, sq, i64_w, i32_w]; rfl
           refine pu_ 4 94 (msk 10 23) HT_.out ?_ ?_ ?_ ?_ ?_
           rotate_left
           · intro w'; go_simp; with_reducible rfl
           rotate_left
           · simp only [Act.put, sq, i64_w, i32_w]; rfl
           refine pu_ 5 95 (msk 10 55) HT_.out ?_ ?_ ?_ ?_ ?_
           rotate_left
           · intro w'; go_simp; with_reducible rfl
           rotate_left
           · simp only [Act.put, sq, i64_w, i32_w]; rfl
           refine pu_ 6 96 (msk 10 119) HT_.out ?_ ?_ ?_ ?_ ?_
           rotate_left
           · intro w'; go_simp; with_reducible rfl
           rotate_left
           · simp only [Act.put, sq, i64_w, i32_w]; rfl
           refine tk_ 3 93 (msk 10 127) HT_.out HW_.out hHeld ?_ ?_ ?_ ?_ ?_
           rotate_left
           · rintro w' ⟨s0, s1⟩; go_simp; with_reducible rfl
           rotate_left
           · simp only [Act.put, sq, i64_w, i32_w]; rfl
           refine tk_ 7 97 (msk 10 255) HT_.out HW_.out hHeld ?_ ?_ ?_ ?_ ?_
           rotate_left
           · rintro w' ⟨s0, s1⟩; go_simp; with_reducible rfl
           rotate_left
           · simp only [Act.put, sq, i64_w, i32_w]; rfl
           refine pu_ 8 98 (msk 10 511) HT_.out ?_ ?_ ?_ ?_ ?_
           rotate_left
           · intro w'; go_simp; with_reducible rfl
           rotate_left
           · simp only [Act.put, sq, i64_w, i32_w]; rfl
           refine pu_ 9 19 (msk 10 1023) HT_.out ?_ ?_ ?_ ?_ ?_
           rotate_left
           · intro w'; go_simp; with_reducible rfl
           rotate_left
           · simp only [Act.put, sq, i64_w, i32_w]; rfl
           refine done_ (done_of HT_.out (by kernel_rfl)) ?_
           obtain ⟨Ao67, co67, eo67⟩ := Kd.R_slice HO_12.out
           subst eo67
           have p181 : 0 ≤ (x85_4 : Int) := of_decide_eq_true (by first | (with_reducible assumption) | assumption)
           have q181 : x85_4 < (x12_4.length : Int) := of_decide_eq_true (by first | (with_reducible assumption) | assumption)
           obtain ⟨ad181, e181, hx181_0⟩ := Kd.at_int (Kd.R_reads' HO_12.out).2.2 x85_4 p181 q181
           cases e181
           replace p181 := eq_true p181
           replace q181 := eq_true q181
           have p182 : 0 ≤ (x85_4 : Int) := of_decide_eq_true (by first | (with_reducible assumption) | assumption)
           have q182 : x85_4 < (x12_4.length : Int) := of_decide_eq_true (by first | (with_reducible assumption) | assumption)
           obtain ⟨ad182, e182, hx182_0⟩ := Kd.at_int (Kd.R_reads' HO_12.out).2.2 x85_4 p182 q182
           obtain rfl : ad181 = ad182 := (by injection e182)
           replace p182 := eq_true p182
           replace q182 := eq_true q182
           try go_wp2
           go_ret3
           exact ⟨_, _, by first | rfl | (simp [errW_none, errW_some] <;> rfl) | (simp [*, errW_none, errW_some] <;> rfl), by first | exact Kd.R_nil _ _ _ _ _ | exact Kd.N_nil _ _ _ _ _ | exact Kd.V_nil _ _ _ _ _ | exact Kd.Q_nil _ _ _ _ _ | exact Kd.S_nil _ _ _ _ _, by first | exact Kd.R_nil _ _ _ _ _ | exact Kd.N_nil _ _ _ _ _ | exact Kd.V_nil _ _ _ _ _ | exact Kd.Q_nil _ _ _ _ _ | exact Kd.S_nil _ _ _ _ _, by repeat (first | (with_reducible first | exact HB.out | apply below_alloc | apply pw_below_drewN | apply below_drew1) | exact HB.out)⟩
          rw [if_neg c63] at H
          have c63b0 : decide (6 < (rd x12_4 x85_4)) = false := decide_eq_false c63
          clear c63
          have H' := Aside0.mk H
          clear H
          have p178 : 0 ≤ (x85_4 : Int) := of_decide_eq_true (by first | (with_reducible assumption) | assumption)
          have q178 : x85_4 < (l2.length : Int) := of_decide_eq_true (by first | (with_reducible assumption) | assumption)
          obtain ⟨ad178, e178, hx178_0⟩ := Kd.at_int HR2.out x85_4 p178 q178
          cases e178
          replace hx178_0 := (HB.out.cell (World.block_lt_of_cell? w _ hx178_0)).trans hx178_0
          replace p178 := eq_true p178
          replace q178 := eq_true q178
          try go_wp2
          have n0_ := Aside0.mk (Kd.R_drew HO_9.out)
          have n1_ := Aside0.mk (Kd.R_drew HO_12.out)
          have n2_ := Aside0.mk (Kd.R_drew HO_13.out)
          have n3_ := Aside0.mk (below_drew1 HB.out)
          clear HO_9
          clear HO_12
          clear HO_13
          clear HB
          have HO_9 := n0_
          have HO_12 := n1_
          have HO_13 := n2_
          have HB := n3_
          clear n0_ n1_ n2_ n3_
          obtain ⟨Ao69, co69, eo69⟩ := Kd.R_slice HO_13.out
          (first | subst eo69 | (injection eo69 with f1_ f2_ f3_; have f4_ := f1_.symm; have f5_ := f3_.symm; clear f1_ f2_ f3_; subst f4_; subst f5_))
          have p179 : 0 ≤ ((rd l2 x85_4) : Int) := of_decide_eq_true (by first | (with_reducible assumption) | assumption)
          have q179 : (rd l2 x85_4) < (x13_3.length : Int) := of_decide_eq_true (by first | (with_reducible assumption) | assumption)
          obtain ⟨ad179, e179, hx179_0⟩ := Kd.at_int (Kd.R_reads' HO_13.out).2.2 (rd l2 x85_4) p179 q179
          cases e179
          replace p179 := eq_true p179
          replace q179 := eq_true q179
          obtain ⟨Ao70, co70, eo70⟩ := Kd.R_slice HO_9.out
          (first | subst eo70 | (injection eo70 with f1_ f2_ f3_; have f4_ := f1_.symm; have f5_ := f3_.symm; clear f1_ f2_ f3_; subst f4_; subst f5_))
          have p180 : 0 ≤ (x85_4 : Int) := of_decide_eq_true (by first | (with_reducible assumption) | assumption)
          have q180 : x85_4 < (x9_1.length : Int) := of_decide_eq_true (by first | (with_reducible assumption) | assumption)
          obtain ⟨ad180, e180, hx180_0⟩ := Kd.at_int (Kd.R_reads' HO_9.out).2.2 x85_4 p180 q180
          cases e180
          replace p180 := eq_true p180
          replace q180 := eq_true q180
          refine start_ (n := 10) (S := fun w' => w'.cell? (ad179.add ((rd l2 x85_4)).toNat) = some (.int .i64 (rd x13_3 (rd l2 x85_4))) ∧ w'.cell? (ad180.add (x85_4).toNat) = some (.int .i64 (rd x9_1 x85_4))) (ds := []) (msk 10 0) (by kernel_rfl) rfl rfl ⟨hx179_0, hx180_0⟩ (fun hHeld => ?_); refine with_tabW offset_Offsets.tab20 offset_Offsets.bits20 (fun HT_ HW_ => ?_)
          generalize wr.drew = w68 at HO_9 HO_12 HO_13 HB hx179_0 hx180_0 hHeld ⊢
          refine pu_ 0 90 (msk 10 1) HT_.out ?_ ?_ ?_ ?_ ?_
          rotate_left
          · intro w'; go_simp; with_reducible rfl
          rotate_left
          · simp only [Act.put, sq, i64_w, i32_w]; rfl
          refine pu_ 1 91 (msk 10 3) HT_.out ?_ ?_ ?_ ?_ ?_
          rotate_left
          · intro w'; go_simp; with_reducible rfl
          rotate_left
          · simp only [Act.put, sq, i64_w, i32_w]; rfl
          refine pu_ 2 92 (msk 10 7) HT_.out ?_ ?_ ?_ ?_ ?_
          rotate_left
          · intro w'; go_simp; with_reducible rfl
          rotate_left
          · simp only [Act.put, sq, i64_w, i32_w]; rfl
          refine pu_ 4 94 (msk 10 23) HT_.out ?_ ?_ ?_ ?_ ?_
          rotate_left
          · intro w'; go_simp; with_reducible rfl
          rotate_left
          · simp only [Act.put, sq, i64_w, i32_w]; rfl
          refine pu_ 5 95 (msk 10 55) HT_.out ?_ ?_ ?_ ?_ ?_
          rotate_left
          · intro w'; go_simp; with_reducible rfl
          rotate_left
          · simp only [Act.put, sq, i64_w, i32_w]; rfl
          refine pu_ 6 96 (msk 10 119) HT_.out ?_ ?_ ?_ ?_ ?_
          rotate_left
          · intro w'; go_simp; with_reducible rfl
          rotate_left
          · simp only [Act.put, sq, i64_w, i32_w]; rfl
          refine tk_ 3 93 (msk 10 127) HT_.out HW_.out hHeld ?_ ?_ ?_ ?_ ?_
          rotate_left
          · rintro w' ⟨s0, s1⟩; go_simp; with_reducible rfl
          rotate_left
          · simp only [Act.put, sq, i64_w, i32_w]; rfl
          refine tk_ 7 97 (msk 10 255) HT_.out HW_.out hHeld ?_ ?_ ?_ ?_ ?_
          rotate_left
          · rintro w' ⟨s0, s1⟩; go_simp; with_reducible rfl
          rotate_left
          · simp only [Act.put, sq, i64_w, i32_w]; rfl
          refine pu_ 8 98 (msk 10 511) HT_.out ?_ ?_ ?_ ?_ ?_
          rotate_left
          · intro w'; go_simp; with_reducible rfl
          rotate_left
          · simp only [Act.put, sq, i64_w, i32_w]; rfl
          refine pu_ 9 19 (msk 10 1023) HT_.out ?_ ?_ ?_ ?_ ?_
          rotate_left
          · intro w'; go_simp; with_reducible rfl
          rotate_left
          · simp only [Act.put, sq, i64_w, i32_w]; rfl
          refine done_ (done_of HT_.out (by kernel_rfl)) ?_
          obtain ⟨Ao71, co71, eo71⟩ := Kd.R_slice HO_12.out
          subst eo71
          have p181 : 0 ≤ (x85_4 : Int) := of_decide_eq_true (by first | (with_reducible assumption) | assumption)
          have q181 : x85_4 < (x12_4.length : Int) := of_decide_eq_true (by first | (with_reducible assumption) | assumption)
          obtain ⟨ad181, e181, hx181_0⟩ := Kd.at_int (Kd.R_reads' HO_12.out).2.2 x85_4 p181 q181
          cases e181
          replace p181 := eq_true p181
          replace q181 := eq_true q181
          have p182 : 0 ≤ (x85_4 : Int) := of_decide_eq_true (by first | (with_reducible assumption) | assumption)
          have q182 : x85_4 < (x12_4.length : Int) := of_decide_eq_true (by first | (with_reducible assumption) | assumption)
          obtain ⟨ad182, e182, hx182_0⟩ := Kd.at_int (Kd.R_reads' HO_12.out).2.2 x85_4 p182 q182
          obtain rfl : ad181 = ad182 := (by injection e182)
          replace p182 := eq_true p182
          replace q182 := eq_true q182
          try go_wp2
          (first | go_roundg k4 | (refine Handed.intro k4 ?measure ?_; rotate_left; go_step; (repeat apply Exists.intro); (refine ⟨?rel, ?fr_⟩); (case fr_ => (simp only [add_plain]; rfl))))
          case measure => have := HK1.out; have := HK2.out; have := HK3.out; have := HK4.out; omega
          case rel => exact ⟨(x12_4), (x16_4), (wrap64 (x85_4 + 1)), (by first | rfl | (simp; done) | (simp [*]; done)), (by first | rfl | (simp; done) | (simp [*]; done)), H', ⟨by have := HK1.out; have := HK2.out; have := HK3.out; have := HK4.out; omega⟩, ⟨by (with_reducible repeat (first | apply Kd.R_alloc | apply Kd.R_drewN | apply Kd.R_drew)); exact HO_9.out⟩, ⟨by (with_reducible repeat (first | apply Kd.R_alloc | apply Kd.R_drewN | apply Kd.R_drew)); exact HO_12.out⟩, ⟨by (with_reducible repeat (first | apply Kd.R_alloc | apply Kd.R_drewN | apply Kd.R_drew)); exact HO_13.out⟩, ⟨by repeat (first | (with_reducible first | exact HB.out | apply below_alloc | apply pw_below_drewN | apply below_drew1) | exact HB.out)⟩⟩
         rw [if_neg c62] at H
         have c62b0 : ((wrap64 ((rd x13_3 (rd l2 x85_4)) - (rd x9_1 x85_4))) == (rd x12_4 x85_4)) = false := beq_eq_false_iff_ne.mpr c62
         have c62b1 : ((wrap64 ((rd x13_3 (rd l2 x85_4)) - (rd x9_1 x85_4))) != (rd x12_4 x85_4)) = true := bne_iff_ne.mpr c62
         obtain ⟨y183, hy183⟩ : ∃ y_ : List Int, y_ = (x12_4.set (x85_4 : Int).toNat (wrap64 ((rd x13_3 (rd l2 x85_4)) - (rd x9_1 x85_4)))) := ⟨_, rfl⟩
         replace H : (if (rd y183 x85_4) > 6 then (some (([] : List Int), ([] : List Int), 2)) else (offset_Offsets.l3 k4 l1 l2 x9_1 y183 x13_3 true l2 (l2.length : Int) (wrap64 (x85_4 + 1)))) = some (r1, r2, r3) := by first | (rw [hy183]; with_reducible exact H) | (have H2_ := (Option.bind_some _ _).symm.trans H; rw [hy183]; with_reducible exact H2_) | (have H2_ := (Option.bind_some _ _).symm.trans H; with_reducible exact H2_) | with_reducible exact H | (rw [hy183]; exact H) | exact H
         have Ny183 := Aside0.mk hy183
         clear hy183
         by_cases c73 : (rd y183 x85_4) > 6
         case pos =>
          rw [if_pos c73] at H
          have c73b0 : decide (6 < (rd y183 x85_4)) = true := decide_eq_true c73
          clear c73
          simp only [Option.some.injEq, Prod.mk.injEq] at H
          obtain ⟨rfl, rfl, rfl⟩ := H
          have p178 : 0 ≤ (x85_4 : Int) := of_decide_eq_true (by first | (with_reducible assumption) | assumption)
          have q178 : x85_4 < (l2.length : Int) := of_decide_eq_true (by first | (with_reducible assumption) | assumption)
          obtain ⟨ad178, e178, hx178_0⟩ := Kd.at_int HR2.out x85_4 p178 q178
          cases e178
          replace hx178_0 := (HB.out.cell (World.block_lt_of_cell? w _ hx178_0)).trans hx178_0
          replace p178 := eq_true p178
          replace q178 := eq_true q178
          try go_wp2
          have n0_ := Aside0.mk (Kd.R_drew HO_9.out)
          have n1_ := Aside0.mk (Kd.R_drew HO_12.out)
          have n2_ := Aside0.mk (Kd.R_drew HO_13.out)
          have n3_ := Aside0.mk (below_drew1 HB.out)
          clear HO_9
          clear HO_12
          clear HO_13
          clear HB
          have HO_9 := n0_
          have HO_12 := n1_
          have HO_13 := n2_
          have HB := n3_
          clear n0_ n1_ n2_ n3_
          obtain ⟨Ao75, co75, eo75⟩ := Kd.R_slice HO_13.out
          (first | subst eo75 | (injection eo75 with f1_ f2_ f3_; have f4_ := f1_.symm; have f5_ := f3_.symm; clear f1_ f2_ f3_; subst f4_; subst f5_))
          have p179 : 0 ≤ ((rd l2 x85_4) : Int) := of_decide_eq_true (by first | (with_reducible assumption) | assumption)
          have q179 : (rd l2 x85_4) < (x13_3.length : Int) := of_decide_eq_true (by first | (with_reducible assumption) | assumption)
          obtain ⟨ad179, e179, hx179_0⟩ := Kd.at_int (Kd.R_reads' HO_13.out).2.2 (rd l2 x85_4) p179 q179
          cases e179
          replace p179 := eq_true p179
          replace q179 := eq_true q179
          obtain ⟨Ao76, co76, eo76⟩ := Kd.R_slice HO_9.out
          (first | subst eo76 | (injection eo76 with f1_ f2_ f3_; have f4_ := f1_.symm; have f5_ := f3_.symm; clear f1_ f2_ f3_; subst f4_; subst f5_))
          have p180 : 0 ≤ (x85_4 : Int) := of_decide_eq_true (by first | (with_reducible assumption) | assumption)
          have q180 : x85_4 < (x9_1.length : Int) := of_decide_eq_true (by first | (with_reducible assumption) | assumption)
          obtain ⟨ad180, e180, hx180_0⟩ := Kd.at_int (Kd.R_reads' HO_9.out).2.2 x85_4 p180 q180
          cases e180
          replace p180 := eq_true p180
          replace q180 := eq_true q180
          refine start_ (n := 10) (S := fun w' => w'.cell? (ad179.add ((rd l2 x85_4)).toNat) = some (.int .i64 (rd x13_3 (rd l2 x85_4))) ∧ w'.cell? (ad180.add (x85_4).toNat) = some (.int .i64 (rd x9_1 x85_4))) (ds := []) (msk 10 0) (by kernel_rfl) rfl rfl ⟨hx179_0, hx180_0⟩ (fun hHeld => ?_); refine with_tabW offset_Offsets.tab20 offset_Offsets.bits20 (fun HT_ HW_ => ?_)
          generalize wr.drew = w74 at HO_9 HO_12 HO_13 HB hx179_0 hx180_0 hHeld ⊢
          refine pu_ 0 90 (msk 10 1) HT_.out ?_ ?_ ?_ ?_ ?_
          rotate_left
          · intro w'; go_simp; with_reducible rfl
          rotate_left
          · simp only [Act.put, sq, i64_w, i32_w]; rfl
          refine pu_ 1 91 (msk 10 3) HT_.out ?_ ?_ ?_ ?_ ?_
          rotate_left
          · intro w'; go_simp; with_reducible rfl
          rotate_left
          · simp only [Act.put, sq, i64_w, i32_w]; rfl
          refine pu_ 2 92 (msk 10 7) HT_.out ?_ ?_ ?_ ?_ ?_
          rotate_left
          · intro w'; go_simp; with_reducible rfl
          rotate_left
          · simp only [Act.put, sq, i64_w, i32_w]; rfl
          refine pu_ 4 94 (msk 10 23) HT_.out ?_ ?_ ?_ ?_ ?_
          rotate_left
          · intro w'; go_simp; with_reducible rfl
          rotate_left
          · simp only [Act.put, sq, i64_w, i32_w]; rfl
          refine pu_ 5 95 (msk 10 55) HT_.out ?_ ?_ ?_ ?_ ?_
          rotate_left
          · intro w'; go_simp; with_reducible rfl
          rotate_left
          · simp only [Act.put, sq, i64_w, i32_w]; rfl
          refine pu_ 6 96 (msk 10 119) HT_.out ?_ ?_ ?_ ?_ ?_
          rotate_left
          · intro w'; go_simp; with_reducible rfl
          rotate_left
          · simp only [Act.put, sq, i64_w, i32_w]; rfl
          refine tk_ 3 93 (msk 10 127) HT_.out HW_.out hHeld ?_ ?_ ?_ ?_ ?_
          rotate_left
          · rintro w' ⟨s0, s1⟩; go_simp; with_reducible rfl
          rotate_left
          · simp only [Act.put, sq, i64_w, i32_w]; rfl
          refine tk_ 7 97 (msk 10 255) HT_.out HW_.out hHeld ?_ ?_ ?_ ?_ ?_
          rotate_left
          · rintro w' ⟨s0, s1⟩; go_simp; with_reducible rfl
          rotate_left
          · simp only [Act.put, sq, i64_w, i32_w]; rfl
          refine pu_ 8 98 (msk 10 511) HT_.out ?_ ?_ ?_ ?_ ?_
          rotate_left
          · intro w'; go_simp; with_reducible rfl
          rotate_left
          · simp only [Act.put, sq, i64_w, i32_w]; rfl
          refine pu_ 9 19 (msk 10 1023) HT_.out ?_ ?_ ?_ ?_ ?_
          rotate_left
          · intro w'; go_simp; with_reducible rfl
          rotate_left
          · simp only [Act.put, sq, i64_w, i32_w]; rfl
          refine done_ (done_of HT_.out (by kernel_rfl)) ?_
          obtain ⟨Ao77, co77, eo77⟩ := Kd.R_slice HO_12.out
          subst eo77
          have p181 : 0 ≤ (x85_4 : Int) := of_decide_eq_true (by first | (with_reducible assumption) | assumption)
          have q181 : x85_4 < (x12_4.length : Int) := of_decide_eq_true (by first | (with_reducible assumption) | assumption)
          obtain ⟨ad181, e181, hx181_0⟩ := Kd.at_int (Kd.R_reads' HO_12.out).2.2 x85_4 p181 q181
          cases e181
          replace p181 := eq_true p181
          replace q181 := eq_true q181
          have p72 : 0 ≤ (x85_4 : Int) := of_decide_eq_true (by first | (with_reducible assumption) | assumption)
          have q72 : (x85_4 : Int) < ((x12_4.length : Int) : Int) := of_decide_eq_true (by first | (with_reducible assumption) | assumption)
          obtain ⟨go72, co72, eo72, gb72, gl72, cl72, HG72⟩ := Kd.R_form HO_12.out (by omega)
          (first | cases eo72 | (injection eo72 with ea_ en_ ec_; (first | subst ea_ | (injection ea_ with ea_; subst ea_)); subst ec_; clear en_))
          have GB72 := Aside0.mk gb72
          have GG72 := Aside0.mk HG72
          clear gb72 gl72 HG72
          (first | simp only [add_plain] at hx181_0 | skip)
          (first | simp only [add_plain] at hx182_0 | skip)
          obtain ⟨hx72_0, hf72_0⟩ := Kd.R_celln 0 HO_12.out (x85_4 : Int) p72 q72
          replace p72 := eq_true p72
          replace q72 := eq_true q72
          obtain ⟨hy78_, hz78_⟩ := Kd.R_celln 0 HO_12.out (x85_4 : Int) (of_decide_eq_true (by first | (with_reducible assumption) | assumption)) (of_decide_eq_true (by first | (with_reducible assumption) | assumption))
          have HP78 := Kd.R_putg HO_12.out (x85_4 : Int) (wrap64 ((rd x13_3 (rd l2 x85_4)) - (rd x9_1 x85_4)))
          try go_wp2_with (first | ((with_reducible refine gate_store (t := 3) (p := 108) rfl ?_); refine store_event (t := 3) (p := 108) (v := ?vo_w79) (w1 := (w74.setCell ⟨go72, (x85_4 : Int).toNat, none⟩ (.int .i64 (wrap64 ((rd x13_3 (rd l2 x85_4)) - (rd x9_1 x85_4)))))) ?hg ?ho ?hn ?hr ?_; (case ho => rfl); (case hg => rfl); (case hn => rfl); (case hr => first | (go_simp; done) | (go_simp; rfl)); intro w79 hw; have hg : w74.grownBy w79 (some go72) := (by rw [hw]; exact HP78.2); have hp_ : Kd.R (Kd.int .i64) 3 w79 w.heap.size (fun k_ => some k_ ≠ (.slice (some ad180) x9_1.length co76 : Value).ownBlock ∧ some k_ ≠ (.slice (some ad179) x13_3.length co75 : Value).ownBlock) (.slice (some ⟨go72, 0, none⟩) x12_4.length co77) y183 := (by rw [hw, Ny183.out]; exact HP78.1); clear HP78; have n0_ := Aside0.mk (Kd.R_after (v := (.slice (some ⟨go72, 0, none⟩) x12_4.length co77)) (v1 := (.slice (some ⟨go72, 0, none⟩) x12_4.length co77)) (ok := (fun k_ => some k_ ≠ (.slice (some ad179) x13_3.length co75 : Value).ownBlock)) (by (with_reducible repeat (first | apply Kd.R_alloc | apply Kd.R_drewN | apply Kd.R_drew)); exact Kd.R_mono HO_9.out (fun _ hk => ⟨hk.2, hk.1⟩)) hg (.inl rfl)); have n1_ := Aside0.mk (hp_); have n2_ := Aside0.mk (Kd.R_after (v := (.slice (some ⟨go72, 0, none⟩) x12_4.length co77)) (v1 := (.slice (some ⟨go72, 0, none⟩) x12_4.length co77)) (ok := (fun k_ => some k_ ≠ (.slice (some ad180) x9_1.length co76 : Value).ownBlock)) (by (with_reducible repeat (first | apply Kd.R_alloc | apply Kd.R_drewN | apply Kd.R_drew)); exact HO_13.out) hg (.inl rfl)); have n3_ := Aside0.mk ((by rw [hw]; exact below_set (HB.out) GB72.out : Below w.heap.size w w79)); clear HO_9; clear HO_12; clear HO_13; clear HB; have HO_9 := n0_; have HO_12 := n1_; have HO_13 := n2_; have HB := n3_; clear n0_ n1_ n2_ n3_; clear hg hw hp_; have p184 : 0 ≤ (x85_4 : Int) := of_decide_eq_true (by first | (with_reducible assumption) | assumption); have q184 : x85_4 < (y183.length : Int) := (by have h_ : (x85_4 : Int) < ((x12_4.length : Int) : Int) := of_decide_eq_true (by first | (with_reducible assumption) | assumption); first | (have e_ := (Kd.R_reads' HO_12.out).1; omega) | simpa only [Ny183.out, List.length_set] using h_); have ql184 : ((x85_4 : Int) < ((x12_4.length : Int) : Int)) = True := eq_true (of_decide_eq_true (by first | (with_reducible assumption) | assumption)); obtain ⟨ad184, e184, hx184_0⟩ := Kd.at_int (Kd.R_reads' HO_12.out).2.2 x85_4 p184 q184; obtain rfl : (⟨go72, 0, none⟩ : Addr) = ad184 := (by injection e184); (first | simp only [add_plain] at hx184_0 | simp only [add_at] at hx184_0 | simp only [Addr.add, Nat.zero_add] at hx184_0 | skip); replace p184 := eq_true p184; replace q184 := eq_true q184))
          go_ret3
          exact ⟨_, _, by first | rfl | (simp [errW_none, errW_some] <;> rfl) | (simp [*, errW_none, errW_some] <;> rfl), by first | exact Kd.R_nil _ _ _ _ _ | exact Kd.N_nil _ _ _ _ _ | exact Kd.V_nil _ _ _ _ _ | exact Kd.Q_nil _ _ _ _ _ | exact Kd.S_nil _ _ _ _ _, by first | exact Kd.R_nil _ _ _ _ _ | exact Kd.N_nil _ _ _ _ _ | exact Kd.V_nil _ _ _ _ _ | exact Kd.Q_nil _ _ _ _ _ | exact Kd.S_nil _ _ _ _ _, by repeat (first | (with_reducible first | exact HB.out | apply below_alloc | apply pw_below_drewN | apply below_drew1) | exact HB.out)⟩
         rw [if_neg c73] at H
         have c73b0 : decide (6 < (rd y183 x85_4)) = false := decide_eq_false c73
         clear c73
         have H' := Aside0.mk H
         clear H
         have p178 : 0 ≤ (x85_4 : Int) := of_decide_eq_true (by first | (with_reducible assumption) | assumption)
         have q178 : x85_4 < (l2.length : Int) := of_decide_eq_true (by first | (with_reducible assumption) | assumption)
         obtain ⟨ad178, e178, hx178_0⟩ := Kd.at_int HR2.out x85_4 p178 q178
         cases e178
         replace hx178_0 := (HB.out.cell (World.block_lt_of_cell? w _ hx178_0)).trans hx178_0
         replace p178 := eq_true p178
         replace q178 := eq_true q178
         try go_wp2
         have n0_ := Aside0.mk (Kd.R_drew HO_9.out)
         have n1_ := Aside0.mk (Kd.R_drew HO_12.out)
         have n2_ := Aside0.mk (Kd.R_drew HO_13.out)
         have n3_ := Aside0.mk (below_drew1 HB.out)
         clear HO_9
         clear HO_12
         clear HO_13
         clear HB
         have HO_9 := n0_
         have HO_12 := n1_
         have HO_13 := n2_
         have HB := n3_
         clear n0_ n1_ n2_ n3_
         obtain ⟨Ao81, co81, eo81⟩ := Kd.R_slice HO_13.out
         (first | subst eo81 | (injection eo81 with f1_ f2_ f3_; have f4_ := f1_.symm; have f5_ := f3_.symm; clear f1_ f2_ f3_; subst f4_; subst f5_))
         have p179 : 0 ≤ ((rd l2 x85_4) : Int) := of_decide_eq_true (by first | (with_reducible assumption) | assumption)
         have q179 : (rd l2 x85_4) < (x13_3.length : Int) := of_decide_eq_true (by first | (with_reducible assumption) | assumption)
         obtain ⟨ad179, e179, hx179_0⟩ := Kd.at_int (Kd.R_reads' HO_13.out).2.2 (rd l2 x85_4) p179 q179
         cases e179
         replace p179 := eq_true p179
         replace q179 := eq_true q179
         obtain ⟨Ao82, co82, eo82⟩ := Kd.R_slice HO_9.out
         (first | subst eo82 | (injection eo82 with f1_ f2_ f3_; have f4_ := f1_.symm; have f5_ := f3_.symm; clear f1_ f2_ f3_; subst f4_; subst f5_))
         have p180 : 0 ≤ (x85_4 : Int) := of_decide_eq_true (by first | (with_reducible assumption) | assumption)
         have q180 : x85_4 < (x9_1.length : Int) := of_decide_eq_true (by first | (with_reducible assumption) | assumption)
         obtain ⟨ad180, e180, hx180_0⟩ := Kd.at_int (Kd.R_reads' HO_9.out).2.2 x85_4 p180 q180
         cases e180
         replace p180 := eq_true p180
         replace q180 := eq_true q180
         refine start_ (n := 10) (S := fun w' => w'.cell? (ad179.add ((rd l2 x85_4)).toNat) = some (.int .i64 (rd x13_3 (rd l2 x85_4))) ∧ w'.cell? (ad180.add (x85_4).toNat) = some (.int .i64 (rd x9_1 x85_4))) (ds := []) (msk 10 0) (by kernel_rfl) rfl rfl ⟨hx179_0, hx180_0⟩ (fun hHeld => ?_); refine with_tabW offset_Offsets.tab20 offset_Offsets.bits20 (fun HT_ HW_ => ?_)
         generalize wr.drew = w80 at HO_9 HO_12 HO_13 HB hx179_0 hx180_0 hHeld ⊢
         refine pu_ 0 90 (msk 10 1) HT_.out ?_ ?_ ?_ ?_ ?_
         rotate_left
         · intro w'; go_simp; with_reducible rfl
         rotate_left
         · simp only [Act.put, sq, i64_w, i32_w]; rfl
         refine pu_ 1 91 (msk 10 3) HT_.out ?_ ?_ ?_ ?_ ?_
         rotate_left
         · intro w'; go_simp; with_reducible rfl
         rotate_left
         · simp only [Act.put, sq, i64_w, i32_w]; rfl
         refine pu_ 2 92 (msk 10 7) HT_.out ?_ ?_ ?_ ?_ ?_
         rotate_left
         · intro w'; go_simp; with_reducible rfl
         rotate_left
         · simp only [Act.put, sq, i64_w, i32_w]; rfl
         refine pu_ 4 94 (msk 10 23) HT_.out ?_ ?_ ?_ ?_ ?_
         rotate_left
         · intro w'; go_simp; with_reducible rfl
         rotate_left
         · simp only [Act.put, sq, i64_w, i32_w]; rfl
         refine pu_ 5 95 (msk 10 55) HT_.out ?_ ?_ ?_ ?_ ?_
         rotate_left
         · intro w'; go_simp; with_reducible rfl
         rotate_left
         · simp only [Act.put, sq, i64_w, i32_w]; rfl
         refine pu_ 6 96 (msk 10 119) HT_.out ?_ ?_ ?_ ?_ ?_
         rotate_left
         · intro w'; go_simp; with_reducible rfl
         rotate_left
         · simp only [Act.put, sq, i64_w, i32_w]; rfl
         refine tk_ 3 93 (msk 10 127) HT_.out HW_.out hHeld ?_ ?_ ?_ ?_ ?_
         rotate_left
         · rintro w' ⟨s0, s1⟩; go_simp; with_reducible rfl
         rotate_left
         · simp only [Act.put, sq, i64_w, i32_w]; rfl
         refine tk_ 7 97 (msk 10 255) HT_.out HW_.out hHeld ?_ ?_ ?_ ?_ ?_
         rotate_left
         · rintro w' ⟨s0, s1⟩; go_simp; with_reducible rfl
         rotate_left
         · simp only [Act.put, sq, i64_w, i32_w]; rfl
         refine pu_ 8 98 (msk 10 511) HT_.out ?_ ?_ ?_ ?_ ?_
         rotate_left
         · intro w'; go_simp; with_reducible rfl
         rotate_left
         · simp only [Act.put, sq, i64_w, i32_w]; rfl
         refine pu_ 9 19 (msk 10 1023) HT_.out ?_ ?_ ?_ ?_ ?_
         rotate_left
         · intro w'; go_simp; with_reducible rfl
         rotate_left
         · simp only [Act.put, sq, i64_w, i32_w]; rfl
         refine done_ (done_of HT_.out (by kernel_rfl)) ?_
         obtain ⟨Ao83, co83, eo83⟩ := Kd.R_slice HO_12.out
         subst eo83
         have p181 : 0 ≤ (x85_4 : Int) := of_decide_eq_true (by first | (with_reducible assumption) | assumption)
         have q181 : x85_4 < (x12_4.length : Int) := of_decide_eq_true (by first | (with_reducible assumption) | assumption)
         obtain ⟨ad181, e181, hx181_0⟩ := Kd.at_int (Kd.R_reads' HO_12.out).2.2 x85_4 p181 q181
         cases e181
         replace p181 := eq_true p181
         replace q181 := eq_true q181
         have p72 : 0 ≤ (x85_4 : Int) := of_decide_eq_true (by first | (with_reducible assumption) | assumption)
         have q72 : (x85_4 : Int) < ((x12_4.length : Int) : Int) := of_decide_eq_true (by first | (with_reducible assumption) | assumption)
         obtain ⟨go72, co72, eo72, gb72, gl72, cl72, HG72⟩ := Kd.R_form HO_12.out (by omega)
         (first | cases eo72 | (injection eo72 with ea_ en_ ec_; (first | subst ea_ | (injection ea_ with ea_; subst ea_)); subst ec_; clear en_))
         have GB72 := Aside0.mk gb72
         have GG72 := Aside0.mk HG72
         clear gb72 gl72 HG72
         (first | simp only [add_plain] at hx181_0 | skip)
         obtain ⟨hx72_0, hf72_0⟩ := Kd.R_celln 0 HO_12.out (x85_4 : Int) p72 q72
         replace p72 := eq_true p72
         replace q72 := eq_true q72
         obtain ⟨hy84_, hz84_⟩ := Kd.R_celln 0 HO_12.out (x85_4 : Int) (of_decide_eq_true (by first | (with_reducible assumption) | assumption)) (of_decide_eq_true (by first | (with_reducible assumption) | assumption))
         have HP84 := Kd.R_putg HO_12.out (x85_4 : Int) (wrap64 ((rd x13_3 (rd l2 x85_4)) - (rd x9_1 x85_4)))
         try go_wp2_with (first | ((with_reducible refine gate_store (t := 3) (p := 108) rfl ?_); refine store_event (t := 3) (p := 108) (v := ?vo_w85) (w1 := (w80.setCell ⟨go72, (x85_4 : Int).toNat, none⟩ (.int .i64 (wrap64 ((rd x13_3 (rd l2 x85_4)) - (rd x9_1 x85_4)))))) ?hg ?ho ?hn ?hr ?_; (case ho => rfl); (case hg => rfl); (case hn => rfl); (case hr => first | (go_simp; done) | (go_simp; rfl)); intro w85 hw; have hg : w80.grownBy w85 (some go72) := (by rw [hw]; exact HP84.2); have hp_ : Kd.R (Kd.int .i64) 3 w85 w.heap.size (fun k_ => some k_ ≠ (.slice (some ad180) x9_1.length co82 : Value).ownBlock ∧ some k_ ≠ (.slice (some ad179) x13_3.length co81 : Value).ownBlock) (.slice (some ⟨go72, 0, none⟩) x12_4.length co83) y183 := (by rw [hw, Ny183.out]; exact HP84.1); clear HP84; have n0_ := Aside0.mk (Kd.R_after (v := (.slice (some ⟨go72, 0, none⟩) x12_4.length co83)) (v1 := (.slice (some ⟨go72, 0, none⟩) x12_4.length co83)) (ok := (fun k_ => some k_ ≠ (.slice (some ad179) x13_3.length co81 : Value).ownBlock)) (by (with_reducible repeat (first | apply Kd.R_alloc | apply Kd.R_drewN | apply Kd.R_drew)); exact Kd.R_mono HO_9.out (fun _ hk => ⟨hk.2, hk.1⟩)) hg (.inl rfl)); have n1_ := Aside0.mk (hp_); have n2_ := Aside0.mk (Kd.R_after (v := (.slice (some ⟨go72, 0, none⟩) x12_4.length co83)) (v1 := (.slice (some ⟨go72, 0, none⟩) x12_4.length co83)) (ok := (fun k_ => some k_ ≠ (.slice (some ad180) x9_1.length co82 : Value).ownBlock)) (by (with_reducible repeat (first | apply Kd.R_alloc | apply Kd.R_drewN | apply Kd.R_drew)); exact HO_13.out) hg (.inl rfl)); have n3_ := Aside0.mk ((by rw [hw]; exact below_set (HB.out) GB72.out : Below w.heap.size w w85)); clear HO_9; clear HO_12; clear HO_13; clear HB; have HO_9 := n0_; have HO_12 := n1_; have HO_13 := n2_; have HB := n3_; clear n0_ n1_ n2_ n3_; clear hg hw hp_; have p184 : 0 ≤ (x85_4 : Int) := of_decide_eq_true (by first | (with_reducible assumption) | assumption); have q184 : x85_4 < (y183.length : Int) := (by have h_ : (x85_4 : Int) < ((x12_4.length : Int) : Int) := of_decide_eq_true (by first | (with_reducible assumption) | assumption); first | (have e_ := (Kd.R_reads' HO_12.out).1; omega) | simpa only [Ny183.out, List.length_set] using h_); have ql184 : ((x85_4 : Int) < ((x12_4.length : Int) : Int)) = True := eq_true (of_decide_eq_true (by first | (with_reducible assumption) | assumption)); obtain ⟨ad184, e184, hx184_0⟩ := Kd.at_int (Kd.R_reads' HO_12.out).2.2 x85_4 p184 q184; obtain rfl : (⟨go72, 0, none⟩ : Addr) = ad184 := (by injection e184); (first | simp only [add_plain] at hx184_0 | simp only [add_at] at hx184_0 | simp only [Addr.add, Nat.zero_add] at hx184_0 | skip); replace p184 := eq_true p184; replace q184 := eq_true q184))
         (first | go_roundg k4 | (refine Handed.intro k4 ?measure ?_; rotate_left; go_step; (repeat apply Exists.intro); (refine ⟨?rel, ?fr_⟩); (case fr_ => (simp only [add_plain]; rfl))))
         case measure => have := HK1.out; have := HK2.out; have := HK3.out; have := HK4.out; omega
         case rel => exact ⟨(y183), (true), (wrap64 (x85_4 + 1)), (by first | rfl | (simp; done) | (simp [*]; done)), (by first | rfl | (simp; done) | (simp [*]; done)), H', ⟨by have := HK1.out; have := HK2.out; have := HK3.out; have := HK4.out; omega⟩, ⟨by (with_reducible repeat (first | apply Kd.R_alloc | apply Kd.R_drewN | apply Kd.R_drew)); exact Kd.R_mono HO_9.out (fun _ hk => ⟨hk.2, hk.1⟩)⟩, ⟨by (with_reducible repeat (first | apply Kd.R_alloc | apply Kd.R_drewN | apply Kd.R_drew)); exact HO_12.out⟩, ⟨by (with_reducible repeat (first | apply Kd.R_alloc | apply Kd.R_drewN | apply Kd.R_drew)); exact HO_13.out⟩, ⟨by repeat (first | (with_reducible first | exact HB.out | apply below_alloc | apply pw_below_drewN | apply below_drew1) | exact HB.out)⟩⟩

end Go.Proofs.Ytamloclgignfgaa.PA
