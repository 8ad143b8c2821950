/- What the Go functions of this part compute, as Lean functions, and that the machine's calls come to just that; written for this claim by a program of the session (gen.sh, after the kit's printer). -/
import Derived.Test.YtlaneafplmbcnaaPOx0
import Derived.Test.YtlaneafplmbcnaaSq
import Derived.Test.YtlaneafplmbcnaaPOx45
import Derived.Test.YtlaneafplmbcnaaPOx49
import Derived.Test.YtlaneafplmbcnaaPOx50
import Derived.Test.YtlaneafplmbcnaaGiven
namespace Go.Proofs.Ytlaneafplmbcnaa.PO
open Go.RowKit Go.Proofs.YtlaneafplmbcnaaW.PrintWords Go.Proofs.YtlaneafplmbcnaaW.PrintLast Go.Proofs.YtlaneafplmbcnaaW.PrintMore
attribute [local go_sem] max2_int min2_int max_two min_two max_three min_three max_four min_four   -- for this text's walks alone
set_option linter.unusedVariables false
set_option linter.unusedSimpArgs false

/-! ### orrerylaw21_OrderWhole: function 7 -/
mutual
def orrerylaw21_OrderWhole.l0 : Nat → Int → List (List Int) → List (S30) → Int → Int → Option (Bool)
  | 0, _, _, _, _, _ => none
  | k + 1, x0, x9, x38, x39, x40 => if x40 < x39 then (if 0 ≤ x40 then (if x40 < (x38.length : Int) then (orrerylaw21_OrderWhole.l1 k x0 x9 x38 x39 x40 ((rd_T30 x38 x40).f0) (((rd_T30 x38 x40).f0).length : Int) 0 ((rd_T30 x38 x40).f0) ((rd_T30 x38 x40).f1)) else (none)) else (none)) else (some true)
def orrerylaw21_OrderWhole.l1 : Nat → Int → List (List Int) → List (S30) → Int → Int → List Int → Int → Int → List Int → List Int → Option (Bool)
  | 0, _, _, _, _, _, _, _, _, _, _ => none
  | k + 1, x0, x9, x38, x39, x40, x45, x46, x47, x459000, x459001 => if x47 < x46 then (if 0 ≤ x47 then (if x47 < (x45.length : Int) then (orrerylaw21_OrderWhole.l2 k x0 x9 (rd x45 x47) 0 x38 x39 x40 x45 x46 x47 x459000 x459001) else (none)) else (none)) else (orrerylaw21_OrderWhole.l0 k x0 x9 x38 x39 (wrap64 (x40 + 1)))
def orrerylaw21_OrderWhole.l2 : Nat → Int → List (List Int) → Int → Int → List (S30) → Int → Int → List Int → Int → Int → List Int → List Int → Option (Bool)
  | 0, _, _, _, _, _, _, _, _, _, _, _, _ => none
  | k + 1, x0, x9, x13, x14, x38, x39, x40, x45, x46, x47, x459000, x459001 => if x14 < x0 then (orrerylaw21_OrderWhole.l3 k x0 x9 x13 x14 false x38 x39 x40 x45 x46 x47 x459000 (x459000.length : Int) 0 x459000 x459001) else (orrerylaw21_OrderWhole.l1 k x0 x9 x38 x39 x40 x45 x46 (wrap64 (x47 + 1)) x459000 x459001)
def orrerylaw21_OrderWhole.l3 : Nat → Int → List (List Int) → Int → Int → Bool → List (S30) → Int → Int → List Int → Int → Int → List Int → Int → Int → List Int → List Int → Option (Bool)
  | 0, _, _, _, _, _, _, _, _, _, _, _, _, _, _, _, _ => none
  | k + 1, x0, x9, x13, x14, x15, x38, x39, x40, x45, x46, x47, x57, x58, x59, x459000, x459001 => if x59 < x58 then (if 0 ≤ x59 then (if x59 < (x57.length : Int) then (if x15 = true then (orrerylaw21_OrderWhole.l3 k x0 x9 x13 x14 true x38 x39 x40 x45 x46 x47 x57 x58 (wrap64 (x59 + 1)) x459000 x459001) else (orrerylaw21_OrderWhole.l3 k x0 x9 x13 x14 ((rd x57 x59) == x14) x38 x39 x40 x45 x46 x47 x57 x58 (wrap64 (x59 + 1)) x459000 x459001)) else (none)) else (none)) else (if x13 < 0 then (some false) else (if x13 ≥ x0 then (some false) else (if x14 = x13 then (orrerylaw21_OrderWhole.l2 k x0 x9 x13 (wrap64 (x14 + 1)) x38 x39 x40 x45 x46 x47 x459000 x459001) else (if 0 ≤ x13 then (if x13 < (x9.length : Int) then (if 0 ≤ x14 then (if x14 < ((rd_L3 x9 x13).length : Int) then (if (rd (rd_L3 x9 x13) x14) = 1 then (if x14 < (x9.length : Int) then (if x13 < ((rd_L3 x9 x14).length : Int) then (if (x15 != ((rd (rd_L3 x9 x14) x13) == 1)) = true then (some false) else (orrerylaw21_OrderWhole.l2 k x0 x9 x13 (wrap64 (x14 + 1)) x38 x39 x40 x45 x46 x47 x459000 x459001)) else (none)) else (none)) else (if (x15 != false) = true then (some false) else (orrerylaw21_OrderWhole.l2 k x0 x9 x13 (wrap64 (x14 + 1)) x38 x39 x40 x45 x46 x47 x459000 x459001))) else (none)) else (none)) else (none)) else (none)))))
end
def orrerylaw21_OrderWhole.f (k : Nat) (a0 : Int) (l1 : List (S33)) (l2 : List Int) : Option (Bool) := (orrerylaw21_alive.f).bind fun t448 => (if t448 = true then ((orreryref20_Told.f k a0 l1 l2).bind fun t449 => (if t449 = true then ((order_Blocks.f k a0 l1 l2).bind fun bt450 => (if bt450.2 = 0 then ((orreryref21_Reach.f k a0 l1 l2).bind fun t454 => (orrerylaw21_OrderWhole.l0 k a0 t454 bt450.1 (bt450.1.length : Int) 0)) else (some false))) else (some true))) else (some false))
theorem orrerylaw21_OrderWhole.mono_l : ∀ k, (∀ y0 y1 y2 y3 y4, LeO (orrerylaw21_OrderWhole.l0 k y0 y1 y2 y3 y4) (orrerylaw21_OrderWhole.l0 (k + 1) y0 y1 y2 y3 y4)) ∧ (∀ y0 y1 y2 y3 y4 y5 y6 y7 y8 y9, LeO (orrerylaw21_OrderWhole.l1 k y0 y1 y2 y3 y4 y5 y6 y7 y8 y9) (orrerylaw21_OrderWhole.l1 (k + 1) y0 y1 y2 y3 y4 y5 y6 y7 y8 y9)) ∧ (∀ y0 y1 y2 y3 y4 y5 y6 y7 y8 y9 y10 y11, LeO (orrerylaw21_OrderWhole.l2 k y0 y1 y2 y3 y4 y5 y6 y7 y8 y9 y10 y11) (orrerylaw21_OrderWhole.l2 (k + 1) y0 y1 y2 y3 y4 y5 y6 y7 y8 y9 y10 y11)) ∧ (∀ y0 y1 y2 y3 y4 y5 y6 y7 y8 y9 y10 y11 y12 y13 y14 y15, LeO (orrerylaw21_OrderWhole.l3 k y0 y1 y2 y3 y4 y5 y6 y7 y8 y9 y10 y11 y12 y13 y14 y15) (orrerylaw21_OrderWhole.l3 (k + 1) y0 y1 y2 y3 y4 y5 y6 y7 y8 y9 y10 y11 y12 y13 y14 y15))
  | 0 => ⟨fun _ _ _ _ _ r h => by simp [orrerylaw21_OrderWhole.l0] at h, fun _ _ _ _ _ _ _ _ _ _ r h => by simp [orrerylaw21_OrderWhole.l1] at h, fun _ _ _ _ _ _ _ _ _ _ _ _ r h => by simp [orrerylaw21_OrderWhole.l2] at h, fun _ _ _ _ _ _ _ _ _ _ _ _ _ _ _ _ r h => by simp [orrerylaw21_OrderWhole.l3] at h⟩
  | k + 1 => by
    obtain ⟨ih0, ih1, ih2, ih3⟩ := orrerylaw21_OrderWhole.mono_l k
    refine ⟨?_, ?_, ?_, ?_⟩
    · intro y0 y1 y2 y3 y4
      unfold orrerylaw21_OrderWhole.l0
      repeat' first
      | (with_reducible exact ih0 _ _ _ _ _)
      | (with_reducible exact ih1 _ _ _ _ _ _ _ _ _ _)
      | (with_reducible exact ih2 _ _ _ _ _ _ _ _ _ _ _ _)
      | (with_reducible exact ih3 _ _ _ _ _ _ _ _ _ _ _ _ _ _ _ _)
      | (with_reducible exact order_Blocks.mono _ _ _ _)
      | (with_reducible exact orreryref20_Told.mono _ _ _ _)
      | (with_reducible exact orreryref21_Reach.mono _ _ _ _)
      | (with_reducible exact LeO.refl _)
      | (with_reducible exact LeO.none _)
      | (with_reducible refine LeO.ite ?_ ?_)
      | (with_reducible refine LeO.bind ?_ (fun _ => ?_))
      | exact ih0 _ _ _ _ _
      | exact ih1 _ _ _ _ _ _ _ _ _ _
      | exact ih2 _ _ _ _ _ _ _ _ _ _ _ _
      | exact ih3 _ _ _ _ _ _ _ _ _ _ _ _ _ _ _ _
      | exact order_Blocks.mono _ _ _ _
      | exact orreryref20_Told.mono _ _ _ _
      | exact orreryref21_Reach.mono _ _ _ _
      | exact LeO.none _
      | refine LeO.ite ?_ ?_
      | refine LeO.bind ?_ (fun _ => ?_)
    · intro y0 y1 y2 y3 y4 y5 y6 y7 y8 y9
      unfold orrerylaw21_OrderWhole.l1
      repeat' first
      | (with_reducible exact ih0 _ _ _ _ _)
      | (with_reducible exact ih1 _ _ _ _ _ _ _ _ _ _)
      | (with_reducible exact ih2 _ _ _ _ _ _ _ _ _ _ _ _)
      | (with_reducible exact ih3 _ _ _ _ _ _ _ _ _ _ _ _ _ _ _ _)
      | (with_reducible exact order_Blocks.mono _ _ _ _)
      | (with_reducible exact orreryref20_Told.mono _ _ _ _)
      | (with_reducible exact orreryref21_Reach.mono _ _ _ _)
      | (with_reducible exact LeO.refl _)
      | (with_reducible exact LeO.none _)
      | (with_reducible refine LeO.ite ?_ ?_)
      | (with_reducible refine LeO.bind ?_ (fun _ => ?_))
      | exact ih0 _ _ _ _ _
      | exact ih1 _ _ _ _ _ _ _ _ _ _
      | exact ih2 _ _ _ _ _ _ _ _ _ _ _ _
      | exact ih3 _ _ _ _ _ _ _ _ _ _ _ _ _ _ _ _
      | exact order_Blocks.mono _ _ _ _
      | exact orreryref20_Told.mono _ _ _ _
      | exact orreryref21_Reach.mono _ _ _ _
      | exact LeO.none _
      | refine LeO.ite ?_ ?_
      | refine LeO.bind ?_ (fun _ => ?_)
    · intro y0 y1 y2 y3 y4 y5 y6 y7 y8 y9 y10 y11
      unfold orrerylaw21_OrderWhole.l2
      repeat' first
      | (with_reducible exact ih0 _ _ _ _ _)
      | (with_reducible exact ih1 _ _ _ _ _ _ _ _ _ _)
      | (with_reducible exact ih2 _ _ _ _ _ _ _ _ _ _ _ _)
      | (with_reducible exact ih3 _ _ _ _ _ _ _ _ _ _ _ _ _ _ _ _)
      | (with_reducible exact order_Blocks.mono _ _ _ _)
      | (with_reducible exact orreryref20_Told.mono _ _ _ _)
      | (with_reducible exact orreryref21_Reach.mono _ _ _ _)
      | (with_reducible exact LeO.refl _)
      | (with_reducible exact LeO.none _)
      | (with_reducible refine LeO.ite ?_ ?_)
      | (with_reducible refine LeO.bind ?_ (fun _ => ?_))
      | exact ih0 _ _ _ _ _
      | exact ih1 _ _ _ _ _ _ _ _ _ _
      | exact ih2 _ _ _ _ _ _ _ _ _ _ _ _
      | exact ih3 _ _ _ _ _ _ _ _ _ _ _ _ _ _ _ _
      | exact order_Blocks.mono _ _ _ _
      | exact orreryref20_Told.mono _ _ _ _
      | exact orreryref21_Reach.mono _ _ _ _
      | exact LeO.none _
      | refine LeO.ite ?_ ?_
      | refine LeO.bind ?_ (fun _ => ?_)
    · intro y0 y1 y2 y3 y4 y5 y6 y7 y8 y9 y10 y11 y12 y13 y14 y15
      unfold orrerylaw21_OrderWhole.l3
      repeat' first
      | (with_reducible exact ih0 _ _ _ _ _)
      | (with_reducible exact ih1 _ _ _ _ _ _ _ _ _ _)
      | (with_reducible exact ih2 _ _ _ _ _ _ _ _ _ _ _ _)
      | (with_reducible exact ih3 _ _ _ _ _ _ _ _ _ _ _ _ _ _ _ _)
      | (with_reducible exact order_Blocks.mono _ _ _ _)
      | (with_reducible exact orreryref20_Told.mono _ _ _ _)
      | (with_reducible exact orreryref21_Reach.mono _ _ _ _)
      | (with_reducible exact LeO.refl _)
      | (with_reducible exact LeO.none _)
      | (with_reducible refine LeO.ite ?_ ?_)
      | (with_reducible refine LeO.bind ?_ (fun _ => ?_))
      | exact ih0 _ _ _ _ _
      | exact ih1 _ _ _ _ _ _ _ _ _ _
      | exact ih2 _ _ _ _ _ _ _ _ _ _ _ _
      | exact ih3 _ _ _ _ _ _ _ _ _ _ _ _ _ _ _ _
      | exact order_Blocks.mono _ _ _ _
      | exact orreryref20_Told.mono _ _ _ _
      | exact orreryref21_Reach.mono _ _ _ _
      | exact LeO.none _
      | refine LeO.ite ?_ ?_
      | refine LeO.bind ?_ (fun _ => ?_)
theorem orrerylaw21_OrderWhole.mono : ∀ a0 a1 a2 k, LeO (orrerylaw21_OrderWhole.f k a0 a1 a2) (orrerylaw21_OrderWhole.f (k + 1) a0 a1 a2) := by
 intro a0 a1 a2 k
 obtain ⟨ih0, ih1, ih2, ih3⟩ := orrerylaw21_OrderWhole.mono_l k
 unfold orrerylaw21_OrderWhole.f
 repeat' first
     | (with_reducible exact ih0 _ _ _ _ _)
     | (with_reducible exact ih1 _ _ _ _ _ _ _ _ _ _)
     | (with_reducible exact ih2 _ _ _ _ _ _ _ _ _ _ _ _)
     | (with_reducible exact ih3 _ _ _ _ _ _ _ _ _ _ _ _ _ _ _ _)
     | (with_reducible exact order_Blocks.mono _ _ _ _)
     | (with_reducible exact orreryref20_Told.mono _ _ _ _)
     | (with_reducible exact orreryref21_Reach.mono _ _ _ _)
     | (with_reducible exact LeO.refl _)
     | (with_reducible exact LeO.none _)
     | (with_reducible refine LeO.ite ?_ ?_)
     | (with_reducible refine LeO.bind ?_ (fun _ => ?_))
     | exact ih0 _ _ _ _ _
     | exact ih1 _ _ _ _ _ _ _ _ _ _
     | exact ih2 _ _ _ _ _ _ _ _ _ _ _ _
     | exact ih3 _ _ _ _ _ _ _ _ _ _ _ _ _ _ _ _
     | exact order_Blocks.mono _ _ _ _
     | exact orreryref20_Told.mono _ _ _ _
     | exact orreryref21_Reach.mono _ _ _ _
     | exact LeO.none _
     | refine LeO.ite ?_ ?_
     | refine LeO.bind ?_ (fun _ => ?_)
set_option maxHeartbeats 8000000 in
set_option maxRecDepth 100000 in
theorem orrerylaw21_OrderWhole.calls (k : Nat) (a0 : Int) (A1 : Option Addr) (c1 : Nat) (l1 : List (S33)) (A2 : Option Addr) (c2 : Nat) (l2 : List Int) (r : Bool) (w : World) (hr1 : Kd.C k33 w A1 l1.length l1) (hc1 : l1.length ≤ c1) (hr2 : Kd.C (Kd.int .i64) w A2 l2.length l2) (hc2 : l2.length ≤ c2) (h : orrerylaw21_OrderWhole.f k a0 l1 l2 = some r) :
    Calls Try.prog 7 #[.int .i64 a0, .slice A1 l1.length c1, .slice A2 l2.length c2] w fun e w' => e = .returned (.bool r) ∧ Below w.heap.size w w' := by
 have hu30 := Try.underlying30
 have HR1 := Aside0.mk hr1
 have HC1 := Aside0.mk hc1
 clear hr1 hc1
 have HR2 := Aside0.mk hr2
 have HC2 := Aside0.mk hc2
 clear hr2 hc2
 have HB := Aside0.mk (Below.refl w.heap.size w)
 have H : ((orrerylaw21_alive.f).bind fun t448 => (if t448 = true then ((orreryref20_Told.f k a0 l1 l2).bind fun t449 => (if t449 = true then ((order_Blocks.f k a0 l1 l2).bind fun bt450 => (if bt450.2 = 0 then ((orreryref21_Reach.f k a0 l1 l2).bind fun t454 => (orrerylaw21_OrderWhole.l0 k a0 t454 bt450.1 (bt450.1.length : Int) 0)) else (some false))) else (some true))) else (some false))) = some r := h
 clear h
 replace H := Option.bind_eq_some_iff.mp H
 obtain ⟨t448, A40, H⟩ := H
 replace H : (if t448 = true then ((orreryref20_Told.f k a0 l1 l2).bind fun t449 => (if t449 = true then ((order_Blocks.f k a0 l1 l2).bind fun bt450 => (if bt450.2 = 0 then ((orreryref21_Reach.f k a0 l1 l2).bind fun t454 => (orrerylaw21_OrderWhole.l0 k a0 t454 bt450.1 (bt450.1.length : Int) 0)) else (some false))) else (some true))) else (some false)) = some r := H
 have A4 := Aside0.mk A40
 clear A40
 by_cases c5 : t448 = true
 case neg =>
  replace c5 := Bool.eq_false_iff.mpr c5
  subst c5
  have H1 : (some false) = some r := by rw [if_neg (show ¬ (false = true) by decide)] at H; exact H
  clear H
  have H := H1
  clear H1
  obtain rfl := Option.some.inj H
  go_enter Try.func7, Try.ntmps7
  go_wp2_with (first | ((with_reducible refine gate_callee (f := 13) rfl ?_); refine goesL_ (some 18) rfl rfl Try.func13 (by kernel_rfl) rfl #[] rfl (by (try simp only [List.map_toArray, List.map_cons, List.map_nil]); first | done | rfl | (simp only [List.length_drop, List.length_take]; rfl)) ?_; (with_reducible refine (orrerylaw21_alive.calls  false _ A4.out).mono ?_); rintro e w51 ⟨rfl, hb⟩; refine ⟨_, rfl, ?_⟩; have n0_ := Aside0.mk (below_step (by repeat (first | (with_reducible first | exact HB.out | apply below_alloc | apply pw_below_drewN | apply below_drew1) | exact HB.out)) hb); clear HB; have HB := n0_; clear n0_; (try clear hb); (try clear hb2); (try clear hk); (try clear hi)))
  go_ret
  exact ⟨by first | rfl | (simp [errW_none, errW_some] <;> rfl) | (simp [*, errW_none, errW_some] <;> rfl), by repeat (first | (with_reducible first | exact HB.out | apply below_alloc | apply pw_below_drewN | apply below_drew1) | exact HB.out)⟩
 subst c5
 have H1 : ((orreryref20_Told.f k a0 l1 l2).bind fun t449 => (if t449 = true then ((order_Blocks.f k a0 l1 l2).bind fun bt450 => (if bt450.2 = 0 then ((orreryref21_Reach.f k a0 l1 l2).bind fun t454 => (orrerylaw21_OrderWhole.l0 k a0 t454 bt450.1 (bt450.1.length : Int) 0)) else (some false))) else (some true))) = some r := by rw [if_pos rfl] at H; exact H
 clear H
 have H := H1
 clear H1
 replace H := Option.bind_eq_some_iff.mp H
 obtain ⟨t449, A60, H⟩ := H
 replace H : (if t449 = true then ((order_Blocks.f k a0 l1 l2).bind fun bt450 => (if bt450.2 = 0 then ((orreryref21_Reach.f k a0 l1 l2).bind fun t454 => (orrerylaw21_OrderWhole.l0 k a0 t454 bt450.1 (bt450.1.length : Int) 0)) else (some false))) else (some true)) = some r := H
 have A6 := Aside0.mk A60
 clear A60
 by_cases c7 : t449 = true
 case neg =>
  replace c7 := Bool.eq_false_iff.mpr c7
  subst c7
  have H1 : (some true) = some r := by rw [if_neg (show ¬ (false = true) by decide)] at H; exact H
  clear H
  have H := H1
  clear H1
  obtain rfl := Option.some.inj H
  go_enter Try.func7, Try.ntmps7
  go_wp2_with (first | ((with_reducible refine gate_callee (f := 13) rfl ?_); refine goesL_ (some 18) rfl rfl Try.func13 (by kernel_rfl) rfl #[] rfl (by (try simp only [List.map_toArray, List.map_cons, List.map_nil]); first | done | rfl | (simp only [List.length_drop, List.length_take]; rfl)) ?_; (with_reducible refine (orrerylaw21_alive.calls  true _ A4.out).mono ?_); rintro e w49 ⟨rfl, hb⟩; refine ⟨_, rfl, ?_⟩; have n0_ := Aside0.mk (below_step (by repeat (first | (with_reducible first | exact HB.out | apply below_alloc | apply pw_below_drewN | apply below_drew1) | exact HB.out)) hb); clear HB; have HB := n0_; clear n0_; (try clear hb); (try clear hb2); (try clear hk); (try clear hi)) | ((with_reducible refine gate_callee (f := 12) rfl ?_); refine goesL_ (some 23) rfl rfl Try.func12 (by kernel_rfl) rfl #[.int .i64 a0, .slice A1 l1.length c1, .slice A2 l2.length c2] rfl (by (try simp only [List.map_toArray, List.map_cons, List.map_nil]); first | done | rfl | (simp only [List.length_drop, List.length_take]; rfl)) ?_; (with_reducible refine (orreryref20_Told.calls k a0 _ _ l1 _ _ l2 false _ ?side1 ?side2 ?side3 ?side4 A6.out).mono ?_); (case side1 => repeat (first | exact (Kd.C_below HR1.out HB.out) | (with_reducible refine Kd.C_alloc ?_ _) | (with_reducible refine Kd.C_drewN ?_ _) | (with_reducible refine Kd.C_drew ?_))); (case side2 => exact HC1.out); (case side3 => repeat (first | exact (Kd.C_below HR2.out HB.out) | (with_reducible refine Kd.C_alloc ?_ _) | (with_reducible refine Kd.C_drewN ?_ _) | (with_reducible refine Kd.C_drew ?_))); (case side4 => exact HC2.out); rintro e w50 ⟨rfl, hb⟩; refine ⟨_, rfl, ?_⟩; have n0_ := Aside0.mk (below_step (by repeat (first | (with_reducible first | exact HB.out | apply below_alloc | apply pw_below_drewN | apply below_drew1) | exact HB.out)) hb); clear HB; have HB := n0_; clear n0_; (try clear hb); (try clear hb2); (try clear hk); (try clear hi)))
  go_ret
  exact ⟨by first | rfl | (simp [errW_none, errW_some] <;> rfl) | (simp [*, errW_none, errW_some] <;> rfl), by repeat (first | (with_reducible first | exact HB.out | apply below_alloc | apply pw_below_drewN | apply below_drew1) | exact HB.out)⟩
 subst c7
 have H1 : ((order_Blocks.f k a0 l1 l2).bind fun bt450 => (if bt450.2 = 0 then ((orreryref21_Reach.f k a0 l1 l2).bind fun t454 => (orrerylaw21_OrderWhole.l0 k a0 t454 bt450.1 (bt450.1.length : Int) 0)) else (some false))) = some r := by rw [if_pos rfl] at H; exact H
 clear H
 have H := H1
 clear H1
 replace H := Option.bind_eq_some_iff.mp H
 obtain ⟨⟨t450, t451⟩, A80, H⟩ := H
 replace H : (if t451 = 0 then ((orreryref21_Reach.f k a0 l1 l2).bind fun t454 => (orrerylaw21_OrderWhole.l0 k a0 t454 t450 (t450.length : Int) 0)) else (some false)) = some r := H
 have A8 := Aside0.mk A80
 clear A80
 by_cases c9 : t451 = 0
 case neg =>
  rw [if_neg c9] at H
  have c9b0 : (t451 == 0) = false := beq_eq_false_iff_ne.mpr c9
  have c9b1 : (t451 != 0) = true := bne_iff_ne.mpr c9
  obtain rfl := Option.some.inj H
  go_enter Try.func7, Try.ntmps7
  go_wp2_with (first | ((with_reducible refine gate_callee (f := 13) rfl ?_); refine goesL_ (some 18) rfl rfl Try.func13 (by kernel_rfl) rfl #[] rfl (by (try simp only [List.map_toArray, List.map_cons, List.map_nil]); first | done | rfl | (simp only [List.length_drop, List.length_take]; rfl)) ?_; (with_reducible refine (orrerylaw21_alive.calls  true _ A4.out).mono ?_); rintro e w46 ⟨rfl, hb⟩; refine ⟨_, rfl, ?_⟩; have n0_ := Aside0.mk (below_step (by repeat (first | (with_reducible first | exact HB.out | apply below_alloc | apply pw_below_drewN | apply below_drew1) | exact HB.out)) hb); clear HB; have HB := n0_; clear n0_; (try clear hb); (try clear hb2); (try clear hk); (try clear hi)) | ((with_reducible refine gate_callee (f := 12) rfl ?_); refine goesL_ (some 23) rfl rfl Try.func12 (by kernel_rfl) rfl #[.int .i64 a0, .slice A1 l1.length c1, .slice A2 l2.length c2] rfl (by (try simp only [List.map_toArray, List.map_cons, List.map_nil]); first | done | rfl | (simp only [List.length_drop, List.length_take]; rfl)) ?_; (with_reducible refine (orreryref20_Told.calls k a0 _ _ l1 _ _ l2 true _ ?side1 ?side2 ?side3 ?side4 A6.out).mono ?_); (case side1 => repeat (first | exact (Kd.C_below HR1.out HB.out) | (with_reducible refine Kd.C_alloc ?_ _) | (with_reducible refine Kd.C_drewN ?_ _) | (with_reducible refine Kd.C_drew ?_))); (case side2 => exact HC1.out); (case side3 => repeat (first | exact (Kd.C_below HR2.out HB.out) | (with_reducible refine Kd.C_alloc ?_ _) | (with_reducible refine Kd.C_drewN ?_ _) | (with_reducible refine Kd.C_drew ?_))); (case side4 => exact HC2.out); rintro e w47 ⟨rfl, hb⟩; refine ⟨_, rfl, ?_⟩; have n0_ := Aside0.mk (below_step (by repeat (first | (with_reducible first | exact HB.out | apply below_alloc | apply pw_below_drewN | apply below_drew1) | exact HB.out)) hb); clear HB; have HB := n0_; clear n0_; (try clear hb); (try clear hb2); (try clear hk); (try clear hi)) | ((with_reducible refine gate_callee (f := 9) rfl ?_); refine goesL_ (some 29) rfl rfl Try.func9 (by kernel_rfl) rfl #[.int .i64 a0, .slice A1 l1.length c1, .slice A2 l2.length c2] rfl (by (try simp only [List.map_toArray, List.map_cons, List.map_nil]); first | done | rfl | (simp only [List.length_drop, List.length_take]; rfl)) ?_; (with_reducible refine (order_Blocks.calls k a0 _ _ l1 _ _ l2 t450 t451 _ ?side1 ?side2 ?side3 ?side4 A8.out).mono ?_); (case side1 => repeat (first | exact (Kd.C_below HR1.out HB.out) | (with_reducible refine Kd.C_alloc ?_ _) | (with_reducible refine Kd.C_drewN ?_ _) | (with_reducible refine Kd.C_drew ?_))); (case side2 => exact HC1.out); (case side3 => repeat (first | exact (Kd.C_below HR2.out HB.out) | (with_reducible refine Kd.C_alloc ?_ _) | (with_reducible refine Kd.C_drewN ?_ _) | (with_reducible refine Kd.C_drew ?_))); (case side4 => exact HC2.out); rintro e w48 ⟨v452, rfl, ho0, hb⟩; refine ⟨_, rfl, ?_⟩; have n0_ := Aside0.mk (Kd.S_lower ho0 (below_size (by repeat (first | (with_reducible first | exact HB.out | apply below_alloc | apply pw_below_drewN | apply below_drew1) | exact HB.out)))); have n1_ := Aside0.mk (below_step (by repeat (first | (with_reducible first | exact HB.out | apply below_alloc | apply pw_below_drewN | apply below_drew1) | exact HB.out)) hb); clear HB; have HO453 := n0_; have HB := n1_; clear n0_ n1_; (try clear hb); (try clear hb2); (try clear hk); (try clear hi); (try clear ho0)))
  go_ret
  exact ⟨by first | rfl | (simp [errW_none, errW_some] <;> rfl) | (simp [*, errW_none, errW_some] <;> rfl), by repeat (first | (with_reducible first | exact HB.out | apply below_alloc | apply pw_below_drewN | apply below_drew1) | exact HB.out)⟩
 rw [if_pos c9] at H
 have c9b0 : (t451 == 0) = true := beq_iff_eq.mpr c9
 have c9b1 : (t451 != 0) = false := bne_eq_false_iff_eq.mpr c9
 clear c9
 replace H := Option.bind_eq_some_iff.mp H
 obtain ⟨t454, A100, H⟩ := H
 replace H : (orrerylaw21_OrderWhole.l0 k a0 t454 t450 (t450.length : Int) 0) = some r := H
 have A10 := Aside0.mk A100
 clear A100
 have H' := Aside0.mk H
 clear H
 go_enter Try.func7, Try.ntmps7
 go_wp2_with (first | ((with_reducible refine gate_callee (f := 13) rfl ?_); refine goesL_ (some 18) rfl rfl Try.func13 (by kernel_rfl) rfl #[] rfl (by (try simp only [List.map_toArray, List.map_cons, List.map_nil]); first | done | rfl | (simp only [List.length_drop, List.length_take]; rfl)) ?_; (with_reducible refine (orrerylaw21_alive.calls  true _ A4.out).mono ?_); rintro e w11 ⟨rfl, hb⟩; refine ⟨_, rfl, ?_⟩; have n0_ := Aside0.mk (below_step (by repeat (first | (with_reducible first | exact HB.out | apply below_alloc | apply pw_below_drewN | apply below_drew1) | exact HB.out)) hb); clear HB; have HB := n0_; clear n0_; (try clear hb); (try clear hb2); (try clear hk); (try clear hi)) | ((with_reducible refine gate_callee (f := 12) rfl ?_); refine goesL_ (some 23) rfl rfl Try.func12 (by kernel_rfl) rfl #[.int .i64 a0, .slice A1 l1.length c1, .slice A2 l2.length c2] rfl (by (try simp only [List.map_toArray, List.map_cons, List.map_nil]); first | done | rfl | (simp only [List.length_drop, List.length_take]; rfl)) ?_; (with_reducible refine (orreryref20_Told.calls k a0 _ _ l1 _ _ l2 true _ ?side1 ?side2 ?side3 ?side4 A6.out).mono ?_); (case side1 => repeat (first | exact (Kd.C_below HR1.out HB.out) | (with_reducible refine Kd.C_alloc ?_ _) | (with_reducible refine Kd.C_drewN ?_ _) | (with_reducible refine Kd.C_drew ?_))); (case side2 => exact HC1.out); (case side3 => repeat (first | exact (Kd.C_below HR2.out HB.out) | (with_reducible refine Kd.C_alloc ?_ _) | (with_reducible refine Kd.C_drewN ?_ _) | (with_reducible refine Kd.C_drew ?_))); (case side4 => exact HC2.out); rintro e w12 ⟨rfl, hb⟩; refine ⟨_, rfl, ?_⟩; have n0_ := Aside0.mk (below_step (by repeat (first | (with_reducible first | exact HB.out | apply below_alloc | apply pw_below_drewN | apply below_drew1) | exact HB.out)) hb); clear HB; have HB := n0_; clear n0_; (try clear hb); (try clear hb2); (try clear hk); (try clear hi)) | ((with_reducible refine gate_callee (f := 9) rfl ?_); refine goesL_ (some 29) rfl rfl Try.func9 (by kernel_rfl) rfl #[.int .i64 a0, .slice A1 l1.length c1, .slice A2 l2.length c2] rfl (by (try simp only [List.map_toArray, List.map_cons, List.map_nil]); first | done | rfl | (simp only [List.length_drop, List.length_take]; rfl)) ?_; (with_reducible refine (order_Blocks.calls k a0 _ _ l1 _ _ l2 t450 t451 _ ?side1 ?side2 ?side3 ?side4 A8.out).mono ?_); (case side1 => repeat (first | exact (Kd.C_below HR1.out HB.out) | (with_reducible refine Kd.C_alloc ?_ _) | (with_reducible refine Kd.C_drewN ?_ _) | (with_reducible refine Kd.C_drew ?_))); (case side2 => exact HC1.out); (case side3 => repeat (first | exact (Kd.C_below HR2.out HB.out) | (with_reducible refine Kd.C_alloc ?_ _) | (with_reducible refine Kd.C_drewN ?_ _) | (with_reducible refine Kd.C_drew ?_))); (case side4 => exact HC2.out); rintro e w13 ⟨v452, rfl, ho0, hb⟩; refine ⟨_, rfl, ?_⟩; have n0_ := Aside0.mk (Kd.S_lower ho0 (below_size (by repeat (first | (with_reducible first | exact HB.out | apply below_alloc | apply pw_below_drewN | apply below_drew1) | exact HB.out)))); have n1_ := Aside0.mk (below_step (by repeat (first | (with_reducible first | exact HB.out | apply below_alloc | apply pw_below_drewN | apply below_drew1) | exact HB.out)) hb); clear HB; have HO453 := n0_; have HB := n1_; clear n0_ n1_; (try clear hb); (try clear hb2); (try clear hk); (try clear hi); (try clear ho0)) | ((with_reducible refine gate_callee (f := 14) rfl ?_); refine goesL_ (some 37) rfl rfl Try.func14 (by kernel_rfl) rfl #[.int .i64 a0, .slice A1 l1.length c1, .slice A2 l2.length c2] rfl (by (try simp only [List.map_toArray, List.map_cons, List.map_nil]); first | done | rfl | (simp only [List.length_drop, List.length_take]; rfl)) ?_; (with_reducible refine (orreryref21_Reach.calls k a0 _ _ l1 _ _ l2 t454 _ ?side1 ?side2 ?side3 ?side4 A10.out).mono ?_); (case side1 => repeat (first | exact (Kd.C_below HR1.out HB.out) | (with_reducible refine Kd.C_alloc ?_ _) | (with_reducible refine Kd.C_drewN ?_ _) | (with_reducible refine Kd.C_drew ?_))); (case side2 => exact HC1.out); (case side3 => repeat (first | exact (Kd.C_below HR2.out HB.out) | (with_reducible refine Kd.C_alloc ?_ _) | (with_reducible refine Kd.C_drewN ?_ _) | (with_reducible refine Kd.C_drew ?_))); (case side4 => exact HC2.out); rintro e w14 ⟨v455, rfl, ho0, hb⟩; refine ⟨_, rfl, ?_⟩; have n0_ := Aside0.mk (Kd.S_below (by (with_reducible repeat (first | apply Kd.S_alloc | apply Kd.S_drewN | apply Kd.S_drew)); exact HO453.out) hb); have n1_ := Aside0.mk (Kd.S_lower ho0 (below_size (by repeat (first | (with_reducible first | exact HB.out | apply below_alloc | apply pw_below_drewN | apply below_drew1) | exact HB.out)))); have n2_ := Aside0.mk (below_step (by repeat (first | (with_reducible first | exact HB.out | apply below_alloc | apply pw_below_drewN | apply below_drew1) | exact HB.out)) hb); clear HO453; clear HB; have HO453 := n0_; have HO456 := n1_; have HB := n2_; clear n0_ n1_ n2_; (try clear hb); (try clear hb2); (try clear hk); (try clear hi); (try clear ho0); obtain ⟨Ao15, co15, eo15⟩ := Kd.S_slice HO453.out; subst eo15))
 go_loopg [40] k (fun kq v40 w' => ∃ (x40_1 : Int), v40 = .int .i64 x40_1 ∧ Aside0 (orrerylaw21_OrderWhole.l0 kq a0 t454 t450 (t450.length : Int) x40_1 = some r) ∧ Aside0 (kq ≤ k) ∧ Aside0 (Kd.S (Kd.slice 3 (Kd.int .i64)) 23 w' w.heap.size (fun _ => True) v455 t454) ∧ Aside0 (Kd.S k30 30 w' w.heap.size (fun _ => True) (.slice Ao15 t450.length co15) t450) ∧ Aside0 (Below w.heap.size w w'))
 case atStart => exact ⟨(0), (by first | rfl | (simp; done) | (simp [*]; done)), H', ⟨Nat.le_refl _⟩, ⟨by (with_reducible repeat (first | apply Kd.S_alloc | apply Kd.S_drewN | apply Kd.S_drew)); exact HO456.out⟩, ⟨by (with_reducible repeat (first | apply Kd.S_alloc | apply Kd.S_drewN | apply Kd.S_drew)); exact HO453.out⟩, ⟨by repeat (first | (with_reducible first | exact HB.out | apply below_alloc | apply pw_below_drewN | apply below_drew1) | exact HB.out)⟩⟩
 case round =>
  clear H'
  try clear c1
  try clear c2
  try clear p2
  try clear c5
  try clear c7
  try clear c9
  try clear c9b0
  try clear c9b1
  try clear c12
  try clear c13
  try clear c14
  obtain ⟨x40_1, rfl, HA, HK1, HO_9, HO_38, HB⟩ := hrel
  cases gk with
  | zero => exact absurd HA.out (by simp [orrerylaw21_OrderWhole.l0])
  | succ k1 =>
   have H := HA.out
   clear HA
   simp only [orrerylaw21_OrderWhole.l0] at H
   by_cases c16 : x40_1 < (t450.length : Int)
   case neg =>
    rw [if_neg c16] at H
    have c16b0 : decide (x40_1 < (t450.length : Int)) = false := decide_eq_false c16
    clear c16
    obtain rfl := Option.some.inj H
    go_wp2
    go_ret
    exact ⟨by first | rfl | (simp [errW_none, errW_some] <;> rfl) | (simp [*, errW_none, errW_some] <;> rfl), by repeat (first | (with_reducible first | exact HB.out | apply below_alloc | apply pw_below_drewN | apply below_drew1) | exact HB.out)⟩
   rw [if_pos c16] at H
   have c16b0 : decide (x40_1 < (t450.length : Int)) = true := decide_eq_true c16
   clear c16
   by_cases c17 : 0 ≤ x40_1
   case neg => rw [if_neg c17] at H; exact absurd H (by simp)
   rw [if_pos c17] at H
   have c17b0 : decide (0 ≤ x40_1) = true := decide_eq_true c17
   clear c17
   by_cases c18 : x40_1 < (t450.length : Int)
   case neg => rw [if_neg c18] at H; exact absurd H (by simp)
   rw [if_pos c18] at H
   have c18b0 : decide (x40_1 < (t450.length : Int)) = true := decide_eq_true c18
   clear c18
   have H' := Aside0.mk H
   clear H
   have p457 : 0 ≤ (x40_1 : Int) := of_decide_eq_true (by first | (with_reducible assumption) | assumption)
   have q457 : x40_1 < (t450.length : Int) := of_decide_eq_true (by first | (with_reducible assumption) | assumption)
   obtain ⟨ad457, A457_0, c457_0, A457_1, c457_1, e457, hx457_0, hx457_1, hl457_0, hi457_0, hl457_1, hi457_1⟩ := at_T30 (Kd.S_reads' HO_38.out).2.2 x40_1 p457 q457
   cases e457
   obtain ⟨ce457, hce457, hMe457, hcc457⟩ := Kd.S_get HO_38.out z30 x40_1 p457 (by first | exact q457 | exact of_decide_eq_true (by first | (with_reducible assumption) | assumption) | (have e_ := (Kd.S_reads' HO_38.out).1; omega))
   obtain ⟨ve457_0, ve457_1, rfl, ge457_0, ge457_1⟩ := k30_openM hMe457
   have hv457_0 := hcc457 0 _ rfl
   rw [Nat.add_zero] at hv457_0
   replace hv457_0 := Option.some.inj (hv457_0.symm.trans hx457_0)
   rw [hv457_0] at ge457_0
   have HL457_0 := Aside0.mk (show Kd.R (Kd.int .i64) 3 _ _ _ _ ((rd_T30 t450 x40_1).f0) from ge457_0)
   clear hv457_0 ge457_0
   have hv457_1 := hcc457 1 _ rfl
   rw [add_field _ _ 1 (by omega)] at hv457_1
   replace hv457_1 := Option.some.inj (hv457_1.symm.trans hx457_1)
   rw [hv457_1] at ge457_1
   have HL457_1 := Aside0.mk (show Kd.R (Kd.int .i64) 3 _ _ _ _ ((rd_T30 t450 x40_1).f1) from ge457_1)
   clear hv457_1 ge457_1
   clear hcc457 hce457
   have HR457_0 := Aside0.mk hi457_0
   have HC457_0 := Aside0.mk hl457_0
   clear hi457_0 hl457_0
   have HR457_1 := Aside0.mk hi457_1
   have HC457_1 := Aside0.mk hl457_1
   clear hi457_1 hl457_1
   replace p457 := eq_true p457
   replace q457 := eq_true q457
   go_wp2_with (first | ((with_reducible refine gate_dst (N := 11) rfl ?_); refine box_event ?hg (N := 11) ?hd (cs := #[.slice none 0 0, .slice none 0 0]) (t := 30) ?hr ?_; (case hd => rfl); (case hg => rfl); (case hr => first | (go_simp; done) | (go_simp; rfl)); intro gb458 hg w19 hbox hb; have n0_ := Aside0.mk (Kd.S_below (by (with_reducible repeat (first | apply Kd.S_alloc | apply Kd.S_drewN | apply Kd.S_drew)); exact HO_9.out) hb); have n1_ := Aside0.mk (Kd.S_below (Kd.S_elderB (by (with_reducible repeat (first | apply Kd.S_alloc | apply Kd.S_drewN | apply Kd.S_drew)); exact HO_38.out) gb458 (Nat.le_of_eq hg.symm)) hb); have n2_ := Aside0.mk (Kd.R_below (by (with_reducible repeat (first | apply Kd.R_alloc | apply Kd.R_drewN | apply Kd.R_drew)); exact HL457_0.out) hb); have n3_ := Aside0.mk (Kd.R_below (by (with_reducible repeat (first | apply Kd.R_alloc | apply Kd.R_drewN | apply Kd.R_drew)); exact HL457_1.out) hb); have n4_ := Aside0.mk (Kd.C_below (by repeat (first | (with_reducible exact HR457_0.out) | (with_reducible refine Kd.C_alloc ?_ _) | (with_reducible refine Kd.C_drewN ?_ _) | (with_reducible refine Kd.C_drew ?_) | exact HR457_0.out)) hb); have n5_ := Aside0.mk (Kd.C_below (by repeat (first | (with_reducible exact HR457_1.out) | (with_reducible refine Kd.C_alloc ?_ _) | (with_reducible refine Kd.C_drewN ?_ _) | (with_reducible refine Kd.C_drew ?_) | exact HR457_1.out)) hb); have n6_ := Aside0.mk ((Kd.C_aboveB (by repeat (first | (with_reducible exact HR457_0.out) | (with_reducible refine Kd.C_alloc ?_ _) | (with_reducible refine Kd.C_drewN ?_ _) | (with_reducible refine Kd.C_drew ?_) | exact HR457_0.out)) (by decide) (Nat.le_of_eq hg.symm))); have n7_ := Aside0.mk ((Kd.C_aboveB (by repeat (first | (with_reducible exact HR457_1.out) | (with_reducible refine Kd.C_alloc ?_ _) | (with_reducible refine Kd.C_drewN ?_ _) | (with_reducible refine Kd.C_drew ?_) | exact HR457_1.out)) (by decide) (Nat.le_of_eq hg.symm))); have n8_ := Aside0.mk (below_step (by repeat (first | (with_reducible first | exact HB.out | apply below_alloc | apply pw_below_drewN | apply below_drew1) | exact HB.out)) hb); have n9_ := Aside0.mk (hbox); have n10_ := Aside0.mk ((by rw [hg]; exact (below_size (by repeat (first | (with_reducible first | exact HB.out | apply below_alloc | apply pw_below_drewN | apply below_drew1) | exact HB.out))) : w.heap.size ≤ gb458)); have n11_ := Aside0.mk ((by rw [hg]; exact (below_size (by repeat (first | (with_reducible first | exact HB.out | apply below_alloc | apply pw_below_drewN | apply below_drew1) | exact HB.out))) : w.heap.size ≤ gb458)); clear HO_9; clear HO_38; clear HL457_0; clear HL457_1; clear HR457_0; clear HR457_1; clear HB; have HO_9 := n0_; have HO_38 := n1_; have HL457_0 := n2_; have HL457_1 := n3_; have HR457_0 := n4_; have HR457_1 := n5_; have SF457_0_458 := n6_; have SF457_1_458 := n7_; have HB := n8_; have BK458 := n9_; have GW458 := n10_; have GE458 := n11_; clear n0_ n1_ n2_ n3_ n4_ n5_ n6_ n7_ n8_ n9_ n10_ n11_; clear hb hbox hg; have hcz20_0 : w19.cell? ⟨gb458, 0, none⟩ = some (.slice none 0 0) := (blk_cell BK458.out 0).trans rfl; have hcz20_1 : w19.cell? ⟨gb458, 1, none⟩ = some (.slice none 0 0) := (blk_cell BK458.out 1).trans rfl; have hfz20_0 := blk_frozen BK458.out 0; have hfz20_1 := blk_frozen BK458.out 1))
   go_loopg [47] k1 (fun kq v47 w' => ∃ (x47_2 : Int), v47 = .int .i64 x47_2 ∧ Aside0 (orrerylaw21_OrderWhole.l1 kq a0 t454 t450 (t450.length : Int) x40_1 ((rd_T30 t450 x40_1).f0) (((rd_T30 t450 x40_1).f0).length : Int) x47_2 ((rd_T30 t450 x40_1).f0) ((rd_T30 t450 x40_1).f1) = some r) ∧ Aside0 (kq ≤ k1) ∧ Aside0 (Kd.S (Kd.slice 3 (Kd.int .i64)) 23 w' w.heap.size (fun _ => True) v455 t454) ∧ Aside0 (Kd.S k30 30 w' w.heap.size (fun k_ => k_ ≠ gb458) (.slice (some ad457) t450.length co15) t450) ∧ Aside0 (w'.heap[gb458]? = some (.cells #[(.slice A457_0 ((rd_T30 t450 x40_1).f0).length c457_0), (.slice A457_1 ((rd_T30 t450 x40_1).f1).length c457_1)] 30 (0, 0))) ∧ Aside0 (Kd.C (Kd.int .i64) w' A457_0 ((rd_T30 t450 x40_1).f0).length ((rd_T30 t450 x40_1).f0)) ∧ Aside0 (Kd.C (Kd.int .i64) w' A457_1 ((rd_T30 t450 x40_1).f1).length ((rd_T30 t450 x40_1).f1)) ∧ Aside0 (Below w.heap.size w w'))
   case atStart => exact ⟨(0), (by first | rfl | (simp; done) | (simp [*]; done)), H', ⟨Nat.le_refl _⟩, ⟨by (with_reducible repeat (first | apply Kd.S_alloc | apply Kd.S_drewN | apply Kd.S_drew)); exact Kd.S_mono (Kd.S_far (p := ⟨gb458, 1, none⟩) (Kd.S_far (p := ⟨gb458, 0, none⟩) (Kd.S_types HO_9.out BK458.out (by decide)) (fun _ hk => hk.2) (.slice A457_0 ((rd_T30 t450 x40_1).f0).length c457_0)) (fun _ hk => hk.2) (.slice A457_1 ((rd_T30 t450 x40_1).f1).length c457_1)) (fun _ hk => trivial)⟩, ⟨by (with_reducible repeat (first | apply Kd.S_alloc | apply Kd.S_drewN | apply Kd.S_drew)); exact Kd.S_mono (Kd.S_far (p := ⟨gb458, 1, none⟩) (Kd.S_far (p := ⟨gb458, 0, none⟩) (Kd.S_mono HO_38.out (fun k_ hk => (⟨hk, hk.2⟩ : _ ∧ k_ ≠ gb458))) (fun _ hk => hk.2) (.slice A457_0 ((rd_T30 t450 x40_1).f0).length c457_0)) (fun _ hk => hk.2) (.slice A457_1 ((rd_T30 t450 x40_1).f1).length c457_1)) (fun _ hk => hk.1.2)⟩, ⟨by (with_reducible repeat (first | refine blk_drewN ?_ _ | refine blk_drew ?_ | refine blk_alloc ?_ _)); refine blk_put (cs := #[.slice A457_0 ((rd_T30 t450 x40_1).f0).length c457_0, .slice none 0 0]) ?_ 1 _ rfl; (with_reducible repeat (first | refine blk_drewN ?_ _ | refine blk_drew ?_ | refine blk_alloc ?_ _)); refine blk_put (cs := #[.slice none 0 0, .slice none 0 0]) ?_ 0 _ rfl; (with_reducible repeat (first | refine blk_drewN ?_ _ | refine blk_drew ?_ | refine blk_alloc ?_ _)); exact BK458.out⟩, ⟨(Kd.R_reads' (by (with_reducible repeat (first | apply Kd.R_alloc | apply Kd.R_drewN | apply Kd.R_drew)); exact (Kd.R_mono (Kd.R_far (p := ⟨gb458, 1, none⟩) (Kd.R_far (p := ⟨gb458, 0, none⟩) (Kd.R_types HL457_0.out BK458.out (by decide)) (fun _ hk => hk.2) (.slice A457_0 ((rd_T30 t450 x40_1).f0).length c457_0)) (fun _ hk => hk.2) (.slice A457_1 ((rd_T30 t450 x40_1).f1).length c457_1)) (fun _ h_ => h_.1)))).2.2⟩, ⟨(Kd.R_reads' (by (with_reducible repeat (first | apply Kd.R_alloc | apply Kd.R_drewN | apply Kd.R_drew)); exact (Kd.R_mono (Kd.R_far (p := ⟨gb458, 1, none⟩) (Kd.R_far (p := ⟨gb458, 0, none⟩) (Kd.R_types HL457_1.out BK458.out (by decide)) (fun _ hk => hk.2) (.slice A457_0 ((rd_T30 t450 x40_1).f0).length c457_0)) (fun _ hk => hk.2) (.slice A457_1 ((rd_T30 t450 x40_1).f1).length c457_1)) (fun _ h_ => h_.1)))).2.2⟩, ⟨by repeat (first | (with_reducible first | exact HB.out | apply below_alloc | apply pw_below_drewN | apply below_drew1 | refine below_set ?_ GE458.out) | exact HB.out)⟩⟩
   case round =>
    clear H'
    try clear c1
    try clear c2
    try clear p2
    try clear c4
    try clear p4
    try clear q4
    try clear hx4
    try clear c5
    try clear c7
    try clear c9
    try clear c9b0
    try clear c9b1
    try clear c12
    try clear c13
    try clear c14
    try clear c16
    try clear c16b0
    try clear c17
    try clear c17b0
    try clear c18
    try clear c18b0
    try clear hcz20_0
    try clear hcz20_1
    try clear hfz20_0
    try clear hfz20_1
    try clear hx457_0
    try clear hx457_1
    try clear p2
    try clear p457
    try clear q457
    obtain ⟨x47_2, rfl, HA, HK2, HO_9, HO_38, BK458, HR457_0, HR457_1, HB⟩ := hrel
    cases gk with
    | zero => exact absurd HA.out (by simp [orrerylaw21_OrderWhole.l1])
    | succ k2 =>
     have H := HA.out
     clear HA
     simp only [orrerylaw21_OrderWhole.l1] at H
     by_cases c21 : x47_2 < (((rd_T30 t450 x40_1).f0).length : Int)
     case neg =>
      rw [if_neg c21] at H
      have c21b0 : decide (x47_2 < (((rd_T30 t450 x40_1).f0).length : Int)) = false := decide_eq_false c21
      clear c21
      have H' := Aside0.mk H
      clear H
      go_wp2
      (first | go_roundg k2 | (refine Handed.intro k2 ?measure ?_; rotate_left; go_step; (repeat apply Exists.intro); (refine ⟨?rel, ?fr_⟩); (case fr_ => (simp only [add_plain]; rfl))))
      case measure => have := HK1.out; have := HK2.out; omega
      case rel => exact ⟨(wrap64 (x40_1 + 1)), (by first | rfl | (simp; done) | (simp [*]; done)), H', ⟨by have := HK1.out; have := HK2.out; omega⟩, ⟨by (with_reducible repeat (first | apply Kd.S_alloc | apply Kd.S_drewN | apply Kd.S_drew)); exact HO_9.out⟩, ⟨by (with_reducible repeat (first | apply Kd.S_alloc | apply Kd.S_drewN | apply Kd.S_drew)); exact Kd.S_mono HO_38.out (fun _ hk => trivial)⟩, ⟨by repeat (first | (with_reducible first | exact HB.out | apply below_alloc | apply pw_below_drewN | apply below_drew1 | refine below_set ?_ GE458.out) | exact HB.out)⟩⟩
     rw [if_pos c21] at H
     have c21b0 : decide (x47_2 < (((rd_T30 t450 x40_1).f0).length : Int)) = true := decide_eq_true c21
     clear c21
     by_cases c22 : 0 ≤ x47_2
     case neg => rw [if_neg c22] at H; exact absurd H (by simp)
     rw [if_pos c22] at H
     have c22b0 : decide (0 ≤ x47_2) = true := decide_eq_true c22
     clear c22
     by_cases c23 : x47_2 < (((rd_T30 t450 x40_1).f0).length : Int)
     case neg => rw [if_neg c23] at H; exact absurd H (by simp)
     rw [if_pos c23] at H
     have c23b0 : decide (x47_2 < (((rd_T30 t450 x40_1).f0).length : Int)) = true := decide_eq_true c23
     clear c23
     have H' := Aside0.mk H
     clear H
     have p459 : 0 ≤ (x47_2 : Int) := of_decide_eq_true (by first | (with_reducible assumption) | assumption)
     have q459 : x47_2 < (((rd_T30 t450 x40_1).f0).length : Int) := of_decide_eq_true (by first | (with_reducible assumption) | assumption)
     obtain ⟨ad459, e459, hx459_0⟩ := Kd.at_int (by repeat (first | (with_reducible exact HR457_0.out) | (with_reducible refine Kd.C_alloc ?_ _) | (with_reducible refine Kd.C_drewN ?_ _) | (with_reducible refine Kd.C_drew ?_) | exact HR457_0.out)) x47_2 p459 q459
     cases e459
     replace p459 := eq_true p459
     replace q459 := eq_true q459
     go_wp2
     go_loopg [14] k2 (fun kq v14 w' => ∃ (x14_3 : Int), v14 = .int .i64 x14_3 ∧ Aside0 (orrerylaw21_OrderWhole.l2 kq a0 t454 (rd ((rd_T30 t450 x40_1).f0) x47_2) x14_3 t450 (t450.length : Int) x40_1 ((rd_T30 t450 x40_1).f0) (((rd_T30 t450 x40_1).f0).length : Int) x47_2 ((rd_T30 t450 x40_1).f0) ((rd_T30 t450 x40_1).f1) = some r) ∧ Aside0 (kq ≤ k2) ∧ Aside0 (Kd.S (Kd.slice 3 (Kd.int .i64)) 23 w' w.heap.size (fun _ => True) v455 t454) ∧ Aside0 (Kd.S k30 30 w' w.heap.size (fun k_ => k_ ≠ gb458) (.slice (some ad457) t450.length co15) t450) ∧ Aside0 (w'.heap[gb458]? = some (.cells #[(.slice (some ad459) ((rd_T30 t450 x40_1).f0).length c457_0), (.slice A457_1 ((rd_T30 t450 x40_1).f1).length c457_1)] 30 (0, 0))) ∧ Aside0 (Kd.C (Kd.int .i64) w' (some ad459) ((rd_T30 t450 x40_1).f0).length ((rd_T30 t450 x40_1).f0)) ∧ Aside0 (Kd.C (Kd.int .i64) w' A457_1 ((rd_T30 t450 x40_1).f1).length ((rd_T30 t450 x40_1).f1)) ∧ Aside0 (Below w.heap.size w w'))
     case atStart => exact ⟨(0), (by first | rfl | (simp; done) | (simp [*]; done)), H', ⟨Nat.le_refl _⟩, ⟨by (with_reducible repeat (first | apply Kd.S_alloc | apply Kd.S_drewN | apply Kd.S_drew)); exact HO_9.out⟩, ⟨by (with_reducible repeat (first | apply Kd.S_alloc | apply Kd.S_drewN | apply Kd.S_drew)); exact HO_38.out⟩, ⟨by (with_reducible repeat (first | refine blk_drewN ?_ _ | refine blk_drew ?_ | refine blk_alloc ?_ _)); exact BK458.out⟩, ⟨by repeat (first | (with_reducible exact HR457_0.out) | (with_reducible refine Kd.C_alloc ?_ _) | (with_reducible refine Kd.C_drewN ?_ _) | (with_reducible refine Kd.C_drew ?_) | exact HR457_0.out)⟩, ⟨by repeat (first | (with_reducible exact HR457_1.out) | (with_reducible refine Kd.C_alloc ?_ _) | (with_reducible refine Kd.C_drewN ?_ _) | (with_reducible refine Kd.C_drew ?_) | exact HR457_1.out)⟩, ⟨by repeat (first | (with_reducible first | exact HB.out | apply below_alloc | apply pw_below_drewN | apply below_drew1 | refine below_set ?_ GE458.out) | exact HB.out)⟩⟩
     case round =>
      clear H'
      try clear c1
      try clear c2
      try clear p2
      try clear c4
      try clear p4
      try clear q4
      try clear hx4
      try clear c5
      try clear c7
      try clear c9
      try clear c9b0
      try clear c9b1
      try clear c12
      try clear c13
      try clear c14
      try clear c16
      try clear c16b0
      try clear c17
      try clear c17b0
      try clear c18
      try clear c18b0
      try clear c21
      try clear c21b0
      try clear c22
      try clear c22b0
      try clear c23
      try clear c23b0
      try clear hcz20_0
      try clear hcz20_1
      try clear hfz20_0
      try clear hfz20_1
      try clear hx457_0
      try clear hx457_1
      try clear hx459_0
      try clear p2
      try clear p4
      try clear p457
      try clear p459
      try clear q4
      try clear q457
      try clear q459
      obtain ⟨x14_3, rfl, HA, HK3, HO_9, HO_38, BK458, HR457_0, HR457_1, HB⟩ := hrel
      cases gk with
      | zero => exact absurd HA.out (by simp [orrerylaw21_OrderWhole.l2])
      | succ k3 =>
       have H := HA.out
       clear HA
       simp only [orrerylaw21_OrderWhole.l2] at H
       by_cases c24 : x14_3 < a0
       case neg =>
        rw [if_neg c24] at H
        have c24b0 : decide (x14_3 < a0) = false := decide_eq_false c24
        clear c24
        have H' := Aside0.mk H
        clear H
        go_wp2
        (first | go_roundg k3 | (refine Handed.intro k3 ?measure ?_; rotate_left; go_step; (repeat apply Exists.intro); (refine ⟨?rel, ?fr_⟩); (case fr_ => (simp only [add_plain]; rfl))))
        case measure => have := HK1.out; have := HK2.out; have := HK3.out; omega
        case rel => exact ⟨(wrap64 (x47_2 + 1)), (by first | rfl | (simp; done) | (simp [*]; done)), H', ⟨by have := HK1.out; have := HK2.out; have := HK3.out; omega⟩, ⟨by (with_reducible repeat (first | apply Kd.S_alloc | apply Kd.S_drewN | apply Kd.S_drew)); exact HO_9.out⟩, ⟨by (with_reducible repeat (first | apply Kd.S_alloc | apply Kd.S_drewN | apply Kd.S_drew)); exact HO_38.out⟩, ⟨by (with_reducible repeat (first | refine blk_drewN ?_ _ | refine blk_drew ?_ | refine blk_alloc ?_ _)); exact BK458.out⟩, ⟨by repeat (first | (with_reducible exact HR457_0.out) | (with_reducible refine Kd.C_alloc ?_ _) | (with_reducible refine Kd.C_drewN ?_ _) | (with_reducible refine Kd.C_drew ?_) | exact HR457_0.out)⟩, ⟨by repeat (first | (with_reducible exact HR457_1.out) | (with_reducible refine Kd.C_alloc ?_ _) | (with_reducible refine Kd.C_drewN ?_ _) | (with_reducible refine Kd.C_drew ?_) | exact HR457_1.out)⟩, ⟨by repeat (first | (with_reducible first | exact HB.out | apply below_alloc | apply pw_below_drewN | apply below_drew1 | refine below_set ?_ GE458.out) | exact HB.out)⟩⟩
       rw [if_pos c24] at H
       have c24b0 : decide (x14_3 < a0) = true := decide_eq_true c24
       clear c24
       have H' := Aside0.mk H
       clear H
       have hcz25_0 : wr.cell? ⟨gb458, 0, none⟩ = some (.slice (some ad459) ((rd_T30 t450 x40_1).f0).length c457_0) := (blk_cell BK458.out 0).trans rfl
       have hcz25_1 : wr.cell? ⟨gb458, 1, none⟩ = some (.slice A457_1 ((rd_T30 t450 x40_1).f1).length c457_1) := (blk_cell BK458.out 1).trans rfl
       have hfz25_0 := blk_frozen BK458.out 0
       have hfz25_1 := blk_frozen BK458.out 1
       go_wp2
       go_loopg [15, 59] k3 (fun kq v15 v59 w' => ∃ (x15_4 : Bool) (x59_4 : Int), v15 = .bool x15_4 ∧ v59 = .int .i64 x59_4 ∧ Aside0 (orrerylaw21_OrderWhole.l3 kq a0 t454 (rd ((rd_T30 t450 x40_1).f0) x47_2) x14_3 x15_4 t450 (t450.length : Int) x40_1 ((rd_T30 t450 x40_1).f0) (((rd_T30 t450 x40_1).f0).length : Int) x47_2 ((rd_T30 t450 x40_1).f0) (((rd_T30 t450 x40_1).f0).length : Int) x59_4 ((rd_T30 t450 x40_1).f0) ((rd_T30 t450 x40_1).f1) = some r) ∧ Aside0 (kq ≤ k3) ∧ Aside0 (Kd.S (Kd.slice 3 (Kd.int .i64)) 23 w' w.heap.size (fun _ => True) v455 t454) ∧ Aside0 (Kd.S k30 30 w' w.heap.size (fun k_ => k_ ≠ gb458) (.slice (some ad457) t450.length co15) t450) ∧ Aside0 (w'.heap[gb458]? = some (.cells #[(.slice (some ad459) ((rd_T30 t450 x40_1).f0).length c457_0), (.slice A457_1 ((rd_T30 t450 x40_1).f1).length c457_1)] 30 (0, 0))) ∧ Aside0 (Kd.C (Kd.int .i64) w' (some ad459) ((rd_T30 t450 x40_1).f0).length ((rd_T30 t450 x40_1).f0)) ∧ Aside0 (Kd.C (Kd.int .i64) w' A457_1 ((rd_T30 t450 x40_1).f1).length ((rd_T30 t450 x40_1).f1)) ∧ Aside0 (Below w.heap.size w w'))
       case atStart => exact ⟨(false), (0), (by first | rfl | (simp; done) | (simp [*]; done)), (by first | rfl | (simp; done) | (simp [*]; done)), H', ⟨Nat.le_refl _⟩, ⟨by (with_reducible repeat (first | apply Kd.S_alloc | apply Kd.S_drewN | apply Kd.S_drew)); exact HO_9.out⟩, ⟨by (with_reducible repeat (first | apply Kd.S_alloc | apply Kd.S_drewN | apply Kd.S_drew)); exact HO_38.out⟩, ⟨by (with_reducible repeat (first | refine blk_drewN ?_ _ | refine blk_drew ?_ | refine blk_alloc ?_ _)); exact BK458.out⟩, ⟨by repeat (first | (with_reducible exact HR457_0.out) | (with_reducible refine Kd.C_alloc ?_ _) | (with_reducible refine Kd.C_drewN ?_ _) | (with_reducible refine Kd.C_drew ?_) | exact HR457_0.out)⟩, ⟨by repeat (first | (with_reducible exact HR457_1.out) | (with_reducible refine Kd.C_alloc ?_ _) | (with_reducible refine Kd.C_drewN ?_ _) | (with_reducible refine Kd.C_drew ?_) | exact HR457_1.out)⟩, ⟨by repeat (first | (with_reducible first | exact HB.out | apply below_alloc | apply pw_below_drewN | apply below_drew1 | refine below_set ?_ GE458.out) | exact HB.out)⟩⟩
       case round =>
        clear H'
        try clear c1
        try clear c2
        try clear p2
        try clear c4
        try clear p4
        try clear q4
        try clear hx4
        try clear c5
        try clear c7
        try clear c9
        try clear c9b0
        try clear c9b1
        try clear c12
        try clear c13
        try clear c14
        try clear c16
        try clear c16b0
        try clear c17
        try clear c17b0
        try clear c18
        try clear c18b0
        try clear c21
        try clear c21b0
        try clear c22
        try clear c22b0
        try clear c23
        try clear c23b0
        try clear c24
        try clear c24b0
        try clear hcz20_0
        try clear hcz20_1
        try clear hcz25_0
        try clear hcz25_1
        try clear hfz20_0
        try clear hfz20_1
        try clear hfz25_0
        try clear hfz25_1
        try clear hx457_0
        try clear hx457_1
        try clear hx459_0
        try clear p2
        try clear p4
        try clear p457
        try clear p459
        try clear q4
        try clear q457
        try clear q459
        obtain ⟨x15_4, x59_4, rfl, rfl, HA, HK4, HO_9, HO_38, BK458, HR457_0, HR457_1, HB⟩ := hrel
        cases gk with
        | zero => exact absurd HA.out (by simp [orrerylaw21_OrderWhole.l3])
        | succ k4 =>
         have H := HA.out
         clear HA
         simp only [orrerylaw21_OrderWhole.l3] at H
         by_cases c26 : x59_4 < (((rd_T30 t450 x40_1).f0).length : Int)
         case pos =>
          rw [if_pos c26] at H
          have c26b0 : decide (x59_4 < (((rd_T30 t450 x40_1).f0).length : Int)) = true := decide_eq_true c26
          clear c26
          by_cases c27 : 0 ≤ x59_4
          case neg => rw [if_neg c27] at H; exact absurd H (by simp)
          rw [if_pos c27] at H
          have c27b0 : decide (0 ≤ x59_4) = true := decide_eq_true c27
          clear c27
          by_cases c28 : x59_4 < (((rd_T30 t450 x40_1).f0).length : Int)
          case neg => rw [if_neg c28] at H; exact absurd H (by simp)
          rw [if_pos c28] at H
          have c28b0 : decide (x59_4 < (((rd_T30 t450 x40_1).f0).length : Int)) = true := decide_eq_true c28
          clear c28
          by_cases c29 : x15_4 = true
          case pos =>
           subst c29
           have H1 : (orrerylaw21_OrderWhole.l3 k4 a0 t454 (rd ((rd_T30 t450 x40_1).f0) x47_2) x14_3 true t450 (t450.length : Int) x40_1 ((rd_T30 t450 x40_1).f0) (((rd_T30 t450 x40_1).f0).length : Int) x47_2 ((rd_T30 t450 x40_1).f0) (((rd_T30 t450 x40_1).f0).length : Int) (wrap64 (x59_4 + 1)) ((rd_T30 t450 x40_1).f0) ((rd_T30 t450 x40_1).f1)) = some r := by rw [if_pos rfl] at H; exact H
           clear H
           have H := H1
           clear H1
           have H' := Aside0.mk H
           clear H
           have p460 : 0 ≤ (x59_4 : Int) := of_decide_eq_true (by first | (with_reducible assumption) | assumption)
           have q460 : x59_4 < (((rd_T30 t450 x40_1).f0).length : Int) := of_decide_eq_true (by first | (with_reducible assumption) | assumption)
           obtain ⟨ad460, e460, hx460_0⟩ := Kd.at_int (by repeat (first | (with_reducible exact HR457_0.out) | (with_reducible refine Kd.C_alloc ?_ _) | (with_reducible refine Kd.C_drewN ?_ _) | (with_reducible refine Kd.C_drew ?_) | exact HR457_0.out)) x59_4 p460 q460
           obtain rfl : ad459 = ad460 := (by injection e460)
           replace p460 := eq_true p460
           replace q460 := eq_true q460
           go_wp2
           (first | go_roundg k4 | (refine Handed.intro k4 ?measure ?_; rotate_left; go_step; (repeat apply Exists.intro); (refine ⟨?rel, ?fr_⟩); (case fr_ => (simp only [add_plain]; rfl))))
           case measure => have := HK1.out; have := HK2.out; have := HK3.out; have := HK4.out; omega
           case rel => exact ⟨(true), (wrap64 (x59_4 + 1)), (by first | rfl | (simp; done) | (simp [*]; done)), (by first | rfl | (simp; done) | (simp [*]; done)), H', ⟨by have := HK1.out; have := HK2.out; have := HK3.out; have := HK4.out; omega⟩, ⟨by (with_reducible repeat (first | apply Kd.S_alloc | apply Kd.S_drewN | apply Kd.S_drew)); exact HO_9.out⟩, ⟨by (with_reducible repeat (first | apply Kd.S_alloc | apply Kd.S_drewN | apply Kd.S_drew)); exact HO_38.out⟩, ⟨by (with_reducible repeat (first | refine blk_drewN ?_ _ | refine blk_drew ?_ | refine blk_alloc ?_ _)); exact BK458.out⟩, ⟨by repeat (first | (with_reducible exact HR457_0.out) | (with_reducible refine Kd.C_alloc ?_ _) | (with_reducible refine Kd.C_drewN ?_ _) | (with_reducible refine Kd.C_drew ?_) | exact HR457_0.out)⟩, ⟨by repeat (first | (with_reducible exact HR457_1.out) | (with_reducible refine Kd.C_alloc ?_ _) | (with_reducible refine Kd.C_drewN ?_ _) | (with_reducible refine Kd.C_drew ?_) | exact HR457_1.out)⟩, ⟨by repeat (first | (with_reducible first | exact HB.out | apply below_alloc | apply pw_below_drewN | apply below_drew1 | refine below_set ?_ GE458.out) | exact HB.out)⟩⟩
          replace c29 := Bool.eq_false_iff.mpr c29
          subst c29
          have H1 : (orrerylaw21_OrderWhole.l3 k4 a0 t454 (rd ((rd_T30 t450 x40_1).f0) x47_2) x14_3 ((rd ((rd_T30 t450 x40_1).f0) x59_4) == x14_3) t450 (t450.length : Int) x40_1 ((rd_T30 t450 x40_1).f0) (((rd_T30 t450 x40_1).f0).length : Int) x47_2 ((rd_T30 t450 x40_1).f0) (((rd_T30 t450 x40_1).f0).length : Int) (wrap64 (x59_4 + 1)) ((rd_T30 t450 x40_1).f0) ((rd_T30 t450 x40_1).f1)) = some r := by rw [if_neg (show ¬ (false = true) by decide)] at H; exact H
          clear H
          have H := H1
          clear H1
          have H' := Aside0.mk H
          clear H
          have p460 : 0 ≤ (x59_4 : Int) := of_decide_eq_true (by first | (with_reducible assumption) | assumption)
          have q460 : x59_4 < (((rd_T30 t450 x40_1).f0).length : Int) := of_decide_eq_true (by first | (with_reducible assumption) | assumption)
          obtain ⟨ad460, e460, hx460_0⟩ := Kd.at_int (by repeat (first | (with_reducible exact HR457_0.out) | (with_reducible refine Kd.C_alloc ?_ _) | (with_reducible refine Kd.C_drewN ?_ _) | (with_reducible refine Kd.C_drew ?_) | exact HR457_0.out)) x59_4 p460 q460
          obtain rfl : ad459 = ad460 := (by injection e460)
          replace p460 := eq_true p460
          replace q460 := eq_true q460
          go_wp2
          (first | go_roundg k4 | (refine Handed.intro k4 ?measure ?_; rotate_left; go_step; (repeat apply Exists.intro); (refine ⟨?rel, ?fr_⟩); (case fr_ => (simp only [add_plain]; rfl))))
          case measure => have := HK1.out; have := HK2.out; have := HK3.out; have := HK4.out; omega
          case rel => exact ⟨(((rd ((rd_T30 t450 x40_1).f0) x59_4) == x14_3)), (wrap64 (x59_4 + 1)), (by first | rfl | (simp; done) | (simp [*]; done)), (by first | rfl | (simp; done) | (simp [*]; done)), H', ⟨by have := HK1.out; have := HK2.out; have := HK3.out; have := HK4.out; omega⟩, ⟨by (with_reducible repeat (first | apply Kd.S_alloc | apply Kd.S_drewN | apply Kd.S_drew)); exact HO_9.out⟩, ⟨by (with_reducible repeat (first | apply Kd.S_alloc | apply Kd.S_drewN | apply Kd.S_drew)); exact HO_38.out⟩, ⟨by (with_reducible repeat (first | refine blk_drewN ?_ _ | refine blk_drew ?_ | refine blk_alloc ?_ _)); exact BK458.out⟩, ⟨by repeat (first | (with_reducible exact HR457_0.out) | (with_reducible refine Kd.C_alloc ?_ _) | (with_reducible refine Kd.C_drewN ?_ _) | (with_reducible refine Kd.C_drew ?_) | exact HR457_0.out)⟩, ⟨by repeat (first | (with_reducible exact HR457_1.out) | (with_reducible refine Kd.C_alloc ?_ _) | (with_reducible refine Kd.C_drewN ?_ _) | (with_reducible refine Kd.C_drew ?_) | exact HR457_1.out)⟩, ⟨by repeat (first | (with_reducible first | exact HB.out | apply below_alloc | apply pw_below_drewN | apply below_drew1 | refine below_set ?_ GE458.out) | exact HB.out)⟩⟩
         rw [if_neg c26] at H
         have c26b0 : decide (x59_4 < (((rd_T30 t450 x40_1).f0).length : Int)) = false := decide_eq_false c26
         clear c26
         by_cases c30 : (rd ((rd_T30 t450 x40_1).f0) x47_2) < 0
         case pos =>
          rw [if_pos c30] at H
          have c30b0 : decide ((rd ((rd_T30 t450 x40_1).f0) x47_2) < 0) = true := decide_eq_true c30
          clear c30
          obtain rfl := Option.some.inj H
          go_wp2
          go_ret
          exact ⟨by first | rfl | (simp [errW_none, errW_some] <;> rfl) | (simp [*, errW_none, errW_some] <;> rfl), by repeat (first | (with_reducible first | exact HB.out | apply below_alloc | apply pw_below_drewN | apply below_drew1 | refine below_set ?_ GE458.out) | exact HB.out)⟩
         rw [if_neg c30] at H
         have c30b0 : decide ((rd ((rd_T30 t450 x40_1).f0) x47_2) < 0) = false := decide_eq_false c30
         clear c30
         by_cases c31 : (rd ((rd_T30 t450 x40_1).f0) x47_2) ≥ a0
         case pos =>
          rw [if_pos c31] at H
          have c31b0 : decide (a0 ≤ (rd ((rd_T30 t450 x40_1).f0) x47_2)) = true := decide_eq_true c31
          clear c31
          obtain rfl := Option.some.inj H
          go_wp2
          go_ret
          exact ⟨by first | rfl | (simp [errW_none, errW_some] <;> rfl) | (simp [*, errW_none, errW_some] <;> rfl), by repeat (first | (with_reducible first | exact HB.out | apply below_alloc | apply pw_below_drewN | apply below_drew1 | refine below_set ?_ GE458.out) | exact HB.out)⟩
         rw [if_neg c31] at H
         have c31b0 : decide (a0 ≤ (rd ((rd_T30 t450 x40_1).f0) x47_2)) = false := decide_eq_false c31
         clear c31
         by_cases c32 : x14_3 = (rd ((rd_T30 t450 x40_1).f0) x47_2)
         case pos =>
          rw [if_pos c32] at H
          have c32b0 : (x14_3 == (rd ((rd_T30 t450 x40_1).f0) x47_2)) = true := beq_iff_eq.mpr c32
          have c32b1 : (x14_3 != (rd ((rd_T30 t450 x40_1).f0) x47_2)) = false := bne_eq_false_iff_eq.mpr c32
          clear c32
          have H' := Aside0.mk H
          clear H
          go_wp2
          (first | go_roundg k4 | (refine Handed.intro k4 ?measure ?_; rotate_left; go_step; (repeat apply Exists.intro); (refine ⟨?rel, ?fr_⟩); (case fr_ => (simp only [add_plain]; rfl))))
          case measure => have := HK1.out; have := HK2.out; have := HK3.out; have := HK4.out; omega
          case rel => exact ⟨(wrap64 (x14_3 + 1)), (by first | rfl | (simp; done) | (simp [*]; done)), H', ⟨by have := HK1.out; have := HK2.out; have := HK3.out; have := HK4.out; omega⟩, ⟨by (with_reducible repeat (first | apply Kd.S_alloc | apply Kd.S_drewN | apply Kd.S_drew)); exact HO_9.out⟩, ⟨by (with_reducible repeat (first | apply Kd.S_alloc | apply Kd.S_drewN | apply Kd.S_drew)); exact HO_38.out⟩, ⟨by (with_reducible repeat (first | refine blk_drewN ?_ _ | refine blk_drew ?_ | refine blk_alloc ?_ _)); exact BK458.out⟩, ⟨by repeat (first | (with_reducible exact HR457_0.out) | (with_reducible refine Kd.C_alloc ?_ _) | (with_reducible refine Kd.C_drewN ?_ _) | (with_reducible refine Kd.C_drew ?_) | exact HR457_0.out)⟩, ⟨by repeat (first | (with_reducible exact HR457_1.out) | (with_reducible refine Kd.C_alloc ?_ _) | (with_reducible refine Kd.C_drewN ?_ _) | (with_reducible refine Kd.C_drew ?_) | exact HR457_1.out)⟩, ⟨by repeat (first | (with_reducible first | exact HB.out | apply below_alloc | apply pw_below_drewN | apply below_drew1 | refine below_set ?_ GE458.out) | exact HB.out)⟩⟩
         rw [if_neg c32] at H
         have c32b0 : (x14_3 == (rd ((rd_T30 t450 x40_1).f0) x47_2)) = false := beq_eq_false_iff_ne.mpr c32
         have c32b1 : (x14_3 != (rd ((rd_T30 t450 x40_1).f0) x47_2)) = true := bne_iff_ne.mpr c32
         by_cases c33 : 0 ≤ (rd ((rd_T30 t450 x40_1).f0) x47_2)
         case neg => rw [if_neg c33] at H; exact absurd H (by simp)
         rw [if_pos c33] at H
         have c33b0 : decide (0 ≤ (rd ((rd_T30 t450 x40_1).f0) x47_2)) = true := decide_eq_true c33
         clear c33
         by_cases c34 : (rd ((rd_T30 t450 x40_1).f0) x47_2) < (t454.length : Int)
         case neg => rw [if_neg c34] at H; exact absurd H (by simp)
         rw [if_pos c34] at H
         have c34b0 : decide ((rd ((rd_T30 t450 x40_1).f0) x47_2) < (t454.length : Int)) = true := decide_eq_true c34
         clear c34
         by_cases c35 : 0 ≤ x14_3
         case neg => rw [if_neg c35] at H; exact absurd H (by simp)
         rw [if_pos c35] at H
         have c35b0 : decide (0 ≤ x14_3) = true := decide_eq_true c35
         clear c35
         by_cases c36 : x14_3 < ((rd_L3 t454 (rd ((rd_T30 t450 x40_1).f0) x47_2)).length : Int)
         case neg => rw [if_neg c36] at H; exact absurd H (by simp)
         rw [if_pos c36] at H
         have c36b0 : decide (x14_3 < ((rd_L3 t454 (rd ((rd_T30 t450 x40_1).f0) x47_2)).length : Int)) = true := decide_eq_true c36
         clear c36
         by_cases c37 : (rd (rd_L3 t454 (rd ((rd_T30 t450 x40_1).f0) x47_2)) x14_3) = 1
         case neg =>
          rw [if_neg c37] at H
          have c37b0 : ((rd (rd_L3 t454 (rd ((rd_T30 t450 x40_1).f0) x47_2)) x14_3) == 1) = false := beq_eq_false_iff_ne.mpr c37
          have c37b1 : ((rd (rd_L3 t454 (rd ((rd_T30 t450 x40_1).f0) x47_2)) x14_3) != 1) = true := bne_iff_ne.mpr c37
          by_cases c43 : (x15_4 != false) = true
          case pos =>
           rw [if_pos c43] at H
           have c43b0 : (x15_4 != false) = true := c43
           (try (have c43b1 : decide (x15_4 = false) = false := by simpa using c43))
           (try (have c43b2 : (x15_4 == false) = false := by simpa using c43))
           (try (have c43b3 : ¬ (x15_4 = false) := by simpa using c43))
           clear c43
           obtain rfl := Option.some.inj H
           obtain ⟨Ao44, co44, eo44⟩ := Kd.S_slice HO_9.out
           subst eo44
           have p461 : 0 ≤ ((rd ((rd_T30 t450 x40_1).f0) x47_2) : Int) := of_decide_eq_true (by first | (with_reducible assumption) | assumption)
           have q461 : (rd ((rd_T30 t450 x40_1).f0) x47_2) < (t454.length : Int) := of_decide_eq_true (by first | (with_reducible assumption) | assumption)
           obtain ⟨ad461, A461_0, c461_0, e461, hx461_0, hl461_0, hi461_0⟩ := at_L3 (Kd.S_reads' HO_9.out).2.2 (rd ((rd_T30 t450 x40_1).f0) x47_2) p461 q461
           cases e461
           obtain ⟨ce461, hce461, hMe461, hcc461⟩ := Kd.S_get HO_9.out [] (rd ((rd_T30 t450 x40_1).f0) x47_2) p461 (by first | exact q461 | exact of_decide_eq_true (by first | (with_reducible assumption) | assumption) | (have e_ := (Kd.S_reads' HO_9.out).1; omega))
           obtain ⟨ve461_0, rfl, ge461_0⟩ := hMe461
           have hv461_0 := hcc461 0 _ rfl
           rw [Nat.add_zero, show ((Kd.slice 3 (Kd.int .i64))).sz = 1 from rfl, Nat.mul_one] at hv461_0
           replace hv461_0 := Option.some.inj (hv461_0.symm.trans hx461_0)
           rw [hv461_0] at ge461_0
           have HL461_0 := Aside0.mk (show Kd.R (Kd.int .i64) 3 _ _ _ _ (rd_L3 t454 (rd ((rd_T30 t450 x40_1).f0) x47_2)) from ge461_0)
           clear hv461_0 ge461_0
           clear hcc461 hce461
           have HR461_0 := Aside0.mk hi461_0
           have HC461_0 := Aside0.mk hl461_0
           clear hi461_0 hl461_0
           replace p461 := eq_true p461
           replace q461 := eq_true q461
           have p462 : 0 ≤ (x14_3 : Int) := of_decide_eq_true (by first | (with_reducible assumption) | assumption)
           have q462 : x14_3 < ((rd_L3 t454 (rd ((rd_T30 t450 x40_1).f0) x47_2)).length : Int) := of_decide_eq_true (by first | (with_reducible assumption) | assumption)
           obtain ⟨ad462, e462, hx462_0⟩ := Kd.at_int (by repeat (first | (with_reducible exact HR461_0.out) | (with_reducible refine Kd.C_alloc ?_ _) | (with_reducible refine Kd.C_drewN ?_ _) | (with_reducible refine Kd.C_drew ?_) | exact HR461_0.out)) x14_3 p462 q462
           cases e462
           replace p462 := eq_true p462
           replace q462 := eq_true q462
           go_wp2
           go_ret
           exact ⟨by first | rfl | (simp [errW_none, errW_some] <;> rfl) | (simp [*, errW_none, errW_some] <;> rfl), by repeat (first | (with_reducible first | exact HB.out | apply below_alloc | apply pw_below_drewN | apply below_drew1 | refine below_set ?_ GE458.out) | exact HB.out)⟩
          rw [if_neg c43] at H
          have c43b0 : (x15_4 != false) = false := by simpa using c43
          (try (have c43b1 : decide (x15_4 = false) = true := by simpa using c43))
          (try (have c43b2 : (x15_4 == false) = true := by simpa using c43))
          clear c43
          have H' := Aside0.mk H
          clear H
          obtain ⟨Ao45, co45, eo45⟩ := Kd.S_slice HO_9.out
          subst eo45
          have p461 : 0 ≤ ((rd ((rd_T30 t450 x40_1).f0) x47_2) : Int) := of_decide_eq_true (by first | (with_reducible assumption) | assumption)
          have q461 : (rd ((rd_T30 t450 x40_1).f0) x47_2) < (t454.length : Int) := of_decide_eq_true (by first | (with_reducible assumption) | assumption)
          obtain ⟨ad461, A461_0, c461_0, e461, hx461_0, hl461_0, hi461_0⟩ := at_L3 (Kd.S_reads' HO_9.out).2.2 (rd ((rd_T30 t450 x40_1).f0) x47_2) p461 q461
          cases e461
          obtain ⟨ce461, hce461, hMe461, hcc461⟩ := Kd.S_get HO_9.out [] (rd ((rd_T30 t450 x40_1).f0) x47_2) p461 (by first | exact q461 | exact of_decide_eq_true (by first | (with_reducible assumption) | assumption) | (have e_ := (Kd.S_reads' HO_9.out).1; omega))
          obtain ⟨ve461_0, rfl, ge461_0⟩ := hMe461
          have hv461_0 := hcc461 0 _ rfl
          rw [Nat.add_zero, show ((Kd.slice 3 (Kd.int .i64))).sz = 1 from rfl, Nat.mul_one] at hv461_0
          replace hv461_0 := Option.some.inj (hv461_0.symm.trans hx461_0)
          rw [hv461_0] at ge461_0
          have HL461_0 := Aside0.mk (show Kd.R (Kd.int .i64) 3 _ _ _ _ (rd_L3 t454 (rd ((rd_T30 t450 x40_1).f0) x47_2)) from ge461_0)
          clear hv461_0 ge461_0
          clear hcc461 hce461
          have HR461_0 := Aside0.mk hi461_0
          have HC461_0 := Aside0.mk hl461_0
          clear hi461_0 hl461_0
          replace p461 := eq_true p461
          replace q461 := eq_true q461
          have p462 : 0 ≤ (x14_3 : Int) := of_decide_eq_true (by first | (with_reducible assumption) | assumption)
          have q462 : x14_3 < ((rd_L3 t454 (rd ((rd_T30 t450 x40_1).f0) x47_2)).length : Int) := of_decide_eq_true (by first | (with_reducible assumption) | assumption)
          obtain ⟨ad462, e462, hx462_0⟩ := Kd.at_int (by repeat (first | (with_reducible exact HR461_0.out) | (with_reducible refine Kd.C_alloc ?_ _) | (with_reducible refine Kd.C_drewN ?_ _) | (with_reducible refine Kd.C_drew ?_) | exact HR461_0.out)) x14_3 p462 q462
          cases e462
          replace p462 := eq_true p462
          replace q462 := eq_true q462
          go_wp2
          (first | go_roundg k4 | (refine Handed.intro k4 ?measure ?_; rotate_left; go_step; (repeat apply Exists.intro); (refine ⟨?rel, ?fr_⟩); (case fr_ => (simp only [add_plain]; rfl))))
          case measure => have := HK1.out; have := HK2.out; have := HK3.out; have := HK4.out; omega
          case rel => exact ⟨(wrap64 (x14_3 + 1)), (by first | rfl | (simp; done) | (simp [*]; done)), H', ⟨by have := HK1.out; have := HK2.out; have := HK3.out; have := HK4.out; omega⟩, ⟨by (with_reducible repeat (first | apply Kd.S_alloc | apply Kd.S_drewN | apply Kd.S_drew)); exact HO_9.out⟩, ⟨by (with_reducible repeat (first | apply Kd.S_alloc | apply Kd.S_drewN | apply Kd.S_drew)); exact HO_38.out⟩, ⟨by (with_reducible repeat (first | refine blk_drewN ?_ _ | refine blk_drew ?_ | refine blk_alloc ?_ _)); exact BK458.out⟩, ⟨by repeat (first | (with_reducible exact HR457_0.out) | (with_reducible refine Kd.C_alloc ?_ _) | (with_reducible refine Kd.C_drewN ?_ _) | (with_reducible refine Kd.C_drew ?_) | exact HR457_0.out)⟩, ⟨by repeat (first | (with_reducible exact HR457_1.out) | (with_reducible refine Kd.C_alloc ?_ _) | (with_reducible refine Kd.C_drewN ?_ _) | (with_reducible refine Kd.C_drew ?_) | exact HR457_1.out)⟩, ⟨by repeat (first | (with_reducible first | exact HB.out | apply below_alloc | apply pw_below_drewN | apply below_drew1 | refine below_set ?_ GE458.out) | exact HB.out)⟩⟩
         rw [if_pos c37] at H
         have c37b0 : ((rd (rd_L3 t454 (rd ((rd_T30 t450 x40_1).f0) x47_2)) x14_3) == 1) = true := beq_iff_eq.mpr c37
         have c37b1 : ((rd (rd_L3 t454 (rd ((rd_T30 t450 x40_1).f0) x47_2)) x14_3) != 1) = false := bne_eq_false_iff_eq.mpr c37
         clear c37
         by_cases c38 : x14_3 < (t454.length : Int)
         case neg => rw [if_neg c38] at H; exact absurd H (by simp)
         rw [if_pos c38] at H
         have c38b0 : decide (x14_3 < (t454.length : Int)) = true := decide_eq_true c38
         clear c38
         by_cases c39 : (rd ((rd_T30 t450 x40_1).f0) x47_2) < ((rd_L3 t454 x14_3).length : Int)
         case neg => rw [if_neg c39] at H; exact absurd H (by simp)
         rw [if_pos c39] at H
         have c39b0 : decide ((rd ((rd_T30 t450 x40_1).f0) x47_2) < ((rd_L3 t454 x14_3).length : Int)) = true := decide_eq_true c39
         clear c39
         by_cases c40 : (x15_4 != ((rd (rd_L3 t454 x14_3) (rd ((rd_T30 t450 x40_1).f0) x47_2)) == 1)) = true
         case pos =>
          rw [if_pos c40] at H
          have c40b0 : (x15_4 != ((rd (rd_L3 t454 x14_3) (rd ((rd_T30 t450 x40_1).f0) x47_2)) == 1)) = true := c40
          (try (have c40b1 : decide (x15_4 = ((rd (rd_L3 t454 x14_3) (rd ((rd_T30 t450 x40_1).f0) x47_2)) == 1)) = false := by simpa using c40))
          (try (have c40b2 : (x15_4 == ((rd (rd_L3 t454 x14_3) (rd ((rd_T30 t450 x40_1).f0) x47_2)) == 1)) = false := by simpa using c40))
          (try (have c40b3 : ¬ (x15_4 = ((rd (rd_L3 t454 x14_3) (rd ((rd_T30 t450 x40_1).f0) x47_2)) == 1)) := by simpa using c40))
          clear c40
          obtain rfl := Option.some.inj H
          obtain ⟨Ao41, co41, eo41⟩ := Kd.S_slice HO_9.out
          subst eo41
          have p461 : 0 ≤ ((rd ((rd_T30 t450 x40_1).f0) x47_2) : Int) := of_decide_eq_true (by first | (with_reducible assumption) | assumption)
          have q461 : (rd ((rd_T30 t450 x40_1).f0) x47_2) < (t454.length : Int) := of_decide_eq_true (by first | (with_reducible assumption) | assumption)
          obtain ⟨ad461, A461_0, c461_0, e461, hx461_0, hl461_0, hi461_0⟩ := at_L3 (Kd.S_reads' HO_9.out).2.2 (rd ((rd_T30 t450 x40_1).f0) x47_2) p461 q461
          cases e461
          obtain ⟨ce461, hce461, hMe461, hcc461⟩ := Kd.S_get HO_9.out [] (rd ((rd_T30 t450 x40_1).f0) x47_2) p461 (by first | exact q461 | exact of_decide_eq_true (by first | (with_reducible assumption) | assumption) | (have e_ := (Kd.S_reads' HO_9.out).1; omega))
          obtain ⟨ve461_0, rfl, ge461_0⟩ := hMe461
          have hv461_0 := hcc461 0 _ rfl
          rw [Nat.add_zero, show ((Kd.slice 3 (Kd.int .i64))).sz = 1 from rfl, Nat.mul_one] at hv461_0
          replace hv461_0 := Option.some.inj (hv461_0.symm.trans hx461_0)
          rw [hv461_0] at ge461_0
          have HL461_0 := Aside0.mk (show Kd.R (Kd.int .i64) 3 _ _ _ _ (rd_L3 t454 (rd ((rd_T30 t450 x40_1).f0) x47_2)) from ge461_0)
          clear hv461_0 ge461_0
          clear hcc461 hce461
          have HR461_0 := Aside0.mk hi461_0
          have HC461_0 := Aside0.mk hl461_0
          clear hi461_0 hl461_0
          replace p461 := eq_true p461
          replace q461 := eq_true q461
          have p462 : 0 ≤ (x14_3 : Int) := of_decide_eq_true (by first | (with_reducible assumption) | assumption)
          have q462 : x14_3 < ((rd_L3 t454 (rd ((rd_T30 t450 x40_1).f0) x47_2)).length : Int) := of_decide_eq_true (by first | (with_reducible assumption) | assumption)
          obtain ⟨ad462, e462, hx462_0⟩ := Kd.at_int (by repeat (first | (with_reducible exact HR461_0.out) | (with_reducible refine Kd.C_alloc ?_ _) | (with_reducible refine Kd.C_drewN ?_ _) | (with_reducible refine Kd.C_drew ?_) | exact HR461_0.out)) x14_3 p462 q462
          cases e462
          replace p462 := eq_true p462
          replace q462 := eq_true q462
          have p463 : 0 ≤ (x14_3 : Int) := of_decide_eq_true (by first | (with_reducible assumption) | assumption)
          have q463 : x14_3 < (t454.length : Int) := of_decide_eq_true (by first | (with_reducible assumption) | assumption)
          obtain ⟨ad463, A463_0, c463_0, e463, hx463_0, hl463_0, hi463_0⟩ := at_L3 (Kd.S_reads' HO_9.out).2.2 x14_3 p463 q463
          obtain rfl : ad461 = ad463 := (by injection e463)
          obtain ⟨ce463, hce463, hMe463, hcc463⟩ := Kd.S_get HO_9.out [] x14_3 p463 (by first | exact q463 | exact of_decide_eq_true (by first | (with_reducible assumption) | assumption) | (have e_ := (Kd.S_reads' HO_9.out).1; omega))
          obtain ⟨ve463_0, rfl, ge463_0⟩ := hMe463
          have hv463_0 := hcc463 0 _ rfl
          rw [Nat.add_zero, show ((Kd.slice 3 (Kd.int .i64))).sz = 1 from rfl, Nat.mul_one] at hv463_0
          replace hv463_0 := Option.some.inj (hv463_0.symm.trans hx463_0)
          rw [hv463_0] at ge463_0
          have HL463_0 := Aside0.mk (show Kd.R (Kd.int .i64) 3 _ _ _ _ (rd_L3 t454 x14_3) from ge463_0)
          clear hv463_0 ge463_0
          clear hcc463 hce463
          have HR463_0 := Aside0.mk hi463_0
          have HC463_0 := Aside0.mk hl463_0
          clear hi463_0 hl463_0
          replace p463 := eq_true p463
          replace q463 := eq_true q463
          have p464 : 0 ≤ ((rd ((rd_T30 t450 x40_1).f0) x47_2) : Int) := of_decide_eq_true (by first | (with_reducible assumption) | assumption)
          have q464 : (rd ((rd_T30 t450 x40_1).f0) x47_2) < ((rd_L3 t454 x14_3).length : Int) := of_decide_eq_true (by first | (with_reducible assumption) | assumption)
          obtain ⟨ad464, e464, hx464_0⟩ := Kd.at_int (by repeat (first | (with_reducible exact HR463_0.out) | (with_reducible refine Kd.C_alloc ?_ _) | (with_reducible refine Kd.C_drewN ?_ _) | (with_reducible refine Kd.C_drew ?_) | exact HR463_0.out)) (rd ((rd_T30 t450 x40_1).f0) x47_2) p464 q464
          cases e464
          replace p464 := eq_true p464
          replace q464 := eq_true q464
          go_wp2
          go_ret
          exact ⟨by first | rfl | (simp [errW_none, errW_some] <;> rfl) | (simp [*, errW_none, errW_some] <;> rfl), by repeat (first | (with_reducible first | exact HB.out | apply below_alloc | apply pw_below_drewN | apply below_drew1 | refine below_set ?_ GE458.out) | exact HB.out)⟩
         rw [if_neg c40] at H
         have c40b0 : (x15_4 != ((rd (rd_L3 t454 x14_3) (rd ((rd_T30 t450 x40_1).f0) x47_2)) == 1)) = false := by simpa using c40
         (try (have c40b1 : decide (x15_4 = ((rd (rd_L3 t454 x14_3) (rd ((rd_T30 t450 x40_1).f0) x47_2)) == 1)) = true := by simpa using c40))
         (try (have c40b2 : (x15_4 == ((rd (rd_L3 t454 x14_3) (rd ((rd_T30 t450 x40_1).f0) x47_2)) == 1)) = true := by simpa using c40))
         clear c40
         have H' := Aside0.mk H
         clear H
         obtain ⟨Ao42, co42, eo42⟩ := Kd.S_slice HO_9.out
         subst eo42
         have p461 : 0 ≤ ((rd ((rd_T30 t450 x40_1).f0) x47_2) : Int) := of_decide_eq_true (by first | (with_reducible assumption) | assumption)
         have q461 : (rd ((rd_T30 t450 x40_1).f0) x47_2) < (t454.length : Int) := of_decide_eq_true (by first | (with_reducible assumption) | assumption)
         obtain ⟨ad461, A461_0, c461_0, e461, hx461_0, hl461_0, hi461_0⟩ := at_L3 (Kd.S_reads' HO_9.out).2.2 (rd ((rd_T30 t450 x40_1).f0) x47_2) p461 q461
         cases e461
         obtain ⟨ce461, hce461, hMe461, hcc461⟩ := Kd.S_get HO_9.out [] (rd ((rd_T30 t450 x40_1).f0) x47_2) p461 (by first | exact q461 | exact of_decide_eq_true (by first | (with_reducible assumption) | assumption) | (have e_ := (Kd.S_reads' HO_9.out).1; omega))
         obtain ⟨ve461_0, rfl, ge461_0⟩ := hMe461
         have hv461_0 := hcc461 0 _ rfl
         rw [Nat.add_zero, show ((Kd.slice 3 (Kd.int .i64))).sz = 1 from rfl, Nat.mul_one] at hv461_0
         replace hv461_0 := Option.some.inj (hv461_0.symm.trans hx461_0)
         rw [hv461_0] at ge461_0
         have HL461_0 := Aside0.mk (show Kd.R (Kd.int .i64) 3 _ _ _ _ (rd_L3 t454 (rd ((rd_T30 t450 x40_1).f0) x47_2)) from ge461_0)
         clear hv461_0 ge461_0
         clear hcc461 hce461
         have HR461_0 := Aside0.mk hi461_0
         have HC461_0 := Aside0.mk hl461_0
         clear hi461_0 hl461_0
         replace p461 := eq_true p461
         replace q461 := eq_true q461
         have p462 : 0 ≤ (x14_3 : Int) := of_decide_eq_true (by first | (with_reducible assumption) | assumption)
         have q462 : x14_3 < ((rd_L3 t454 (rd ((rd_T30 t450 x40_1).f0) x47_2)).length : Int) := of_decide_eq_true (by first | (with_reducible assumption) | assumption)
         obtain ⟨ad462, e462, hx462_0⟩ := Kd.at_int (by repeat (first | (with_reducible exact HR461_0.out) | (with_reducible refine Kd.C_alloc ?_ _) | (with_reducible refine Kd.C_drewN ?_ _) | (with_reducible refine Kd.C_drew ?_) | exact HR461_0.out)) x14_3 p462 q462
         cases e462
         replace p462 := eq_true p462
         replace q462 := eq_true q462
         have p463 : 0 ≤ (x14_3 : Int) := of_decide_eq_true (by first | (with_reducible assumption) | assumption)
         have q463 : x14_3 < (t454.length : Int) := of_decide_eq_true (by first | (with_reducible assumption) | assumption)
         obtain ⟨ad463, A463_0, c463_0, e463, hx463_0, hl463_0, hi463_0⟩ := at_L3 (Kd.S_reads' HO_9.out).2.2 x14_3 p463 q463
         obtain rfl : ad461 = ad463 := (by injection e463)
         obtain ⟨ce463, hce463, hMe463, hcc463⟩ := Kd.S_get HO_9.out [] x14_3 p463 (by first | exact q463 | exact of_decide_eq_true (by first | (with_reducible assumption) | assumption) | (have e_ := (Kd.S_reads' HO_9.out).1; omega))
         obtain ⟨ve463_0, rfl, ge463_0⟩ := hMe463
         have hv463_0 := hcc463 0 _ rfl
         rw [Nat.add_zero, show ((Kd.slice 3 (Kd.int .i64))).sz = 1 from rfl, Nat.mul_one] at hv463_0
         replace hv463_0 := Option.some.inj (hv463_0.symm.trans hx463_0)
         rw [hv463_0] at ge463_0
         have HL463_0 := Aside0.mk (show Kd.R (Kd.int .i64) 3 _ _ _ _ (rd_L3 t454 x14_3) from ge463_0)
         clear hv463_0 ge463_0
         clear hcc463 hce463
         have HR463_0 := Aside0.mk hi463_0
         have HC463_0 := Aside0.mk hl463_0
         clear hi463_0 hl463_0
         replace p463 := eq_true p463
         replace q463 := eq_true q463
         have p464 : 0 ≤ ((rd ((rd_T30 t450 x40_1).f0) x47_2) : Int) := of_decide_eq_true (by first | (with_reducible assumption) | assumption)
         have q464 : (rd ((rd_T30 t450 x40_1).f0) x47_2) < ((rd_L3 t454 x14_3).length : Int) := of_decide_eq_true (by first | (with_reducible assumption) | assumption)
         obtain ⟨ad464, e464, hx464_0⟩ := Kd.at_int (by repeat (first | (with_reducible exact HR463_0.out) | (with_reducible refine Kd.C_alloc ?_ _) | (with_reducible refine Kd.C_drewN ?_ _) | (with_reducible refine Kd.C_drew ?_) | exact HR463_0.out)) (rd ((rd_T30 t450 x40_1).f0) x47_2) p464 q464
         cases e464
         replace p464 := eq_true p464
         replace q464 := eq_true q464
         go_wp2
         (first | go_roundg k4 | (refine Handed.intro k4 ?measure ?_; rotate_left; go_step; (repeat apply Exists.intro); (refine ⟨?rel, ?fr_⟩); (case fr_ => (simp only [add_plain]; rfl))))
         case measure => have := HK1.out; have := HK2.out; have := HK3.out; have := HK4.out; omega
         case rel => exact ⟨(wrap64 (x14_3 + 1)), (by first | rfl | (simp; done) | (simp [*]; done)), H', ⟨by have := HK1.out; have := HK2.out; have := HK3.out; have := HK4.out; omega⟩, ⟨by (with_reducible repeat (first | apply Kd.S_alloc | apply Kd.S_drewN | apply Kd.S_drew)); exact HO_9.out⟩, ⟨by (with_reducible repeat (first | apply Kd.S_alloc | apply Kd.S_drewN | apply Kd.S_drew)); exact HO_38.out⟩, ⟨by (with_reducible repeat (first | refine blk_drewN ?_ _ | refine blk_drew ?_ | refine blk_alloc ?_ _)); exact BK458.out⟩, ⟨by repeat (first | (with_reducible exact HR457_0.out) | (with_reducible refine Kd.C_alloc ?_ _) | (with_reducible refine Kd.C_drewN ?_ _) | (with_reducible refine Kd.C_drew ?_) | exact HR457_0.out)⟩, ⟨by repeat (first | (with_reducible exact HR457_1.out) | (with_reducible refine Kd.C_alloc ?_ _) | (with_reducible refine Kd.C_drewN ?_ _) | (with_reducible refine Kd.C_drew ?_) | exact HR457_1.out)⟩, ⟨by repeat (first | (with_reducible first | exact HB.out | apply below_alloc | apply pw_below_drewN | apply below_drew1 | refine below_set ?_ GE458.out) | exact HB.out)⟩⟩

end Go.Proofs.Ytlaneafplmbcnaa.PO
