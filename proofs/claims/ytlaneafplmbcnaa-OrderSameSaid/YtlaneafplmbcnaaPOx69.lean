/- What the Go functions of this part compute, as Lean functions, and that the machine's calls come to just that; written for this claim by a program of the session (gen.sh, after the kit's printer). -/
import Derived.Test.YtlaneafplmbcnaaPOx0
import Derived.Test.YtlaneafplmbcnaaSq
import Derived.Test.YtlaneafplmbcnaaPOx45
import Derived.Test.YtlaneafplmbcnaaPOx49
import Derived.Test.YtlaneafplmbcnaaPOx53
import Derived.Test.YtlaneafplmbcnaaPOx68
import Derived.Test.YtlaneafplmbcnaaGiven
namespace Go.Proofs.Ytlaneafplmbcnaa.PO
open Go.RowKit Go.Proofs.YtlaneafplmbcnaaW.PrintWords Go.Proofs.YtlaneafplmbcnaaW.PrintLast Go.Proofs.YtlaneafplmbcnaaW.PrintMore
attribute [local go_sem] max2_int min2_int max_two min_two max_three min_three max_four min_four   -- for this text's walks alone
set_option linter.unusedVariables false
set_option linter.unusedSimpArgs false

/-! ### orrerylaw21_OrderSame: function 8 -/
mutual
def orrerylaw21_OrderSame.j0 : Nat → List (S30) → List (S30) → Bool → Option (Bool)
  | 0, _, _, _ => none
  | k + 1, x9, x11, x61 => if x61 = true then (some false) else (orrerylaw21_OrderSame.l0 k x11 x9 (x9.length : Int) 0)
def orrerylaw21_OrderSame.l0 : Nat → List (S30) → List (S30) → Int → Int → Option (Bool)
  | 0, _, _, _, _ => none
  | k + 1, x11, x62, x63, x64 => if x64 < x63 then (if 0 ≤ x64 then (if x64 < (x62.length : Int) then (orrerylaw21_OrderSame.l1 k x11 false x62 x63 x64 x11 (x11.length : Int) 0 ((rd_T30 x62 x64).f0) ((rd_T30 x62 x64).f1)) else (none)) else (none)) else (some true)
def orrerylaw21_OrderSame.l1 : Nat → List (S30) → Bool → List (S30) → Int → Int → List (S30) → Int → Int → List Int → List Int → Option (Bool)
  | 0, _, _, _, _, _, _, _, _, _, _ => none
  | k + 1, x11, x15, x62, x63, x64, x68, x69, x70, x552000, x552001 => if x70 < x69 then (if 0 ≤ x70 then (if x70 < (x68.length : Int) then (if x15 = true then (orrerylaw21_OrderSame.l1 k x11 true x62 x63 x64 x68 x69 (wrap64 (x70 + 1)) x552000 x552001) else ((orreryref17_Ints.f k x552000 ((rd_T30 x68 x70).f0)).bind fun t554 => (if t554 = true then ((orreryref17_Ints.f k x552001 ((rd_T30 x68 x70).f1)).bind fun t555 => (orrerylaw21_OrderSame.l1 k x11 t555 x62 x63 x64 x68 x69 (wrap64 (x70 + 1)) x552000 x552001)) else (orrerylaw21_OrderSame.l1 k x11 false x62 x63 x64 x68 x69 (wrap64 (x70 + 1)) x552000 x552001)))) else (none)) else (none)) else (if x15 = true then (orrerylaw21_OrderSame.l0 k x11 x62 x63 (wrap64 (x64 + 1))) else (some false))
end
def orrerylaw21_OrderSame.f (k : Nat) (a0 : Int) (l1 : List (S33)) (l2 : List Int) : Option (Bool) := (orrerylaw21_alive.f).bind fun t536 => (if t536 = true then ((orreryref20_Told.f k a0 l1 l2).bind fun t537 => (if t537 = true then ((match_Assign.f k a0 l1).bind fun bt538 => ((order_Blocks.f k a0 l1 l2).bind fun bt542 => ((order_Blocks.f k a0 l1 bt538.1).bind fun bt546 => (if bt538.2 = 0 then (if bt542.2 = 0 then (if bt546.2 = 0 then (orrerylaw21_OrderSame.j0 k bt542.1 bt546.1 ((bt542.1.length : Int) != (bt546.1.length : Int))) else (orrerylaw21_OrderSame.j0 k bt542.1 bt546.1 true)) else (orrerylaw21_OrderSame.j0 k bt542.1 bt546.1 true)) else (orrerylaw21_OrderSame.j0 k bt542.1 bt546.1 true))))) else (some true))) else (some false))
theorem orrerylaw21_OrderSame.mono_l : ∀ k, (∀ y0 y1 y2, LeO (orrerylaw21_OrderSame.j0 k y0 y1 y2) (orrerylaw21_OrderSame.j0 (k + 1) y0 y1 y2)) ∧ (∀ y0 y1 y2 y3, LeO (orrerylaw21_OrderSame.l0 k y0 y1 y2 y3) (orrerylaw21_OrderSame.l0 (k + 1) y0 y1 y2 y3)) ∧ (∀ y0 y1 y2 y3 y4 y5 y6 y7 y8 y9, LeO (orrerylaw21_OrderSame.l1 k y0 y1 y2 y3 y4 y5 y6 y7 y8 y9) (orrerylaw21_OrderSame.l1 (k + 1) y0 y1 y2 y3 y4 y5 y6 y7 y8 y9))
  | 0 => ⟨fun _ _ _ r h => by simp [orrerylaw21_OrderSame.j0] at h, fun _ _ _ _ r h => by simp [orrerylaw21_OrderSame.l0] at h, fun _ _ _ _ _ _ _ _ _ _ r h => by simp [orrerylaw21_OrderSame.l1] at h⟩
  | k + 1 => by
    obtain ⟨ih0, ih1, ih2⟩ := orrerylaw21_OrderSame.mono_l k
    refine ⟨?_, ?_, ?_⟩
    · intro y0 y1 y2
      unfold orrerylaw21_OrderSame.j0
      repeat' first
      | (with_reducible exact ih0 _ _ _)
      | (with_reducible exact ih1 _ _ _ _)
      | (with_reducible exact ih2 _ _ _ _ _ _ _ _ _ _)
      | (with_reducible exact match_Assign.mono _ _ _)
      | (with_reducible exact order_Blocks.mono _ _ _ _)
      | (with_reducible exact orreryref17_Ints.mono _ _ _)
      | (with_reducible exact orreryref20_Told.mono _ _ _ _)
      | (with_reducible exact LeO.refl _)
      | (with_reducible exact LeO.none _)
      | (with_reducible refine LeO.ite ?_ ?_)
      | (with_reducible refine LeO.bind ?_ (fun _ => ?_))
      | exact ih0 _ _ _
      | exact ih1 _ _ _ _
      | exact ih2 _ _ _ _ _ _ _ _ _ _
      | exact match_Assign.mono _ _ _
      | exact order_Blocks.mono _ _ _ _
      | exact orreryref17_Ints.mono _ _ _
      | exact orreryref20_Told.mono _ _ _ _
      | exact LeO.none _
      | refine LeO.ite ?_ ?_
      | refine LeO.bind ?_ (fun _ => ?_)
    · intro y0 y1 y2 y3
      unfold orrerylaw21_OrderSame.l0
      repeat' first
      | (with_reducible exact ih0 _ _ _)
      | (with_reducible exact ih1 _ _ _ _)
      | (with_reducible exact ih2 _ _ _ _ _ _ _ _ _ _)
      | (with_reducible exact match_Assign.mono _ _ _)
      | (with_reducible exact order_Blocks.mono _ _ _ _)
      | (with_reducible exact orreryref17_Ints.mono _ _ _)
      | (with_reducible exact orreryref20_Told.mono _ _ _ _)
      | (with_reducible exact LeO.refl _)
      | (with_reducible exact LeO.none _)
      | (with_reducible refine LeO.ite ?_ ?_)
      | (with_reducible refine LeO.bind ?_ (fun _ => ?_))
      | exact ih0 _ _ _
      | exact ih1 _ _ _ _
      | exact ih2 _ _ _ _ _ _ _ _ _ _
      | exact match_Assign.mono _ _ _
      | exact order_Blocks.mono _ _ _ _
      | exact orreryref17_Ints.mono _ _ _
      | exact orreryref20_Told.mono _ _ _ _
      | exact LeO.none _
      | refine LeO.ite ?_ ?_
      | refine LeO.bind ?_ (fun _ => ?_)
    · intro y0 y1 y2 y3 y4 y5 y6 y7 y8 y9
      unfold orrerylaw21_OrderSame.l1
      repeat' first
      | (with_reducible exact ih0 _ _ _)
      | (with_reducible exact ih1 _ _ _ _)
      | (with_reducible exact ih2 _ _ _ _ _ _ _ _ _ _)
      | (with_reducible exact match_Assign.mono _ _ _)
      | (with_reducible exact order_Blocks.mono _ _ _ _)
      | (with_reducible exact orreryref17_Ints.mono _ _ _)
      | (with_reducible exact orreryref20_Told.mono _ _ _ _)
      | (with_reducible exact LeO.refl _)
      | (with_reducible exact LeO.none _)
      | (with_reducible refine LeO.ite ?_ ?_)
      | (with_reducible refine LeO.bind ?_ (fun _ => ?_))
      | exact ih0 _ _ _
      | exact ih1 _ _ _ _
      | exact ih2 _ _ _ _ _ _ _ _ _ _
      | exact match_Assign.mono _ _ _
      | exact order_Blocks.mono _ _ _ _
      | exact orreryref17_Ints.mono _ _ _
      | exact orreryref20_Told.mono _ _ _ _
      | exact LeO.none _
      | refine LeO.ite ?_ ?_
      | refine LeO.bind ?_ (fun _ => ?_)
theorem orrerylaw21_OrderSame.mono : ∀ a0 a1 a2 k, LeO (orrerylaw21_OrderSame.f k a0 a1 a2) (orrerylaw21_OrderSame.f (k + 1) a0 a1 a2) := by
 intro a0 a1 a2 k
 obtain ⟨ih0, ih1, ih2⟩ := orrerylaw21_OrderSame.mono_l k
 unfold orrerylaw21_OrderSame.f
 repeat' first
     | (with_reducible exact ih0 _ _ _)
     | (with_reducible exact ih1 _ _ _ _)
     | (with_reducible exact ih2 _ _ _ _ _ _ _ _ _ _)
     | (with_reducible exact match_Assign.mono _ _ _)
     | (with_reducible exact order_Blocks.mono _ _ _ _)
     | (with_reducible exact orreryref17_Ints.mono _ _ _)
     | (with_reducible exact orreryref20_Told.mono _ _ _ _)
     | (with_reducible exact LeO.refl _)
     | (with_reducible exact LeO.none _)
     | (with_reducible refine LeO.ite ?_ ?_)
     | (with_reducible refine LeO.bind ?_ (fun _ => ?_))
     | exact ih0 _ _ _
     | exact ih1 _ _ _ _
     | exact ih2 _ _ _ _ _ _ _ _ _ _
     | exact match_Assign.mono _ _ _
     | exact order_Blocks.mono _ _ _ _
     | exact orreryref17_Ints.mono _ _ _
     | exact orreryref20_Told.mono _ _ _ _
     | exact LeO.none _
     | refine LeO.ite ?_ ?_
     | refine LeO.bind ?_ (fun _ => ?_)
set_option maxHeartbeats 8000000 in
set_option maxRecDepth 100000 in
theorem orrerylaw21_OrderSame.calls (k : Nat) (a0 : Int) (A1 : Option Addr) (c1 : Nat) (l1 : List (S33)) (A2 : Option Addr) (c2 : Nat) (l2 : List Int) (r : Bool) (w : World) (hr1 : Kd.C k33 w A1 l1.length l1) (hc1 : l1.length ≤ c1) (hr2 : Kd.C (Kd.int .i64) w A2 l2.length l2) (hc2 : l2.length ≤ c2) (h : orrerylaw21_OrderSame.f k a0 l1 l2 = some r) :
    Calls Try.prog 8 #[.int .i64 a0, .slice A1 l1.length c1, .slice A2 l2.length c2] w fun e w' => e = .returned (.bool r) ∧ Below w.heap.size w w' := by
 have hu30 := Try.underlying30
 have HR1 := Aside0.mk hr1
 have HC1 := Aside0.mk hc1
 clear hr1 hc1
 have HR2 := Aside0.mk hr2
 have HC2 := Aside0.mk hc2
 clear hr2 hc2
 have HB := Aside0.mk (Below.refl w.heap.size w)
 have H : ((orrerylaw21_alive.f).bind fun t536 => (if t536 = true then ((orreryref20_Told.f k a0 l1 l2).bind fun t537 => (if t537 = true then ((match_Assign.f k a0 l1).bind fun bt538 => ((order_Blocks.f k a0 l1 l2).bind fun bt542 => ((order_Blocks.f k a0 l1 bt538.1).bind fun bt546 => (if bt538.2 = 0 then (if bt542.2 = 0 then (if bt546.2 = 0 then (orrerylaw21_OrderSame.j0 k bt542.1 bt546.1 ((bt542.1.length : Int) != (bt546.1.length : Int))) else (orrerylaw21_OrderSame.j0 k bt542.1 bt546.1 true)) else (orrerylaw21_OrderSame.j0 k bt542.1 bt546.1 true)) else (orrerylaw21_OrderSame.j0 k bt542.1 bt546.1 true))))) else (some true))) else (some false))) = some r := h
 clear h
 replace H := Option.bind_eq_some_iff.mp H
 obtain ⟨t536, A40, H⟩ := H
 replace H : (if t536 = true then ((orreryref20_Told.f k a0 l1 l2).bind fun t537 => (if t537 = true then ((match_Assign.f k a0 l1).bind fun bt538 => ((order_Blocks.f k a0 l1 l2).bind fun bt542 => ((order_Blocks.f k a0 l1 bt538.1).bind fun bt546 => (if bt538.2 = 0 then (if bt542.2 = 0 then (if bt546.2 = 0 then (orrerylaw21_OrderSame.j0 k bt542.1 bt546.1 ((bt542.1.length : Int) != (bt546.1.length : Int))) else (orrerylaw21_OrderSame.j0 k bt542.1 bt546.1 true)) else (orrerylaw21_OrderSame.j0 k bt542.1 bt546.1 true)) else (orrerylaw21_OrderSame.j0 k bt542.1 bt546.1 true))))) else (some true))) else (some false)) = some r := H
 have A4 := Aside0.mk A40
 clear A40
 by_cases c5 : t536 = true
 case neg =>
  replace c5 := Bool.eq_false_iff.mpr c5
  subst c5
  have H1 : (some false) = some r := by rw [if_neg (show ¬ (false = true) by decide)] at H; exact H
  clear H
  have H := H1
  clear H1
  obtain rfl := Option.some.inj H
  go_enter Try.func8, Try.ntmps8
  go_wp2_with (first | ((with_reducible refine gate_callee (f := 13) rfl ?_); refine goesL_ (some 18) rfl rfl Try.func13 (by kernel_rfl) rfl #[] rfl (by (try simp only [List.map_toArray, List.map_cons, List.map_nil]); first | done | rfl | (simp only [List.length_drop, List.length_take]; rfl)) ?_; (with_reducible refine (orrerylaw21_alive.calls  false _ A4.out).mono ?_); rintro e w52 ⟨rfl, hb⟩; refine ⟨_, rfl, ?_⟩; have n0_ := Aside0.mk (below_step (by repeat (first | (with_reducible first | exact HB.out | apply below_alloc | apply pw_below_drewN | apply below_drew1) | exact HB.out)) hb); clear HB; have HB := n0_; clear n0_; (try clear hb); (try clear hb2); (try clear hk); (try clear hi)))
  go_ret
  exact ⟨by first | rfl | (simp [errW_none, errW_some] <;> rfl) | (simp [*, errW_none, errW_some] <;> rfl), by repeat (first | (with_reducible first | exact HB.out | apply below_alloc | apply pw_below_drewN | apply below_drew1) | exact HB.out)⟩
 subst c5
 have H1 : ((orreryref20_Told.f k a0 l1 l2).bind fun t537 => (if t537 = true then ((match_Assign.f k a0 l1).bind fun bt538 => ((order_Blocks.f k a0 l1 l2).bind fun bt542 => ((order_Blocks.f k a0 l1 bt538.1).bind fun bt546 => (if bt538.2 = 0 then (if bt542.2 = 0 then (if bt546.2 = 0 then (orrerylaw21_OrderSame.j0 k bt542.1 bt546.1 ((bt542.1.length : Int) != (bt546.1.length : Int))) else (orrerylaw21_OrderSame.j0 k bt542.1 bt546.1 true)) else (orrerylaw21_OrderSame.j0 k bt542.1 bt546.1 true)) else (orrerylaw21_OrderSame.j0 k bt542.1 bt546.1 true))))) else (some true))) = some r := by rw [if_pos rfl] at H; exact H
 clear H
 have H := H1
 clear H1
 replace H := Option.bind_eq_some_iff.mp H
 obtain ⟨t537, A60, H⟩ := H
 replace H : (if t537 = true then ((match_Assign.f k a0 l1).bind fun bt538 => ((order_Blocks.f k a0 l1 l2).bind fun bt542 => ((order_Blocks.f k a0 l1 bt538.1).bind fun bt546 => (if bt538.2 = 0 then (if bt542.2 = 0 then (if bt546.2 = 0 then (orrerylaw21_OrderSame.j0 k bt542.1 bt546.1 ((bt542.1.length : Int) != (bt546.1.length : Int))) else (orrerylaw21_OrderSame.j0 k bt542.1 bt546.1 true)) else (orrerylaw21_OrderSame.j0 k bt542.1 bt546.1 true)) else (orrerylaw21_OrderSame.j0 k bt542.1 bt546.1 true))))) else (some true)) = some r := H
 have A6 := Aside0.mk A60
 clear A60
 by_cases c7 : t537 = true
 case neg =>
  replace c7 := Bool.eq_false_iff.mpr c7
  subst c7
  have H1 : (some true) = some r := by rw [if_neg (show ¬ (false = true) by decide)] at H; exact H
  clear H
  have H := H1
  clear H1
  obtain rfl := Option.some.inj H
  go_enter Try.func8, Try.ntmps8
  go_wp2_with (first | ((with_reducible refine gate_callee (f := 13) rfl ?_); refine goesL_ (some 18) rfl rfl Try.func13 (by kernel_rfl) rfl #[] rfl (by (try simp only [List.map_toArray, List.map_cons, List.map_nil]); first | done | rfl | (simp only [List.length_drop, List.length_take]; rfl)) ?_; (with_reducible refine (orrerylaw21_alive.calls  true _ A4.out).mono ?_); rintro e w50 ⟨rfl, hb⟩; refine ⟨_, rfl, ?_⟩; have n0_ := Aside0.mk (below_step (by repeat (first | (with_reducible first | exact HB.out | apply below_alloc | apply pw_below_drewN | apply below_drew1) | exact HB.out)) hb); clear HB; have HB := n0_; clear n0_; (try clear hb); (try clear hb2); (try clear hk); (try clear hi)) | ((with_reducible refine gate_callee (f := 12) rfl ?_); refine goesL_ (some 23) rfl rfl Try.func12 (by kernel_rfl) rfl #[.int .i64 a0, .slice A1 l1.length c1, .slice A2 l2.length c2] rfl (by (try simp only [List.map_toArray, List.map_cons, List.map_nil]); first | done | rfl | (simp only [List.length_drop, List.length_take]; rfl)) ?_; (with_reducible refine (orreryref20_Told.calls k a0 _ _ l1 _ _ l2 false _ ?side1 ?side2 ?side3 ?side4 A6.out).mono ?_); (case side1 => repeat (first | exact (Kd.C_below HR1.out HB.out) | (with_reducible refine Kd.C_alloc ?_ _) | (with_reducible refine Kd.C_drewN ?_ _) | (with_reducible refine Kd.C_drew ?_))); (case side2 => exact HC1.out); (case side3 => repeat (first | exact (Kd.C_below HR2.out HB.out) | (with_reducible refine Kd.C_alloc ?_ _) | (with_reducible refine Kd.C_drewN ?_ _) | (with_reducible refine Kd.C_drew ?_))); (case side4 => exact HC2.out); rintro e w51 ⟨rfl, hb⟩; refine ⟨_, rfl, ?_⟩; have n0_ := Aside0.mk (below_step (by repeat (first | (with_reducible first | exact HB.out | apply below_alloc | apply pw_below_drewN | apply below_drew1) | exact HB.out)) hb); clear HB; have HB := n0_; clear n0_; (try clear hb); (try clear hb2); (try clear hk); (try clear hi)))
  go_ret
  exact ⟨by first | rfl | (simp [errW_none, errW_some] <;> rfl) | (simp [*, errW_none, errW_some] <;> rfl), by repeat (first | (with_reducible first | exact HB.out | apply below_alloc | apply pw_below_drewN | apply below_drew1) | exact HB.out)⟩
 subst c7
 have H1 : ((match_Assign.f k a0 l1).bind fun bt538 => ((order_Blocks.f k a0 l1 l2).bind fun bt542 => ((order_Blocks.f k a0 l1 bt538.1).bind fun bt546 => (if bt538.2 = 0 then (if bt542.2 = 0 then (if bt546.2 = 0 then (orrerylaw21_OrderSame.j0 k bt542.1 bt546.1 ((bt542.1.length : Int) != (bt546.1.length : Int))) else (orrerylaw21_OrderSame.j0 k bt542.1 bt546.1 true)) else (orrerylaw21_OrderSame.j0 k bt542.1 bt546.1 true)) else (orrerylaw21_OrderSame.j0 k bt542.1 bt546.1 true))))) = some r := by rw [if_pos rfl] at H; exact H
 clear H
 have H := H1
 clear H1
 replace H := Option.bind_eq_some_iff.mp H
 obtain ⟨⟨t538, t539⟩, A80, H⟩ := H
 replace H : ((order_Blocks.f k a0 l1 l2).bind fun bt542 => ((order_Blocks.f k a0 l1 t538).bind fun bt546 => (if t539 = 0 then (if bt542.2 = 0 then (if bt546.2 = 0 then (orrerylaw21_OrderSame.j0 k bt542.1 bt546.1 ((bt542.1.length : Int) != (bt546.1.length : Int))) else (orrerylaw21_OrderSame.j0 k bt542.1 bt546.1 true)) else (orrerylaw21_OrderSame.j0 k bt542.1 bt546.1 true)) else (orrerylaw21_OrderSame.j0 k bt542.1 bt546.1 true)))) = some r := H
 have A8 := Aside0.mk A80
 clear A80
 replace H := Option.bind_eq_some_iff.mp H
 obtain ⟨⟨t542, t543⟩, A90, H⟩ := H
 replace H : ((order_Blocks.f k a0 l1 t538).bind fun bt546 => (if t539 = 0 then (if t543 = 0 then (if bt546.2 = 0 then (orrerylaw21_OrderSame.j0 k t542 bt546.1 ((t542.length : Int) != (bt546.1.length : Int))) else (orrerylaw21_OrderSame.j0 k t542 bt546.1 true)) else (orrerylaw21_OrderSame.j0 k t542 bt546.1 true)) else (orrerylaw21_OrderSame.j0 k t542 bt546.1 true))) = some r := H
 have A9 := Aside0.mk A90
 clear A90
 replace H := Option.bind_eq_some_iff.mp H
 obtain ⟨⟨t546, t547⟩, A100, H⟩ := H
 replace H : (if t539 = 0 then (if t543 = 0 then (if t547 = 0 then (orrerylaw21_OrderSame.j0 k t542 t546 ((t542.length : Int) != (t546.length : Int))) else (orrerylaw21_OrderSame.j0 k t542 t546 true)) else (orrerylaw21_OrderSame.j0 k t542 t546 true)) else (orrerylaw21_OrderSame.j0 k t542 t546 true)) = some r := H
 have A10 := Aside0.mk A100
 clear A100
 have HC11 := Aside0.mk H
 clear H
 go_enter Try.func8, Try.ntmps8
 go_upto_region 8 with (first | ((with_reducible refine gate_callee (f := 13) rfl ?_); refine goesL_ (some 18) rfl rfl Try.func13 (by kernel_rfl) rfl #[] rfl (by (try simp only [List.map_toArray, List.map_cons, List.map_nil]); first | done | rfl | (simp only [List.length_drop, List.length_take]; rfl)) ?_; (with_reducible refine (orrerylaw21_alive.calls  true _ A4.out).mono ?_); rintro e w12 ⟨rfl, hb⟩; refine ⟨_, rfl, ?_⟩; have n0_ := Aside0.mk (below_step (by repeat (first | (with_reducible first | exact HB.out | apply below_alloc | apply pw_below_drewN | apply below_drew1) | exact HB.out)) hb); clear HB; have HB := n0_; clear n0_; (try clear hb); (try clear hb2); (try clear hk); (try clear hi)) | ((with_reducible refine gate_callee (f := 12) rfl ?_); refine goesL_ (some 23) rfl rfl Try.func12 (by kernel_rfl) rfl #[.int .i64 a0, .slice A1 l1.length c1, .slice A2 l2.length c2] rfl (by (try simp only [List.map_toArray, List.map_cons, List.map_nil]); first | done | rfl | (simp only [List.length_drop, List.length_take]; rfl)) ?_; (with_reducible refine (orreryref20_Told.calls k a0 _ _ l1 _ _ l2 true _ ?side1 ?side2 ?side3 ?side4 A6.out).mono ?_); (case side1 => repeat (first | exact (Kd.C_below HR1.out HB.out) | (with_reducible refine Kd.C_alloc ?_ _) | (with_reducible refine Kd.C_drewN ?_ _) | (with_reducible refine Kd.C_drew ?_))); (case side2 => exact HC1.out); (case side3 => repeat (first | exact (Kd.C_below HR2.out HB.out) | (with_reducible refine Kd.C_alloc ?_ _) | (with_reducible refine Kd.C_drewN ?_ _) | (with_reducible refine Kd.C_drew ?_))); (case side4 => exact HC2.out); rintro e w13 ⟨rfl, hb⟩; refine ⟨_, rfl, ?_⟩; have n0_ := Aside0.mk (below_step (by repeat (first | (with_reducible first | exact HB.out | apply below_alloc | apply pw_below_drewN | apply below_drew1) | exact HB.out)) hb); clear HB; have HB := n0_; clear n0_; (try clear hb); (try clear hb2); (try clear hk); (try clear hi)) | ((with_reducible refine gate_callee (f := 15) rfl ?_); refine goesL_ (some 28) rfl rfl Try.func15 (by kernel_rfl) rfl #[.int .i64 a0, .slice A1 l1.length c1] rfl (by (try simp only [List.map_toArray, List.map_cons, List.map_nil]); first | done | rfl | (simp only [List.length_drop, List.length_take]; rfl)) ?_; (with_reducible refine (match_Assign.calls k a0 _ _ l1 t538 t539 _ ?side1 ?side2 A8.out).mono ?_); (case side1 => repeat (first | exact (Kd.C_below HR1.out HB.out) | (with_reducible refine Kd.C_alloc ?_ _) | (with_reducible refine Kd.C_drewN ?_ _) | (with_reducible refine Kd.C_drew ?_))); (case side2 => exact HC1.out); rintro e w14 ⟨v540, rfl, ho0, hb⟩; refine ⟨_, rfl, ?_⟩; have n0_ := Aside0.mk (Kd.R_lower ho0 (below_size (by repeat (first | (with_reducible first | exact HB.out | apply below_alloc | apply pw_below_drewN | apply below_drew1) | exact HB.out)))); have n1_ := Aside0.mk (below_step (by repeat (first | (with_reducible first | exact HB.out | apply below_alloc | apply pw_below_drewN | apply below_drew1) | exact HB.out)) hb); clear HB; have HO541 := n0_; have HB := n1_; clear n0_ n1_; (try clear hb); (try clear hb2); (try clear hk); (try clear hi); (try clear ho0)) | ((with_reducible refine gate_callee (f := 9) rfl ?_); refine goesL_ (some 35) rfl rfl Try.func9 (by kernel_rfl) rfl #[.int .i64 a0, .slice A1 l1.length c1, .slice A2 l2.length c2] rfl (by (try simp only [List.map_toArray, List.map_cons, List.map_nil]); first | done | rfl | (simp only [List.length_drop, List.length_take]; rfl)) ?_; (with_reducible refine (order_Blocks.calls k a0 _ _ l1 _ _ l2 t542 t543 _ ?side1 ?side2 ?side3 ?side4 A9.out).mono ?_); (case side1 => repeat (first | exact (Kd.C_below HR1.out HB.out) | (with_reducible refine Kd.C_alloc ?_ _) | (with_reducible refine Kd.C_drewN ?_ _) | (with_reducible refine Kd.C_drew ?_))); (case side2 => exact HC1.out); (case side3 => repeat (first | exact (Kd.C_below HR2.out HB.out) | (with_reducible refine Kd.C_alloc ?_ _) | (with_reducible refine Kd.C_drewN ?_ _) | (with_reducible refine Kd.C_drew ?_))); (case side4 => exact HC2.out); rintro e w15 ⟨v544, rfl, ho0, hb⟩; refine ⟨_, rfl, ?_⟩; have n0_ := Aside0.mk (Kd.R_below (by (with_reducible repeat (first | apply Kd.R_alloc | apply Kd.R_drewN | apply Kd.R_drew)); exact HO541.out) hb); have n1_ := Aside0.mk (Kd.S_lower (Kd.S_new' ho0 (Kd.R_lt (by (with_reducible repeat (first | apply Kd.R_alloc | apply Kd.R_drewN | apply Kd.R_drew)); exact HO541.out))) (below_size (by repeat (first | (with_reducible first | exact HB.out | apply below_alloc | apply pw_below_drewN | apply below_drew1) | exact HB.out)))); have n2_ := Aside0.mk (below_step (by repeat (first | (with_reducible first | exact HB.out | apply below_alloc | apply pw_below_drewN | apply below_drew1) | exact HB.out)) hb); clear HO541; clear HB; have HO541 := n0_; have HO545 := n1_; have HB := n2_; clear n0_ n1_ n2_; (try clear hb); (try clear hb2); (try clear hk); (try clear hi); (try clear ho0); obtain ⟨Ao16, co16, eo16⟩ := Kd.R_slice HO541.out; subst eo16) | ((with_reducible refine gate_callee (f := 9) rfl ?_); refine goesL_ (some 42) rfl rfl Try.func9 (by kernel_rfl) rfl #[.int .i64 a0, .slice A1 l1.length c1, .slice Ao16 t538.length co16] rfl (by (try simp only [List.map_toArray, List.map_cons, List.map_nil]); first | done | rfl | (simp only [List.length_drop, List.length_take]; rfl)) ?_; (with_reducible refine (order_Blocks.calls k a0 _ _ l1 _ _ t538 t546 t547 _ ?side1 ?side2 ?side3 ?side4 A10.out).mono ?_); (case side1 => repeat (first | exact (Kd.C_below HR1.out HB.out) | (with_reducible refine Kd.C_alloc ?_ _) | (with_reducible refine Kd.C_drewN ?_ _) | (with_reducible refine Kd.C_drew ?_))); (case side2 => exact HC1.out); (case side3 => repeat (first | exact (Kd.R_reads' HO541.out).2.2 | (with_reducible refine Kd.C_alloc ?_ _) | (with_reducible refine Kd.C_drewN ?_ _) | (with_reducible refine Kd.C_drew ?_))); (case side4 => exact (Kd.R_reads' HO541.out).2.1); rintro e w17 ⟨v548, rfl, ho0, hb⟩; refine ⟨_, rfl, ?_⟩; have n0_ := Aside0.mk (Kd.R_below (by (with_reducible repeat (first | apply Kd.R_alloc | apply Kd.R_drewN | apply Kd.R_drew)); exact HO541.out) hb); have n1_ := Aside0.mk (Kd.S_elder' (by (with_reducible repeat (first | apply Kd.S_alloc | apply Kd.S_drewN | apply Kd.S_drew)); exact HO545.out) (Kd.S_base ho0) hb); have n2_ := Aside0.mk (Kd.S_lower (Kd.S_new' (Kd.S_new' ho0 (Kd.R_lt (by (with_reducible repeat (first | apply Kd.R_alloc | apply Kd.R_drewN | apply Kd.R_drew)); exact HO541.out))) (Kd.S_lt (by (with_reducible repeat (first | apply Kd.S_alloc | apply Kd.S_drewN | apply Kd.S_drew)); exact HO545.out))) (below_size (by repeat (first | (with_reducible first | exact HB.out | apply below_alloc | apply pw_below_drewN | apply below_drew1) | exact HB.out)))); have n3_ := Aside0.mk (below_step (by repeat (first | (with_reducible first | exact HB.out | apply below_alloc | apply pw_below_drewN | apply below_drew1) | exact HB.out)) hb); clear HO541; clear HO545; clear HB; have HO541 := n0_; have HO545 := n1_; have HO549 := n2_; have HB := n3_; clear n0_ n1_ n2_ n3_; (try clear hb); (try clear hb2); (try clear hk); (try clear hi); (try clear ho0)))
 (try simp only [Act.put, List.setIfInBounds_toArray, List.set_cons_zero, List.set_cons_succ])
 go_cut [61] (fun v61 wc => ∃ (kq : Nat) (x61_10 : Bool), v61 = .bool x61_10 ∧ Aside0 (orrerylaw21_OrderSame.j0 kq t542 t546 x61_10 = some r) ∧ Aside0 (kq ≤ k) ∧ Aside0 (Kd.S k30 30 wc w.heap.size (fun k_ => some k_ ≠ (v548 : Value).ownBlock) v544 t542) ∧ Aside0 (Kd.S k30 30 wc w.heap.size (fun k_ => some k_ ≠ (v544 : Value).ownBlock) v548 t546) ∧ Aside0 (Below w.heap.size w wc))
 case first =>
  have H := HC11.out
  clear HC11
  by_cases c18 : t539 = 0
  case neg =>
   rw [if_neg c18] at H
   have c18b0 : (t539 == 0) = false := beq_eq_false_iff_ne.mpr c18
   have c18b1 : (t539 != 0) = true := bne_iff_ne.mpr c18
   (first | rw [c18b0] | (simp only [i64_w, i32_w]; rw [c18b0]) | skip)
   have H' := Aside0.mk H
   clear H
   go_wp2
   go_meet
   case rel => exact ⟨_, (true), (by first | rfl | (simp; done) | (simp [*]; done)), H', ⟨by first | omega | exact Nat.le_refl _⟩, ⟨by (with_reducible repeat (first | apply Kd.S_alloc | apply Kd.S_drewN | apply Kd.S_drew)); exact Kd.S_mono HO545.out (fun _ hk => hk.2)⟩, ⟨by (with_reducible repeat (first | apply Kd.S_alloc | apply Kd.S_drewN | apply Kd.S_drew)); exact Kd.S_mono HO549.out (fun _ hk => hk.2)⟩, ⟨by repeat (first | (with_reducible first | exact HB.out | apply below_alloc | apply pw_below_drewN | apply below_drew1) | exact HB.out)⟩⟩
  rw [if_pos c18] at H
  have c18b0 : (t539 == 0) = true := beq_iff_eq.mpr c18
  have c18b1 : (t539 != 0) = false := bne_eq_false_iff_eq.mpr c18
  clear c18
  (first | rw [c18b0] | (simp only [i64_w, i32_w]; rw [c18b0]) | skip)
  by_cases c19 : t543 = 0
  case neg =>
   rw [if_neg c19] at H
   have c19b0 : (t543 == 0) = false := beq_eq_false_iff_ne.mpr c19
   have c19b1 : (t543 != 0) = true := bne_iff_ne.mpr c19
   have H' := Aside0.mk H
   clear H
   go_wp2
   go_meet
   case rel => exact ⟨_, (true), (by first | rfl | (simp; done) | (simp [*]; done)), H', ⟨by first | omega | exact Nat.le_refl _⟩, ⟨by (with_reducible repeat (first | apply Kd.S_alloc | apply Kd.S_drewN | apply Kd.S_drew)); exact Kd.S_mono HO545.out (fun _ hk => hk.2)⟩, ⟨by (with_reducible repeat (first | apply Kd.S_alloc | apply Kd.S_drewN | apply Kd.S_drew)); exact Kd.S_mono HO549.out (fun _ hk => hk.2)⟩, ⟨by repeat (first | (with_reducible first | exact HB.out | apply below_alloc | apply pw_below_drewN | apply below_drew1) | exact HB.out)⟩⟩
  rw [if_pos c19] at H
  have c19b0 : (t543 == 0) = true := beq_iff_eq.mpr c19
  have c19b1 : (t543 != 0) = false := bne_eq_false_iff_eq.mpr c19
  clear c19
  by_cases c20 : t547 = 0
  case neg =>
   rw [if_neg c20] at H
   have c20b0 : (t547 == 0) = false := beq_eq_false_iff_ne.mpr c20
   have c20b1 : (t547 != 0) = true := bne_iff_ne.mpr c20
   have H' := Aside0.mk H
   clear H
   go_wp2
   go_meet
   case rel => exact ⟨_, (true), (by first | rfl | (simp; done) | (simp [*]; done)), H', ⟨by first | omega | exact Nat.le_refl _⟩, ⟨by (with_reducible repeat (first | apply Kd.S_alloc | apply Kd.S_drewN | apply Kd.S_drew)); exact Kd.S_mono HO545.out (fun _ hk => hk.2)⟩, ⟨by (with_reducible repeat (first | apply Kd.S_alloc | apply Kd.S_drewN | apply Kd.S_drew)); exact Kd.S_mono HO549.out (fun _ hk => hk.2)⟩, ⟨by repeat (first | (with_reducible first | exact HB.out | apply below_alloc | apply pw_below_drewN | apply below_drew1) | exact HB.out)⟩⟩
  rw [if_pos c20] at H
  have c20b0 : (t547 == 0) = true := beq_iff_eq.mpr c20
  have c20b1 : (t547 != 0) = false := bne_eq_false_iff_eq.mpr c20
  clear c20
  have H' := Aside0.mk H
  clear H
  obtain ⟨Ao21, co21, eo21⟩ := Kd.S_slice HO545.out
  subst eo21
  obtain ⟨Ao22, co22, eo22⟩ := Kd.S_slice HO549.out
  subst eo22
  go_wp2
  go_meet
  case rel => exact ⟨_, (((t542.length : Int) != (t546.length : Int))), (by first | rfl | (simp; done) | (simp [*]; done)), H', ⟨by first | omega | exact Nat.le_refl _⟩, ⟨by (with_reducible repeat (first | apply Kd.S_alloc | apply Kd.S_drewN | apply Kd.S_drew)); exact Kd.S_mono HO545.out (fun _ hk => hk.2)⟩, ⟨by (with_reducible repeat (first | apply Kd.S_alloc | apply Kd.S_drewN | apply Kd.S_drew)); exact Kd.S_mono HO549.out (fun _ hk => hk.2)⟩, ⟨by repeat (first | (with_reducible first | exact HB.out | apply below_alloc | apply pw_below_drewN | apply below_drew1) | exact HB.out)⟩⟩
 case rest =>
  clear HC11
  try clear c1
  try clear c2
  try clear p2
  try clear c5
  try clear c7
  try clear c8
  try clear c9
  try clear c12
  try clear c13
  try clear c15
  try clear c18
  try clear c18b0
  try clear c18b1
  try clear c19
  try clear c19b0
  try clear c19b1
  try clear c20
  try clear c20b0
  try clear c20b1
  obtain ⟨kq, x61_10, rfl, HA, HJ10, HO_9, HO_11, HB⟩ := hcut
  cases kq with
  | zero => exact absurd HA.out (by simp [orrerylaw21_OrderSame.j0])
  | succ kj10 =>
   have H := HA.out
   clear HA
   simp only [orrerylaw21_OrderSame.j0] at H
   by_cases c23 : x61_10 = true
   case pos =>
    subst c23
    have H1 : (some false) = some r := by rw [if_pos rfl] at H; exact H
    clear H
    have H := H1
    clear H1
    obtain rfl := Option.some.inj H
    go_wp2
    go_ret
    exact ⟨by first | rfl | (simp [errW_none, errW_some] <;> rfl) | (simp [*, errW_none, errW_some] <;> rfl), by repeat (first | (with_reducible first | exact HB.out | apply below_alloc | apply pw_below_drewN | apply below_drew1) | exact HB.out)⟩
   replace c23 := Bool.eq_false_iff.mpr c23
   subst c23
   have H1 : (orrerylaw21_OrderSame.l0 kj10 t546 t542 (t542.length : Int) 0) = some r := by rw [if_neg (show ¬ (false = true) by decide)] at H; exact H
   clear H
   have H := H1
   clear H1
   have H' := Aside0.mk H
   clear H
   obtain ⟨Ao24, co24, eo24⟩ := Kd.S_slice HO_9.out
   subst eo24
   go_wp2
   go_loopg [64] kj10 (fun kq v64 w' => ∃ (x64_2 : Int), v64 = .int .i64 x64_2 ∧ Aside0 (orrerylaw21_OrderSame.l0 kq t546 t542 (t542.length : Int) x64_2 = some r) ∧ Aside0 (kq ≤ kj10) ∧ Aside0 (Kd.S k30 30 w' w.heap.size (fun k_ => some k_ ≠ ((.slice Ao24 t542.length co24) : Value).ownBlock) v548 t546) ∧ Aside0 (Kd.S k30 30 w' w.heap.size (fun k_ => some k_ ≠ (v548 : Value).ownBlock) (.slice Ao24 t542.length co24) t542) ∧ Aside0 (Below w.heap.size w w'))
   case atStart => exact ⟨(0), (by first | rfl | (simp; done) | (simp [*]; done)), H', ⟨Nat.le_refl _⟩, ⟨by (with_reducible repeat (first | apply Kd.S_alloc | apply Kd.S_drewN | apply Kd.S_drew)); exact HO_11.out⟩, ⟨by (with_reducible repeat (first | apply Kd.S_alloc | apply Kd.S_drewN | apply Kd.S_drew)); exact HO_9.out⟩, ⟨by repeat (first | (with_reducible first | exact HB.out | apply below_alloc | apply pw_below_drewN | apply below_drew1) | exact HB.out)⟩⟩
   case round =>
    clear H'
    try clear c1
    try clear c2
    try clear p2
    try clear c5
    try clear c7
    try clear c8
    try clear c9
    try clear c12
    try clear c13
    try clear c15
    try clear c18
    try clear c18b0
    try clear c18b1
    try clear c19
    try clear c19b0
    try clear c19b1
    try clear c20
    try clear c20b0
    try clear c20b1
    try clear c23
    try clear p2
    obtain ⟨x64_2, rfl, HA, HK2, HO_11, HO_62, HB⟩ := hrel
    cases gk with
    | zero => exact absurd HA.out (by simp [orrerylaw21_OrderSame.l0])
    | succ k2 =>
     have H := HA.out
     clear HA
     simp only [orrerylaw21_OrderSame.l0] at H
     by_cases c25 : x64_2 < (t542.length : Int)
     case neg =>
      rw [if_neg c25] at H
      have c25b0 : decide (x64_2 < (t542.length : Int)) = false := decide_eq_false c25
      clear c25
      obtain rfl := Option.some.inj H
      go_wp2
      go_ret
      exact ⟨by first | rfl | (simp [errW_none, errW_some] <;> rfl) | (simp [*, errW_none, errW_some] <;> rfl), by repeat (first | (with_reducible first | exact HB.out | apply below_alloc | apply pw_below_drewN | apply below_drew1) | exact HB.out)⟩
     rw [if_pos c25] at H
     have c25b0 : decide (x64_2 < (t542.length : Int)) = true := decide_eq_true c25
     clear c25
     by_cases c26 : 0 ≤ x64_2
     case neg => rw [if_neg c26] at H; exact absurd H (by simp)
     rw [if_pos c26] at H
     have c26b0 : decide (0 ≤ x64_2) = true := decide_eq_true c26
     clear c26
     by_cases c27 : x64_2 < (t542.length : Int)
     case neg => rw [if_neg c27] at H; exact absurd H (by simp)
     rw [if_pos c27] at H
     have c27b0 : decide (x64_2 < (t542.length : Int)) = true := decide_eq_true c27
     clear c27
     have H' := Aside0.mk H
     clear H
     have p550 : 0 ≤ (x64_2 : Int) := of_decide_eq_true (by first | (with_reducible assumption) | assumption)
     have q550 : x64_2 < (t542.length : Int) := of_decide_eq_true (by first | (with_reducible assumption) | assumption)
     obtain ⟨ad550, A550_0, c550_0, A550_1, c550_1, e550, hx550_0, hx550_1, hl550_0, hi550_0, hl550_1, hi550_1⟩ := at_T30 (Kd.S_reads' HO_62.out).2.2 x64_2 p550 q550
     cases e550
     obtain ⟨ce550, hce550, hMe550, hcc550⟩ := Kd.S_get HO_62.out z30 x64_2 p550 (by first | exact q550 | exact of_decide_eq_true (by first | (with_reducible assumption) | assumption) | (have e_ := (Kd.S_reads' HO_62.out).1; omega))
     obtain ⟨ve550_0, ve550_1, rfl, ge550_0, ge550_1⟩ := k30_openM hMe550
     have hv550_0 := hcc550 0 _ rfl
     rw [Nat.add_zero] at hv550_0
     replace hv550_0 := Option.some.inj (hv550_0.symm.trans hx550_0)
     rw [hv550_0] at ge550_0
     have HL550_0 := Aside0.mk (show Kd.R (Kd.int .i64) 3 _ _ _ _ ((rd_T30 t542 x64_2).f0) from ge550_0)
     clear hv550_0 ge550_0
     have hv550_1 := hcc550 1 _ rfl
     rw [add_field _ _ 1 (by omega)] at hv550_1
     replace hv550_1 := Option.some.inj (hv550_1.symm.trans hx550_1)
     rw [hv550_1] at ge550_1
     have HL550_1 := Aside0.mk (show Kd.R (Kd.int .i64) 3 _ _ _ _ ((rd_T30 t542 x64_2).f1) from ge550_1)
     clear hv550_1 ge550_1
     clear hcc550 hce550
     have HR550_0 := Aside0.mk hi550_0
     have HC550_0 := Aside0.mk hl550_0
     clear hi550_0 hl550_0
     have HR550_1 := Aside0.mk hi550_1
     have HC550_1 := Aside0.mk hl550_1
     clear hi550_1 hl550_1
     replace p550 := eq_true p550
     replace q550 := eq_true q550
     go_wp2_with (first | ((with_reducible refine gate_dst (N := 14) rfl ?_); (try (refine gate_guard (by rfl) ?_; dsimp only)); refine box_event ?hg (N := 14) ?hd (cs := #[.slice none 0 0, .slice none 0 0]) (t := 30) ?hr ?_; (case hd => rfl); (case hg => rfl); (case hr => first | (go_simp; done) | (go_simp; rfl)); intro gb551 hg w28 hbox hb; have n0_ := Aside0.mk (Kd.S_below (Kd.S_elderB (by (with_reducible repeat (first | apply Kd.S_alloc | apply Kd.S_drewN | apply Kd.S_drew)); exact HO_11.out) gb551 (Nat.le_of_eq hg.symm)) hb); have n1_ := Aside0.mk (Kd.S_below (Kd.S_elderB (by (with_reducible repeat (first | apply Kd.S_alloc | apply Kd.S_drewN | apply Kd.S_drew)); exact HO_62.out) gb551 (Nat.le_of_eq hg.symm)) hb); have n2_ := Aside0.mk (Kd.R_below (by (with_reducible repeat (first | apply Kd.R_alloc | apply Kd.R_drewN | apply Kd.R_drew)); exact HL550_0.out) hb); have n3_ := Aside0.mk (Kd.R_below (by (with_reducible repeat (first | apply Kd.R_alloc | apply Kd.R_drewN | apply Kd.R_drew)); exact HL550_1.out) hb); have n4_ := Aside0.mk (Kd.C_below (by repeat (first | (with_reducible exact HR550_0.out) | (with_reducible refine Kd.C_alloc ?_ _) | (with_reducible refine Kd.C_drewN ?_ _) | (with_reducible refine Kd.C_drew ?_) | exact HR550_0.out)) hb); have n5_ := Aside0.mk (Kd.C_below (by repeat (first | (with_reducible exact HR550_1.out) | (with_reducible refine Kd.C_alloc ?_ _) | (with_reducible refine Kd.C_drewN ?_ _) | (with_reducible refine Kd.C_drew ?_) | exact HR550_1.out)) hb); have n6_ := Aside0.mk ((Kd.C_aboveB (by repeat (first | (with_reducible exact HR550_0.out) | (with_reducible refine Kd.C_alloc ?_ _) | (with_reducible refine Kd.C_drewN ?_ _) | (with_reducible refine Kd.C_drew ?_) | exact HR550_0.out)) (by decide) (Nat.le_of_eq hg.symm))); have n7_ := Aside0.mk ((Kd.C_aboveB (by repeat (first | (with_reducible exact HR550_1.out) | (with_reducible refine Kd.C_alloc ?_ _) | (with_reducible refine Kd.C_drewN ?_ _) | (with_reducible refine Kd.C_drew ?_) | exact HR550_1.out)) (by decide) (Nat.le_of_eq hg.symm))); have n8_ := Aside0.mk (below_step (by repeat (first | (with_reducible first | exact HB.out | apply below_alloc | apply pw_below_drewN | apply below_drew1) | exact HB.out)) hb); have n9_ := Aside0.mk (hbox); have n10_ := Aside0.mk ((by rw [hg]; exact (below_size (by repeat (first | (with_reducible first | exact HB.out | apply below_alloc | apply pw_below_drewN | apply below_drew1) | exact HB.out))) : w.heap.size ≤ gb551)); have n11_ := Aside0.mk ((by rw [hg]; exact (below_size (by repeat (first | (with_reducible first | exact HB.out | apply below_alloc | apply pw_below_drewN | apply below_drew1) | exact HB.out))) : w.heap.size ≤ gb551)); clear HO_11; clear HO_62; clear HL550_0; clear HL550_1; clear HR550_0; clear HR550_1; clear HB; have HO_11 := n0_; have HO_62 := n1_; have HL550_0 := n2_; have HL550_1 := n3_; have HR550_0 := n4_; have HR550_1 := n5_; have SF550_0_551 := n6_; have SF550_1_551 := n7_; have HB := n8_; have BK551 := n9_; have GW551 := n10_; have GE551 := n11_; clear n0_ n1_ n2_ n3_ n4_ n5_ n6_ n7_ n8_ n9_ n10_ n11_; clear hb hbox hg; have hcz29_0 : w28.cell? ⟨gb551, 0, none⟩ = some (.slice none 0 0) := (blk_cell BK551.out 0).trans rfl; have hcz29_1 : w28.cell? ⟨gb551, 1, none⟩ = some (.slice none 0 0) := (blk_cell BK551.out 1).trans rfl; have hfz29_0 := blk_frozen BK551.out 0; have hfz29_1 := blk_frozen BK551.out 1; obtain ⟨Ao30, co30, eo30⟩ := Kd.S_slice HO_11.out; subst eo30))
     go_loopg [15, 70] k2 (fun kq v15 v70 w' => ∃ (x15_3 : Bool) (x70_3 : Int), v15 = .bool x15_3 ∧ v70 = .int .i64 x70_3 ∧ Aside0 (orrerylaw21_OrderSame.l1 kq t546 x15_3 t542 (t542.length : Int) x64_2 t546 (t546.length : Int) x70_3 ((rd_T30 t542 x64_2).f0) ((rd_T30 t542 x64_2).f1) = some r) ∧ Aside0 (kq ≤ k2) ∧ Aside0 (Kd.S k30 30 w' w.heap.size (fun k_ => some k_ ≠ ((.slice (some ad550) t542.length co24) : Value).ownBlock ∧ k_ ≠ gb551) (.slice Ao30 t546.length co30) t546) ∧ Aside0 (Kd.S k30 30 w' w.heap.size (fun k_ => some k_ ≠ ((.slice Ao30 t546.length co30) : Value).ownBlock ∧ some k_ ≠ ((.slice Ao30 t546.length co30) : Value).ownBlock ∧ k_ ≠ gb551) (.slice (some ad550) t542.length co24) t542) ∧ Aside0 (Kd.S k30 30 w' w.heap.size (fun k_ => some k_ ≠ ((.slice (some ad550) t542.length co24) : Value).ownBlock ∧ k_ ≠ gb551) (.slice Ao30 t546.length co30) t546) ∧ Aside0 (w'.heap[gb551]? = some (.cells #[(.slice A550_0 ((rd_T30 t542 x64_2).f0).length c550_0), (.slice A550_1 ((rd_T30 t542 x64_2).f1).length c550_1)] 30 (0, 0))) ∧ Aside0 (Kd.C (Kd.int .i64) w' A550_0 ((rd_T30 t542 x64_2).f0).length ((rd_T30 t542 x64_2).f0)) ∧ Aside0 (Kd.C (Kd.int .i64) w' A550_1 ((rd_T30 t542 x64_2).f1).length ((rd_T30 t542 x64_2).f1)) ∧ Aside0 (Below w.heap.size w w'))
     case atStart => exact ⟨(false), (0), (by first | rfl | (simp; done) | (simp [*]; done)), (by first | rfl | (simp; done) | (simp [*]; done)), H', ⟨Nat.le_refl _⟩, ⟨by (with_reducible repeat (first | apply Kd.S_alloc | apply Kd.S_drewN | apply Kd.S_drew)); exact Kd.S_mono (Kd.S_far (p := ⟨gb551, 1, none⟩) (Kd.S_far (p := ⟨gb551, 0, none⟩) (Kd.S_mono HO_11.out (fun k_ hk => (⟨hk, hk.2⟩ : _ ∧ k_ ≠ gb551))) (fun _ hk => hk.2) (.slice A550_0 ((rd_T30 t542 x64_2).f0).length c550_0)) (fun _ hk => hk.2) (.slice A550_1 ((rd_T30 t542 x64_2).f1).length c550_1)) (fun _ hk => ⟨hk.1.1, hk.1.2⟩)⟩, ⟨by (with_reducible repeat (first | apply Kd.S_alloc | apply Kd.S_drewN | apply Kd.S_drew)); exact Kd.S_mono (Kd.S_far (p := ⟨gb551, 1, none⟩) (Kd.S_far (p := ⟨gb551, 0, none⟩) (Kd.S_mono HO_62.out (fun k_ hk => (⟨hk, hk.2⟩ : _ ∧ k_ ≠ gb551))) (fun _ hk => hk.2) (.slice A550_0 ((rd_T30 t542 x64_2).f0).length c550_0)) (fun _ hk => hk.2) (.slice A550_1 ((rd_T30 t542 x64_2).f1).length c550_1)) (fun _ hk => ⟨hk.1.1, ⟨hk.1.1, hk.1.2⟩⟩)⟩, ⟨by (with_reducible repeat (first | apply Kd.S_alloc | apply Kd.S_drewN | apply Kd.S_drew)); exact Kd.S_mono (Kd.S_far (p := ⟨gb551, 1, none⟩) (Kd.S_far (p := ⟨gb551, 0, none⟩) (Kd.S_mono HO_11.out (fun k_ hk => (⟨hk, hk.2⟩ : _ ∧ k_ ≠ gb551))) (fun _ hk => hk.2) (.slice A550_0 ((rd_T30 t542 x64_2).f0).length c550_0)) (fun _ hk => hk.2) (.slice A550_1 ((rd_T30 t542 x64_2).f1).length c550_1)) (fun _ hk => ⟨hk.1.1, hk.1.2⟩)⟩, ⟨by (with_reducible repeat (first | refine blk_drewN ?_ _ | refine blk_drew ?_ | refine blk_alloc ?_ _)); refine blk_put (cs := #[.slice A550_0 ((rd_T30 t542 x64_2).f0).length c550_0, .slice none 0 0]) ?_ 1 _ rfl; (with_reducible repeat (first | refine blk_drewN ?_ _ | refine blk_drew ?_ | refine blk_alloc ?_ _)); refine blk_put (cs := #[.slice none 0 0, .slice none 0 0]) ?_ 0 _ rfl; (with_reducible repeat (first | refine blk_drewN ?_ _ | refine blk_drew ?_ | refine blk_alloc ?_ _)); exact BK551.out⟩, ⟨(Kd.R_reads' (by (with_reducible repeat (first | apply Kd.R_alloc | apply Kd.R_drewN | apply Kd.R_drew)); exact (Kd.R_mono (Kd.R_far (p := ⟨gb551, 1, none⟩) (Kd.R_far (p := ⟨gb551, 0, none⟩) (Kd.R_types HL550_0.out BK551.out (by decide)) (fun _ hk => hk.2) (.slice A550_0 ((rd_T30 t542 x64_2).f0).length c550_0)) (fun _ hk => hk.2) (.slice A550_1 ((rd_T30 t542 x64_2).f1).length c550_1)) (fun _ h_ => h_.1)))).2.2⟩, ⟨(Kd.R_reads' (by (with_reducible repeat (first | apply Kd.R_alloc | apply Kd.R_drewN | apply Kd.R_drew)); exact (Kd.R_mono (Kd.R_far (p := ⟨gb551, 1, none⟩) (Kd.R_far (p := ⟨gb551, 0, none⟩) (Kd.R_types HL550_1.out BK551.out (by decide)) (fun _ hk => hk.2) (.slice A550_0 ((rd_T30 t542 x64_2).f0).length c550_0)) (fun _ hk => hk.2) (.slice A550_1 ((rd_T30 t542 x64_2).f1).length c550_1)) (fun _ h_ => h_.1)))).2.2⟩, ⟨by repeat (first | (with_reducible first | exact HB.out | apply below_alloc | apply pw_below_drewN | apply below_drew1 | refine below_set ?_ GE551.out) | exact HB.out)⟩⟩
     case round =>
      clear H'
      try clear c1
      try clear c2
      try clear p2
      try clear c5
      try clear p5
      try clear q5
      try clear hx5
      try clear c7
      try clear c8
      try clear c9
      try clear c12
      try clear c13
      try clear c15
      try clear c18
      try clear c18b0
      try clear c18b1
      try clear c19
      try clear c19b0
      try clear c19b1
      try clear c20
      try clear c20b0
      try clear c20b1
      try clear c23
      try clear c25
      try clear c25b0
      try clear c26
      try clear c26b0
      try clear c27
      try clear c27b0
      try clear hcz29_0
      try clear hcz29_1
      try clear hfz29_0
      try clear hfz29_1
      try clear hx550_0
      try clear hx550_1
      try clear p2
      try clear p550
      try clear q550
      obtain ⟨x15_3, x70_3, rfl, rfl, HA, HK3, HO_11, HO_62, HO_68, BK551, HR550_0, HR550_1, HB⟩ := hrel
      cases gk with
      | zero => exact absurd HA.out (by simp [orrerylaw21_OrderSame.l1])
      | succ k3 =>
       have H := HA.out
       clear HA
       simp only [orrerylaw21_OrderSame.l1] at H
       by_cases c31 : x70_3 < (t546.length : Int)
       case neg =>
        rw [if_neg c31] at H
        have c31b0 : decide (x70_3 < (t546.length : Int)) = false := decide_eq_false c31
        clear c31
        by_cases c49 : x15_3 = true
        case neg =>
         replace c49 := Bool.eq_false_iff.mpr c49
         subst c49
         have H1 : (some false) = some r := by rw [if_neg (show ¬ (false = true) by decide)] at H; exact H
         clear H
         have H := H1
         clear H1
         obtain rfl := Option.some.inj H
         go_wp2
         go_ret
         exact ⟨by first | rfl | (simp [errW_none, errW_some] <;> rfl) | (simp [*, errW_none, errW_some] <;> rfl), by repeat (first | (with_reducible first | exact HB.out | apply below_alloc | apply pw_below_drewN | apply below_drew1 | refine below_set ?_ GE551.out) | exact HB.out)⟩
        subst c49
        have H1 : (orrerylaw21_OrderSame.l0 k3 t546 t542 (t542.length : Int) (wrap64 (x64_2 + 1))) = some r := by rw [if_pos rfl] at H; exact H
        clear H
        have H := H1
        clear H1
        have H' := Aside0.mk H
        clear H
        go_wp2
        (first | go_roundg k3 | (refine Handed.intro k3 ?measure ?_; rotate_left; go_step; (repeat apply Exists.intro); (refine ⟨?rel, ?fr_⟩); (case fr_ => (simp only [add_plain]; rfl))))
        case measure => have := HJ10.out; have := HK2.out; have := HK3.out; omega
        case rel => exact ⟨(wrap64 (x64_2 + 1)), (by first | rfl | (simp; done) | (simp [*]; done)), H', ⟨by have := HJ10.out; have := HK2.out; have := HK3.out; omega⟩, ⟨by (with_reducible repeat (first | apply Kd.S_alloc | apply Kd.S_drewN | apply Kd.S_drew)); exact Kd.S_mono HO_11.out (fun _ hk => hk.1)⟩, ⟨by (with_reducible repeat (first | apply Kd.S_alloc | apply Kd.S_drewN | apply Kd.S_drew)); exact Kd.S_mono HO_62.out (fun _ hk => hk.1)⟩, ⟨by repeat (first | (with_reducible first | exact HB.out | apply below_alloc | apply pw_below_drewN | apply below_drew1 | refine below_set ?_ GE551.out) | exact HB.out)⟩⟩
       rw [if_pos c31] at H
       have c31b0 : decide (x70_3 < (t546.length : Int)) = true := decide_eq_true c31
       clear c31
       by_cases c32 : 0 ≤ x70_3
       case neg => rw [if_neg c32] at H; exact absurd H (by simp)
       rw [if_pos c32] at H
       have c32b0 : decide (0 ≤ x70_3) = true := decide_eq_true c32
       clear c32
       by_cases c33 : x70_3 < (t546.length : Int)
       case neg => rw [if_neg c33] at H; exact absurd H (by simp)
       rw [if_pos c33] at H
       have c33b0 : decide (x70_3 < (t546.length : Int)) = true := decide_eq_true c33
       clear c33
       by_cases c34 : x15_3 = true
       case pos =>
        subst c34
        have H1 : (orrerylaw21_OrderSame.l1 k3 t546 true t542 (t542.length : Int) x64_2 t546 (t546.length : Int) (wrap64 (x70_3 + 1)) ((rd_T30 t542 x64_2).f0) ((rd_T30 t542 x64_2).f1)) = some r := by rw [if_pos rfl] at H; exact H
        clear H
        have H := H1
        clear H1
        have H' := Aside0.mk H
        clear H
        have p552 : 0 ≤ (x70_3 : Int) := of_decide_eq_true (by first | (with_reducible assumption) | assumption)
        have q552 : x70_3 < (t546.length : Int) := of_decide_eq_true (by first | (with_reducible assumption) | assumption)
        obtain ⟨ad552, A552_0, c552_0, A552_1, c552_1, e552, hx552_0, hx552_1, hl552_0, hi552_0, hl552_1, hi552_1⟩ := at_T30 (Kd.S_reads' HO_68.out).2.2 x70_3 p552 q552
        cases e552
        obtain ⟨ce552, hce552, hMe552, hcc552⟩ := Kd.S_get HO_68.out z30 x70_3 p552 (by first | exact q552 | exact of_decide_eq_true (by first | (with_reducible assumption) | assumption) | (have e_ := (Kd.S_reads' HO_68.out).1; omega))
        obtain ⟨ve552_0, ve552_1, rfl, ge552_0, ge552_1⟩ := k30_openM hMe552
        have hv552_0 := hcc552 0 _ rfl
        rw [Nat.add_zero] at hv552_0
        replace hv552_0 := Option.some.inj (hv552_0.symm.trans hx552_0)
        rw [hv552_0] at ge552_0
        have HL552_0 := Aside0.mk (show Kd.R (Kd.int .i64) 3 _ _ _ _ ((rd_T30 t546 x70_3).f0) from ge552_0)
        clear hv552_0 ge552_0
        have hv552_1 := hcc552 1 _ rfl
        rw [add_field _ _ 1 (by omega)] at hv552_1
        replace hv552_1 := Option.some.inj (hv552_1.symm.trans hx552_1)
        rw [hv552_1] at ge552_1
        have HL552_1 := Aside0.mk (show Kd.R (Kd.int .i64) 3 _ _ _ _ ((rd_T30 t546 x70_3).f1) from ge552_1)
        clear hv552_1 ge552_1
        clear hcc552 hce552
        have HR552_0 := Aside0.mk hi552_0
        have HC552_0 := Aside0.mk hl552_0
        clear hi552_0 hl552_0
        have HR552_1 := Aside0.mk hi552_1
        have HC552_1 := Aside0.mk hl552_1
        clear hi552_1 hl552_1
        replace p552 := eq_true p552
        replace q552 := eq_true q552
        go_wp2_with (first | ((with_reducible refine gate_dst (N := 17) rfl ?_); (try (refine gate_guard (by rfl) ?_; dsimp only)); refine box_event ?hg (N := 17) ?hd (cs := #[.slice none 0 0, .slice none 0 0]) (t := 30) ?hr ?_; (case hd => rfl); (case hg => rfl); (case hr => first | (go_simp; done) | (go_simp; rfl)); intro gb553 hg w35 hbox hb; have n0_ := Aside0.mk (Kd.S_below (Kd.S_elderB (by (with_reducible repeat (first | apply Kd.S_alloc | apply Kd.S_drewN | apply Kd.S_drew)); exact HO_11.out) gb553 (Nat.le_of_eq hg.symm)) hb); have n1_ := Aside0.mk (Kd.S_below (Kd.S_elderB (by (with_reducible repeat (first | apply Kd.S_alloc | apply Kd.S_drewN | apply Kd.S_drew)); exact HO_62.out) gb553 (Nat.le_of_eq hg.symm)) hb); have n2_ := Aside0.mk (Kd.S_below (Kd.S_elderB (by (with_reducible repeat (first | apply Kd.S_alloc | apply Kd.S_drewN | apply Kd.S_drew)); exact HO_68.out) gb553 (Nat.le_of_eq hg.symm)) hb); have n3_ := Aside0.mk (Kd.R_below (by (with_reducible repeat (first | apply Kd.R_alloc | apply Kd.R_drewN | apply Kd.R_drew)); exact HL552_0.out) hb); have n4_ := Aside0.mk (Kd.R_below (by (with_reducible repeat (first | apply Kd.R_alloc | apply Kd.R_drewN | apply Kd.R_drew)); exact HL552_1.out) hb); have n5_ := Aside0.mk (blk_below (g := gb551) (o := .cells #[.slice A550_0 ((rd_T30 t542 x64_2).f0).length c550_0, .slice A550_1 ((rd_T30 t542 x64_2).f1).length c550_1] 30 (0, 0)) (by (with_reducible repeat (first | refine blk_drewN ?_ _ | refine blk_drew ?_ | refine blk_alloc ?_ _)); exact BK551.out) hb); have n6_ := Aside0.mk (Kd.C_below (by repeat (first | (with_reducible exact HR550_0.out) | (with_reducible refine Kd.C_alloc ?_ _) | (with_reducible refine Kd.C_drewN ?_ _) | (with_reducible refine Kd.C_drew ?_) | exact HR550_0.out)) hb); have n7_ := Aside0.mk (Kd.C_below (by repeat (first | (with_reducible exact HR550_1.out) | (with_reducible refine Kd.C_alloc ?_ _) | (with_reducible refine Kd.C_drewN ?_ _) | (with_reducible refine Kd.C_drew ?_) | exact HR550_1.out)) hb); have n8_ := Aside0.mk (Kd.C_below (by repeat (first | (with_reducible exact HR552_0.out) | (with_reducible refine Kd.C_alloc ?_ _) | (with_reducible refine Kd.C_drewN ?_ _) | (with_reducible refine Kd.C_drew ?_) | exact HR552_0.out)) hb); have n9_ := Aside0.mk (Kd.C_below (by repeat (first | (with_reducible exact HR552_1.out) | (with_reducible refine Kd.C_alloc ?_ _) | (with_reducible refine Kd.C_drewN ?_ _) | (with_reducible refine Kd.C_drew ?_) | exact HR552_1.out)) hb); have n10_ := Aside0.mk ((Kd.C_aboveB (by repeat (first | (with_reducible exact HR550_0.out) | (with_reducible refine Kd.C_alloc ?_ _) | (with_reducible refine Kd.C_drewN ?_ _) | (with_reducible refine Kd.C_drew ?_) | exact HR550_0.out)) (by decide) (Nat.le_of_eq hg.symm))); have n11_ := Aside0.mk ((Kd.C_aboveB (by repeat (first | (with_reducible exact HR550_1.out) | (with_reducible refine Kd.C_alloc ?_ _) | (with_reducible refine Kd.C_drewN ?_ _) | (with_reducible refine Kd.C_drew ?_) | exact HR550_1.out)) (by decide) (Nat.le_of_eq hg.symm))); have n12_ := Aside0.mk ((Kd.C_aboveB (by repeat (first | (with_reducible exact HR552_0.out) | (with_reducible refine Kd.C_alloc ?_ _) | (with_reducible refine Kd.C_drewN ?_ _) | (with_reducible refine Kd.C_drew ?_) | exact HR552_0.out)) (by decide) (Nat.le_of_eq hg.symm))); have n13_ := Aside0.mk ((Kd.C_aboveB (by repeat (first | (with_reducible exact HR552_1.out) | (with_reducible refine Kd.C_alloc ?_ _) | (with_reducible refine Kd.C_drewN ?_ _) | (with_reducible refine Kd.C_drew ?_) | exact HR552_1.out)) (by decide) (Nat.le_of_eq hg.symm))); have n14_ := Aside0.mk (below_step (by repeat (first | (with_reducible first | exact HB.out | apply below_alloc | apply pw_below_drewN | apply below_drew1 | refine below_set ?_ GE551.out) | exact HB.out)) hb); have n15_ := Aside0.mk (hbox); have n16_ := Aside0.mk ((by rw [hg]; exact (below_size (by repeat (first | (with_reducible first | exact HB.out | apply below_alloc | apply pw_below_drewN | apply below_drew1 | refine below_set ?_ GE551.out) | exact HB.out))) : w.heap.size ≤ gb553)); have n17_ := Aside0.mk ((by rw [hg]; exact (below_size (by repeat (first | (with_reducible first | exact HB.out | apply below_alloc | apply pw_below_drewN | apply below_drew1 | refine below_set ?_ GE551.out) | exact HB.out))) : w.heap.size ≤ gb553)); have n18_ := Aside0.mk ((by rw [hg]; exact Nat.ne_of_lt (blk_lt (g := gb551) (o := .cells #[.slice A550_0 ((rd_T30 t542 x64_2).f0).length c550_0, .slice A550_1 ((rd_T30 t542 x64_2).f1).length c550_1] 30 (0, 0)) (by (with_reducible repeat (first | refine blk_drewN ?_ _ | refine blk_drew ?_ | refine blk_alloc ?_ _)); exact BK551.out)) : gb551 ≠ gb553)); have n19_ := Aside0.mk ((by rw [hg]; exact Nat.ne_of_gt (blk_lt (g := gb551) (o := .cells #[.slice A550_0 ((rd_T30 t542 x64_2).f0).length c550_0, .slice A550_1 ((rd_T30 t542 x64_2).f1).length c550_1] 30 (0, 0)) (by (with_reducible repeat (first | refine blk_drewN ?_ _ | refine blk_drew ?_ | refine blk_alloc ?_ _)); exact BK551.out)) : gb553 ≠ gb551)); clear HO_11; clear HO_62; clear HO_68; clear HL552_0; clear HL552_1; clear BK551; clear HR550_0; clear HR550_1; clear HR552_0; clear HR552_1; clear HB; have HO_11 := n0_; have HO_62 := n1_; have HO_68 := n2_; have HL552_0 := n3_; have HL552_1 := n4_; have BK551 := n5_; have HR550_0 := n6_; have HR550_1 := n7_; have HR552_0 := n8_; have HR552_1 := n9_; have SF550_0_553 := n10_; have SF550_1_553 := n11_; have SF552_0_553 := n12_; have SF552_1_553 := n13_; have HB := n14_; have BK553 := n15_; have GW553 := n16_; have GE553 := n17_; have NB551_553 := n18_; have NB553_551 := n19_; clear n0_ n1_ n2_ n3_ n4_ n5_ n6_ n7_ n8_ n9_ n10_ n11_ n12_ n13_ n14_ n15_ n16_ n17_ n18_ n19_; clear hb hbox hg; have hnb36 := NB553_551.out; have hnc36 := NB551_553.out; have hcz37_0 : w35.cell? ⟨gb553, 0, none⟩ = some (.slice none 0 0) := (blk_cell BK553.out 0).trans rfl; have hcz37_1 : w35.cell? ⟨gb553, 1, none⟩ = some (.slice none 0 0) := (blk_cell BK553.out 1).trans rfl; have hfz37_0 := blk_frozen BK553.out 0; have hfz37_1 := blk_frozen BK553.out 1))
        (first | go_roundg k3 | (refine Handed.intro k3 ?measure ?_; rotate_left; go_step; (repeat apply Exists.intro); (refine ⟨?rel, ?fr_⟩); (case fr_ => (simp only [add_plain]; rfl))))
        case measure => have := HJ10.out; have := HK2.out; have := HK3.out; omega
        case rel => exact ⟨(true), (wrap64 (x70_3 + 1)), (by first | rfl | (simp; done) | (simp [*]; done)), (by first | rfl | (simp; done) | (simp [*]; done)), H', ⟨by have := HJ10.out; have := HK2.out; have := HK3.out; omega⟩, ⟨by (with_reducible repeat (first | apply Kd.S_alloc | apply Kd.S_drewN | apply Kd.S_drew)); exact Kd.S_mono (Kd.S_far (p := ⟨gb553, 1, none⟩) (Kd.S_far (p := ⟨gb553, 0, none⟩) (Kd.S_mono HO_11.out (fun k_ hk => (⟨hk, hk.2⟩ : _ ∧ k_ ≠ gb553))) (fun _ hk => hk.2) (.slice A552_0 ((rd_T30 t546 x70_3).f0).length c552_0)) (fun _ hk => hk.2) (.slice A552_1 ((rd_T30 t546 x70_3).f1).length c552_1)) (fun _ hk => ⟨hk.1.1.1, hk.1.1.2⟩)⟩, ⟨by (with_reducible repeat (first | apply Kd.S_alloc | apply Kd.S_drewN | apply Kd.S_drew)); exact Kd.S_mono (Kd.S_far (p := ⟨gb553, 1, none⟩) (Kd.S_far (p := ⟨gb553, 0, none⟩) (Kd.S_mono HO_62.out (fun k_ hk => (⟨hk, hk.2⟩ : _ ∧ k_ ≠ gb553))) (fun _ hk => hk.2) (.slice A552_0 ((rd_T30 t546 x70_3).f0).length c552_0)) (fun _ hk => hk.2) (.slice A552_1 ((rd_T30 t546 x70_3).f1).length c552_1)) (fun _ hk => ⟨hk.1.1.1, ⟨hk.1.1.2.1, hk.1.1.2.2⟩⟩)⟩, ⟨by (with_reducible repeat (first | apply Kd.S_alloc | apply Kd.S_drewN | apply Kd.S_drew)); exact Kd.S_mono (Kd.S_far (p := ⟨gb553, 1, none⟩) (Kd.S_far (p := ⟨gb553, 0, none⟩) (Kd.S_mono HO_68.out (fun k_ hk => (⟨hk, hk.2⟩ : _ ∧ k_ ≠ gb553))) (fun _ hk => hk.2) (.slice A552_0 ((rd_T30 t546 x70_3).f0).length c552_0)) (fun _ hk => hk.2) (.slice A552_1 ((rd_T30 t546 x70_3).f1).length c552_1)) (fun _ hk => ⟨hk.1.1.1, hk.1.1.2⟩)⟩, ⟨by (with_reducible repeat (first | refine blk_drewN ?_ _ | refine blk_drew ?_ | refine blk_alloc ?_ _)); refine blk_far ?_ NB551_553.out _; (with_reducible repeat (first | refine blk_drewN ?_ _ | refine blk_drew ?_ | refine blk_alloc ?_ _)); refine blk_far ?_ NB551_553.out _; (with_reducible repeat (first | refine blk_drewN ?_ _ | refine blk_drew ?_ | refine blk_alloc ?_ _)); exact BK551.out⟩, ⟨by (with_reducible repeat (first | apply Kd.C_alloc | apply Kd.C_drewN | apply Kd.C_drew)); exact (Kd.C_farP (p := ⟨gb553, 1, none⟩) (Kd.C_farP (p := ⟨gb553, 0, none⟩) HR550_0.out SF550_0_553.out (.slice A552_0 ((rd_T30 t546 x70_3).f0).length c552_0)) SF550_0_553.out (.slice A552_1 ((rd_T30 t546 x70_3).f1).length c552_1))⟩, ⟨by (with_reducible repeat (first | apply Kd.C_alloc | apply Kd.C_drewN | apply Kd.C_drew)); exact (Kd.C_farP (p := ⟨gb553, 1, none⟩) (Kd.C_farP (p := ⟨gb553, 0, none⟩) HR550_1.out SF550_1_553.out (.slice A552_0 ((rd_T30 t546 x70_3).f0).length c552_0)) SF550_1_553.out (.slice A552_1 ((rd_T30 t546 x70_3).f1).length c552_1))⟩, ⟨by repeat (first | (with_reducible first | exact HB.out | apply below_alloc | apply pw_below_drewN | apply below_drew1 | refine below_set ?_ GE551.out | refine below_set ?_ GE553.out) | exact HB.out)⟩⟩
       replace c34 := Bool.eq_false_iff.mpr c34
       subst c34
       have H1 : ((orreryref17_Ints.f k3 ((rd_T30 t542 x64_2).f0) ((rd_T30 t546 x70_3).f0)).bind fun t554 => (if t554 = true then ((orreryref17_Ints.f k3 ((rd_T30 t542 x64_2).f1) ((rd_T30 t546 x70_3).f1)).bind fun t555 => (orrerylaw21_OrderSame.l1 k3 t546 t555 t542 (t542.length : Int) x64_2 t546 (t546.length : Int) (wrap64 (x70_3 + 1)) ((rd_T30 t542 x64_2).f0) ((rd_T30 t542 x64_2).f1))) else (orrerylaw21_OrderSame.l1 k3 t546 false t542 (t542.length : Int) x64_2 t546 (t546.length : Int) (wrap64 (x70_3 + 1)) ((rd_T30 t542 x64_2).f0) ((rd_T30 t542 x64_2).f1)))) = some r := by rw [if_neg (show ¬ (false = true) by decide)] at H; exact H
       clear H
       have H := H1
       clear H1
       replace H := Option.bind_eq_some_iff.mp H
       obtain ⟨t554, A380, H⟩ := H
       replace H : (if t554 = true then ((orreryref17_Ints.f k3 ((rd_T30 t542 x64_2).f1) ((rd_T30 t546 x70_3).f1)).bind fun t555 => (orrerylaw21_OrderSame.l1 k3 t546 t555 t542 (t542.length : Int) x64_2 t546 (t546.length : Int) (wrap64 (x70_3 + 1)) ((rd_T30 t542 x64_2).f0) ((rd_T30 t542 x64_2).f1))) else (orrerylaw21_OrderSame.l1 k3 t546 false t542 (t542.length : Int) x64_2 t546 (t546.length : Int) (wrap64 (x70_3 + 1)) ((rd_T30 t542 x64_2).f0) ((rd_T30 t542 x64_2).f1))) = some r := H
       have A38 := Aside0.mk A380
       clear A380
       by_cases c39 : t554 = true
       case neg =>
        replace c39 := Bool.eq_false_iff.mpr c39
        subst c39
        have H1 : (orrerylaw21_OrderSame.l1 k3 t546 false t542 (t542.length : Int) x64_2 t546 (t546.length : Int) (wrap64 (x70_3 + 1)) ((rd_T30 t542 x64_2).f0) ((rd_T30 t542 x64_2).f1)) = some r := by rw [if_neg (show ¬ (false = true) by decide)] at H; exact H
        clear H
        have H := H1
        clear H1
        have H' := Aside0.mk H
        clear H
        have p552 : 0 ≤ (x70_3 : Int) := of_decide_eq_true (by first | (with_reducible assumption) | assumption)
        have q552 : x70_3 < (t546.length : Int) := of_decide_eq_true (by first | (with_reducible assumption) | assumption)
        obtain ⟨ad552, A552_0, c552_0, A552_1, c552_1, e552, hx552_0, hx552_1, hl552_0, hi552_0, hl552_1, hi552_1⟩ := at_T30 (Kd.S_reads' HO_68.out).2.2 x70_3 p552 q552
        cases e552
        obtain ⟨ce552, hce552, hMe552, hcc552⟩ := Kd.S_get HO_68.out z30 x70_3 p552 (by first | exact q552 | exact of_decide_eq_true (by first | (with_reducible assumption) | assumption) | (have e_ := (Kd.S_reads' HO_68.out).1; omega))
        obtain ⟨ve552_0, ve552_1, rfl, ge552_0, ge552_1⟩ := k30_openM hMe552
        have hv552_0 := hcc552 0 _ rfl
        rw [Nat.add_zero] at hv552_0
        replace hv552_0 := Option.some.inj (hv552_0.symm.trans hx552_0)
        rw [hv552_0] at ge552_0
        have HL552_0 := Aside0.mk (show Kd.R (Kd.int .i64) 3 _ _ _ _ ((rd_T30 t546 x70_3).f0) from ge552_0)
        clear hv552_0 ge552_0
        have hv552_1 := hcc552 1 _ rfl
        rw [add_field _ _ 1 (by omega)] at hv552_1
        replace hv552_1 := Option.some.inj (hv552_1.symm.trans hx552_1)
        rw [hv552_1] at ge552_1
        have HL552_1 := Aside0.mk (show Kd.R (Kd.int .i64) 3 _ _ _ _ ((rd_T30 t546 x70_3).f1) from ge552_1)
        clear hv552_1 ge552_1
        clear hcc552 hce552
        have HR552_0 := Aside0.mk hi552_0
        have HC552_0 := Aside0.mk hl552_0
        clear hi552_0 hl552_0
        have HR552_1 := Aside0.mk hi552_1
        have HC552_1 := Aside0.mk hl552_1
        clear hi552_1 hl552_1
        replace p552 := eq_true p552
        replace q552 := eq_true q552
        go_wp2_with (first | ((with_reducible refine gate_dst (N := 17) rfl ?_); (try (refine gate_guard (by rfl) ?_; dsimp only)); refine box_event ?hg (N := 17) ?hd (cs := #[.slice none 0 0, .slice none 0 0]) (t := 30) ?hr ?_; (case hd => rfl); (case hg => rfl); (case hr => first | (go_simp; done) | (go_simp; rfl)); intro gb553 hg w45 hbox hb; have n0_ := Aside0.mk (Kd.S_below (Kd.S_elderB (by (with_reducible repeat (first | apply Kd.S_alloc | apply Kd.S_drewN | apply Kd.S_drew)); exact HO_11.out) gb553 (Nat.le_of_eq hg.symm)) hb); have n1_ := Aside0.mk (Kd.S_below (Kd.S_elderB (by (with_reducible repeat (first | apply Kd.S_alloc | apply Kd.S_drewN | apply Kd.S_drew)); exact HO_62.out) gb553 (Nat.le_of_eq hg.symm)) hb); have n2_ := Aside0.mk (Kd.S_below (Kd.S_elderB (by (with_reducible repeat (first | apply Kd.S_alloc | apply Kd.S_drewN | apply Kd.S_drew)); exact HO_68.out) gb553 (Nat.le_of_eq hg.symm)) hb); have n3_ := Aside0.mk (Kd.R_below (by (with_reducible repeat (first | apply Kd.R_alloc | apply Kd.R_drewN | apply Kd.R_drew)); exact HL552_0.out) hb); have n4_ := Aside0.mk (Kd.R_below (by (with_reducible repeat (first | apply Kd.R_alloc | apply Kd.R_drewN | apply Kd.R_drew)); exact HL552_1.out) hb); have n5_ := Aside0.mk (blk_below (g := gb551) (o := .cells #[.slice A550_0 ((rd_T30 t542 x64_2).f0).length c550_0, .slice A550_1 ((rd_T30 t542 x64_2).f1).length c550_1] 30 (0, 0)) (by (with_reducible repeat (first | refine blk_drewN ?_ _ | refine blk_drew ?_ | refine blk_alloc ?_ _)); exact BK551.out) hb); have n6_ := Aside0.mk (Kd.C_below (by repeat (first | (with_reducible exact HR550_0.out) | (with_reducible refine Kd.C_alloc ?_ _) | (with_reducible refine Kd.C_drewN ?_ _) | (with_reducible refine Kd.C_drew ?_) | exact HR550_0.out)) hb); have n7_ := Aside0.mk (Kd.C_below (by repeat (first | (with_reducible exact HR550_1.out) | (with_reducible refine Kd.C_alloc ?_ _) | (with_reducible refine Kd.C_drewN ?_ _) | (with_reducible refine Kd.C_drew ?_) | exact HR550_1.out)) hb); have n8_ := Aside0.mk (Kd.C_below (by repeat (first | (with_reducible exact HR552_0.out) | (with_reducible refine Kd.C_alloc ?_ _) | (with_reducible refine Kd.C_drewN ?_ _) | (with_reducible refine Kd.C_drew ?_) | exact HR552_0.out)) hb); have n9_ := Aside0.mk (Kd.C_below (by repeat (first | (with_reducible exact HR552_1.out) | (with_reducible refine Kd.C_alloc ?_ _) | (with_reducible refine Kd.C_drewN ?_ _) | (with_reducible refine Kd.C_drew ?_) | exact HR552_1.out)) hb); have n10_ := Aside0.mk ((Kd.C_aboveB (by repeat (first | (with_reducible exact HR550_0.out) | (with_reducible refine Kd.C_alloc ?_ _) | (with_reducible refine Kd.C_drewN ?_ _) | (with_reducible refine Kd.C_drew ?_) | exact HR550_0.out)) (by decide) (Nat.le_of_eq hg.symm))); have n11_ := Aside0.mk ((Kd.C_aboveB (by repeat (first | (with_reducible exact HR550_1.out) | (with_reducible refine Kd.C_alloc ?_ _) | (with_reducible refine Kd.C_drewN ?_ _) | (with_reducible refine Kd.C_drew ?_) | exact HR550_1.out)) (by decide) (Nat.le_of_eq hg.symm))); have n12_ := Aside0.mk ((Kd.C_aboveB (by repeat (first | (with_reducible exact HR552_0.out) | (with_reducible refine Kd.C_alloc ?_ _) | (with_reducible refine Kd.C_drewN ?_ _) | (with_reducible refine Kd.C_drew ?_) | exact HR552_0.out)) (by decide) (Nat.le_of_eq hg.symm))); have n13_ := Aside0.mk ((Kd.C_aboveB (by repeat (first | (with_reducible exact HR552_1.out) | (with_reducible refine Kd.C_alloc ?_ _) | (with_reducible refine Kd.C_drewN ?_ _) | (with_reducible refine Kd.C_drew ?_) | exact HR552_1.out)) (by decide) (Nat.le_of_eq hg.symm))); have n14_ := Aside0.mk (below_step (by repeat (first | (with_reducible first | exact HB.out | apply below_alloc | apply pw_below_drewN | apply below_drew1 | refine below_set ?_ GE551.out) | exact HB.out)) hb); have n15_ := Aside0.mk (hbox); have n16_ := Aside0.mk ((by rw [hg]; exact (below_size (by repeat (first | (with_reducible first | exact HB.out | apply below_alloc | apply pw_below_drewN | apply below_drew1 | refine below_set ?_ GE551.out) | exact HB.out))) : w.heap.size ≤ gb553)); have n17_ := Aside0.mk ((by rw [hg]; exact (below_size (by repeat (first | (with_reducible first | exact HB.out | apply below_alloc | apply pw_below_drewN | apply below_drew1 | refine below_set ?_ GE551.out) | exact HB.out))) : w.heap.size ≤ gb553)); have n18_ := Aside0.mk ((by rw [hg]; exact Nat.ne_of_lt (blk_lt (g := gb551) (o := .cells #[.slice A550_0 ((rd_T30 t542 x64_2).f0).length c550_0, .slice A550_1 ((rd_T30 t542 x64_2).f1).length c550_1] 30 (0, 0)) (by (with_reducible repeat (first | refine blk_drewN ?_ _ | refine blk_drew ?_ | refine blk_alloc ?_ _)); exact BK551.out)) : gb551 ≠ gb553)); have n19_ := Aside0.mk ((by rw [hg]; exact Nat.ne_of_gt (blk_lt (g := gb551) (o := .cells #[.slice A550_0 ((rd_T30 t542 x64_2).f0).length c550_0, .slice A550_1 ((rd_T30 t542 x64_2).f1).length c550_1] 30 (0, 0)) (by (with_reducible repeat (first | refine blk_drewN ?_ _ | refine blk_drew ?_ | refine blk_alloc ?_ _)); exact BK551.out)) : gb553 ≠ gb551)); clear HO_11; clear HO_62; clear HO_68; clear HL552_0; clear HL552_1; clear BK551; clear HR550_0; clear HR550_1; clear HR552_0; clear HR552_1; clear HB; have HO_11 := n0_; have HO_62 := n1_; have HO_68 := n2_; have HL552_0 := n3_; have HL552_1 := n4_; have BK551 := n5_; have HR550_0 := n6_; have HR550_1 := n7_; have HR552_0 := n8_; have HR552_1 := n9_; have SF550_0_553 := n10_; have SF550_1_553 := n11_; have SF552_0_553 := n12_; have SF552_1_553 := n13_; have HB := n14_; have BK553 := n15_; have GW553 := n16_; have GE553 := n17_; have NB551_553 := n18_; have NB553_551 := n19_; clear n0_ n1_ n2_ n3_ n4_ n5_ n6_ n7_ n8_ n9_ n10_ n11_ n12_ n13_ n14_ n15_ n16_ n17_ n18_ n19_; clear hb hbox hg; have hnb46 := NB553_551.out; have hnc46 := NB551_553.out; have hcz47_0 : w45.cell? ⟨gb553, 0, none⟩ = some (.slice none 0 0) := (blk_cell BK553.out 0).trans rfl; have hcz47_1 : w45.cell? ⟨gb553, 1, none⟩ = some (.slice none 0 0) := (blk_cell BK553.out 1).trans rfl; have hfz47_0 := blk_frozen BK553.out 0; have hfz47_1 := blk_frozen BK553.out 1; have hcz48_0 : w45.cell? ⟨gb551, 0, none⟩ = some (.slice A550_0 ((rd_T30 t542 x64_2).f0).length c550_0) := (blk_cell BK551.out 0).trans rfl; have hcz48_1 : w45.cell? ⟨gb551, 1, none⟩ = some (.slice A550_1 ((rd_T30 t542 x64_2).f1).length c550_1) := (blk_cell BK551.out 1).trans rfl; have hfz48_0 := blk_frozen BK551.out 0; have hfz48_1 := blk_frozen BK551.out 1) | (go_at_call 11; (with_reducible refine (orreryref17_Ints.calls k3 _ _ ((rd_T30 t542 x64_2).f0) _ _ ((rd_T30 t546 x70_3).f0) false _ ?side1 ?side2 ?side3 ?side4 A38.out).mono ?_); (case side1 => repeat (first | exact (by (with_reducible repeat (first | apply Kd.C_alloc | apply Kd.C_drewN | apply Kd.C_drew)); exact (Kd.C_farP (p := ⟨gb553, 1, none⟩) (Kd.C_farP (p := ⟨gb553, 0, none⟩) HR550_0.out SF550_0_553.out (.slice A552_0 ((rd_T30 t546 x70_3).f0).length c552_0)) SF550_0_553.out (.slice A552_1 ((rd_T30 t546 x70_3).f1).length c552_1))) | (with_reducible refine Kd.C_alloc ?_ _) | (with_reducible refine Kd.C_drewN ?_ _) | (with_reducible refine Kd.C_drew ?_))); (case side2 => exact HC550_0.out); (case side3 => repeat (first | exact ((Kd.R_reads' (by (with_reducible repeat (first | apply Kd.R_alloc | apply Kd.R_drewN | apply Kd.R_drew)); exact (Kd.R_mono (Kd.R_far (p := ⟨gb553, 1, none⟩) (Kd.R_far (p := ⟨gb553, 0, none⟩) (Kd.R_types HL552_0.out BK553.out (by decide)) (fun _ hk => hk.2) (.slice A552_0 ((rd_T30 t546 x70_3).f0).length c552_0)) (fun _ hk => hk.2) (.slice A552_1 ((rd_T30 t546 x70_3).f1).length c552_1)) (fun _ h_ => h_.1)))).2.2) | (with_reducible refine Kd.C_alloc ?_ _) | (with_reducible refine Kd.C_drewN ?_ _) | (with_reducible refine Kd.C_drew ?_))); (case side4 => exact HC552_0.out); rintro e w' ⟨rfl, ⟨nd, rfl⟩⟩))
        (first | go_roundg k3 | (refine Handed.intro k3 ?measure ?_; rotate_left; go_step; (repeat apply Exists.intro); (refine ⟨?rel, ?fr_⟩); (case fr_ => (simp only [add_plain]; rfl))))
        case measure => have := HJ10.out; have := HK2.out; have := HK3.out; omega
        case rel => exact ⟨(false), (wrap64 (x70_3 + 1)), (by first | rfl | (simp; done) | (simp [*]; done)), (by first | rfl | (simp; done) | (simp [*]; done)), H', ⟨by have := HJ10.out; have := HK2.out; have := HK3.out; omega⟩, ⟨by (with_reducible repeat (first | apply Kd.S_alloc | apply Kd.S_drewN | apply Kd.S_drew)); exact Kd.S_mono (Kd.S_far (p := ⟨gb553, 1, none⟩) (Kd.S_far (p := ⟨gb553, 0, none⟩) (Kd.S_mono HO_11.out (fun k_ hk => (⟨hk, hk.2⟩ : _ ∧ k_ ≠ gb553))) (fun _ hk => hk.2) (.slice A552_0 ((rd_T30 t546 x70_3).f0).length c552_0)) (fun _ hk => hk.2) (.slice A552_1 ((rd_T30 t546 x70_3).f1).length c552_1)) (fun _ hk => ⟨hk.1.1.1, hk.1.1.2⟩)⟩, ⟨by (with_reducible repeat (first | apply Kd.S_alloc | apply Kd.S_drewN | apply Kd.S_drew)); exact Kd.S_mono (Kd.S_far (p := ⟨gb553, 1, none⟩) (Kd.S_far (p := ⟨gb553, 0, none⟩) (Kd.S_mono HO_62.out (fun k_ hk => (⟨hk, hk.2⟩ : _ ∧ k_ ≠ gb553))) (fun _ hk => hk.2) (.slice A552_0 ((rd_T30 t546 x70_3).f0).length c552_0)) (fun _ hk => hk.2) (.slice A552_1 ((rd_T30 t546 x70_3).f1).length c552_1)) (fun _ hk => ⟨hk.1.1.1, ⟨hk.1.1.2.1, hk.1.1.2.2⟩⟩)⟩, ⟨by (with_reducible repeat (first | apply Kd.S_alloc | apply Kd.S_drewN | apply Kd.S_drew)); exact Kd.S_mono (Kd.S_far (p := ⟨gb553, 1, none⟩) (Kd.S_far (p := ⟨gb553, 0, none⟩) (Kd.S_mono HO_68.out (fun k_ hk => (⟨hk, hk.2⟩ : _ ∧ k_ ≠ gb553))) (fun _ hk => hk.2) (.slice A552_0 ((rd_T30 t546 x70_3).f0).length c552_0)) (fun _ hk => hk.2) (.slice A552_1 ((rd_T30 t546 x70_3).f1).length c552_1)) (fun _ hk => ⟨hk.1.1.1, hk.1.1.2⟩)⟩, ⟨by (with_reducible repeat (first | refine blk_drewN ?_ _ | refine blk_drew ?_ | refine blk_alloc ?_ _)); refine blk_far ?_ NB551_553.out _; (with_reducible repeat (first | refine blk_drewN ?_ _ | refine blk_drew ?_ | refine blk_alloc ?_ _)); refine blk_far ?_ NB551_553.out _; (with_reducible repeat (first | refine blk_drewN ?_ _ | refine blk_drew ?_ | refine blk_alloc ?_ _)); exact BK551.out⟩, ⟨by (with_reducible repeat (first | apply Kd.C_alloc | apply Kd.C_drewN | apply Kd.C_drew)); exact (Kd.C_farP (p := ⟨gb553, 1, none⟩) (Kd.C_farP (p := ⟨gb553, 0, none⟩) HR550_0.out SF550_0_553.out (.slice A552_0 ((rd_T30 t546 x70_3).f0).length c552_0)) SF550_0_553.out (.slice A552_1 ((rd_T30 t546 x70_3).f1).length c552_1))⟩, ⟨by (with_reducible repeat (first | apply Kd.C_alloc | apply Kd.C_drewN | apply Kd.C_drew)); exact (Kd.C_farP (p := ⟨gb553, 1, none⟩) (Kd.C_farP (p := ⟨gb553, 0, none⟩) HR550_1.out SF550_1_553.out (.slice A552_0 ((rd_T30 t546 x70_3).f0).length c552_0)) SF550_1_553.out (.slice A552_1 ((rd_T30 t546 x70_3).f1).length c552_1))⟩, ⟨by repeat (first | (with_reducible first | exact HB.out | apply below_alloc | apply pw_below_drewN | apply below_drew1 | refine below_set ?_ GE551.out | refine below_set ?_ GE553.out) | exact HB.out)⟩⟩
       subst c39
       have H1 : ((orreryref17_Ints.f k3 ((rd_T30 t542 x64_2).f1) ((rd_T30 t546 x70_3).f1)).bind fun t555 => (orrerylaw21_OrderSame.l1 k3 t546 t555 t542 (t542.length : Int) x64_2 t546 (t546.length : Int) (wrap64 (x70_3 + 1)) ((rd_T30 t542 x64_2).f0) ((rd_T30 t542 x64_2).f1))) = some r := by rw [if_pos rfl] at H; exact H
       clear H
       have H := H1
       clear H1
       replace H := Option.bind_eq_some_iff.mp H
       obtain ⟨t555, A400, H⟩ := H
       replace H : (orrerylaw21_OrderSame.l1 k3 t546 t555 t542 (t542.length : Int) x64_2 t546 (t546.length : Int) (wrap64 (x70_3 + 1)) ((rd_T30 t542 x64_2).f0) ((rd_T30 t542 x64_2).f1)) = some r := H
       have A40 := Aside0.mk A400
       clear A400
       have H' := Aside0.mk H
       clear H
       have p552 : 0 ≤ (x70_3 : Int) := of_decide_eq_true (by first | (with_reducible assumption) | assumption)
       have q552 : x70_3 < (t546.length : Int) := of_decide_eq_true (by first | (with_reducible assumption) | assumption)
       obtain ⟨ad552, A552_0, c552_0, A552_1, c552_1, e552, hx552_0, hx552_1, hl552_0, hi552_0, hl552_1, hi552_1⟩ := at_T30 (Kd.S_reads' HO_68.out).2.2 x70_3 p552 q552
       cases e552
       obtain ⟨ce552, hce552, hMe552, hcc552⟩ := Kd.S_get HO_68.out z30 x70_3 p552 (by first | exact q552 | exact of_decide_eq_true (by first | (with_reducible assumption) | assumption) | (have e_ := (Kd.S_reads' HO_68.out).1; omega))
       obtain ⟨ve552_0, ve552_1, rfl, ge552_0, ge552_1⟩ := k30_openM hMe552
       have hv552_0 := hcc552 0 _ rfl
       rw [Nat.add_zero] at hv552_0
       replace hv552_0 := Option.some.inj (hv552_0.symm.trans hx552_0)
       rw [hv552_0] at ge552_0
       have HL552_0 := Aside0.mk (show Kd.R (Kd.int .i64) 3 _ _ _ _ ((rd_T30 t546 x70_3).f0) from ge552_0)
       clear hv552_0 ge552_0
       have hv552_1 := hcc552 1 _ rfl
       rw [add_field _ _ 1 (by omega)] at hv552_1
       replace hv552_1 := Option.some.inj (hv552_1.symm.trans hx552_1)
       rw [hv552_1] at ge552_1
       have HL552_1 := Aside0.mk (show Kd.R (Kd.int .i64) 3 _ _ _ _ ((rd_T30 t546 x70_3).f1) from ge552_1)
       clear hv552_1 ge552_1
       clear hcc552 hce552
       have HR552_0 := Aside0.mk hi552_0
       have HC552_0 := Aside0.mk hl552_0
       clear hi552_0 hl552_0
       have HR552_1 := Aside0.mk hi552_1
       have HC552_1 := Aside0.mk hl552_1
       clear hi552_1 hl552_1
       replace p552 := eq_true p552
       replace q552 := eq_true q552
       go_wp2_with (first | ((with_reducible refine gate_dst (N := 17) rfl ?_); (try (refine gate_guard (by rfl) ?_; dsimp only)); refine box_event ?hg (N := 17) ?hd (cs := #[.slice none 0 0, .slice none 0 0]) (t := 30) ?hr ?_; (case hd => rfl); (case hg => rfl); (case hr => first | (go_simp; done) | (go_simp; rfl)); intro gb553 hg w41 hbox hb; have n0_ := Aside0.mk (Kd.S_below (Kd.S_elderB (by (with_reducible repeat (first | apply Kd.S_alloc | apply Kd.S_drewN | apply Kd.S_drew)); exact HO_11.out) gb553 (Nat.le_of_eq hg.symm)) hb); have n1_ := Aside0.mk (Kd.S_below (Kd.S_elderB (by (with_reducible repeat (first | apply Kd.S_alloc | apply Kd.S_drewN | apply Kd.S_drew)); exact HO_62.out) gb553 (Nat.le_of_eq hg.symm)) hb); have n2_ := Aside0.mk (Kd.S_below (Kd.S_elderB (by (with_reducible repeat (first | apply Kd.S_alloc | apply Kd.S_drewN | apply Kd.S_drew)); exact HO_68.out) gb553 (Nat.le_of_eq hg.symm)) hb); have n3_ := Aside0.mk (Kd.R_below (by (with_reducible repeat (first | apply Kd.R_alloc | apply Kd.R_drewN | apply Kd.R_drew)); exact HL552_0.out) hb); have n4_ := Aside0.mk (Kd.R_below (by (with_reducible repeat (first | apply Kd.R_alloc | apply Kd.R_drewN | apply Kd.R_drew)); exact HL552_1.out) hb); have n5_ := Aside0.mk (blk_below (g := gb551) (o := .cells #[.slice A550_0 ((rd_T30 t542 x64_2).f0).length c550_0, .slice A550_1 ((rd_T30 t542 x64_2).f1).length c550_1] 30 (0, 0)) (by (with_reducible repeat (first | refine blk_drewN ?_ _ | refine blk_drew ?_ | refine blk_alloc ?_ _)); exact BK551.out) hb); have n6_ := Aside0.mk (Kd.C_below (by repeat (first | (with_reducible exact HR550_0.out) | (with_reducible refine Kd.C_alloc ?_ _) | (with_reducible refine Kd.C_drewN ?_ _) | (with_reducible refine Kd.C_drew ?_) | exact HR550_0.out)) hb); have n7_ := Aside0.mk (Kd.C_below (by repeat (first | (with_reducible exact HR550_1.out) | (with_reducible refine Kd.C_alloc ?_ _) | (with_reducible refine Kd.C_drewN ?_ _) | (with_reducible refine Kd.C_drew ?_) | exact HR550_1.out)) hb); have n8_ := Aside0.mk (Kd.C_below (by repeat (first | (with_reducible exact HR552_0.out) | (with_reducible refine Kd.C_alloc ?_ _) | (with_reducible refine Kd.C_drewN ?_ _) | (with_reducible refine Kd.C_drew ?_) | exact HR552_0.out)) hb); have n9_ := Aside0.mk (Kd.C_below (by repeat (first | (with_reducible exact HR552_1.out) | (with_reducible refine Kd.C_alloc ?_ _) | (with_reducible refine Kd.C_drewN ?_ _) | (with_reducible refine Kd.C_drew ?_) | exact HR552_1.out)) hb); have n10_ := Aside0.mk ((Kd.C_aboveB (by repeat (first | (with_reducible exact HR550_0.out) | (with_reducible refine Kd.C_alloc ?_ _) | (with_reducible refine Kd.C_drewN ?_ _) | (with_reducible refine Kd.C_drew ?_) | exact HR550_0.out)) (by decide) (Nat.le_of_eq hg.symm))); have n11_ := Aside0.mk ((Kd.C_aboveB (by repeat (first | (with_reducible exact HR550_1.out) | (with_reducible refine Kd.C_alloc ?_ _) | (with_reducible refine Kd.C_drewN ?_ _) | (with_reducible refine Kd.C_drew ?_) | exact HR550_1.out)) (by decide) (Nat.le_of_eq hg.symm))); have n12_ := Aside0.mk ((Kd.C_aboveB (by repeat (first | (with_reducible exact HR552_0.out) | (with_reducible refine Kd.C_alloc ?_ _) | (with_reducible refine Kd.C_drewN ?_ _) | (with_reducible refine Kd.C_drew ?_) | exact HR552_0.out)) (by decide) (Nat.le_of_eq hg.symm))); have n13_ := Aside0.mk ((Kd.C_aboveB (by repeat (first | (with_reducible exact HR552_1.out) | (with_reducible refine Kd.C_alloc ?_ _) | (with_reducible refine Kd.C_drewN ?_ _) | (with_reducible refine Kd.C_drew ?_) | exact HR552_1.out)) (by decide) (Nat.le_of_eq hg.symm))); have n14_ := Aside0.mk (below_step (by repeat (first | (with_reducible first | exact HB.out | apply below_alloc | apply pw_below_drewN | apply below_drew1 | refine below_set ?_ GE551.out) | exact HB.out)) hb); have n15_ := Aside0.mk (hbox); have n16_ := Aside0.mk ((by rw [hg]; exact (below_size (by repeat (first | (with_reducible first | exact HB.out | apply below_alloc | apply pw_below_drewN | apply below_drew1 | refine below_set ?_ GE551.out) | exact HB.out))) : w.heap.size ≤ gb553)); have n17_ := Aside0.mk ((by rw [hg]; exact (below_size (by repeat (first | (with_reducible first | exact HB.out | apply below_alloc | apply pw_below_drewN | apply below_drew1 | refine below_set ?_ GE551.out) | exact HB.out))) : w.heap.size ≤ gb553)); have n18_ := Aside0.mk ((by rw [hg]; exact Nat.ne_of_lt (blk_lt (g := gb551) (o := .cells #[.slice A550_0 ((rd_T30 t542 x64_2).f0).length c550_0, .slice A550_1 ((rd_T30 t542 x64_2).f1).length c550_1] 30 (0, 0)) (by (with_reducible repeat (first | refine blk_drewN ?_ _ | refine blk_drew ?_ | refine blk_alloc ?_ _)); exact BK551.out)) : gb551 ≠ gb553)); have n19_ := Aside0.mk ((by rw [hg]; exact Nat.ne_of_gt (blk_lt (g := gb551) (o := .cells #[.slice A550_0 ((rd_T30 t542 x64_2).f0).length c550_0, .slice A550_1 ((rd_T30 t542 x64_2).f1).length c550_1] 30 (0, 0)) (by (with_reducible repeat (first | refine blk_drewN ?_ _ | refine blk_drew ?_ | refine blk_alloc ?_ _)); exact BK551.out)) : gb553 ≠ gb551)); clear HO_11; clear HO_62; clear HO_68; clear HL552_0; clear HL552_1; clear BK551; clear HR550_0; clear HR550_1; clear HR552_0; clear HR552_1; clear HB; have HO_11 := n0_; have HO_62 := n1_; have HO_68 := n2_; have HL552_0 := n3_; have HL552_1 := n4_; have BK551 := n5_; have HR550_0 := n6_; have HR550_1 := n7_; have HR552_0 := n8_; have HR552_1 := n9_; have SF550_0_553 := n10_; have SF550_1_553 := n11_; have SF552_0_553 := n12_; have SF552_1_553 := n13_; have HB := n14_; have BK553 := n15_; have GW553 := n16_; have GE553 := n17_; have NB551_553 := n18_; have NB553_551 := n19_; clear n0_ n1_ n2_ n3_ n4_ n5_ n6_ n7_ n8_ n9_ n10_ n11_ n12_ n13_ n14_ n15_ n16_ n17_ n18_ n19_; clear hb hbox hg; have hnb42 := NB553_551.out; have hnc42 := NB551_553.out; have hcz43_0 : w41.cell? ⟨gb553, 0, none⟩ = some (.slice none 0 0) := (blk_cell BK553.out 0).trans rfl; have hcz43_1 : w41.cell? ⟨gb553, 1, none⟩ = some (.slice none 0 0) := (blk_cell BK553.out 1).trans rfl; have hfz43_0 := blk_frozen BK553.out 0; have hfz43_1 := blk_frozen BK553.out 1; have hcz44_0 : w41.cell? ⟨gb551, 0, none⟩ = some (.slice A550_0 ((rd_T30 t542 x64_2).f0).length c550_0) := (blk_cell BK551.out 0).trans rfl; have hcz44_1 : w41.cell? ⟨gb551, 1, none⟩ = some (.slice A550_1 ((rd_T30 t542 x64_2).f1).length c550_1) := (blk_cell BK551.out 1).trans rfl; have hfz44_0 := blk_frozen BK551.out 0; have hfz44_1 := blk_frozen BK551.out 1) | (go_at_call 11; (with_reducible refine (orreryref17_Ints.calls k3 _ _ ((rd_T30 t542 x64_2).f0) _ _ ((rd_T30 t546 x70_3).f0) true _ ?side1 ?side2 ?side3 ?side4 A38.out).mono ?_); (case side1 => repeat (first | exact (by (with_reducible repeat (first | apply Kd.C_alloc | apply Kd.C_drewN | apply Kd.C_drew)); exact (Kd.C_farP (p := ⟨gb553, 1, none⟩) (Kd.C_farP (p := ⟨gb553, 0, none⟩) HR550_0.out SF550_0_553.out (.slice A552_0 ((rd_T30 t546 x70_3).f0).length c552_0)) SF550_0_553.out (.slice A552_1 ((rd_T30 t546 x70_3).f1).length c552_1))) | (with_reducible refine Kd.C_alloc ?_ _) | (with_reducible refine Kd.C_drewN ?_ _) | (with_reducible refine Kd.C_drew ?_))); (case side2 => exact HC550_0.out); (case side3 => repeat (first | exact ((Kd.R_reads' (by (with_reducible repeat (first | apply Kd.R_alloc | apply Kd.R_drewN | apply Kd.R_drew)); exact (Kd.R_mono (Kd.R_far (p := ⟨gb553, 1, none⟩) (Kd.R_far (p := ⟨gb553, 0, none⟩) (Kd.R_types HL552_0.out BK553.out (by decide)) (fun _ hk => hk.2) (.slice A552_0 ((rd_T30 t546 x70_3).f0).length c552_0)) (fun _ hk => hk.2) (.slice A552_1 ((rd_T30 t546 x70_3).f1).length c552_1)) (fun _ h_ => h_.1)))).2.2) | (with_reducible refine Kd.C_alloc ?_ _) | (with_reducible refine Kd.C_drewN ?_ _) | (with_reducible refine Kd.C_drew ?_))); (case side4 => exact HC552_0.out); rintro e w' ⟨rfl, ⟨nd, rfl⟩⟩) | (go_at_call 11; (with_reducible refine (orreryref17_Ints.calls k3 _ _ ((rd_T30 t542 x64_2).f1) _ _ ((rd_T30 t546 x70_3).f1) t555 _ ?side1 ?side2 ?side3 ?side4 A40.out).mono ?_); (case side1 => repeat (first | exact (by (with_reducible repeat (first | apply Kd.C_alloc | apply Kd.C_drewN | apply Kd.C_drew)); exact (Kd.C_farP (p := ⟨gb553, 1, none⟩) (Kd.C_farP (p := ⟨gb553, 0, none⟩) HR550_1.out SF550_1_553.out (.slice A552_0 ((rd_T30 t546 x70_3).f0).length c552_0)) SF550_1_553.out (.slice A552_1 ((rd_T30 t546 x70_3).f1).length c552_1))) | (with_reducible refine Kd.C_alloc ?_ _) | (with_reducible refine Kd.C_drewN ?_ _) | (with_reducible refine Kd.C_drew ?_))); (case side2 => exact HC550_1.out); (case side3 => repeat (first | exact ((Kd.R_reads' (by (with_reducible repeat (first | apply Kd.R_alloc | apply Kd.R_drewN | apply Kd.R_drew)); exact (Kd.R_mono (Kd.R_far (p := ⟨gb553, 1, none⟩) (Kd.R_far (p := ⟨gb553, 0, none⟩) (Kd.R_types HL552_1.out BK553.out (by decide)) (fun _ hk => hk.2) (.slice A552_0 ((rd_T30 t546 x70_3).f0).length c552_0)) (fun _ hk => hk.2) (.slice A552_1 ((rd_T30 t546 x70_3).f1).length c552_1)) (fun _ h_ => h_.1)))).2.2) | (with_reducible refine Kd.C_alloc ?_ _) | (with_reducible refine Kd.C_drewN ?_ _) | (with_reducible refine Kd.C_drew ?_))); (case side4 => exact HC552_1.out); rintro e w' ⟨rfl, ⟨nd, rfl⟩⟩))
       (first | go_roundg k3 | (refine Handed.intro k3 ?measure ?_; rotate_left; go_step; (repeat apply Exists.intro); (refine ⟨?rel, ?fr_⟩); (case fr_ => (simp only [add_plain]; rfl))))
       case measure => have := HJ10.out; have := HK2.out; have := HK3.out; omega
       case rel => exact ⟨(t555), (wrap64 (x70_3 + 1)), (by first | rfl | (simp; done) | (simp [*]; done)), (by first | rfl | (simp; done) | (simp [*]; done)), H', ⟨by have := HJ10.out; have := HK2.out; have := HK3.out; omega⟩, ⟨by (with_reducible repeat (first | apply Kd.S_alloc | apply Kd.S_drewN | apply Kd.S_drew)); exact Kd.S_mono (Kd.S_far (p := ⟨gb553, 1, none⟩) (Kd.S_far (p := ⟨gb553, 0, none⟩) (Kd.S_mono HO_11.out (fun k_ hk => (⟨hk, hk.2⟩ : _ ∧ k_ ≠ gb553))) (fun _ hk => hk.2) (.slice A552_0 ((rd_T30 t546 x70_3).f0).length c552_0)) (fun _ hk => hk.2) (.slice A552_1 ((rd_T30 t546 x70_3).f1).length c552_1)) (fun _ hk => ⟨hk.1.1.1, hk.1.1.2⟩)⟩, ⟨by (with_reducible repeat (first | apply Kd.S_alloc | apply Kd.S_drewN | apply Kd.S_drew)); exact Kd.S_mono (Kd.S_far (p := ⟨gb553, 1, none⟩) (Kd.S_far (p := ⟨gb553, 0, none⟩) (Kd.S_mono HO_62.out (fun k_ hk => (⟨hk, hk.2⟩ : _ ∧ k_ ≠ gb553))) (fun _ hk => hk.2) (.slice A552_0 ((rd_T30 t546 x70_3).f0).length c552_0)) (fun _ hk => hk.2) (.slice A552_1 ((rd_T30 t546 x70_3).f1).length c552_1)) (fun _ hk => ⟨hk.1.1.1, ⟨hk.1.1.2.1, hk.1.1.2.2⟩⟩)⟩, ⟨by (with_reducible repeat (first | apply Kd.S_alloc | apply Kd.S_drewN | apply Kd.S_drew)); exact Kd.S_mono (Kd.S_far (p := ⟨gb553, 1, none⟩) (Kd.S_far (p := ⟨gb553, 0, none⟩) (Kd.S_mono HO_68.out (fun k_ hk => (⟨hk, hk.2⟩ : _ ∧ k_ ≠ gb553))) (fun _ hk => hk.2) (.slice A552_0 ((rd_T30 t546 x70_3).f0).length c552_0)) (fun _ hk => hk.2) (.slice A552_1 ((rd_T30 t546 x70_3).f1).length c552_1)) (fun _ hk => ⟨hk.1.1.1, hk.1.1.2⟩)⟩, ⟨by (with_reducible repeat (first | refine blk_drewN ?_ _ | refine blk_drew ?_ | refine blk_alloc ?_ _)); refine blk_far ?_ NB551_553.out _; (with_reducible repeat (first | refine blk_drewN ?_ _ | refine blk_drew ?_ | refine blk_alloc ?_ _)); refine blk_far ?_ NB551_553.out _; (with_reducible repeat (first | refine blk_drewN ?_ _ | refine blk_drew ?_ | refine blk_alloc ?_ _)); exact BK551.out⟩, ⟨by (with_reducible repeat (first | apply Kd.C_alloc | apply Kd.C_drewN | apply Kd.C_drew)); exact (Kd.C_farP (p := ⟨gb553, 1, none⟩) (Kd.C_farP (p := ⟨gb553, 0, none⟩) HR550_0.out SF550_0_553.out (.slice A552_0 ((rd_T30 t546 x70_3).f0).length c552_0)) SF550_0_553.out (.slice A552_1 ((rd_T30 t546 x70_3).f1).length c552_1))⟩, ⟨by (with_reducible repeat (first | apply Kd.C_alloc | apply Kd.C_drewN | apply Kd.C_drew)); exact (Kd.C_farP (p := ⟨gb553, 1, none⟩) (Kd.C_farP (p := ⟨gb553, 0, none⟩) HR550_1.out SF550_1_553.out (.slice A552_0 ((rd_T30 t546 x70_3).f0).length c552_0)) SF550_1_553.out (.slice A552_1 ((rd_T30 t546 x70_3).f1).length c552_1))⟩, ⟨by repeat (first | (with_reducible first | exact HB.out | apply below_alloc | apply pw_below_drewN | apply below_drew1 | refine below_set ?_ GE551.out | refine below_set ?_ GE553.out) | exact HB.out)⟩⟩

end Go.Proofs.Ytlaneafplmbcnaa.PO
