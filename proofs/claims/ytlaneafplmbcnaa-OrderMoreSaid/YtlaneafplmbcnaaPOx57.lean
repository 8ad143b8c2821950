/- What the Go functions of this part compute, as Lean functions, and that the machine's calls come to just that; written for this claim by a program of the session (gen.sh, after the kit's printer). -/
import Derived.Test.YtlaneafplmbcnaaPOx0
import Derived.Test.YtlaneafplmbcnaaSq
import Derived.Test.YtlaneafplmbcnaaPOx45
import Derived.Test.YtlaneafplmbcnaaPOx49
import Derived.Test.YtlaneafplmbcnaaPOx53
namespace Go.Proofs.Ytlaneafplmbcnaa.PO
open Go.RowKit Go.Proofs.YtlaneafplmbcnaaW.PrintWords Go.Proofs.YtlaneafplmbcnaaW.PrintLast Go.Proofs.YtlaneafplmbcnaaW.PrintMore
attribute [local go_sem] max2_int min2_int max_two min_two max_three min_three max_four min_four   -- for this text's walks alone
set_option linter.unusedVariables false
set_option linter.unusedSimpArgs false

/-! ### orrerylaw21_OrderMore: function 6 -/
mutual
def orrerylaw21_OrderMore.j0 : Nat → Int → List (S33) → List Int → Int → Int → Bool → Option (Bool)
  | 0, _, _, _, _, _, _ => none
  | k + 1, x0, x1, x2, x3, x4, x41 => if x41 = true then (some true) else ((order_Blocks.f k x0 x1 x2).bind fun bt421 => (if bt421.2 = 0 then (if x0 = 0 then (none) else (orrerylaw21_OrderMore.l0 k x0 x1 x2 (Int.tmod (wrap64 ((Int.tmod x3 x0) + x0)) x0) (Int.tmod (wrap64 ((Int.tmod x4 x0) + x0)) x0) bt421.1 (-1) (-1) bt421.1 (bt421.1.length : Int) 0)) else (some false)))
def orrerylaw21_OrderMore.l0 : Nat → Int → List (S33) → List Int → Int → Int → List (S30) → Int → Int → List (S30) → Int → Int → Option (Bool)
  | 0, _, _, _, _, _, _, _, _, _, _, _ => none
  | k + 1, x0, x1, x2, x3, x4, x11, x13, x14, x65, x66, x67 => if x67 < x66 then (if 0 ≤ x67 then (if x67 < (x65.length : Int) then (orrerylaw21_OrderMore.l1 k x0 x1 x2 x3 x4 x11 x13 x14 x67 x65 x66 x67 ((rd_T30 x65 x67).f0) (((rd_T30 x65 x67).f0).length : Int) 0 ((rd_T30 x65 x67).f0) ((rd_T30 x65 x67).f1)) else (none)) else (none)) else (if x13 < x14 then (orrerylaw21_OrderMore.j4 k x0 x1 x2 x3 x4 x11 x13 true) else (orrerylaw21_OrderMore.j4 k x0 x1 x2 x3 x4 x11 x13 (decide (x14 < 0))))
def orrerylaw21_OrderMore.l1 : Nat → Int → List (S33) → List Int → Int → Int → List (S30) → Int → Int → Int → List (S30) → Int → Int → List Int → Int → Int → List Int → List Int → Option (Bool)
  | 0, _, _, _, _, _, _, _, _, _, _, _, _, _, _, _, _, _ => none
  | k + 1, x0, x1, x2, x3, x4, x11, x13, x14, x15, x65, x66, x67, x73, x74, x75, x427000, x427001 => if x75 < x74 then (if 0 ≤ x75 then (if x75 < (x73.length : Int) then (if (rd x73 x75) = x3 then (orrerylaw21_OrderMore.l1 k x0 x1 x2 x3 x4 x11 x15 x14 x15 x65 x66 x67 x73 x74 (wrap64 (x75 + 1)) x427000 x427001) else (orrerylaw21_OrderMore.l1 k x0 x1 x2 x3 x4 x11 x13 x14 x15 x65 x66 x67 x73 x74 (wrap64 (x75 + 1)) x427000 x427001)) else (none)) else (none)) else (orrerylaw21_OrderMore.l2 k x0 x1 x2 x3 x4 x11 x13 x14 x15 x65 x66 x67 x427001 (x427001.length : Int) 0)
def orrerylaw21_OrderMore.l2 : Nat → Int → List (S33) → List Int → Int → Int → List (S30) → Int → Int → Int → List (S30) → Int → Int → List Int → Int → Int → Option (Bool)
  | 0, _, _, _, _, _, _, _, _, _, _, _, _, _, _, _ => none
  | k + 1, x0, x1, x2, x3, x4, x11, x13, x14, x15, x65, x66, x67, x85, x86, x87 => if x87 < x86 then (if 0 ≤ x87 then (if x87 < (x85.length : Int) then (if (rd x85 x87) = x4 then (orrerylaw21_OrderMore.l2 k x0 x1 x2 x3 x4 x11 x13 x15 x15 x65 x66 x67 x85 x86 (wrap64 (x87 + 1))) else (orrerylaw21_OrderMore.l2 k x0 x1 x2 x3 x4 x11 x13 x14 x15 x65 x66 x67 x85 x86 (wrap64 (x87 + 1)))) else (none)) else (none)) else (orrerylaw21_OrderMore.l0 k x0 x1 x2 x3 x4 x11 x13 x14 x65 x66 (wrap64 (x67 + 1)))
def orrerylaw21_OrderMore.j4 : Nat → Int → List (S33) → List Int → Int → Int → List (S30) → Int → Bool → Option (Bool)
  | 0, _, _, _, _, _, _, _, _ => none
  | k + 1, x0, x1, x2, x3, x4, x11, x13, x103 => if x103 = true then (some (decide (x13 ≥ 0))) else ((some (([] : List (S33)) : List (S33))).bind fun y429 => (if y429.length + x1.length < 5864062014805 then ((some (y429 ++ x1 : List (S33))).bind fun y432 => (if y432.length < 5864062014805 then ((order_Blocks.f k x0 (y432 ++ [(⟨x3, x4, 0⟩ : S33)]) x2).bind fun bt438 => (if bt438.2 = 0 then (orrerylaw21_OrderMore.j5 k x11 bt438.1 ((bt438.1.length : Int) != (x11.length : Int))) else (orrerylaw21_OrderMore.j5 k x11 bt438.1 true))) else (none))) else (none)))
def orrerylaw21_OrderMore.j5 : Nat → List (S30) → List (S30) → Bool → Option (Bool)
  | 0, _, _, _ => none
  | k + 1, x11, x21, x128 => if x128 = true then (some false) else (orrerylaw21_OrderMore.l3 k x21 x11 (x11.length : Int) 0)
def orrerylaw21_OrderMore.l3 : Nat → List (S30) → List (S30) → Int → Int → Option (Bool)
  | 0, _, _, _, _ => none
  | k + 1, x21, x129, x130, x131 => if x131 < x130 then (if 0 ≤ x131 then (if x131 < (x129.length : Int) then (orrerylaw21_OrderMore.l4 k x21 false x129 x130 x131 x21 (x21.length : Int) 0 ((rd_T30 x129 x131).f0) ((rd_T30 x129 x131).f1)) else (none)) else (none)) else (some true)
def orrerylaw21_OrderMore.l4 : Nat → List (S30) → Bool → List (S30) → Int → Int → List (S30) → Int → Int → List Int → List Int → Option (Bool)
  | 0, _, _, _, _, _, _, _, _, _, _ => none
  | k + 1, x21, x25, x129, x130, x131, x135, x136, x137, x444000, x444001 => if x137 < x136 then (if 0 ≤ x137 then (if x137 < (x135.length : Int) then (if x25 = true then (orrerylaw21_OrderMore.l4 k x21 true x129 x130 x131 x135 x136 (wrap64 (x137 + 1)) x444000 x444001) else ((orreryref17_Ints.f k x444000 ((rd_T30 x135 x137).f0)).bind fun t446 => (if t446 = true then ((orreryref17_Ints.f k x444001 ((rd_T30 x135 x137).f1)).bind fun t447 => (orrerylaw21_OrderMore.l4 k x21 t447 x129 x130 x131 x135 x136 (wrap64 (x137 + 1)) x444000 x444001)) else (orrerylaw21_OrderMore.l4 k x21 false x129 x130 x131 x135 x136 (wrap64 (x137 + 1)) x444000 x444001)))) else (none)) else (none)) else (if x25 = true then (orrerylaw21_OrderMore.l3 k x21 x129 x130 (wrap64 (x131 + 1))) else (some false))
end
def orrerylaw21_OrderMore.f (k : Nat) (a0 : Int) (l1 : List (S33)) (l2 : List Int) (a3 : Int) (a4 : Int) : Option (Bool) := (orreryref20_Told.f k a0 l1 l2).bind fun t420 => (if t420 = true then (if a0 = 0 then (orrerylaw21_OrderMore.j0 k a0 l1 l2 a3 a4 true) else (orrerylaw21_OrderMore.j0 k a0 l1 l2 a3 a4 (decide ((l1.length : Int) > 4000)))) else (orrerylaw21_OrderMore.j0 k a0 l1 l2 a3 a4 true))
theorem orrerylaw21_OrderMore.mono_l : ∀ k, (∀ y0 y1 y2 y3 y4 y5, LeO (orrerylaw21_OrderMore.j0 k y0 y1 y2 y3 y4 y5) (orrerylaw21_OrderMore.j0 (k + 1) y0 y1 y2 y3 y4 y5)) ∧ (∀ y0 y1 y2 y3 y4 y5 y6 y7 y8 y9 y10, LeO (orrerylaw21_OrderMore.l0 k y0 y1 y2 y3 y4 y5 y6 y7 y8 y9 y10) (orrerylaw21_OrderMore.l0 (k + 1) y0 y1 y2 y3 y4 y5 y6 y7 y8 y9 y10)) ∧ (∀ y0 y1 y2 y3 y4 y5 y6 y7 y8 y9 y10 y11 y12 y13 y14 y15 y16, LeO (orrerylaw21_OrderMore.l1 k y0 y1 y2 y3 y4 y5 y6 y7 y8 y9 y10 y11 y12 y13 y14 y15 y16) (orrerylaw21_OrderMore.l1 (k + 1) y0 y1 y2 y3 y4 y5 y6 y7 y8 y9 y10 y11 y12 y13 y14 y15 y16)) ∧ (∀ y0 y1 y2 y3 y4 y5 y6 y7 y8 y9 y10 y11 y12 y13 y14, LeO (orrerylaw21_OrderMore.l2 k y0 y1 y2 y3 y4 y5 y6 y7 y8 y9 y10 y11 y12 y13 y14) (orrerylaw21_OrderMore.l2 (k + 1) y0 y1 y2 y3 y4 y5 y6 y7 y8 y9 y10 y11 y12 y13 y14)) ∧ (∀ y0 y1 y2 y3 y4 y5 y6 y7, LeO (orrerylaw21_OrderMore.j4 k y0 y1 y2 y3 y4 y5 y6 y7) (orrerylaw21_OrderMore.j4 (k + 1) y0 y1 y2 y3 y4 y5 y6 y7)) ∧ (∀ y0 y1 y2, LeO (orrerylaw21_OrderMore.j5 k y0 y1 y2) (orrerylaw21_OrderMore.j5 (k + 1) y0 y1 y2)) ∧ (∀ y0 y1 y2 y3, LeO (orrerylaw21_OrderMore.l3 k y0 y1 y2 y3) (orrerylaw21_OrderMore.l3 (k + 1) y0 y1 y2 y3)) ∧ (∀ y0 y1 y2 y3 y4 y5 y6 y7 y8 y9, LeO (orrerylaw21_OrderMore.l4 k y0 y1 y2 y3 y4 y5 y6 y7 y8 y9) (orrerylaw21_OrderMore.l4 (k + 1) y0 y1 y2 y3 y4 y5 y6 y7 y8 y9))
  | 0 => ⟨fun _ _ _ _ _ _ r h => by simp [orrerylaw21_OrderMore.j0] at h, fun _ _ _ _ _ _ _ _ _ _ _ r h => by simp [orrerylaw21_OrderMore.l0] at h, fun _ _ _ _ _ _ _ _ _ _ _ _ _ _ _ _ _ r h => by simp [orrerylaw21_OrderMore.l1] at h, fun _ _ _ _ _ _ _ _ _ _ _ _ _ _ _ r h => by simp [orrerylaw21_OrderMore.l2] at h, fun _ _ _ _ _ _ _ _ r h => by simp [orrerylaw21_OrderMore.j4] at h, fun _ _ _ r h => by simp [orrerylaw21_OrderMore.j5] at h, fun _ _ _ _ r h => by simp [orrerylaw21_OrderMore.l3] at h, fun _ _ _ _ _ _ _ _ _ _ r h => by simp [orrerylaw21_OrderMore.l4] at h⟩
  | k + 1 => by
    obtain ⟨ih0, ih1, ih2, ih3, ih4, ih5, ih6, ih7⟩ := orrerylaw21_OrderMore.mono_l k
    refine ⟨?_, ?_, ?_, ?_, ?_, ?_, ?_, ?_⟩
    · intro y0 y1 y2 y3 y4 y5
      unfold orrerylaw21_OrderMore.j0
      repeat' first
      | (with_reducible exact ih0 _ _ _ _ _ _)
      | (with_reducible exact ih1 _ _ _ _ _ _ _ _ _ _ _)
      | (with_reducible exact ih2 _ _ _ _ _ _ _ _ _ _ _ _ _ _ _ _ _)
      | (with_reducible exact ih3 _ _ _ _ _ _ _ _ _ _ _ _ _ _ _)
      | (with_reducible exact ih4 _ _ _ _ _ _ _ _)
      | (with_reducible exact ih5 _ _ _)
      | (with_reducible exact ih6 _ _ _ _)
      | (with_reducible exact ih7 _ _ _ _ _ _ _ _ _ _)
      | (with_reducible exact order_Blocks.mono _ _ _ _)
      | (with_reducible exact orreryref17_Ints.mono _ _ _)
      | (with_reducible exact orreryref20_Told.mono _ _ _ _)
      | (with_reducible exact LeO.refl _)
      | (with_reducible exact LeO.none _)
      | (with_reducible refine LeO.ite ?_ ?_)
      | (with_reducible refine LeO.bind ?_ (fun _ => ?_))
      | exact ih0 _ _ _ _ _ _
      | exact ih1 _ _ _ _ _ _ _ _ _ _ _
      | exact ih2 _ _ _ _ _ _ _ _ _ _ _ _ _ _ _ _ _
      | exact ih3 _ _ _ _ _ _ _ _ _ _ _ _ _ _ _
      | exact ih4 _ _ _ _ _ _ _ _
      | exact ih5 _ _ _
      | exact ih6 _ _ _ _
      | exact ih7 _ _ _ _ _ _ _ _ _ _
      | exact order_Blocks.mono _ _ _ _
      | exact orreryref17_Ints.mono _ _ _
      | exact orreryref20_Told.mono _ _ _ _
      | exact LeO.none _
      | refine LeO.ite ?_ ?_
      | refine LeO.bind ?_ (fun _ => ?_)
    · intro y0 y1 y2 y3 y4 y5 y6 y7 y8 y9 y10
      unfold orrerylaw21_OrderMore.l0
      repeat' first
      | (with_reducible exact ih0 _ _ _ _ _ _)
      | (with_reducible exact ih1 _ _ _ _ _ _ _ _ _ _ _)
      | (with_reducible exact ih2 _ _ _ _ _ _ _ _ _ _ _ _ _ _ _ _ _)
      | (with_reducible exact ih3 _ _ _ _ _ _ _ _ _ _ _ _ _ _ _)
      | (with_reducible exact ih4 _ _ _ _ _ _ _ _)
      | (with_reducible exact ih5 _ _ _)
      | (with_reducible exact ih6 _ _ _ _)
      | (with_reducible exact ih7 _ _ _ _ _ _ _ _ _ _)
      | (with_reducible exact order_Blocks.mono _ _ _ _)
      | (with_reducible exact orreryref17_Ints.mono _ _ _)
      | (with_reducible exact orreryref20_Told.mono _ _ _ _)
      | (with_reducible exact LeO.refl _)
      | (with_reducible exact LeO.none _)
      | (with_reducible refine LeO.ite ?_ ?_)
      | (with_reducible refine LeO.bind ?_ (fun _ => ?_))
      | exact ih0 _ _ _ _ _ _
      | exact ih1 _ _ _ _ _ _ _ _ _ _ _
      | exact ih2 _ _ _ _ _ _ _ _ _ _ _ _ _ _ _ _ _
      | exact ih3 _ _ _ _ _ _ _ _ _ _ _ _ _ _ _
      | exact ih4 _ _ _ _ _ _ _ _
      | exact ih5 _ _ _
      | exact ih6 _ _ _ _
      | exact ih7 _ _ _ _ _ _ _ _ _ _
      | exact order_Blocks.mono _ _ _ _
      | exact orreryref17_Ints.mono _ _ _
      | exact orreryref20_Told.mono _ _ _ _
      | exact LeO.none _
      | refine LeO.ite ?_ ?_
      | refine LeO.bind ?_ (fun _ => ?_)
    · intro y0 y1 y2 y3 y4 y5 y6 y7 y8 y9 y10 y11 y12 y13 y14 y15 y16
      unfold orrerylaw21_OrderMore.l1
      repeat' first
      | (with_reducible exact ih0 _ _ _ _ _ _)
      | (with_reducible exact ih1 _ _ _ _ _ _ _ _ _ _ _)
      | (with_reducible exact ih2 _ _ _ _ _ _ _ _ _ _ _ _ _ _ _ _ _)
      | (with_reducible exact ih3 _ _ _ _ _ _ _ _ _ _ _ _ _ _ _)
      | (with_reducible exact ih4 _ _ _ _ _ _ _ _)
      | (with_reducible exact ih5 _ _ _)
      | (with_reducible exact ih6 _ _ _ _)
      | (with_reducible exact ih7 _ _ _ _ _ _ _ _ _ _)
      | (with_reducible exact order_Blocks.mono _ _ _ _)
      | (with_reducible exact orreryref17_Ints.mono _ _ _)
      | (with_reducible exact orreryref20_Told.mono _ _ _ _)
      | (with_reducible exact LeO.refl _)
      | (with_reducible exact LeO.none _)
      | (with_reducible refine LeO.ite ?_ ?_)
      | (with_reducible refine LeO.bind ?_ (fun _ => ?_))
      | exact ih0 _ _ _ _ _ _
      | exact ih1 _ _ _ _ _ _ _ _ _ _ _
      | exact ih2 _ _ _ _ _ _ _ _ _ _ _ _ _ _ _ _ _
      | exact ih3 _ _ _ _ _ _ _ _ _ _ _ _ _ _ _
      | exact ih4 _ _ _ _ _ _ _ _
      | exact ih5 _ _ _
      | exact ih6 _ _ _ _
      | exact ih7 _ _ _ _ _ _ _ _ _ _
      | exact order_Blocks.mono _ _ _ _
      | exact orreryref17_Ints.mono _ _ _
      | exact orreryref20_Told.mono _ _ _ _
      | exact LeO.none _
      | refine LeO.ite ?_ ?_
      | refine LeO.bind ?_ (fun _ => ?_)
    · intro y0 y1 y2 y3 y4 y5 y6 y7 y8 y9 y10 y11 y12 y13 y14
      unfold orrerylaw21_OrderMore.l2
      repeat' first
      | (with_reducible exact ih0 _ _ _ _ _ _)
      | (with_reducible exact ih1 _ _ _ _ _ _ _ _ _ _ _)
      | (with_reducible exact ih2 _ _ _ _ _ _ _ _ _ _ _ _ _ _ _ _ _)
      | (with_reducible exact ih3 _ _ _ _ _ _ _ _ _ _ _ _ _ _ _)
      | (with_reducible exact ih4 _ _ _ _ _ _ _ _)
      | (with_reducible exact ih5 _ _ _)
      | (with_reducible exact ih6 _ _ _ _)
      | (with_reducible exact ih7 _ _ _ _ _ _ _ _ _ _)
      | (with_reducible exact order_Blocks.mono _ _ _ _)
      | (with_reducible exact orreryref17_Ints.mono _ _ _)
      | (with_reducible exact orreryref20_Told.mono _ _ _ _)
      | (with_reducible exact LeO.refl _)
      | (with_reducible exact LeO.none _)
      | (with_reducible refine LeO.ite ?_ ?_)
      | (with_reducible refine LeO.bind ?_ (fun _ => ?_))
      | exact ih0 _ _ _ _ _ _
      | exact ih1 _ _ _ _ _ _ _ _ _ _ _
      | exact ih2 _ _ _ _ _ _ _ _ _ _ _ _ _ _ _ _ _
      | exact ih3 _ _ _ _ _ _ _ _ _ _ _ _ _ _ _
      | exact ih4 _ _ _ _ _ _ _ _
      | exact ih5 _ _ _
      | exact ih6 _ _ _ _
      | exact ih7 _ _ _ _ _ _ _ _ _ _
      | exact order_Blocks.mono _ _ _ _
      | exact orreryref17_Ints.mono _ _ _
      | exact orreryref20_Told.mono _ _ _ _
      | exact LeO.none _
      | refine LeO.ite ?_ ?_
      | refine LeO.bind ?_ (fun _ => ?_)
    · intro y0 y1 y2 y3 y4 y5 y6 y7
      unfold orrerylaw21_OrderMore.j4
      repeat' first
      | (with_reducible exact ih0 _ _ _ _ _ _)
      | (with_reducible exact ih1 _ _ _ _ _ _ _ _ _ _ _)
      | (with_reducible exact ih2 _ _ _ _ _ _ _ _ _ _ _ _ _ _ _ _ _)
      | (with_reducible exact ih3 _ _ _ _ _ _ _ _ _ _ _ _ _ _ _)
      | (with_reducible exact ih4 _ _ _ _ _ _ _ _)
      | (with_reducible exact ih5 _ _ _)
      | (with_reducible exact ih6 _ _ _ _)
      | (with_reducible exact ih7 _ _ _ _ _ _ _ _ _ _)
      | (with_reducible exact order_Blocks.mono _ _ _ _)
      | (with_reducible exact orreryref17_Ints.mono _ _ _)
      | (with_reducible exact orreryref20_Told.mono _ _ _ _)
      | (with_reducible exact LeO.refl _)
      | (with_reducible exact LeO.none _)
      | (with_reducible refine LeO.ite ?_ ?_)
      | (with_reducible refine LeO.bind ?_ (fun _ => ?_))
      | exact ih0 _ _ _ _ _ _
      | exact ih1 _ _ _ _ _ _ _ _ _ _ _
      | exact ih2 _ _ _ _ _ _ _ _ _ _ _ _ _ _ _ _ _
      | exact ih3 _ _ _ _ _ _ _ _ _ _ _ _ _ _ _
      | exact ih4 _ _ _ _ _ _ _ _
      | exact ih5 _ _ _
      | exact ih6 _ _ _ _
      | exact ih7 _ _ _ _ _ _ _ _ _ _
      | exact order_Blocks.mono _ _ _ _
      | exact orreryref17_Ints.mono _ _ _
      | exact orreryref20_Told.mono _ _ _ _
      | exact LeO.none _
      | refine LeO.ite ?_ ?_
      | refine LeO.bind ?_ (fun _ => ?_)
    · intro y0 y1 y2
      unfold orrerylaw21_OrderMore.j5
      repeat' first
      | (with_reducible exact ih0 _ _ _ _ _ _)
      | (with_reducible exact ih1 _ _ _ _ _ _ _ _ _ _ _)
      | (with_reducible exact ih2 _ _ _ _ _ _ _ _ _ _ _ _ _ _ _ _ _)
      | (with_reducible exact ih3 _ _ _ _ _ _ _ _ _ _ _ _ _ _ _)
      | (with_reducible exact ih4 _ _ _ _ _ _ _ _)
      | (with_reducible exact ih5 _ _ _)
      | (with_reducible exact ih6 _ _ _ _)
      | (with_reducible exact ih7 _ _ _ _ _ _ _ _ _ _)
      | (with_reducible exact order_Blocks.mono _ _ _ _)
      | (with_reducible exact orreryref17_Ints.mono _ _ _)
      | (with_reducible exact orreryref20_Told.mono _ _ _ _)
      | (with_reducible exact LeO.refl _)
      | (with_reducible exact LeO.none _)
      | (with_reducible refine LeO.ite ?_ ?_)
      | (with_reducible refine LeO.bind ?_ (fun _ => ?_))
      | exact ih0 _ _ _ _ _ _
      | exact ih1 _ _ _ _ _ _ _ _ _ _ _
      | exact ih2 _ _ _ _ _ _ _ _ _ _ _ _ _ _ _ _ _
      | exact ih3 _ _ _ _ _ _ _ _ _ _ _ _ _ _ _
      | exact ih4 _ _ _ _ _ _ _ _
      | exact ih5 _ _ _
      | exact ih6 _ _ _ _
      | exact ih7 _ _ _ _ _ _ _ _ _ _
      | exact order_Blocks.mono _ _ _ _
      | exact orreryref17_Ints.mono _ _ _
      | exact orreryref20_Told.mono _ _ _ _
      | exact LeO.none _
      | refine LeO.ite ?_ ?_
      | refine LeO.bind ?_ (fun _ => ?_)
    · intro y0 y1 y2 y3
      unfold orrerylaw21_OrderMore.l3
      repeat' first
      | (with_reducible exact ih0 _ _ _ _ _ _)
      | (with_reducible exact ih1 _ _ _ _ _ _ _ _ _ _ _)
      | (with_reducible exact ih2 _ _ _ _ _ _ _ _ _ _ _ _ _ _ _ _ _)
      | (with_reducible exact ih3 _ _ _ _ _ _ _ _ _ _ _ _ _ _ _)
      | (with_reducible exact ih4 _ _ _ _ _ _ _ _)
      | (with_reducible exact ih5 _ _ _)
      | (with_reducible exact ih6 _ _ _ _)
      | (with_reducible exact ih7 _ _ _ _ _ _ _ _ _ _)
      | (with_reducible exact order_Blocks.mono _ _ _ _)
      | (with_reducible exact orreryref17_Ints.mono _ _ _)
      | (with_reducible exact orreryref20_Told.mono _ _ _ _)
      | (with_reducible exact LeO.refl _)
      | (with_reducible exact LeO.none _)
      | (with_reducible refine LeO.ite ?_ ?_)
      | (with_reducible refine LeO.bind ?_ (fun _ => ?_))
      | exact ih0 _ _ _ _ _ _
      | exact ih1 _ _ _ _ _ _ _ _ _ _ _
      | exact ih2 _ _ _ _ _ _ _ _ _ _ _ _ _ _ _ _ _
      | exact ih3 _ _ _ _ _ _ _ _ _ _ _ _ _ _ _
      | exact ih4 _ _ _ _ _ _ _ _
      | exact ih5 _ _ _
      | exact ih6 _ _ _ _
      | exact ih7 _ _ _ _ _ _ _ _ _ _
      | exact order_Blocks.mono _ _ _ _
      | exact orreryref17_Ints.mono _ _ _
      | exact orreryref20_Told.mono _ _ _ _
      | exact LeO.none _
      | refine LeO.ite ?_ ?_
      | refine LeO.bind ?_ (fun _ => ?_)
    · intro y0 y1 y2 y3 y4 y5 y6 y7 y8 y9
      unfold orrerylaw21_OrderMore.l4
      repeat' first
      | (with_reducible exact ih0 _ _ _ _ _ _)
      | (with_reducible exact ih1 _ _ _ _ _ _ _ _ _ _ _)
      | (with_reducible exact ih2 _ _ _ _ _ _ _ _ _ _ _ _ _ _ _ _ _)
      | (with_reducible exact ih3 _ _ _ _ _ _ _ _ _ _ _ _ _ _ _)
      | (with_reducible exact ih4 _ _ _ _ _ _ _ _)
      | (with_reducible exact ih5 _ _ _)
      | (with_reducible exact ih6 _ _ _ _)
      | (with_reducible exact ih7 _ _ _ _ _ _ _ _ _ _)
      | (with_reducible exact order_Blocks.mono _ _ _ _)
      | (with_reducible exact orreryref17_Ints.mono _ _ _)
      | (with_reducible exact orreryref20_Told.mono _ _ _ _)
      | (with_reducible exact LeO.refl _)
      | (with_reducible exact LeO.none _)
      | (with_reducible refine LeO.ite ?_ ?_)
      | (with_reducible refine LeO.bind ?_ (fun _ => ?_))
      | exact ih0 _ _ _ _ _ _
      | exact ih1 _ _ _ _ _ _ _ _ _ _ _
      | exact ih2 _ _ _ _ _ _ _ _ _ _ _ _ _ _ _ _ _
      | exact ih3 _ _ _ _ _ _ _ _ _ _ _ _ _ _ _
      | exact ih4 _ _ _ _ _ _ _ _
      | exact ih5 _ _ _
      | exact ih6 _ _ _ _
      | exact ih7 _ _ _ _ _ _ _ _ _ _
      | exact order_Blocks.mono _ _ _ _
      | exact orreryref17_Ints.mono _ _ _
      | exact orreryref20_Told.mono _ _ _ _
      | exact LeO.none _
      | refine LeO.ite ?_ ?_
      | refine LeO.bind ?_ (fun _ => ?_)
theorem orrerylaw21_OrderMore.mono : ∀ a0 a1 a2 a3 a4 k, LeO (orrerylaw21_OrderMore.f k a0 a1 a2 a3 a4) (orrerylaw21_OrderMore.f (k + 1) a0 a1 a2 a3 a4) := by
 intro a0 a1 a2 a3 a4 k
 obtain ⟨ih0, ih1, ih2, ih3, ih4, ih5, ih6, ih7⟩ := orrerylaw21_OrderMore.mono_l k
 unfold orrerylaw21_OrderMore.f
 repeat' first
     | (with_reducible exact ih0 _ _ _ _ _ _)
     | (with_reducible exact ih1 _ _ _ _ _ _ _ _ _ _ _)
     | (with_reducible exact ih2 _ _ _ _ _ _ _ _ _ _ _ _ _ _ _ _ _)
     | (with_reducible exact ih3 _ _ _ _ _ _ _ _ _ _ _ _ _ _ _)
     | (with_reducible exact ih4 _ _ _ _ _ _ _ _)
     | (with_reducible exact ih5 _ _ _)
     | (with_reducible exact ih6 _ _ _ _)
     | (with_reducible exact ih7 _ _ _ _ _ _ _ _ _ _)
     | (with_reducible exact order_Blocks.mono _ _ _ _)
     | (with_reducible exact orreryref17_Ints.mono _ _ _)
     | (with_reducible exact orreryref20_Told.mono _ _ _ _)
     | (with_reducible exact LeO.refl _)
     | (with_reducible exact LeO.none _)
     | (with_reducible refine LeO.ite ?_ ?_)
     | (with_reducible refine LeO.bind ?_ (fun _ => ?_))
     | exact ih0 _ _ _ _ _ _
     | exact ih1 _ _ _ _ _ _ _ _ _ _ _
     | exact ih2 _ _ _ _ _ _ _ _ _ _ _ _ _ _ _ _ _
     | exact ih3 _ _ _ _ _ _ _ _ _ _ _ _ _ _ _
     | exact ih4 _ _ _ _ _ _ _ _
     | exact ih5 _ _ _
     | exact ih6 _ _ _ _
     | exact ih7 _ _ _ _ _ _ _ _ _ _
     | exact order_Blocks.mono _ _ _ _
     | exact orreryref17_Ints.mono _ _ _
     | exact orreryref20_Told.mono _ _ _ _
     | exact LeO.none _
     | refine LeO.ite ?_ ?_
     | refine LeO.bind ?_ (fun _ => ?_)
set_option maxHeartbeats 8000000 in
set_option maxRecDepth 100000 in
theorem orrerylaw21_OrderMore.calls (k : Nat) (a0 : Int) (A1 : Option Addr) (c1 : Nat) (l1 : List (S33)) (A2 : Option Addr) (c2 : Nat) (l2 : List Int) (a3 : Int) (a4 : Int) (r : Bool) (w : World) (hr1 : Kd.C k33 w A1 l1.length l1) (hc1 : l1.length ≤ c1) (hr2 : Kd.C (Kd.int .i64) w A2 l2.length l2) (hc2 : l2.length ≤ c2) (h : orrerylaw21_OrderMore.f k a0 l1 l2 a3 a4 = some r) :
    Calls Try.prog 6 #[.int .i64 a0, .slice A1 l1.length c1, .slice A2 l2.length c2, .int .i64 a3, .int .i64 a4] w fun e w' => e = .returned (.bool r) ∧ Below w.heap.size w w' := by
 have hu30 := Try.underlying30
 have hu33 := Try.underlying33
 have HR1 := Aside0.mk hr1
 have HC1 := Aside0.mk hc1
 clear hr1 hc1
 have HR2 := Aside0.mk hr2
 have HC2 := Aside0.mk hc2
 clear hr2 hc2
 have HB := Aside0.mk (Below.refl w.heap.size w)
 have H : ((orreryref20_Told.f k a0 l1 l2).bind fun t420 => (if t420 = true then (if a0 = 0 then (orrerylaw21_OrderMore.j0 k a0 l1 l2 a3 a4 true) else (orrerylaw21_OrderMore.j0 k a0 l1 l2 a3 a4 (decide ((l1.length : Int) > 4000)))) else (orrerylaw21_OrderMore.j0 k a0 l1 l2 a3 a4 true))) = some r := h
 clear h
 have HC6 := Aside0.mk H
 clear H
 go_enter Try.func6, Try.ntmps6
 go_upto_region 1 with (fail)
 repeat (go_quiet (fail); go_upto_region 1 with (fail))
 go_cut [41] (fun v41 wc => ∃ (kq : Nat) (x41_5 : Bool), v41 = .bool x41_5 ∧ Aside0 (orrerylaw21_OrderMore.j0 kq a0 l1 l2 a3 a4 x41_5 = some r) ∧ Aside0 (kq ≤ k) ∧ Aside0 (Below w.heap.size w wc))
 case first =>
  have H := HC6.out
  clear HC6
  replace H := Option.bind_eq_some_iff.mp H
  obtain ⟨t420, A70, H⟩ := H
  replace H : (if t420 = true then (if a0 = 0 then (orrerylaw21_OrderMore.j0 k a0 l1 l2 a3 a4 true) else (orrerylaw21_OrderMore.j0 k a0 l1 l2 a3 a4 (decide ((l1.length : Int) > 4000)))) else (orrerylaw21_OrderMore.j0 k a0 l1 l2 a3 a4 true)) = some r := H
  have A7 := Aside0.mk A70
  clear A70
  by_cases c8 : t420 = true
  case neg =>
   replace c8 := Bool.eq_false_iff.mpr c8
   subst c8
   have H1 : (orrerylaw21_OrderMore.j0 k a0 l1 l2 a3 a4 true) = some r := by rw [if_neg (show ¬ (false = true) by decide)] at H; exact H
   clear H
   have H := H1
   clear H1
   have H' := Aside0.mk H
   clear H
   go_wp2_with (first | (go_at_call 12; (with_reducible refine (orreryref20_Told.calls k a0 _ _ l1 _ _ l2 false _ ?side1 ?side2 ?side3 ?side4 A7.out).mono ?_); (case side1 => repeat (first | exact (Kd.C_below HR1.out HB.out) | (with_reducible refine Kd.C_alloc ?_ _) | (with_reducible refine Kd.C_drewN ?_ _) | (with_reducible refine Kd.C_drew ?_))); (case side2 => exact HC1.out); (case side3 => repeat (first | exact (Kd.C_below HR2.out HB.out) | (with_reducible refine Kd.C_alloc ?_ _) | (with_reducible refine Kd.C_drewN ?_ _) | (with_reducible refine Kd.C_drew ?_))); (case side4 => exact HC2.out); rintro e w12 ⟨rfl, hb⟩; have n0_ := Aside0.mk (below_step (by repeat (first | (with_reducible first | exact HB.out | apply below_alloc | apply pw_below_drewN | apply below_drew1) | exact HB.out)) hb); clear HB; have HB := n0_; clear n0_; (try clear hb); (try clear hb2); (try clear hk); (try clear hi)))
   repeat (go_quiet (first | (go_at_call 12; (with_reducible refine (orreryref20_Told.calls k a0 _ _ l1 _ _ l2 false _ ?side1 ?side2 ?side3 ?side4 A7.out).mono ?_); (case side1 => repeat (first | exact (Kd.C_below HR1.out HB.out) | (with_reducible refine Kd.C_alloc ?_ _) | (with_reducible refine Kd.C_drewN ?_ _) | (with_reducible refine Kd.C_drew ?_))); (case side2 => exact HC1.out); (case side3 => repeat (first | exact (Kd.C_below HR2.out HB.out) | (with_reducible refine Kd.C_alloc ?_ _) | (with_reducible refine Kd.C_drewN ?_ _) | (with_reducible refine Kd.C_drew ?_))); (case side4 => exact HC2.out); rintro e w12 ⟨rfl, hb⟩; have n0_ := Aside0.mk (below_step (by repeat (first | (with_reducible first | exact HB.out | apply below_alloc | apply pw_below_drewN | apply below_drew1) | exact HB.out)) hb); clear HB; have HB := n0_; clear n0_; (try clear hb); (try clear hb2); (try clear hk); (try clear hi))); try go_wp2_with (first | (go_at_call 12; (with_reducible refine (orreryref20_Told.calls k a0 _ _ l1 _ _ l2 false _ ?side1 ?side2 ?side3 ?side4 A7.out).mono ?_); (case side1 => repeat (first | exact (Kd.C_below HR1.out HB.out) | (with_reducible refine Kd.C_alloc ?_ _) | (with_reducible refine Kd.C_drewN ?_ _) | (with_reducible refine Kd.C_drew ?_))); (case side2 => exact HC1.out); (case side3 => repeat (first | exact (Kd.C_below HR2.out HB.out) | (with_reducible refine Kd.C_alloc ?_ _) | (with_reducible refine Kd.C_drewN ?_ _) | (with_reducible refine Kd.C_drew ?_))); (case side4 => exact HC2.out); rintro e w12 ⟨rfl, hb⟩; have n0_ := Aside0.mk (below_step (by repeat (first | (with_reducible first | exact HB.out | apply below_alloc | apply pw_below_drewN | apply below_drew1) | exact HB.out)) hb); clear HB; have HB := n0_; clear n0_; (try clear hb); (try clear hb2); (try clear hk); (try clear hi))))
   go_meet
   case rel => exact ⟨_, (true), (by first | rfl | (simp; done) | (simp [*]; done)), H', ⟨by first | omega | exact Nat.le_refl _⟩, ⟨by repeat (first | (with_reducible first | exact HB.out | apply below_alloc | apply pw_below_drewN | apply below_drew1) | exact HB.out)⟩⟩
  subst c8
  have H1 : (if a0 = 0 then (orrerylaw21_OrderMore.j0 k a0 l1 l2 a3 a4 true) else (orrerylaw21_OrderMore.j0 k a0 l1 l2 a3 a4 (decide ((l1.length : Int) > 4000)))) = some r := by rw [if_pos rfl] at H; exact H
  clear H
  have H := H1
  clear H1
  by_cases c9 : a0 = 0
  case pos =>
   rw [if_pos c9] at H
   have c9b0 : (a0 == 0) = true := beq_iff_eq.mpr c9
   have c9b1 : (a0 != 0) = false := bne_eq_false_iff_eq.mpr c9
   clear c9
   (first | rw [c9b0] | (simp only [i64_w, i32_w]; rw [c9b0]) | skip)
   have H' := Aside0.mk H
   clear H
   go_wp2_with (first | (go_at_call 12; (with_reducible refine (orreryref20_Told.calls k a0 _ _ l1 _ _ l2 true _ ?side1 ?side2 ?side3 ?side4 A7.out).mono ?_); (case side1 => repeat (first | exact (Kd.C_below HR1.out HB.out) | (with_reducible refine Kd.C_alloc ?_ _) | (with_reducible refine Kd.C_drewN ?_ _) | (with_reducible refine Kd.C_drew ?_))); (case side2 => exact HC1.out); (case side3 => repeat (first | exact (Kd.C_below HR2.out HB.out) | (with_reducible refine Kd.C_alloc ?_ _) | (with_reducible refine Kd.C_drewN ?_ _) | (with_reducible refine Kd.C_drew ?_))); (case side4 => exact HC2.out); rintro e w10 ⟨rfl, hb⟩; have n0_ := Aside0.mk (below_step (by repeat (first | (with_reducible first | exact HB.out | apply below_alloc | apply pw_below_drewN | apply below_drew1) | exact HB.out)) hb); clear HB; have HB := n0_; clear n0_; (try clear hb); (try clear hb2); (try clear hk); (try clear hi)))
   repeat (go_quiet (first | (go_at_call 12; (with_reducible refine (orreryref20_Told.calls k a0 _ _ l1 _ _ l2 true _ ?side1 ?side2 ?side3 ?side4 A7.out).mono ?_); (case side1 => repeat (first | exact (Kd.C_below HR1.out HB.out) | (with_reducible refine Kd.C_alloc ?_ _) | (with_reducible refine Kd.C_drewN ?_ _) | (with_reducible refine Kd.C_drew ?_))); (case side2 => exact HC1.out); (case side3 => repeat (first | exact (Kd.C_below HR2.out HB.out) | (with_reducible refine Kd.C_alloc ?_ _) | (with_reducible refine Kd.C_drewN ?_ _) | (with_reducible refine Kd.C_drew ?_))); (case side4 => exact HC2.out); rintro e w10 ⟨rfl, hb⟩; have n0_ := Aside0.mk (below_step (by repeat (first | (with_reducible first | exact HB.out | apply below_alloc | apply pw_below_drewN | apply below_drew1) | exact HB.out)) hb); clear HB; have HB := n0_; clear n0_; (try clear hb); (try clear hb2); (try clear hk); (try clear hi))); try go_wp2_with (first | (go_at_call 12; (with_reducible refine (orreryref20_Told.calls k a0 _ _ l1 _ _ l2 true _ ?side1 ?side2 ?side3 ?side4 A7.out).mono ?_); (case side1 => repeat (first | exact (Kd.C_below HR1.out HB.out) | (with_reducible refine Kd.C_alloc ?_ _) | (with_reducible refine Kd.C_drewN ?_ _) | (with_reducible refine Kd.C_drew ?_))); (case side2 => exact HC1.out); (case side3 => repeat (first | exact (Kd.C_below HR2.out HB.out) | (with_reducible refine Kd.C_alloc ?_ _) | (with_reducible refine Kd.C_drewN ?_ _) | (with_reducible refine Kd.C_drew ?_))); (case side4 => exact HC2.out); rintro e w10 ⟨rfl, hb⟩; have n0_ := Aside0.mk (below_step (by repeat (first | (with_reducible first | exact HB.out | apply below_alloc | apply pw_below_drewN | apply below_drew1) | exact HB.out)) hb); clear HB; have HB := n0_; clear n0_; (try clear hb); (try clear hb2); (try clear hk); (try clear hi))))
   go_meet
   case rel => exact ⟨_, (true), (by first | rfl | (simp; done) | (simp [*]; done)), H', ⟨by first | omega | exact Nat.le_refl _⟩, ⟨by repeat (first | (with_reducible first | exact HB.out | apply below_alloc | apply pw_below_drewN | apply below_drew1) | exact HB.out)⟩⟩
  rw [if_neg c9] at H
  have c9b0 : (a0 == 0) = false := beq_eq_false_iff_ne.mpr c9
  have c9b1 : (a0 != 0) = true := bne_iff_ne.mpr c9
  (first | rw [c9b0] | (simp only [i64_w, i32_w]; rw [c9b0]) | skip)
  have H' := Aside0.mk H
  clear H
  go_wp2_with (first | (go_at_call 12; (with_reducible refine (orreryref20_Told.calls k a0 _ _ l1 _ _ l2 true _ ?side1 ?side2 ?side3 ?side4 A7.out).mono ?_); (case side1 => repeat (first | exact (Kd.C_below HR1.out HB.out) | (with_reducible refine Kd.C_alloc ?_ _) | (with_reducible refine Kd.C_drewN ?_ _) | (with_reducible refine Kd.C_drew ?_))); (case side2 => exact HC1.out); (case side3 => repeat (first | exact (Kd.C_below HR2.out HB.out) | (with_reducible refine Kd.C_alloc ?_ _) | (with_reducible refine Kd.C_drewN ?_ _) | (with_reducible refine Kd.C_drew ?_))); (case side4 => exact HC2.out); rintro e w11 ⟨rfl, hb⟩; have n0_ := Aside0.mk (below_step (by repeat (first | (with_reducible first | exact HB.out | apply below_alloc | apply pw_below_drewN | apply below_drew1) | exact HB.out)) hb); clear HB; have HB := n0_; clear n0_; (try clear hb); (try clear hb2); (try clear hk); (try clear hi)))
  repeat (go_quiet (first | (go_at_call 12; (with_reducible refine (orreryref20_Told.calls k a0 _ _ l1 _ _ l2 true _ ?side1 ?side2 ?side3 ?side4 A7.out).mono ?_); (case side1 => repeat (first | exact (Kd.C_below HR1.out HB.out) | (with_reducible refine Kd.C_alloc ?_ _) | (with_reducible refine Kd.C_drewN ?_ _) | (with_reducible refine Kd.C_drew ?_))); (case side2 => exact HC1.out); (case side3 => repeat (first | exact (Kd.C_below HR2.out HB.out) | (with_reducible refine Kd.C_alloc ?_ _) | (with_reducible refine Kd.C_drewN ?_ _) | (with_reducible refine Kd.C_drew ?_))); (case side4 => exact HC2.out); rintro e w11 ⟨rfl, hb⟩; have n0_ := Aside0.mk (below_step (by repeat (first | (with_reducible first | exact HB.out | apply below_alloc | apply pw_below_drewN | apply below_drew1) | exact HB.out)) hb); clear HB; have HB := n0_; clear n0_; (try clear hb); (try clear hb2); (try clear hk); (try clear hi))); try go_wp2_with (first | (go_at_call 12; (with_reducible refine (orreryref20_Told.calls k a0 _ _ l1 _ _ l2 true _ ?side1 ?side2 ?side3 ?side4 A7.out).mono ?_); (case side1 => repeat (first | exact (Kd.C_below HR1.out HB.out) | (with_reducible refine Kd.C_alloc ?_ _) | (with_reducible refine Kd.C_drewN ?_ _) | (with_reducible refine Kd.C_drew ?_))); (case side2 => exact HC1.out); (case side3 => repeat (first | exact (Kd.C_below HR2.out HB.out) | (with_reducible refine Kd.C_alloc ?_ _) | (with_reducible refine Kd.C_drewN ?_ _) | (with_reducible refine Kd.C_drew ?_))); (case side4 => exact HC2.out); rintro e w11 ⟨rfl, hb⟩; have n0_ := Aside0.mk (below_step (by repeat (first | (with_reducible first | exact HB.out | apply below_alloc | apply pw_below_drewN | apply below_drew1) | exact HB.out)) hb); clear HB; have HB := n0_; clear n0_; (try clear hb); (try clear hb2); (try clear hk); (try clear hi))))
  go_meet
  case rel => exact ⟨_, (decide ((l1.length : Int) > 4000)), (by first | rfl | (simp; done) | (simp [*]; done)), H', ⟨by first | omega | exact Nat.le_refl _⟩, ⟨by repeat (first | (with_reducible first | exact HB.out | apply below_alloc | apply pw_below_drewN | apply below_drew1) | exact HB.out)⟩⟩
 case rest =>
  clear HC6
  try clear c1
  try clear c2
  try clear p2
  try clear c6
  try clear c8
  try clear c9
  try clear c9b0
  try clear c9b1
  obtain ⟨kq, x41_5, rfl, HA, HJ5, HB⟩ := hcut
  cases kq with
  | zero => exact absurd HA.out (by simp [orrerylaw21_OrderMore.j0])
  | succ kj5 =>
   have H := HA.out
   clear HA
   simp only [orrerylaw21_OrderMore.j0] at H
   by_cases c13 : x41_5 = true
   case pos =>
    subst c13
    have H1 : (some true) = some r := by rw [if_pos rfl] at H; exact H
    clear H
    have H := H1
    clear H1
    obtain rfl := Option.some.inj H
    go_wp2
    repeat (go_quiet (fail); try go_wp2)
    go_ret
    exact ⟨by first | rfl | (simp [errW_none, errW_some] <;> rfl) | (simp [*, errW_none, errW_some] <;> rfl), by repeat (first | (with_reducible first | exact HB.out | apply below_alloc | apply pw_below_drewN | apply below_drew1) | exact HB.out)⟩
   replace c13 := Bool.eq_false_iff.mpr c13
   subst c13
   have H1 : ((order_Blocks.f kj5 a0 l1 l2).bind fun bt421 => (if bt421.2 = 0 then (if a0 = 0 then (none) else (orrerylaw21_OrderMore.l0 kj5 a0 l1 l2 (Int.tmod (wrap64 ((Int.tmod a3 a0) + a0)) a0) (Int.tmod (wrap64 ((Int.tmod a4 a0) + a0)) a0) bt421.1 (-1) (-1) bt421.1 (bt421.1.length : Int) 0)) else (some false))) = some r := by rw [if_neg (show ¬ (false = true) by decide)] at H; exact H
   clear H
   have H := H1
   clear H1
   replace H := Option.bind_eq_some_iff.mp H
   obtain ⟨⟨t421, t422⟩, A140, H⟩ := H
   replace H : (if t422 = 0 then (if a0 = 0 then (none) else (orrerylaw21_OrderMore.l0 kj5 a0 l1 l2 (Int.tmod (wrap64 ((Int.tmod a3 a0) + a0)) a0) (Int.tmod (wrap64 ((Int.tmod a4 a0) + a0)) a0) t421 (-1) (-1) t421 (t421.length : Int) 0)) else (some false)) = some r := H
   have A14 := Aside0.mk A140
   clear A140
   by_cases c15 : t422 = 0
   case neg =>
    rw [if_neg c15] at H
    have c15b0 : (t422 == 0) = false := beq_eq_false_iff_ne.mpr c15
    have c15b1 : (t422 != 0) = true := bne_iff_ne.mpr c15
    obtain rfl := Option.some.inj H
    go_wp2_with (first | (go_at_call 9; (with_reducible refine (order_Blocks.calls kj5 a0 _ _ l1 _ _ l2 t421 t422 _ ?side1 ?side2 ?side3 ?side4 A14.out).mono ?_); (case side1 => repeat (first | exact (Kd.C_below HR1.out HB.out) | (with_reducible refine Kd.C_alloc ?_ _) | (with_reducible refine Kd.C_drewN ?_ _) | (with_reducible refine Kd.C_drew ?_))); (case side2 => exact HC1.out); (case side3 => repeat (first | exact (Kd.C_below HR2.out HB.out) | (with_reducible refine Kd.C_alloc ?_ _) | (with_reducible refine Kd.C_drewN ?_ _) | (with_reducible refine Kd.C_drew ?_))); (case side4 => exact HC2.out); rintro e w74 ⟨v423, rfl, ho0, hb⟩; have n0_ := Aside0.mk (Kd.S_lower ho0 (below_size (by repeat (first | (with_reducible first | exact HB.out | apply below_alloc | apply pw_below_drewN | apply below_drew1) | exact HB.out)))); have n1_ := Aside0.mk (below_step (by repeat (first | (with_reducible first | exact HB.out | apply below_alloc | apply pw_below_drewN | apply below_drew1) | exact HB.out)) hb); clear HB; have HO424 := n0_; have HB := n1_; clear n0_ n1_; (try clear hb); (try clear hb2); (try clear hk); (try clear hi); (try clear ho0)))
    repeat (go_quiet (first | (go_at_call 9; (with_reducible refine (order_Blocks.calls kj5 a0 _ _ l1 _ _ l2 t421 t422 _ ?side1 ?side2 ?side3 ?side4 A14.out).mono ?_); (case side1 => repeat (first | exact (Kd.C_below HR1.out HB.out) | (with_reducible refine Kd.C_alloc ?_ _) | (with_reducible refine Kd.C_drewN ?_ _) | (with_reducible refine Kd.C_drew ?_))); (case side2 => exact HC1.out); (case side3 => repeat (first | exact (Kd.C_below HR2.out HB.out) | (with_reducible refine Kd.C_alloc ?_ _) | (with_reducible refine Kd.C_drewN ?_ _) | (with_reducible refine Kd.C_drew ?_))); (case side4 => exact HC2.out); rintro e w74 ⟨v423, rfl, ho0, hb⟩; have n0_ := Aside0.mk (Kd.S_lower ho0 (below_size (by repeat (first | (with_reducible first | exact HB.out | apply below_alloc | apply pw_below_drewN | apply below_drew1) | exact HB.out)))); have n1_ := Aside0.mk (below_step (by repeat (first | (with_reducible first | exact HB.out | apply below_alloc | apply pw_below_drewN | apply below_drew1) | exact HB.out)) hb); clear HB; have HO424 := n0_; have HB := n1_; clear n0_ n1_; (try clear hb); (try clear hb2); (try clear hk); (try clear hi); (try clear ho0))); try go_wp2_with (first | (go_at_call 9; (with_reducible refine (order_Blocks.calls kj5 a0 _ _ l1 _ _ l2 t421 t422 _ ?side1 ?side2 ?side3 ?side4 A14.out).mono ?_); (case side1 => repeat (first | exact (Kd.C_below HR1.out HB.out) | (with_reducible refine Kd.C_alloc ?_ _) | (with_reducible refine Kd.C_drewN ?_ _) | (with_reducible refine Kd.C_drew ?_))); (case side2 => exact HC1.out); (case side3 => repeat (first | exact (Kd.C_below HR2.out HB.out) | (with_reducible refine Kd.C_alloc ?_ _) | (with_reducible refine Kd.C_drewN ?_ _) | (with_reducible refine Kd.C_drew ?_))); (case side4 => exact HC2.out); rintro e w74 ⟨v423, rfl, ho0, hb⟩; have n0_ := Aside0.mk (Kd.S_lower ho0 (below_size (by repeat (first | (with_reducible first | exact HB.out | apply below_alloc | apply pw_below_drewN | apply below_drew1) | exact HB.out)))); have n1_ := Aside0.mk (below_step (by repeat (first | (with_reducible first | exact HB.out | apply below_alloc | apply pw_below_drewN | apply below_drew1) | exact HB.out)) hb); clear HB; have HO424 := n0_; have HB := n1_; clear n0_ n1_; (try clear hb); (try clear hb2); (try clear hk); (try clear hi); (try clear ho0))))
    go_ret
    exact ⟨by first | rfl | (simp [errW_none, errW_some] <;> rfl) | (simp [*, errW_none, errW_some] <;> rfl), by repeat (first | (with_reducible first | exact HB.out | apply below_alloc | apply pw_below_drewN | apply below_drew1) | exact HB.out)⟩
   rw [if_pos c15] at H
   have c15b0 : (t422 == 0) = true := beq_iff_eq.mpr c15
   have c15b1 : (t422 != 0) = false := bne_eq_false_iff_eq.mpr c15
   clear c15
   by_cases c16 : a0 = 0
   case pos => rw [if_pos c16] at H; exact absurd H (by simp)
   rw [if_neg c16] at H
   have c16b0 : (a0 == 0) = false := beq_eq_false_iff_ne.mpr c16
   have c16b1 : (a0 != 0) = true := bne_iff_ne.mpr c16
   have H' := Aside0.mk H
   clear H
   go_wp2_with (first | (go_at_call 9; (with_reducible refine (order_Blocks.calls kj5 a0 _ _ l1 _ _ l2 t421 t422 _ ?side1 ?side2 ?side3 ?side4 A14.out).mono ?_); (case side1 => repeat (first | exact (Kd.C_below HR1.out HB.out) | (with_reducible refine Kd.C_alloc ?_ _) | (with_reducible refine Kd.C_drewN ?_ _) | (with_reducible refine Kd.C_drew ?_))); (case side2 => exact HC1.out); (case side3 => repeat (first | exact (Kd.C_below HR2.out HB.out) | (with_reducible refine Kd.C_alloc ?_ _) | (with_reducible refine Kd.C_drewN ?_ _) | (with_reducible refine Kd.C_drew ?_))); (case side4 => exact HC2.out); rintro e w17 ⟨v423, rfl, ho0, hb⟩; have n0_ := Aside0.mk (Kd.S_lower ho0 (below_size (by repeat (first | (with_reducible first | exact HB.out | apply below_alloc | apply pw_below_drewN | apply below_drew1) | exact HB.out)))); have n1_ := Aside0.mk (below_step (by repeat (first | (with_reducible first | exact HB.out | apply below_alloc | apply pw_below_drewN | apply below_drew1) | exact HB.out)) hb); clear HB; have HO424 := n0_; have HB := n1_; clear n0_ n1_; (try clear hb); (try clear hb2); (try clear hk); (try clear hi); (try clear ho0); obtain ⟨Ao18, co18, eo18⟩ := Kd.S_slice HO424.out; subst eo18))
   repeat (go_quiet (first | (go_at_call 9; (with_reducible refine (order_Blocks.calls kj5 a0 _ _ l1 _ _ l2 t421 t422 _ ?side1 ?side2 ?side3 ?side4 A14.out).mono ?_); (case side1 => repeat (first | exact (Kd.C_below HR1.out HB.out) | (with_reducible refine Kd.C_alloc ?_ _) | (with_reducible refine Kd.C_drewN ?_ _) | (with_reducible refine Kd.C_drew ?_))); (case side2 => exact HC1.out); (case side3 => repeat (first | exact (Kd.C_below HR2.out HB.out) | (with_reducible refine Kd.C_alloc ?_ _) | (with_reducible refine Kd.C_drewN ?_ _) | (with_reducible refine Kd.C_drew ?_))); (case side4 => exact HC2.out); rintro e w17 ⟨v423, rfl, ho0, hb⟩; have n0_ := Aside0.mk (Kd.S_lower ho0 (below_size (by repeat (first | (with_reducible first | exact HB.out | apply below_alloc | apply pw_below_drewN | apply below_drew1) | exact HB.out)))); have n1_ := Aside0.mk (below_step (by repeat (first | (with_reducible first | exact HB.out | apply below_alloc | apply pw_below_drewN | apply below_drew1) | exact HB.out)) hb); clear HB; have HO424 := n0_; have HB := n1_; clear n0_ n1_; (try clear hb); (try clear hb2); (try clear hk); (try clear hi); (try clear ho0); obtain ⟨Ao18, co18, eo18⟩ := Kd.S_slice HO424.out; subst eo18)); try go_wp2_with (first | (go_at_call 9; (with_reducible refine (order_Blocks.calls kj5 a0 _ _ l1 _ _ l2 t421 t422 _ ?side1 ?side2 ?side3 ?side4 A14.out).mono ?_); (case side1 => repeat (first | exact (Kd.C_below HR1.out HB.out) | (with_reducible refine Kd.C_alloc ?_ _) | (with_reducible refine Kd.C_drewN ?_ _) | (with_reducible refine Kd.C_drew ?_))); (case side2 => exact HC1.out); (case side3 => repeat (first | exact (Kd.C_below HR2.out HB.out) | (with_reducible refine Kd.C_alloc ?_ _) | (with_reducible refine Kd.C_drewN ?_ _) | (with_reducible refine Kd.C_drew ?_))); (case side4 => exact HC2.out); rintro e w17 ⟨v423, rfl, ho0, hb⟩; have n0_ := Aside0.mk (Kd.S_lower ho0 (below_size (by repeat (first | (with_reducible first | exact HB.out | apply below_alloc | apply pw_below_drewN | apply below_drew1) | exact HB.out)))); have n1_ := Aside0.mk (below_step (by repeat (first | (with_reducible first | exact HB.out | apply below_alloc | apply pw_below_drewN | apply below_drew1) | exact HB.out)) hb); clear HB; have HO424 := n0_; have HB := n1_; clear n0_ n1_; (try clear hb); (try clear hb2); (try clear hk); (try clear hi); (try clear ho0); obtain ⟨Ao18, co18, eo18⟩ := Kd.S_slice HO424.out; subst eo18)))
   go_loopg [13, 14, 67] kj5 (fun kq v13 v14 v67 w' => ∃ (x13_2 : Int) (x14_2 : Int) (x67_2 : Int), v13 = .int .i64 x13_2 ∧ v14 = .int .i64 x14_2 ∧ v67 = .int .i64 x67_2 ∧ Aside0 (orrerylaw21_OrderMore.l0 kq a0 l1 l2 (Int.tmod (wrap64 ((Int.tmod a3 a0) + a0)) a0) (Int.tmod (wrap64 ((Int.tmod a4 a0) + a0)) a0) t421 x13_2 x14_2 t421 (t421.length : Int) x67_2 = some r) ∧ Aside0 (kq ≤ kj5) ∧ Aside0 (Kd.S k30 30 w' w.heap.size (fun _ => True) (.slice Ao18 t421.length co18) t421) ∧ Aside0 (Kd.S k30 30 w' w.heap.size (fun _ => True) (.slice Ao18 t421.length co18) t421) ∧ Aside0 (Below w.heap.size w w'))
   case atStart => exact ⟨((-1)), ((-1)), (0), (by first | rfl | (simp; done) | (simp [*]; done)), (by first | rfl | (simp; done) | (simp [*]; done)), (by first | rfl | (simp; done) | (simp [*]; done)), H', ⟨Nat.le_refl _⟩, ⟨by (with_reducible repeat (first | apply Kd.S_alloc | apply Kd.S_drewN | apply Kd.S_drew)); exact HO424.out⟩, ⟨by (with_reducible repeat (first | apply Kd.S_alloc | apply Kd.S_drewN | apply Kd.S_drew)); exact HO424.out⟩, ⟨by repeat (first | (with_reducible first | exact HB.out | apply below_alloc | apply pw_below_drewN | apply below_drew1) | exact HB.out)⟩⟩
   case round =>
    clear H'
    try clear c1
    try clear c2
    try clear p2
    try clear c6
    try clear p6
    try clear c8
    try clear c9
    try clear c9b0
    try clear c9b1
    try clear c13
    try clear c15
    try clear c15b0
    try clear c15b1
    try clear c16
    try clear c16b0
    try clear c16b1
    try clear p2
    obtain ⟨x13_2, x14_2, x67_2, rfl, rfl, rfl, HA, HK2, HO_11, HO_65, HB⟩ := hrel
    cases gk with
    | zero => exact absurd HA.out (by simp [orrerylaw21_OrderMore.l0])
    | succ k2 =>
     have H := HA.out
     clear HA
     simp only [orrerylaw21_OrderMore.l0] at H
     by_cases c19 : x67_2 < (t421.length : Int)
     case pos =>
      rw [if_pos c19] at H
      have c19b0 : decide (x67_2 < (t421.length : Int)) = true := decide_eq_true c19
      clear c19
      by_cases c20 : 0 ≤ x67_2
      case neg => rw [if_neg c20] at H; exact absurd H (by simp)
      rw [if_pos c20] at H
      have c20b0 : decide (0 ≤ x67_2) = true := decide_eq_true c20
      clear c20
      by_cases c21 : x67_2 < (t421.length : Int)
      case neg => rw [if_neg c21] at H; exact absurd H (by simp)
      rw [if_pos c21] at H
      have c21b0 : decide (x67_2 < (t421.length : Int)) = true := decide_eq_true c21
      clear c21
      have H' := Aside0.mk H
      clear H
      have p425 : 0 ≤ (x67_2 : Int) := of_decide_eq_true (by first | (with_reducible assumption) | assumption)
      have q425 : x67_2 < (t421.length : Int) := of_decide_eq_true (by first | (with_reducible assumption) | assumption)
      obtain ⟨ad425, A425_0, c425_0, A425_1, c425_1, e425, hx425_0, hx425_1, hl425_0, hi425_0, hl425_1, hi425_1⟩ := at_T30 (Kd.S_reads' HO_65.out).2.2 x67_2 p425 q425
      cases e425
      obtain ⟨ce425, hce425, hMe425, hcc425⟩ := Kd.S_get HO_65.out z30 x67_2 p425 (by first | exact q425 | exact of_decide_eq_true (by first | (with_reducible assumption) | assumption) | (have e_ := (Kd.S_reads' HO_65.out).1; omega))
      obtain ⟨ve425_0, ve425_1, rfl, ge425_0, ge425_1⟩ := k30_openM hMe425
      have hv425_0 := hcc425 0 _ rfl
      rw [Nat.add_zero] at hv425_0
      replace hv425_0 := Option.some.inj (hv425_0.symm.trans hx425_0)
      rw [hv425_0] at ge425_0
      have HL425_0 := Aside0.mk (show Kd.R (Kd.int .i64) 3 _ _ _ _ ((rd_T30 t421 x67_2).f0) from ge425_0)
      clear hv425_0 ge425_0
      have hv425_1 := hcc425 1 _ rfl
      rw [add_field _ _ 1 (by omega)] at hv425_1
      replace hv425_1 := Option.some.inj (hv425_1.symm.trans hx425_1)
      rw [hv425_1] at ge425_1
      have HL425_1 := Aside0.mk (show Kd.R (Kd.int .i64) 3 _ _ _ _ ((rd_T30 t421 x67_2).f1) from ge425_1)
      clear hv425_1 ge425_1
      clear hcc425 hce425
      have HR425_0 := Aside0.mk hi425_0
      have HC425_0 := Aside0.mk hl425_0
      clear hi425_0 hl425_0
      have HR425_1 := Aside0.mk hi425_1
      have HC425_1 := Aside0.mk hl425_1
      clear hi425_1 hl425_1
      replace p425 := eq_true p425
      replace q425 := eq_true q425
      go_wp2_with (first | ((with_reducible refine gate_dst (N := 16) rfl ?_); (try (refine gate_guard (by rfl) ?_; dsimp only)); refine box_event ?hg (N := 16) ?hd (cs := #[.slice none 0 0, .slice none 0 0]) (t := 30) ?hr ?_; (case hd => rfl); (case hg => rfl); (case hr => first | (go_simp; done) | (go_simp; rfl)); intro gb426 hg w22 hbox hb; have n0_ := Aside0.mk (Kd.S_below (Kd.S_elderB (by (with_reducible repeat (first | apply Kd.S_alloc | apply Kd.S_drewN | apply Kd.S_drew)); exact HO_11.out) gb426 (Nat.le_of_eq hg.symm)) hb); have n1_ := Aside0.mk (Kd.S_below (Kd.S_elderB (by (with_reducible repeat (first | apply Kd.S_alloc | apply Kd.S_drewN | apply Kd.S_drew)); exact HO_65.out) gb426 (Nat.le_of_eq hg.symm)) hb); have n2_ := Aside0.mk (Kd.R_below (by (with_reducible repeat (first | apply Kd.R_alloc | apply Kd.R_drewN | apply Kd.R_drew)); exact HL425_0.out) hb); have n3_ := Aside0.mk (Kd.R_below (by (with_reducible repeat (first | apply Kd.R_alloc | apply Kd.R_drewN | apply Kd.R_drew)); exact HL425_1.out) hb); have n4_ := Aside0.mk (Kd.C_below (by repeat (first | (with_reducible exact HR425_0.out) | (with_reducible refine Kd.C_alloc ?_ _) | (with_reducible refine Kd.C_drewN ?_ _) | (with_reducible refine Kd.C_drew ?_) | exact HR425_0.out)) hb); have n5_ := Aside0.mk (Kd.C_below (by repeat (first | (with_reducible exact HR425_1.out) | (with_reducible refine Kd.C_alloc ?_ _) | (with_reducible refine Kd.C_drewN ?_ _) | (with_reducible refine Kd.C_drew ?_) | exact HR425_1.out)) hb); have n6_ := Aside0.mk ((Kd.C_aboveB (by repeat (first | (with_reducible exact HR425_0.out) | (with_reducible refine Kd.C_alloc ?_ _) | (with_reducible refine Kd.C_drewN ?_ _) | (with_reducible refine Kd.C_drew ?_) | exact HR425_0.out)) (by decide) (Nat.le_of_eq hg.symm))); have n7_ := Aside0.mk ((Kd.C_aboveB (by repeat (first | (with_reducible exact HR425_1.out) | (with_reducible refine Kd.C_alloc ?_ _) | (with_reducible refine Kd.C_drewN ?_ _) | (with_reducible refine Kd.C_drew ?_) | exact HR425_1.out)) (by decide) (Nat.le_of_eq hg.symm))); have n8_ := Aside0.mk (below_step (by repeat (first | (with_reducible first | exact HB.out | apply below_alloc | apply pw_below_drewN | apply below_drew1) | exact HB.out)) hb); have n9_ := Aside0.mk (hbox); have n10_ := Aside0.mk ((by rw [hg]; exact (below_size (by repeat (first | (with_reducible first | exact HB.out | apply below_alloc | apply pw_below_drewN | apply below_drew1) | exact HB.out))) : w.heap.size ≤ gb426)); have n11_ := Aside0.mk ((by rw [hg]; exact (below_size (by repeat (first | (with_reducible first | exact HB.out | apply below_alloc | apply pw_below_drewN | apply below_drew1) | exact HB.out))) : w.heap.size ≤ gb426)); clear HO_11; clear HO_65; clear HL425_0; clear HL425_1; clear HR425_0; clear HR425_1; clear HB; have HO_11 := n0_; have HO_65 := n1_; have HL425_0 := n2_; have HL425_1 := n3_; have HR425_0 := n4_; have HR425_1 := n5_; have SF425_0_426 := n6_; have SF425_1_426 := n7_; have HB := n8_; have BK426 := n9_; have GW426 := n10_; have GE426 := n11_; clear n0_ n1_ n2_ n3_ n4_ n5_ n6_ n7_ n8_ n9_ n10_ n11_; clear hb hbox hg; have hcz23_0 : w22.cell? ⟨gb426, 0, none⟩ = some (.slice none 0 0) := (blk_cell BK426.out 0).trans rfl; have hcz23_1 : w22.cell? ⟨gb426, 1, none⟩ = some (.slice none 0 0) := (blk_cell BK426.out 1).trans rfl; have hfz23_0 := blk_frozen BK426.out 0; have hfz23_1 := blk_frozen BK426.out 1))
      repeat (go_quiet (first | ((with_reducible refine gate_dst (N := 16) rfl ?_); (try (refine gate_guard (by rfl) ?_; dsimp only)); refine box_event ?hg (N := 16) ?hd (cs := #[.slice none 0 0, .slice none 0 0]) (t := 30) ?hr ?_; (case hd => rfl); (case hg => rfl); (case hr => first | (go_simp; done) | (go_simp; rfl)); intro gb426 hg w22 hbox hb; have n0_ := Aside0.mk (Kd.S_below (Kd.S_elderB (by (with_reducible repeat (first | apply Kd.S_alloc | apply Kd.S_drewN | apply Kd.S_drew)); exact HO_11.out) gb426 (Nat.le_of_eq hg.symm)) hb); have n1_ := Aside0.mk (Kd.S_below (Kd.S_elderB (by (with_reducible repeat (first | apply Kd.S_alloc | apply Kd.S_drewN | apply Kd.S_drew)); exact HO_65.out) gb426 (Nat.le_of_eq hg.symm)) hb); have n2_ := Aside0.mk (Kd.R_below (by (with_reducible repeat (first | apply Kd.R_alloc | apply Kd.R_drewN | apply Kd.R_drew)); exact HL425_0.out) hb); have n3_ := Aside0.mk (Kd.R_below (by (with_reducible repeat (first | apply Kd.R_alloc | apply Kd.R_drewN | apply Kd.R_drew)); exact HL425_1.out) hb); have n4_ := Aside0.mk (Kd.C_below (by repeat (first | (with_reducible exact HR425_0.out) | (with_reducible refine Kd.C_alloc ?_ _) | (with_reducible refine Kd.C_drewN ?_ _) | (with_reducible refine Kd.C_drew ?_) | exact HR425_0.out)) hb); have n5_ := Aside0.mk (Kd.C_below (by repeat (first | (with_reducible exact HR425_1.out) | (with_reducible refine Kd.C_alloc ?_ _) | (with_reducible refine Kd.C_drewN ?_ _) | (with_reducible refine Kd.C_drew ?_) | exact HR425_1.out)) hb); have n6_ := Aside0.mk ((Kd.C_aboveB (by repeat (first | (with_reducible exact HR425_0.out) | (with_reducible refine Kd.C_alloc ?_ _) | (with_reducible refine Kd.C_drewN ?_ _) | (with_reducible refine Kd.C_drew ?_) | exact HR425_0.out)) (by decide) (Nat.le_of_eq hg.symm))); have n7_ := Aside0.mk ((Kd.C_aboveB (by repeat (first | (with_reducible exact HR425_1.out) | (with_reducible refine Kd.C_alloc ?_ _) | (with_reducible refine Kd.C_drewN ?_ _) | (with_reducible refine Kd.C_drew ?_) | exact HR425_1.out)) (by decide) (Nat.le_of_eq hg.symm))); have n8_ := Aside0.mk (below_step (by repeat (first | (with_reducible first | exact HB.out | apply below_alloc | apply pw_below_drewN | apply below_drew1) | exact HB.out)) hb); have n9_ := Aside0.mk (hbox); have n10_ := Aside0.mk ((by rw [hg]; exact (below_size (by repeat (first | (with_reducible first | exact HB.out | apply below_alloc | apply pw_below_drewN | apply below_drew1) | exact HB.out))) : w.heap.size ≤ gb426)); have n11_ := Aside0.mk ((by rw [hg]; exact (below_size (by repeat (first | (with_reducible first | exact HB.out | apply below_alloc | apply pw_below_drewN | apply below_drew1) | exact HB.out))) : w.heap.size ≤ gb426)); clear HO_11; clear HO_65; clear HL425_0; clear HL425_1; clear HR425_0; clear HR425_1; clear HB; have HO_11 := n0_; have HO_65 := n1_; have HL425_0 := n2_; have HL425_1 := n3_; have HR425_0 := n4_; have HR425_1 := n5_; have SF425_0_426 := n6_; have SF425_1_426 := n7_; have HB := n8_; have BK426 := n9_; have GW426 := n10_; have GE426 := n11_; clear n0_ n1_ n2_ n3_ n4_ n5_ n6_ n7_ n8_ n9_ n10_ n11_; clear hb hbox hg; have hcz23_0 : w22.cell? ⟨gb426, 0, none⟩ = some (.slice none 0 0) := (blk_cell BK426.out 0).trans rfl; have hcz23_1 : w22.cell? ⟨gb426, 1, none⟩ = some (.slice none 0 0) := (blk_cell BK426.out 1).trans rfl; have hfz23_0 := blk_frozen BK426.out 0; have hfz23_1 := blk_frozen BK426.out 1)); try go_wp2_with (first | ((with_reducible refine gate_dst (N := 16) rfl ?_); (try (refine gate_guard (by rfl) ?_; dsimp only)); refine box_event ?hg (N := 16) ?hd (cs := #[.slice none 0 0, .slice none 0 0]) (t := 30) ?hr ?_; (case hd => rfl); (case hg => rfl); (case hr => first | (go_simp; done) | (go_simp; rfl)); intro gb426 hg w22 hbox hb; have n0_ := Aside0.mk (Kd.S_below (Kd.S_elderB (by (with_reducible repeat (first | apply Kd.S_alloc | apply Kd.S_drewN | apply Kd.S_drew)); exact HO_11.out) gb426 (Nat.le_of_eq hg.symm)) hb); have n1_ := Aside0.mk (Kd.S_below (Kd.S_elderB (by (with_reducible repeat (first | apply Kd.S_alloc | apply Kd.S_drewN | apply Kd.S_drew)); exact HO_65.out) gb426 (Nat.le_of_eq hg.symm)) hb); have n2_ := Aside0.mk (Kd.R_below (by (with_reducible repeat (first | apply Kd.R_alloc | apply Kd.R_drewN | apply Kd.R_drew)); exact HL425_0.out) hb); have n3_ := Aside0.mk (Kd.R_below (by (with_reducible repeat (first | apply Kd.R_alloc | apply Kd.R_drewN | apply Kd.R_drew)); exact HL425_1.out) hb); have n4_ := Aside0.mk (Kd.C_below (by repeat (first | (with_reducible exact HR425_0.out) | (with_reducible refine Kd.C_alloc ?_ _) | (with_reducible refine Kd.C_drewN ?_ _) | (with_reducible refine Kd.C_drew ?_) | exact HR425_0.out)) hb); have n5_ := Aside0.mk (Kd.C_below (by repeat (first | (with_reducible exact HR425_1.out) | (with_reducible refine Kd.C_alloc ?_ _) | (with_reducible refine Kd.C_drewN ?_ _) | (with_reducible refine Kd.C_drew ?_) | exact HR425_1.out)) hb); have n6_ := Aside0.mk ((Kd.C_aboveB (by repeat (first | (with_reducible exact HR425_0.out) | (with_reducible refine Kd.C_alloc ?_ _) | (with_reducible refine Kd.C_drewN ?_ _) | (with_reducible refine Kd.C_drew ?_) | exact HR425_0.out)) (by decide) (Nat.le_of_eq hg.symm))); have n7_ := Aside0.mk ((Kd.C_aboveB (by repeat (first | (with_reducible exact HR425_1.out) | (with_reducible refine Kd.C_alloc ?_ _) | (with_reducible refine Kd.C_drewN ?_ _) | (with_reducible refine Kd.C_drew ?_) | exact HR425_1.out)) (by decide) (Nat.le_of_eq hg.symm))); have n8_ := Aside0.mk (below_step (by repeat (first | (with_reducible first | exact HB.out | apply below_alloc | apply pw_below_drewN | apply below_drew1) | exact HB.out)) hb); have n9_ := Aside0.mk (hbox); have n10_ := Aside0.mk ((by rw [hg]; exact (below_size (by repeat (first | (with_reducible first | exact HB.out | apply below_alloc | apply pw_below_drewN | apply below_drew1) | exact HB.out))) : w.heap.size ≤ gb426)); have n11_ := Aside0.mk ((by rw [hg]; exact (below_size (by repeat (first | (with_reducible first | exact HB.out | apply below_alloc | apply pw_below_drewN | apply below_drew1) | exact HB.out))) : w.heap.size ≤ gb426)); clear HO_11; clear HO_65; clear HL425_0; clear HL425_1; clear HR425_0; clear HR425_1; clear HB; have HO_11 := n0_; have HO_65 := n1_; have HL425_0 := n2_; have HL425_1 := n3_; have HR425_0 := n4_; have HR425_1 := n5_; have SF425_0_426 := n6_; have SF425_1_426 := n7_; have HB := n8_; have BK426 := n9_; have GW426 := n10_; have GE426 := n11_; clear n0_ n1_ n2_ n3_ n4_ n5_ n6_ n7_ n8_ n9_ n10_ n11_; clear hb hbox hg; have hcz23_0 : w22.cell? ⟨gb426, 0, none⟩ = some (.slice none 0 0) := (blk_cell BK426.out 0).trans rfl; have hcz23_1 : w22.cell? ⟨gb426, 1, none⟩ = some (.slice none 0 0) := (blk_cell BK426.out 1).trans rfl; have hfz23_0 := blk_frozen BK426.out 0; have hfz23_1 := blk_frozen BK426.out 1)))
      go_loopg [13, 75] k2 (fun kq v13 v75 w' => ∃ (x13_3 : Int) (x75_3 : Int), v13 = .int .i64 x13_3 ∧ v75 = .int .i64 x75_3 ∧ Aside0 (orrerylaw21_OrderMore.l1 kq a0 l1 l2 (Int.tmod (wrap64 ((Int.tmod a3 a0) + a0)) a0) (Int.tmod (wrap64 ((Int.tmod a4 a0) + a0)) a0) t421 x13_3 x14_2 x67_2 t421 (t421.length : Int) x67_2 ((rd_T30 t421 x67_2).f0) (((rd_T30 t421 x67_2).f0).length : Int) x75_3 ((rd_T30 t421 x67_2).f0) ((rd_T30 t421 x67_2).f1) = some r) ∧ Aside0 (kq ≤ k2) ∧ Aside0 (Kd.S k30 30 w' w.heap.size (fun k_ => k_ ≠ gb426) (.slice (some ad425) t421.length co18) t421) ∧ Aside0 (Kd.S k30 30 w' w.heap.size (fun k_ => k_ ≠ gb426) (.slice (some ad425) t421.length co18) t421) ∧ Aside0 (w'.heap[gb426]? = some (.cells #[(.slice A425_0 ((rd_T30 t421 x67_2).f0).length c425_0), (.slice A425_1 ((rd_T30 t421 x67_2).f1).length c425_1)] 30 (0, 0))) ∧ Aside0 (Kd.C (Kd.int .i64) w' A425_0 ((rd_T30 t421 x67_2).f0).length ((rd_T30 t421 x67_2).f0)) ∧ Aside0 (Kd.C (Kd.int .i64) w' A425_1 ((rd_T30 t421 x67_2).f1).length ((rd_T30 t421 x67_2).f1)) ∧ Aside0 (Below w.heap.size w w'))
      case atStart => exact ⟨(x13_2), (0), (by first | rfl | (simp; done) | (simp [*]; done)), (by first | rfl | (simp; done) | (simp [*]; done)), H', ⟨Nat.le_refl _⟩, ⟨by (with_reducible repeat (first | apply Kd.S_alloc | apply Kd.S_drewN | apply Kd.S_drew)); exact Kd.S_mono (Kd.S_far (p := ⟨gb426, 1, none⟩) (Kd.S_far (p := ⟨gb426, 0, none⟩) (Kd.S_mono HO_11.out (fun k_ hk => (⟨hk, hk.2⟩ : _ ∧ k_ ≠ gb426))) (fun _ hk => hk.2) (.slice A425_0 ((rd_T30 t421 x67_2).f0).length c425_0)) (fun _ hk => hk.2) (.slice A425_1 ((rd_T30 t421 x67_2).f1).length c425_1)) (fun _ hk => hk.1.2)⟩, ⟨by (with_reducible repeat (first | apply Kd.S_alloc | apply Kd.S_drewN | apply Kd.S_drew)); exact Kd.S_mono (Kd.S_far (p := ⟨gb426, 1, none⟩) (Kd.S_far (p := ⟨gb426, 0, none⟩) (Kd.S_mono HO_65.out (fun k_ hk => (⟨hk, hk.2⟩ : _ ∧ k_ ≠ gb426))) (fun _ hk => hk.2) (.slice A425_0 ((rd_T30 t421 x67_2).f0).length c425_0)) (fun _ hk => hk.2) (.slice A425_1 ((rd_T30 t421 x67_2).f1).length c425_1)) (fun _ hk => hk.1.2)⟩, ⟨by (with_reducible repeat (first | refine blk_drewN ?_ _ | refine blk_drew ?_ | refine blk_alloc ?_ _)); refine blk_put (cs := #[.slice A425_0 ((rd_T30 t421 x67_2).f0).length c425_0, .slice none 0 0]) ?_ 1 _ rfl; (with_reducible repeat (first | refine blk_drewN ?_ _ | refine blk_drew ?_ | refine blk_alloc ?_ _)); refine blk_put (cs := #[.slice none 0 0, .slice none 0 0]) ?_ 0 _ rfl; (with_reducible repeat (first | refine blk_drewN ?_ _ | refine blk_drew ?_ | refine blk_alloc ?_ _)); exact BK426.out⟩, ⟨(Kd.R_reads' (by (with_reducible repeat (first | apply Kd.R_alloc | apply Kd.R_drewN | apply Kd.R_drew)); exact (Kd.R_mono (Kd.R_far (p := ⟨gb426, 1, none⟩) (Kd.R_far (p := ⟨gb426, 0, none⟩) (Kd.R_types HL425_0.out BK426.out (by decide)) (fun _ hk => hk.2) (.slice A425_0 ((rd_T30 t421 x67_2).f0).length c425_0)) (fun _ hk => hk.2) (.slice A425_1 ((rd_T30 t421 x67_2).f1).length c425_1)) (fun _ h_ => h_.1)))).2.2⟩, ⟨(Kd.R_reads' (by (with_reducible repeat (first | apply Kd.R_alloc | apply Kd.R_drewN | apply Kd.R_drew)); exact (Kd.R_mono (Kd.R_far (p := ⟨gb426, 1, none⟩) (Kd.R_far (p := ⟨gb426, 0, none⟩) (Kd.R_types HL425_1.out BK426.out (by decide)) (fun _ hk => hk.2) (.slice A425_0 ((rd_T30 t421 x67_2).f0).length c425_0)) (fun _ hk => hk.2) (.slice A425_1 ((rd_T30 t421 x67_2).f1).length c425_1)) (fun _ h_ => h_.1)))).2.2⟩, ⟨by repeat (first | (with_reducible first | exact HB.out | apply below_alloc | apply pw_below_drewN | apply below_drew1 | refine below_set ?_ GE426.out) | exact HB.out)⟩⟩
      case round =>
       clear H'
       try clear c1
       try clear c2
       try clear p2
       try clear c4
       try clear p4
       try clear q4
       try clear hx4
       try clear c6
       try clear p6
       try clear c8
       try clear c9
       try clear c9b0
       try clear c9b1
       try clear c13
       try clear c15
       try clear c15b0
       try clear c15b1
       try clear c16
       try clear c16b0
       try clear c16b1
       try clear c19
       try clear c19b0
       try clear c20
       try clear c20b0
       try clear c21
       try clear c21b0
       try clear hcz23_0
       try clear hcz23_1
       try clear hfz23_0
       try clear hfz23_1
       try clear hx425_0
       try clear hx425_1
       try clear p2
       try clear p425
       try clear p6
       try clear q425
       obtain ⟨x13_3, x75_3, rfl, rfl, HA, HK3, HO_11, HO_65, BK426, HR425_0, HR425_1, HB⟩ := hrel
       cases gk with
       | zero => exact absurd HA.out (by simp [orrerylaw21_OrderMore.l1])
       | succ k3 =>
        have H := HA.out
        clear HA
        simp only [orrerylaw21_OrderMore.l1] at H
        by_cases c24 : x75_3 < (((rd_T30 t421 x67_2).f0).length : Int)
        case pos =>
         rw [if_pos c24] at H
         have c24b0 : decide (x75_3 < (((rd_T30 t421 x67_2).f0).length : Int)) = true := decide_eq_true c24
         clear c24
         by_cases c25 : 0 ≤ x75_3
         case neg => rw [if_neg c25] at H; exact absurd H (by simp)
         rw [if_pos c25] at H
         have c25b0 : decide (0 ≤ x75_3) = true := decide_eq_true c25
         clear c25
         by_cases c26 : x75_3 < (((rd_T30 t421 x67_2).f0).length : Int)
         case neg => rw [if_neg c26] at H; exact absurd H (by simp)
         rw [if_pos c26] at H
         have c26b0 : decide (x75_3 < (((rd_T30 t421 x67_2).f0).length : Int)) = true := decide_eq_true c26
         clear c26
         by_cases c27 : (rd ((rd_T30 t421 x67_2).f0) x75_3) = (Int.tmod (wrap64 ((Int.tmod a3 a0) + a0)) a0)
         case neg =>
          rw [if_neg c27] at H
          have c27b0 : ((rd ((rd_T30 t421 x67_2).f0) x75_3) == (Int.tmod (wrap64 ((Int.tmod a3 a0) + a0)) a0)) = false := beq_eq_false_iff_ne.mpr c27
          have c27b1 : ((rd ((rd_T30 t421 x67_2).f0) x75_3) != (Int.tmod (wrap64 ((Int.tmod a3 a0) + a0)) a0)) = true := bne_iff_ne.mpr c27
          have H' := Aside0.mk H
          clear H
          have p427 : 0 ≤ (x75_3 : Int) := of_decide_eq_true (by first | (with_reducible assumption) | assumption)
          have q427 : x75_3 < (((rd_T30 t421 x67_2).f0).length : Int) := of_decide_eq_true (by first | (with_reducible assumption) | assumption)
          obtain ⟨ad427, e427, hx427_0⟩ := Kd.at_int (by repeat (first | (with_reducible exact HR425_0.out) | (with_reducible refine Kd.C_alloc ?_ _) | (with_reducible refine Kd.C_drewN ?_ _) | (with_reducible refine Kd.C_drew ?_) | exact HR425_0.out)) x75_3 p427 q427
          cases e427
          replace p427 := eq_true p427
          replace q427 := eq_true q427
          go_wp2
          repeat (go_quiet (fail); try go_wp2)
          (first | go_roundg k3 | (refine Handed.intro k3 ?measure ?_; rotate_left; go_step; (repeat apply Exists.intro); (refine ⟨?rel, ?fr_⟩); (case fr_ => (simp only [add_plain]; rfl))))
          case measure => have := HJ5.out; have := HK2.out; have := HK3.out; omega
          case rel => exact ⟨(x13_3), (wrap64 (x75_3 + 1)), (by first | rfl | (simp; done) | (simp [*]; done)), (by first | rfl | (simp; done) | (simp [*]; done)), H', ⟨by have := HJ5.out; have := HK2.out; have := HK3.out; omega⟩, ⟨by (with_reducible repeat (first | apply Kd.S_alloc | apply Kd.S_drewN | apply Kd.S_drew)); exact HO_11.out⟩, ⟨by (with_reducible repeat (first | apply Kd.S_alloc | apply Kd.S_drewN | apply Kd.S_drew)); exact HO_65.out⟩, ⟨by (with_reducible repeat (first | refine blk_drewN ?_ _ | refine blk_drew ?_ | refine blk_alloc ?_ _)); exact BK426.out⟩, ⟨by repeat (first | (with_reducible exact HR425_0.out) | (with_reducible refine Kd.C_alloc ?_ _) | (with_reducible refine Kd.C_drewN ?_ _) | (with_reducible refine Kd.C_drew ?_) | exact HR425_0.out)⟩, ⟨by repeat (first | (with_reducible exact HR425_1.out) | (with_reducible refine Kd.C_alloc ?_ _) | (with_reducible refine Kd.C_drewN ?_ _) | (with_reducible refine Kd.C_drew ?_) | exact HR425_1.out)⟩, ⟨by repeat (first | (with_reducible first | exact HB.out | apply below_alloc | apply pw_below_drewN | apply below_drew1 | refine below_set ?_ GE426.out) | exact HB.out)⟩⟩
         rw [if_pos c27] at H
         have c27b0 : ((rd ((rd_T30 t421 x67_2).f0) x75_3) == (Int.tmod (wrap64 ((Int.tmod a3 a0) + a0)) a0)) = true := beq_iff_eq.mpr c27
         have c27b1 : ((rd ((rd_T30 t421 x67_2).f0) x75_3) != (Int.tmod (wrap64 ((Int.tmod a3 a0) + a0)) a0)) = false := bne_eq_false_iff_eq.mpr c27
         clear c27
         have H' := Aside0.mk H
         clear H
         have p427 : 0 ≤ (x75_3 : Int) := of_decide_eq_true (by first | (with_reducible assumption) | assumption)
         have q427 : x75_3 < (((rd_T30 t421 x67_2).f0).length : Int) := of_decide_eq_true (by first | (with_reducible assumption) | assumption)
         obtain ⟨ad427, e427, hx427_0⟩ := Kd.at_int (by repeat (first | (with_reducible exact HR425_0.out) | (with_reducible refine Kd.C_alloc ?_ _) | (with_reducible refine Kd.C_drewN ?_ _) | (with_reducible refine Kd.C_drew ?_) | exact HR425_0.out)) x75_3 p427 q427
         cases e427
         replace p427 := eq_true p427
         replace q427 := eq_true q427
         go_wp2
         repeat (go_quiet (fail); try go_wp2)
         (first | go_roundg k3 | (refine Handed.intro k3 ?measure ?_; rotate_left; go_step; (repeat apply Exists.intro); (refine ⟨?rel, ?fr_⟩); (case fr_ => (simp only [add_plain]; rfl))))
         case measure => have := HJ5.out; have := HK2.out; have := HK3.out; omega
         case rel => exact ⟨(x67_2), (wrap64 (x75_3 + 1)), (by first | rfl | (simp; done) | (simp [*]; done)), (by first | rfl | (simp; done) | (simp [*]; done)), H', ⟨by have := HJ5.out; have := HK2.out; have := HK3.out; omega⟩, ⟨by (with_reducible repeat (first | apply Kd.S_alloc | apply Kd.S_drewN | apply Kd.S_drew)); exact HO_11.out⟩, ⟨by (with_reducible repeat (first | apply Kd.S_alloc | apply Kd.S_drewN | apply Kd.S_drew)); exact HO_65.out⟩, ⟨by (with_reducible repeat (first | refine blk_drewN ?_ _ | refine blk_drew ?_ | refine blk_alloc ?_ _)); exact BK426.out⟩, ⟨by repeat (first | (with_reducible exact HR425_0.out) | (with_reducible refine Kd.C_alloc ?_ _) | (with_reducible refine Kd.C_drewN ?_ _) | (with_reducible refine Kd.C_drew ?_) | exact HR425_0.out)⟩, ⟨by repeat (first | (with_reducible exact HR425_1.out) | (with_reducible refine Kd.C_alloc ?_ _) | (with_reducible refine Kd.C_drewN ?_ _) | (with_reducible refine Kd.C_drew ?_) | exact HR425_1.out)⟩, ⟨by repeat (first | (with_reducible first | exact HB.out | apply below_alloc | apply pw_below_drewN | apply below_drew1 | refine below_set ?_ GE426.out) | exact HB.out)⟩⟩
        rw [if_neg c24] at H
        have c24b0 : decide (x75_3 < (((rd_T30 t421 x67_2).f0).length : Int)) = false := decide_eq_false c24
        clear c24
        have H' := Aside0.mk H
        clear H
        have hcz28_0 : wr.cell? ⟨gb426, 0, none⟩ = some (.slice A425_0 ((rd_T30 t421 x67_2).f0).length c425_0) := (blk_cell BK426.out 0).trans rfl
        have hcz28_1 : wr.cell? ⟨gb426, 1, none⟩ = some (.slice A425_1 ((rd_T30 t421 x67_2).f1).length c425_1) := (blk_cell BK426.out 1).trans rfl
        have hfz28_0 := blk_frozen BK426.out 0
        have hfz28_1 := blk_frozen BK426.out 1
        go_wp2
        repeat (go_quiet (fail); try go_wp2)
        go_loopg [14, 87] k3 (fun kq v14 v87 w' => ∃ (x14_4 : Int) (x87_4 : Int), v14 = .int .i64 x14_4 ∧ v87 = .int .i64 x87_4 ∧ Aside0 (orrerylaw21_OrderMore.l2 kq a0 l1 l2 (Int.tmod (wrap64 ((Int.tmod a3 a0) + a0)) a0) (Int.tmod (wrap64 ((Int.tmod a4 a0) + a0)) a0) t421 x13_3 x14_4 x67_2 t421 (t421.length : Int) x67_2 ((rd_T30 t421 x67_2).f1) (((rd_T30 t421 x67_2).f1).length : Int) x87_4 = some r) ∧ Aside0 (kq ≤ k3) ∧ Aside0 (Kd.S k30 30 w' w.heap.size (fun k_ => k_ ≠ gb426) (.slice (some ad425) t421.length co18) t421) ∧ Aside0 (Kd.S k30 30 w' w.heap.size (fun k_ => k_ ≠ gb426) (.slice (some ad425) t421.length co18) t421) ∧ Aside0 (w'.heap[gb426]? = some (.cells #[(.slice A425_0 ((rd_T30 t421 x67_2).f0).length c425_0), (.slice A425_1 ((rd_T30 t421 x67_2).f1).length c425_1)] 30 (0, 0))) ∧ Aside0 (Kd.C (Kd.int .i64) w' A425_0 ((rd_T30 t421 x67_2).f0).length ((rd_T30 t421 x67_2).f0)) ∧ Aside0 (Kd.C (Kd.int .i64) w' A425_1 ((rd_T30 t421 x67_2).f1).length ((rd_T30 t421 x67_2).f1)) ∧ Aside0 (Below w.heap.size w w'))
        case atStart => exact ⟨(x14_2), (0), (by first | rfl | (simp; done) | (simp [*]; done)), (by first | rfl | (simp; done) | (simp [*]; done)), H', ⟨Nat.le_refl _⟩, ⟨by (with_reducible repeat (first | apply Kd.S_alloc | apply Kd.S_drewN | apply Kd.S_drew)); exact HO_11.out⟩, ⟨by (with_reducible repeat (first | apply Kd.S_alloc | apply Kd.S_drewN | apply Kd.S_drew)); exact HO_65.out⟩, ⟨by (with_reducible repeat (first | refine blk_drewN ?_ _ | refine blk_drew ?_ | refine blk_alloc ?_ _)); exact BK426.out⟩, ⟨by repeat (first | (with_reducible exact HR425_0.out) | (with_reducible refine Kd.C_alloc ?_ _) | (with_reducible refine Kd.C_drewN ?_ _) | (with_reducible refine Kd.C_drew ?_) | exact HR425_0.out)⟩, ⟨by repeat (first | (with_reducible exact HR425_1.out) | (with_reducible refine Kd.C_alloc ?_ _) | (with_reducible refine Kd.C_drewN ?_ _) | (with_reducible refine Kd.C_drew ?_) | exact HR425_1.out)⟩, ⟨by repeat (first | (with_reducible first | exact HB.out | apply below_alloc | apply pw_below_drewN | apply below_drew1 | refine below_set ?_ GE426.out) | exact HB.out)⟩⟩
        case round =>
         clear H'
         try clear c1
         try clear c2
         try clear p2
         try clear c4
         try clear p4
         try clear q4
         try clear hx4
         try clear c6
         try clear p6
         try clear c8
         try clear c9
         try clear c9b0
         try clear c9b1
         try clear c13
         try clear c15
         try clear c15b0
         try clear c15b1
         try clear c16
         try clear c16b0
         try clear c16b1
         try clear c19
         try clear c19b0
         try clear c20
         try clear c20b0
         try clear c21
         try clear c21b0
         try clear c24
         try clear c24b0
         try clear c25
         try clear c25b0
         try clear c26
         try clear c26b0
         try clear c27
         try clear c27b0
         try clear c27b1
         try clear hcz23_0
         try clear hcz23_1
         try clear hcz28_0
         try clear hcz28_1
         try clear hfz23_0
         try clear hfz23_1
         try clear hfz28_0
         try clear hfz28_1
         try clear hx425_0
         try clear hx425_1
         try clear hx427_0
         try clear p2
         try clear p4
         try clear p425
         try clear p427
         try clear p6
         try clear q4
         try clear q425
         try clear q427
         obtain ⟨x14_4, x87_4, rfl, rfl, HA, HK4, HO_11, HO_65, BK426, HR425_0, HR425_1, HB⟩ := hrel
         cases gk with
         | zero => exact absurd HA.out (by simp [orrerylaw21_OrderMore.l2])
         | succ k4 =>
          have H := HA.out
          clear HA
          simp only [orrerylaw21_OrderMore.l2] at H
          by_cases c29 : x87_4 < (((rd_T30 t421 x67_2).f1).length : Int)
          case neg =>
           rw [if_neg c29] at H
           have c29b0 : decide (x87_4 < (((rd_T30 t421 x67_2).f1).length : Int)) = false := decide_eq_false c29
           clear c29
           have H' := Aside0.mk H
           clear H
           go_wp2
           repeat (go_quiet (fail); try go_wp2)
           (first | go_roundg k4 | (refine Handed.intro k4 ?measure ?_; rotate_left; go_step; (repeat apply Exists.intro); (refine ⟨?rel, ?fr_⟩); (case fr_ => (simp only [add_plain]; rfl))))
           case measure => have := HJ5.out; have := HK2.out; have := HK3.out; have := HK4.out; omega
           case rel => exact ⟨(x13_3), (x14_4), (wrap64 (x67_2 + 1)), (by first | rfl | (simp; done) | (simp [*]; done)), (by first | rfl | (simp; done) | (simp [*]; done)), (by first | rfl | (simp; done) | (simp [*]; done)), H', ⟨by have := HJ5.out; have := HK2.out; have := HK3.out; have := HK4.out; omega⟩, ⟨by (with_reducible repeat (first | apply Kd.S_alloc | apply Kd.S_drewN | apply Kd.S_drew)); exact Kd.S_mono HO_11.out (fun _ hk => trivial)⟩, ⟨by (with_reducible repeat (first | apply Kd.S_alloc | apply Kd.S_drewN | apply Kd.S_drew)); exact Kd.S_mono HO_65.out (fun _ hk => trivial)⟩, ⟨by repeat (first | (with_reducible first | exact HB.out | apply below_alloc | apply pw_below_drewN | apply below_drew1 | refine below_set ?_ GE426.out) | exact HB.out)⟩⟩
          rw [if_pos c29] at H
          have c29b0 : decide (x87_4 < (((rd_T30 t421 x67_2).f1).length : Int)) = true := decide_eq_true c29
          clear c29
          by_cases c30 : 0 ≤ x87_4
          case neg => rw [if_neg c30] at H; exact absurd H (by simp)
          rw [if_pos c30] at H
          have c30b0 : decide (0 ≤ x87_4) = true := decide_eq_true c30
          clear c30
          by_cases c31 : x87_4 < (((rd_T30 t421 x67_2).f1).length : Int)
          case neg => rw [if_neg c31] at H; exact absurd H (by simp)
          rw [if_pos c31] at H
          have c31b0 : decide (x87_4 < (((rd_T30 t421 x67_2).f1).length : Int)) = true := decide_eq_true c31
          clear c31
          by_cases c32 : (rd ((rd_T30 t421 x67_2).f1) x87_4) = (Int.tmod (wrap64 ((Int.tmod a4 a0) + a0)) a0)
          case neg =>
           rw [if_neg c32] at H
           have c32b0 : ((rd ((rd_T30 t421 x67_2).f1) x87_4) == (Int.tmod (wrap64 ((Int.tmod a4 a0) + a0)) a0)) = false := beq_eq_false_iff_ne.mpr c32
           have c32b1 : ((rd ((rd_T30 t421 x67_2).f1) x87_4) != (Int.tmod (wrap64 ((Int.tmod a4 a0) + a0)) a0)) = true := bne_iff_ne.mpr c32
           have H' := Aside0.mk H
           clear H
           have p428 : 0 ≤ (x87_4 : Int) := of_decide_eq_true (by first | (with_reducible assumption) | assumption)
           have q428 : x87_4 < (((rd_T30 t421 x67_2).f1).length : Int) := of_decide_eq_true (by first | (with_reducible assumption) | assumption)
           obtain ⟨ad428, e428, hx428_0⟩ := Kd.at_int (by repeat (first | (with_reducible exact HR425_1.out) | (with_reducible refine Kd.C_alloc ?_ _) | (with_reducible refine Kd.C_drewN ?_ _) | (with_reducible refine Kd.C_drew ?_) | exact HR425_1.out)) x87_4 p428 q428
           cases e428
           replace p428 := eq_true p428
           replace q428 := eq_true q428
           go_wp2
           repeat (go_quiet (fail); try go_wp2)
           (first | go_roundg k4 | (refine Handed.intro k4 ?measure ?_; rotate_left; go_step; (repeat apply Exists.intro); (refine ⟨?rel, ?fr_⟩); (case fr_ => (simp only [add_plain]; rfl))))
           case measure => have := HJ5.out; have := HK2.out; have := HK3.out; have := HK4.out; omega
           case rel => exact ⟨(x14_4), (wrap64 (x87_4 + 1)), (by first | rfl | (simp; done) | (simp [*]; done)), (by first | rfl | (simp; done) | (simp [*]; done)), H', ⟨by have := HJ5.out; have := HK2.out; have := HK3.out; have := HK4.out; omega⟩, ⟨by (with_reducible repeat (first | apply Kd.S_alloc | apply Kd.S_drewN | apply Kd.S_drew)); exact HO_11.out⟩, ⟨by (with_reducible repeat (first | apply Kd.S_alloc | apply Kd.S_drewN | apply Kd.S_drew)); exact HO_65.out⟩, ⟨by (with_reducible repeat (first | refine blk_drewN ?_ _ | refine blk_drew ?_ | refine blk_alloc ?_ _)); exact BK426.out⟩, ⟨by repeat (first | (with_reducible exact HR425_0.out) | (with_reducible refine Kd.C_alloc ?_ _) | (with_reducible refine Kd.C_drewN ?_ _) | (with_reducible refine Kd.C_drew ?_) | exact HR425_0.out)⟩, ⟨by repeat (first | (with_reducible exact HR425_1.out) | (with_reducible refine Kd.C_alloc ?_ _) | (with_reducible refine Kd.C_drewN ?_ _) | (with_reducible refine Kd.C_drew ?_) | exact HR425_1.out)⟩, ⟨by repeat (first | (with_reducible first | exact HB.out | apply below_alloc | apply pw_below_drewN | apply below_drew1 | refine below_set ?_ GE426.out) | exact HB.out)⟩⟩
          rw [if_pos c32] at H
          have c32b0 : ((rd ((rd_T30 t421 x67_2).f1) x87_4) == (Int.tmod (wrap64 ((Int.tmod a4 a0) + a0)) a0)) = true := beq_iff_eq.mpr c32
          have c32b1 : ((rd ((rd_T30 t421 x67_2).f1) x87_4) != (Int.tmod (wrap64 ((Int.tmod a4 a0) + a0)) a0)) = false := bne_eq_false_iff_eq.mpr c32
          clear c32
          have H' := Aside0.mk H
          clear H
          have p428 : 0 ≤ (x87_4 : Int) := of_decide_eq_true (by first | (with_reducible assumption) | assumption)
          have q428 : x87_4 < (((rd_T30 t421 x67_2).f1).length : Int) := of_decide_eq_true (by first | (with_reducible assumption) | assumption)
          obtain ⟨ad428, e428, hx428_0⟩ := Kd.at_int (by repeat (first | (with_reducible exact HR425_1.out) | (with_reducible refine Kd.C_alloc ?_ _) | (with_reducible refine Kd.C_drewN ?_ _) | (with_reducible refine Kd.C_drew ?_) | exact HR425_1.out)) x87_4 p428 q428
          cases e428
          replace p428 := eq_true p428
          replace q428 := eq_true q428
          go_wp2
          repeat (go_quiet (fail); try go_wp2)
          (first | go_roundg k4 | (refine Handed.intro k4 ?measure ?_; rotate_left; go_step; (repeat apply Exists.intro); (refine ⟨?rel, ?fr_⟩); (case fr_ => (simp only [add_plain]; rfl))))
          case measure => have := HJ5.out; have := HK2.out; have := HK3.out; have := HK4.out; omega
          case rel => exact ⟨(x67_2), (wrap64 (x87_4 + 1)), (by first | rfl | (simp; done) | (simp [*]; done)), (by first | rfl | (simp; done) | (simp [*]; done)), H', ⟨by have := HJ5.out; have := HK2.out; have := HK3.out; have := HK4.out; omega⟩, ⟨by (with_reducible repeat (first | apply Kd.S_alloc | apply Kd.S_drewN | apply Kd.S_drew)); exact HO_11.out⟩, ⟨by (with_reducible repeat (first | apply Kd.S_alloc | apply Kd.S_drewN | apply Kd.S_drew)); exact HO_65.out⟩, ⟨by (with_reducible repeat (first | refine blk_drewN ?_ _ | refine blk_drew ?_ | refine blk_alloc ?_ _)); exact BK426.out⟩, ⟨by repeat (first | (with_reducible exact HR425_0.out) | (with_reducible refine Kd.C_alloc ?_ _) | (with_reducible refine Kd.C_drewN ?_ _) | (with_reducible refine Kd.C_drew ?_) | exact HR425_0.out)⟩, ⟨by repeat (first | (with_reducible exact HR425_1.out) | (with_reducible refine Kd.C_alloc ?_ _) | (with_reducible refine Kd.C_drewN ?_ _) | (with_reducible refine Kd.C_drew ?_) | exact HR425_1.out)⟩, ⟨by repeat (first | (with_reducible first | exact HB.out | apply below_alloc | apply pw_below_drewN | apply below_drew1 | refine below_set ?_ GE426.out) | exact HB.out)⟩⟩
     rw [if_neg c19] at H
     have c19b0 : decide (x67_2 < (t421.length : Int)) = false := decide_eq_false c19
     clear c19
     have HC33 := Aside0.mk H
     clear H
     go_upto_region 24 with (fail)
     repeat (go_quiet (fail); go_upto_region 24 with (fail))
     go_cut [103] (fun v103 wc => ∃ (kq : Nat) (x103_32 : Bool), v103 = .bool x103_32 ∧ Aside0 (orrerylaw21_OrderMore.j4 kq a0 l1 l2 (Int.tmod (wrap64 ((Int.tmod a3 a0) + a0)) a0) (Int.tmod (wrap64 ((Int.tmod a4 a0) + a0)) a0) t421 x13_2 x103_32 = some r) ∧ Aside0 (kq ≤ k2) ∧ Aside0 (Kd.S k30 30 wc w.heap.size (fun _ => True) (.slice Ao18 t421.length co18) t421) ∧ Aside0 (Below w.heap.size w wc))
     case first =>
      have H := HC33.out
      clear HC33
      by_cases c34 : x13_2 < x14_2
      case pos =>
       rw [if_pos c34] at H
       have c34b0 : decide (x13_2 < x14_2) = true := decide_eq_true c34
       clear c34
       (first | rw [c34b0] | (simp only [i64_w, i32_w]; rw [c34b0]) | skip)
       have H' := Aside0.mk H
       clear H
       go_wp2
       repeat (go_quiet (fail); try go_wp2)
       go_meet
       case rel => exact ⟨_, (true), (by first | rfl | (simp; done) | (simp [*]; done)), H', ⟨by have := HJ5.out; have := HK2.out; first | omega | exact Nat.le_refl _⟩, ⟨by (with_reducible repeat (first | apply Kd.S_alloc | apply Kd.S_drewN | apply Kd.S_drew)); exact HO_11.out⟩, ⟨by repeat (first | (with_reducible first | exact HB.out | apply below_alloc | apply pw_below_drewN | apply below_drew1) | exact HB.out)⟩⟩
      rw [if_neg c34] at H
      have c34b0 : decide (x13_2 < x14_2) = false := decide_eq_false c34
      clear c34
      (first | rw [c34b0] | (simp only [i64_w, i32_w]; rw [c34b0]) | skip)
      have H' := Aside0.mk H
      clear H
      go_wp2
      repeat (go_quiet (fail); try go_wp2)
      go_meet
      case rel => exact ⟨_, (decide (x14_2 < 0)), (by first | rfl | (simp; done) | (simp [*]; done)), H', ⟨by have := HJ5.out; have := HK2.out; first | omega | exact Nat.le_refl _⟩, ⟨by (with_reducible repeat (first | apply Kd.S_alloc | apply Kd.S_drewN | apply Kd.S_drew)); exact HO_11.out⟩, ⟨by repeat (first | (with_reducible first | exact HB.out | apply below_alloc | apply pw_below_drewN | apply below_drew1) | exact HB.out)⟩⟩
     case rest =>
      clear HC33
      try clear c1
      try clear c2
      try clear p2
      try clear c3
      try clear c4
      try clear p4
      try clear q4
      try clear hx4
      try clear c6
      try clear p6
      try clear c8
      try clear c9
      try clear c9b0
      try clear c9b1
      try clear c13
      try clear c15
      try clear c15b0
      try clear c15b1
      try clear c16
      try clear c16b0
      try clear c16b1
      try clear c19
      try clear c19b0
      try clear c20
      try clear c20b0
      try clear c21
      try clear c21b0
      try clear c24
      try clear c24b0
      try clear c25
      try clear c25b0
      try clear c26
      try clear c26b0
      try clear c27
      try clear c27b0
      try clear c27b1
      try clear c29
      try clear c29b0
      try clear c30
      try clear c30b0
      try clear c31
      try clear c31b0
      try clear c32
      try clear c32b0
      try clear c32b1
      try clear c34
      try clear c34b0
      try clear hcz23_0
      try clear hcz23_1
      try clear hcz28_0
      try clear hcz28_1
      try clear hfz23_0
      try clear hfz23_1
      try clear hfz28_0
      try clear hfz28_1
      try clear hx425_0
      try clear hx425_1
      try clear hx427_0
      try clear hx428_0
      try clear p2
      try clear p4
      try clear p425
      try clear p427
      try clear p428
      try clear p6
      try clear q4
      try clear q425
      try clear q427
      try clear q428
      obtain ⟨kq, x103_32, rfl, HA, HJ32, HO_11, HB⟩ := hcut
      cases kq with
      | zero => exact absurd HA.out (by simp [orrerylaw21_OrderMore.j4])
      | succ kj32 =>
       have H := HA.out
       clear HA
       simp only [orrerylaw21_OrderMore.j4] at H
       by_cases c35 : x103_32 = true
       case pos =>
        subst c35
        have H1 : (some (decide (x13_2 ≥ 0))) = some r := by rw [if_pos rfl] at H; exact H
        clear H
        have H := H1
        clear H1
        obtain rfl := Option.some.inj H
        go_wp2
        repeat (go_quiet (fail); try go_wp2)
        go_ret
        exact ⟨by first | rfl | (simp [errW_none, errW_some] <;> rfl) | (simp [*, errW_none, errW_some] <;> rfl), by repeat (first | (with_reducible first | exact HB.out | apply below_alloc | apply pw_below_drewN | apply below_drew1) | exact HB.out)⟩
       replace c35 := Bool.eq_false_iff.mpr c35
       subst c35
       have H1 : ((some (([] : List (S33)) : List (S33))).bind fun y429 => (if y429.length + l1.length < 5864062014805 then ((some (y429 ++ l1 : List (S33))).bind fun y432 => (if y432.length < 5864062014805 then ((order_Blocks.f kj32 a0 (y432 ++ [(⟨(Int.tmod (wrap64 ((Int.tmod a3 a0) + a0)) a0), (Int.tmod (wrap64 ((Int.tmod a4 a0) + a0)) a0), 0⟩ : S33)]) l2).bind fun bt438 => (if bt438.2 = 0 then (orrerylaw21_OrderMore.j5 kj32 t421 bt438.1 ((bt438.1.length : Int) != (t421.length : Int))) else (orrerylaw21_OrderMore.j5 kj32 t421 bt438.1 true))) else (none))) else (none))) = some r := by rw [if_neg (show ¬ (false = true) by decide)] at H; exact H
       clear H
       have H := H1
       clear H1
       obtain ⟨y429, hy429⟩ : ∃ y_ : List (S33), y_ = (([] : List (S33))) := ⟨_, rfl⟩
       replace H : (if y429.length + l1.length < 5864062014805 then ((some (y429 ++ l1 : List (S33))).bind fun y432 => (if y432.length < 5864062014805 then ((order_Blocks.f kj32 a0 (y432 ++ [(⟨(Int.tmod (wrap64 ((Int.tmod a3 a0) + a0)) a0), (Int.tmod (wrap64 ((Int.tmod a4 a0) + a0)) a0), 0⟩ : S33)]) l2).bind fun bt438 => (if bt438.2 = 0 then (orrerylaw21_OrderMore.j5 kj32 t421 bt438.1 ((bt438.1.length : Int) != (t421.length : Int))) else (orrerylaw21_OrderMore.j5 kj32 t421 bt438.1 true))) else (none))) else (none)) = some r := by first | (rw [hy429]; with_reducible exact H) | (have H2_ := (Option.bind_some _ _).symm.trans H; rw [hy429]; with_reducible exact H2_) | (have H2_ := (Option.bind_some _ _).symm.trans H; with_reducible exact H2_) | with_reducible exact H | (rw [hy429]; exact H) | exact H
       have Ny429 := Aside0.mk hy429
       clear hy429
       by_cases c36 : y429.length + l1.length < 5864062014805
       case neg => rw [if_neg c36] at H; exact absurd H (by simp)
       rw [if_pos c36] at H
       have LMc36 := Aside0.mk c36
       clear c36
       obtain ⟨y432, hy432⟩ : ∃ y_ : List (S33), y_ = (y429 ++ l1) := ⟨_, rfl⟩
       replace H : (if y432.length < 5864062014805 then ((order_Blocks.f kj32 a0 (y432 ++ [(⟨(Int.tmod (wrap64 ((Int.tmod a3 a0) + a0)) a0), (Int.tmod (wrap64 ((Int.tmod a4 a0) + a0)) a0), 0⟩ : S33)]) l2).bind fun bt438 => (if bt438.2 = 0 then (orrerylaw21_OrderMore.j5 kj32 t421 bt438.1 ((bt438.1.length : Int) != (t421.length : Int))) else (orrerylaw21_OrderMore.j5 kj32 t421 bt438.1 true))) else (none)) = some r := by first | (rw [hy432]; with_reducible exact H) | (have H2_ := (Option.bind_some _ _).symm.trans H; rw [hy432]; with_reducible exact H2_) | (have H2_ := (Option.bind_some _ _).symm.trans H; with_reducible exact H2_) | with_reducible exact H | (rw [hy432]; exact H) | exact H
       have Ny432 := Aside0.mk hy432
       clear hy432
       by_cases c37 : y432.length < 5864062014805
       case neg => rw [if_neg c37] at H; exact absurd H (by simp)
       rw [if_pos c37] at H
       have LMc37 := Aside0.mk c37
       clear c37
       obtain ⟨y435, hy435⟩ : ∃ y_ : List (S33), y_ = (y432 ++ [(⟨(Int.tmod (wrap64 ((Int.tmod a3 a0) + a0)) a0), (Int.tmod (wrap64 ((Int.tmod a4 a0) + a0)) a0), 0⟩ : S33)]) := ⟨_, rfl⟩
       replace H : ((order_Blocks.f kj32 a0 y435 l2).bind fun bt438 => (if bt438.2 = 0 then (orrerylaw21_OrderMore.j5 kj32 t421 bt438.1 ((bt438.1.length : Int) != (t421.length : Int))) else (orrerylaw21_OrderMore.j5 kj32 t421 bt438.1 true))) = some r := by first | (rw [hy435]; with_reducible exact H) | (have H2_ := (Option.bind_some _ _).symm.trans H; rw [hy435]; with_reducible exact H2_) | (have H2_ := (Option.bind_some _ _).symm.trans H; with_reducible exact H2_) | with_reducible exact H | (rw [hy435]; exact H) | exact H
       have Ny435 := Aside0.mk hy435
       clear hy435
       replace H := Option.bind_eq_some_iff.mp H
       obtain ⟨⟨t438, t439⟩, A380, H⟩ := H
       replace H : (if t439 = 0 then (orrerylaw21_OrderMore.j5 kj32 t421 t438 ((t438.length : Int) != (t421.length : Int))) else (orrerylaw21_OrderMore.j5 kj32 t421 t438 true)) = some r := H
       have A38 := Aside0.mk A380
       clear A380
       have HC39 := Aside0.mk H
       clear H
       go_upto_region 27 with (first | ((with_reducible refine gate_dst (N := 108) rfl ?_); (try (refine gate_guard (by rfl) ?_; dsimp only)); refine Kd.R_lit k33 _ 33 ?hg (N := 108) ?hd (xs := ([] : List (S33))) (inner := []) (ok := fun _ => True) (okp := fun _ => True) ?hr ?hp (fun _ hk => hk) trivial (Below.refl _ _) (Nat.le_refl _) (by simp) ?_; (case hd => rfl); (case hg => rfl); (case hr => first | (go_simp; done) | (go_simp; rfl)); (case hp => exact (Reps.none _ _)); intro v430 w40 ho41 hb hg_ hnew_; clear hg_ hnew_; (first | rw [← Ny429.out] at ho41 | (simp only [Int.reduceToNat] at ho41; rw [← Ny429.out] at ho41)); have n0_ := Aside0.mk (Kd.S_below (by (with_reducible repeat (first | apply Kd.S_alloc | apply Kd.S_drewN | apply Kd.S_drew)); exact HO_11.out) hb); have n1_ := Aside0.mk (Kd.R_lower ho41 (below_size (by repeat (first | (with_reducible first | exact HB.out | apply below_alloc | apply pw_below_drewN | apply below_drew1) | exact HB.out)))); have n2_ := Aside0.mk (below_step (by repeat (first | (with_reducible first | exact HB.out | apply below_alloc | apply pw_below_drewN | apply below_drew1) | exact HB.out)) hb); clear HO_11; clear HB; have HO_11 := n0_; have HO431 := n1_; have HB := n2_; clear n0_ n1_ n2_; clear hb ho41) | ((with_reducible refine gate_builtin (b := .append) (xs := #[.tmp 108, .tmp 109]) rfl ?_); (try (refine gate_guard (by rfl) ?_; dsimp only)); at_builtin; refine Kd.R_append_rows k33 (w0 := w) w.heap.size rfl (.tmp 108) (.tmp 109) 22 33 (.agg #[(.int .i64 0), (.int .i64 0), (.int .i64 0)]) 24 rfl Try.underlying22 info33 rfl (by decide) (by omega) v430 y429 l1 _ _ _ (fun _ => True) (fun _ => False) rfl rfl ?aO ?aR (fun _ _ h => h) (fun _ h => h.elim) ?aF ?aB ?aS ?aL ?_; (case aR => repeat (first | exact (Kd.C_below HR1.out HB.out) | (with_reducible refine Kd.C_alloc ?_ _) | (with_reducible refine Kd.C_drewN ?_ _) | (with_reducible refine Kd.C_drew ?_))); (case aB => exact (by repeat (first | (with_reducible first | exact HB.out | apply below_alloc | apply pw_below_drewN | apply below_drew1) | exact HB.out))); (case aF => exact (fun _ _ => trivial)); (case aO => exact (by (with_reducible repeat (first | apply Kd.R_alloc | apply Kd.R_drewN | apply Kd.R_drew)); exact HO431.out)); (case aS => exact (below_size (by repeat (first | (with_reducible first | exact HB.out | apply below_alloc | apply pw_below_drewN | apply below_drew1) | exact HB.out)))); (case aL => have := LMc36.out; omega); intro v433 w42 ho hb hg hat; rw [← Ny432.out] at ho; have n0_ := Aside0.mk (Kd.S_over' (by (with_reducible repeat (first | apply Kd.S_alloc | apply Kd.S_drewN | apply Kd.S_drew)); exact HO_11.out) (Kd.R_typed (by (with_reducible repeat (first | apply Kd.R_alloc | apply Kd.R_drewN | apply Kd.R_drew)); exact HO431.out)) (by decide) hg); have n1_ := Aside0.mk (hb); have n2_ := Aside0.mk (ho); clear HO_11; clear HB; clear HO431; have HO_11 := n0_; have HB := n1_; have HO434 := n2_; clear n0_ n1_ n2_; clear ho hb hg hat) | ((with_reducible refine gate_builtin (b := .append) (xs := #[.tmp 110, .tmp 114]) rfl ?_); (try (refine gate_guard (by rfl) ?_; dsimp only)); at_builtin; refine Kd.R_append k33 (w0 := w) w.heap.size rfl (.tmp 110) (.tmp 114) 22 33 (.agg #[(.int .i64 0), (.int .i64 0), (.int .i64 0)]) 24 rfl Try.underlying22 info33 rfl (by decide) (by omega) v433 y432 (⟨(Int.tmod (wrap64 ((Int.tmod a3 a0) + a0)) a0), (Int.tmod (wrap64 ((Int.tmod a4 a0) + a0)) a0), 0⟩ : S33) [.int .i64 (Int.tmod (wrap64 ((Int.tmod a3 a0) + a0)) a0), .int .i64 (Int.tmod (wrap64 ((Int.tmod a4 a0) + a0)) a0), .int .i64 0] (fun _ => True) (fun _ => False) rfl rfl ?aP (fun _ hk => hk.elim) ?aF ?aO ?aB ?aS ?aL ?_; (case aP => exact k33_mkM _ _ _ (⟨(Int.tmod (wrap64 ((Int.tmod a3 a0) + a0)) a0), (Int.tmod (wrap64 ((Int.tmod a4 a0) + a0)) a0), 0⟩ : S33)); (case aB => exact (by repeat (first | (with_reducible first | exact HB.out | apply below_alloc | apply pw_below_drewN | apply below_drew1) | exact HB.out))); (case aF => exact (fun _ _ => trivial)); (case aO => exact (by (with_reducible repeat (first | apply Kd.R_alloc | apply Kd.R_drewN | apply Kd.R_drew)); exact HO434.out)); (case aS => exact (below_size (by repeat (first | (with_reducible first | exact HB.out | apply below_alloc | apply pw_below_drewN | apply below_drew1) | exact HB.out)))); (case aL => have := LMc37.out; omega); intro v436 w43 ho hb hg hat; rw [← Ny435.out] at ho; have n0_ := Aside0.mk (Kd.S_over' (by (with_reducible repeat (first | apply Kd.S_alloc | apply Kd.S_drewN | apply Kd.S_drew)); exact HO_11.out) (Kd.R_typed (by (with_reducible repeat (first | apply Kd.R_alloc | apply Kd.R_drewN | apply Kd.R_drew)); exact HO434.out)) (by decide) hg); have n1_ := Aside0.mk (hb); have n2_ := Aside0.mk (ho); clear HO_11; clear HB; clear HO434; have HO_11 := n0_; have HB := n1_; have HO437 := n2_; clear n0_ n1_ n2_; clear ho hb hg hat; obtain ⟨Ao44, co44, eo44⟩ := Kd.R_slice HO437.out; subst eo44) | (go_at_call 9; (with_reducible refine (order_Blocks.calls kj32 a0 _ _ y435 _ _ l2 t438 t439 _ ?side1 ?side2 ?side3 ?side4 A38.out).mono ?_); (case side1 => repeat (first | exact (Kd.R_reads' HO437.out).2.2 | (with_reducible refine Kd.C_alloc ?_ _) | (with_reducible refine Kd.C_drewN ?_ _) | (with_reducible refine Kd.C_drew ?_))); (case side2 => exact (Kd.R_reads' HO437.out).2.1); (case side3 => repeat (first | exact (Kd.C_below HR2.out HB.out) | (with_reducible refine Kd.C_alloc ?_ _) | (with_reducible refine Kd.C_drewN ?_ _) | (with_reducible refine Kd.C_drew ?_))); (case side4 => exact HC2.out); rintro e w45 ⟨v440, rfl, ho0, hb⟩; have n0_ := Aside0.mk (Kd.S_elder' (by (with_reducible repeat (first | apply Kd.S_alloc | apply Kd.S_drewN | apply Kd.S_drew)); exact HO_11.out) (Kd.S_base ho0) hb); have n1_ := Aside0.mk (Kd.R_below (by (with_reducible repeat (first | apply Kd.R_alloc | apply Kd.R_drewN | apply Kd.R_drew)); exact HO437.out) hb); have n2_ := Aside0.mk (Kd.S_lower (Kd.S_new' ho0 (Kd.S_lt (by (with_reducible repeat (first | apply Kd.S_alloc | apply Kd.S_drewN | apply Kd.S_drew)); exact HO_11.out))) (below_size (by repeat (first | (with_reducible first | exact HB.out | apply below_alloc | apply pw_below_drewN | apply below_drew1) | exact HB.out)))); have n3_ := Aside0.mk (below_step (by repeat (first | (with_reducible first | exact HB.out | apply below_alloc | apply pw_below_drewN | apply below_drew1) | exact HB.out)) hb); clear HO_11; clear HO437; clear HB; have HO_11 := n0_; have HO437 := n1_; have HO441 := n2_; have HB := n3_; clear n0_ n1_ n2_ n3_; (try clear hb); (try clear hb2); (try clear hk); (try clear hi); (try clear ho0)))
       repeat (go_quiet (first | ((with_reducible refine gate_dst (N := 108) rfl ?_); (try (refine gate_guard (by rfl) ?_; dsimp only)); refine Kd.R_lit k33 _ 33 ?hg (N := 108) ?hd (xs := ([] : List (S33))) (inner := []) (ok := fun _ => True) (okp := fun _ => True) ?hr ?hp (fun _ hk => hk) trivial (Below.refl _ _) (Nat.le_refl _) (by simp) ?_; (case hd => rfl); (case hg => rfl); (case hr => first | (go_simp; done) | (go_simp; rfl)); (case hp => exact (Reps.none _ _)); intro v430 w40 ho41 hb hg_ hnew_; clear hg_ hnew_; (first | rw [← Ny429.out] at ho41 | (simp only [Int.reduceToNat] at ho41; rw [← Ny429.out] at ho41)); have n0_ := Aside0.mk (Kd.S_below (by (with_reducible repeat (first | apply Kd.S_alloc | apply Kd.S_drewN | apply Kd.S_drew)); exact HO_11.out) hb); have n1_ := Aside0.mk (Kd.R_lower ho41 (below_size (by repeat (first | (with_reducible first | exact HB.out | apply below_alloc | apply pw_below_drewN | apply below_drew1) | exact HB.out)))); have n2_ := Aside0.mk (below_step (by repeat (first | (with_reducible first | exact HB.out | apply below_alloc | apply pw_below_drewN | apply below_drew1) | exact HB.out)) hb); clear HO_11; clear HB; have HO_11 := n0_; have HO431 := n1_; have HB := n2_; clear n0_ n1_ n2_; clear hb ho41) | ((with_reducible refine gate_builtin (b := .append) (xs := #[.tmp 108, .tmp 109]) rfl ?_); (try (refine gate_guard (by rfl) ?_; dsimp only)); at_builtin; refine Kd.R_append_rows k33 (w0 := w) w.heap.size rfl (.tmp 108) (.tmp 109) 22 33 (.agg #[(.int .i64 0), (.int .i64 0), (.int .i64 0)]) 24 rfl Try.underlying22 info33 rfl (by decide) (by omega) v430 y429 l1 _ _ _ (fun _ => True) (fun _ => False) rfl rfl ?aO ?aR (fun _ _ h => h) (fun _ h => h.elim) ?aF ?aB ?aS ?aL ?_; (case aR => repeat (first | exact (Kd.C_below HR1.out HB.out) | (with_reducible refine Kd.C_alloc ?_ _) | (with_reducible refine Kd.C_drewN ?_ _) | (with_reducible refine Kd.C_drew ?_))); (case aB => exact (by repeat (first | (with_reducible first | exact HB.out | apply below_alloc | apply pw_below_drewN | apply below_drew1) | exact HB.out))); (case aF => exact (fun _ _ => trivial)); (case aO => exact (by (with_reducible repeat (first | apply Kd.R_alloc | apply Kd.R_drewN | apply Kd.R_drew)); exact HO431.out)); (case aS => exact (below_size (by repeat (first | (with_reducible first | exact HB.out | apply below_alloc | apply pw_below_drewN | apply below_drew1) | exact HB.out)))); (case aL => have := LMc36.out; omega); intro v433 w42 ho hb hg hat; rw [← Ny432.out] at ho; have n0_ := Aside0.mk (Kd.S_over' (by (with_reducible repeat (first | apply Kd.S_alloc | apply Kd.S_drewN | apply Kd.S_drew)); exact HO_11.out) (Kd.R_typed (by (with_reducible repeat (first | apply Kd.R_alloc | apply Kd.R_drewN | apply Kd.R_drew)); exact HO431.out)) (by decide) hg); have n1_ := Aside0.mk (hb); have n2_ := Aside0.mk (ho); clear HO_11; clear HB; clear HO431; have HO_11 := n0_; have HB := n1_; have HO434 := n2_; clear n0_ n1_ n2_; clear ho hb hg hat) | ((with_reducible refine gate_builtin (b := .append) (xs := #[.tmp 110, .tmp 114]) rfl ?_); (try (refine gate_guard (by rfl) ?_; dsimp only)); at_builtin; refine Kd.R_append k33 (w0 := w) w.heap.size rfl (.tmp 110) (.tmp 114) 22 33 (.agg #[(.int .i64 0), (.int .i64 0), (.int .i64 0)]) 24 rfl Try.underlying22 info33 rfl (by decide) (by omega) v433 y432 (⟨(Int.tmod (wrap64 ((Int.tmod a3 a0) + a0)) a0), (Int.tmod (wrap64 ((Int.tmod a4 a0) + a0)) a0), 0⟩ : S33) [.int .i64 (Int.tmod (wrap64 ((Int.tmod a3 a0) + a0)) a0), .int .i64 (Int.tmod (wrap64 ((Int.tmod a4 a0) + a0)) a0), .int .i64 0] (fun _ => True) (fun _ => False) rfl rfl ?aP (fun _ hk => hk.elim) ?aF ?aO ?aB ?aS ?aL ?_; (case aP => exact k33_mkM _ _ _ (⟨(Int.tmod (wrap64 ((Int.tmod a3 a0) + a0)) a0), (Int.tmod (wrap64 ((Int.tmod a4 a0) + a0)) a0), 0⟩ : S33)); (case aB => exact (by repeat (first | (with_reducible first | exact HB.out | apply below_alloc | apply pw_below_drewN | apply below_drew1) | exact HB.out))); (case aF => exact (fun _ _ => trivial)); (case aO => exact (by (with_reducible repeat (first | apply Kd.R_alloc | apply Kd.R_drewN | apply Kd.R_drew)); exact HO434.out)); (case aS => exact (below_size (by repeat (first | (with_reducible first | exact HB.out | apply below_alloc | apply pw_below_drewN | apply below_drew1) | exact HB.out)))); (case aL => have := LMc37.out; omega); intro v436 w43 ho hb hg hat; rw [← Ny435.out] at ho; have n0_ := Aside0.mk (Kd.S_over' (by (with_reducible repeat (first | apply Kd.S_alloc | apply Kd.S_drewN | apply Kd.S_drew)); exact HO_11.out) (Kd.R_typed (by (with_reducible repeat (first | apply Kd.R_alloc | apply Kd.R_drewN | apply Kd.R_drew)); exact HO434.out)) (by decide) hg); have n1_ := Aside0.mk (hb); have n2_ := Aside0.mk (ho); clear HO_11; clear HB; clear HO434; have HO_11 := n0_; have HB := n1_; have HO437 := n2_; clear n0_ n1_ n2_; clear ho hb hg hat; obtain ⟨Ao44, co44, eo44⟩ := Kd.R_slice HO437.out; subst eo44) | (go_at_call 9; (with_reducible refine (order_Blocks.calls kj32 a0 _ _ y435 _ _ l2 t438 t439 _ ?side1 ?side2 ?side3 ?side4 A38.out).mono ?_); (case side1 => repeat (first | exact (Kd.R_reads' HO437.out).2.2 | (with_reducible refine Kd.C_alloc ?_ _) | (with_reducible refine Kd.C_drewN ?_ _) | (with_reducible refine Kd.C_drew ?_))); (case side2 => exact (Kd.R_reads' HO437.out).2.1); (case side3 => repeat (first | exact (Kd.C_below HR2.out HB.out) | (with_reducible refine Kd.C_alloc ?_ _) | (with_reducible refine Kd.C_drewN ?_ _) | (with_reducible refine Kd.C_drew ?_))); (case side4 => exact HC2.out); rintro e w45 ⟨v440, rfl, ho0, hb⟩; have n0_ := Aside0.mk (Kd.S_elder' (by (with_reducible repeat (first | apply Kd.S_alloc | apply Kd.S_drewN | apply Kd.S_drew)); exact HO_11.out) (Kd.S_base ho0) hb); have n1_ := Aside0.mk (Kd.R_below (by (with_reducible repeat (first | apply Kd.R_alloc | apply Kd.R_drewN | apply Kd.R_drew)); exact HO437.out) hb); have n2_ := Aside0.mk (Kd.S_lower (Kd.S_new' ho0 (Kd.S_lt (by (with_reducible repeat (first | apply Kd.S_alloc | apply Kd.S_drewN | apply Kd.S_drew)); exact HO_11.out))) (below_size (by repeat (first | (with_reducible first | exact HB.out | apply below_alloc | apply pw_below_drewN | apply below_drew1) | exact HB.out)))); have n3_ := Aside0.mk (below_step (by repeat (first | (with_reducible first | exact HB.out | apply below_alloc | apply pw_below_drewN | apply below_drew1) | exact HB.out)) hb); clear HO_11; clear HO437; clear HB; have HO_11 := n0_; have HO437 := n1_; have HO441 := n2_; have HB := n3_; clear n0_ n1_ n2_ n3_; (try clear hb); (try clear hb2); (try clear hk); (try clear hi); (try clear ho0))); go_upto_region 27 with (first | ((with_reducible refine gate_dst (N := 108) rfl ?_); (try (refine gate_guard (by rfl) ?_; dsimp only)); refine Kd.R_lit k33 _ 33 ?hg (N := 108) ?hd (xs := ([] : List (S33))) (inner := []) (ok := fun _ => True) (okp := fun _ => True) ?hr ?hp (fun _ hk => hk) trivial (Below.refl _ _) (Nat.le_refl _) (by simp) ?_; (case hd => rfl); (case hg => rfl); (case hr => first | (go_simp; done) | (go_simp; rfl)); (case hp => exact (Reps.none _ _)); intro v430 w40 ho41 hb hg_ hnew_; clear hg_ hnew_; (first | rw [← Ny429.out] at ho41 | (simp only [Int.reduceToNat] at ho41; rw [← Ny429.out] at ho41)); have n0_ := Aside0.mk (Kd.S_below (by (with_reducible repeat (first | apply Kd.S_alloc | apply Kd.S_drewN | apply Kd.S_drew)); exact HO_11.out) hb); have n1_ := Aside0.mk (Kd.R_lower ho41 (below_size (by repeat (first | (with_reducible first | exact HB.out | apply below_alloc | apply pw_below_drewN | apply below_drew1) | exact HB.out)))); have n2_ := Aside0.mk (below_step (by repeat (first | (with_reducible first | exact HB.out | apply below_alloc | apply pw_below_drewN | apply below_drew1) | exact HB.out)) hb); clear HO_11; clear HB; have HO_11 := n0_; have HO431 := n1_; have HB := n2_; clear n0_ n1_ n2_; clear hb ho41) | ((with_reducible refine gate_builtin (b := .append) (xs := #[.tmp 108, .tmp 109]) rfl ?_); (try (refine gate_guard (by rfl) ?_; dsimp only)); at_builtin; refine Kd.R_append_rows k33 (w0 := w) w.heap.size rfl (.tmp 108) (.tmp 109) 22 33 (.agg #[(.int .i64 0), (.int .i64 0), (.int .i64 0)]) 24 rfl Try.underlying22 info33 rfl (by decide) (by omega) v430 y429 l1 _ _ _ (fun _ => True) (fun _ => False) rfl rfl ?aO ?aR (fun _ _ h => h) (fun _ h => h.elim) ?aF ?aB ?aS ?aL ?_; (case aR => repeat (first | exact (Kd.C_below HR1.out HB.out) | (with_reducible refine Kd.C_alloc ?_ _) | (with_reducible refine Kd.C_drewN ?_ _) | (with_reducible refine Kd.C_drew ?_))); (case aB => exact (by repeat (first | (with_reducible first | exact HB.out | apply below_alloc | apply pw_below_drewN | apply below_drew1) | exact HB.out))); (case aF => exact (fun _ _ => trivial)); (case aO => exact (by (with_reducible repeat (first | apply Kd.R_alloc | apply Kd.R_drewN | apply Kd.R_drew)); exact HO431.out)); (case aS => exact (below_size (by repeat (first | (with_reducible first | exact HB.out | apply below_alloc | apply pw_below_drewN | apply below_drew1) | exact HB.out)))); (case aL => have := LMc36.out; omega); intro v433 w42 ho hb hg hat; rw [← Ny432.out] at ho; have n0_ := Aside0.mk (Kd.S_over' (by (with_reducible repeat (first | apply Kd.S_alloc | apply Kd.S_drewN | apply Kd.S_drew)); exact HO_11.out) (Kd.R_typed (by (with_reducible repeat (first | apply Kd.R_alloc | apply Kd.R_drewN | apply Kd.R_drew)); exact HO431.out)) (by decide) hg); have n1_ := Aside0.mk (hb); have n2_ := Aside0.mk (ho); clear HO_11; clear HB; clear HO431; have HO_11 := n0_; have HB := n1_; have HO434 := n2_; clear n0_ n1_ n2_; clear ho hb hg hat) | ((with_reducible refine gate_builtin (b := .append) (xs := #[.tmp 110, .tmp 114]) rfl ?_); (try (refine gate_guard (by rfl) ?_; dsimp only)); at_builtin; refine Kd.R_append k33 (w0 := w) w.heap.size rfl (.tmp 110) (.tmp 114) 22 33 (.agg #[(.int .i64 0), (.int .i64 0), (.int .i64 0)]) 24 rfl Try.underlying22 info33 rfl (by decide) (by omega) v433 y432 (⟨(Int.tmod (wrap64 ((Int.tmod a3 a0) + a0)) a0), (Int.tmod (wrap64 ((Int.tmod a4 a0) + a0)) a0), 0⟩ : S33) [.int .i64 (Int.tmod (wrap64 ((Int.tmod a3 a0) + a0)) a0), .int .i64 (Int.tmod (wrap64 ((Int.tmod a4 a0) + a0)) a0), .int .i64 0] (fun _ => True) (fun _ => False) rfl rfl ?aP (fun _ hk => hk.elim) ?aF ?aO ?aB ?aS ?aL ?_; (case aP => exact k33_mkM _ _ _ (⟨(Int.tmod (wrap64 ((Int.tmod a3 a0) + a0)) a0), (Int.tmod (wrap64 ((Int.tmod a4 a0) + a0)) a0), 0⟩ : S33)); (case aB => exact (by repeat (first | (with_reducible first | exact HB.out | apply below_alloc | apply pw_below_drewN | apply below_drew1) | exact HB.out))); (case aF => exact (fun _ _ => trivial)); (case aO => exact (by (with_reducible repeat (first | apply Kd.R_alloc | apply Kd.R_drewN | apply Kd.R_drew)); exact HO434.out)); (case aS => exact (below_size (by repeat (first | (with_reducible first | exact HB.out | apply below_alloc | apply pw_below_drewN | apply below_drew1) | exact HB.out)))); (case aL => have := LMc37.out; omega); intro v436 w43 ho hb hg hat; rw [← Ny435.out] at ho; have n0_ := Aside0.mk (Kd.S_over' (by (with_reducible repeat (first | apply Kd.S_alloc | apply Kd.S_drewN | apply Kd.S_drew)); exact HO_11.out) (Kd.R_typed (by (with_reducible repeat (first | apply Kd.R_alloc | apply Kd.R_drewN | apply Kd.R_drew)); exact HO434.out)) (by decide) hg); have n1_ := Aside0.mk (hb); have n2_ := Aside0.mk (ho); clear HO_11; clear HB; clear HO434; have HO_11 := n0_; have HB := n1_; have HO437 := n2_; clear n0_ n1_ n2_; clear ho hb hg hat; obtain ⟨Ao44, co44, eo44⟩ := Kd.R_slice HO437.out; subst eo44) | (go_at_call 9; (with_reducible refine (order_Blocks.calls kj32 a0 _ _ y435 _ _ l2 t438 t439 _ ?side1 ?side2 ?side3 ?side4 A38.out).mono ?_); (case side1 => repeat (first | exact (Kd.R_reads' HO437.out).2.2 | (with_reducible refine Kd.C_alloc ?_ _) | (with_reducible refine Kd.C_drewN ?_ _) | (with_reducible refine Kd.C_drew ?_))); (case side2 => exact (Kd.R_reads' HO437.out).2.1); (case side3 => repeat (first | exact (Kd.C_below HR2.out HB.out) | (with_reducible refine Kd.C_alloc ?_ _) | (with_reducible refine Kd.C_drewN ?_ _) | (with_reducible refine Kd.C_drew ?_))); (case side4 => exact HC2.out); rintro e w45 ⟨v440, rfl, ho0, hb⟩; have n0_ := Aside0.mk (Kd.S_elder' (by (with_reducible repeat (first | apply Kd.S_alloc | apply Kd.S_drewN | apply Kd.S_drew)); exact HO_11.out) (Kd.S_base ho0) hb); have n1_ := Aside0.mk (Kd.R_below (by (with_reducible repeat (first | apply Kd.R_alloc | apply Kd.R_drewN | apply Kd.R_drew)); exact HO437.out) hb); have n2_ := Aside0.mk (Kd.S_lower (Kd.S_new' ho0 (Kd.S_lt (by (with_reducible repeat (first | apply Kd.S_alloc | apply Kd.S_drewN | apply Kd.S_drew)); exact HO_11.out))) (below_size (by repeat (first | (with_reducible first | exact HB.out | apply below_alloc | apply pw_below_drewN | apply below_drew1) | exact HB.out)))); have n3_ := Aside0.mk (below_step (by repeat (first | (with_reducible first | exact HB.out | apply below_alloc | apply pw_below_drewN | apply below_drew1) | exact HB.out)) hb); clear HO_11; clear HO437; clear HB; have HO_11 := n0_; have HO437 := n1_; have HO441 := n2_; have HB := n3_; clear n0_ n1_ n2_ n3_; (try clear hb); (try clear hb2); (try clear hk); (try clear hi); (try clear ho0))))
       (try simp only [Act.put, List.setIfInBounds_toArray, List.set_cons_zero, List.set_cons_succ])
       go_cut [128] (fun v128 wc => ∃ (kq : Nat) (x128_38 : Bool), v128 = .bool x128_38 ∧ Aside0 (orrerylaw21_OrderMore.j5 kq t421 t438 x128_38 = some r) ∧ Aside0 (kq ≤ kj32) ∧ Aside0 (Kd.S k30 30 wc w.heap.size (fun k_ => some k_ ≠ (v440 : Value).ownBlock) (.slice Ao18 t421.length co18) t421) ∧ Aside0 (Kd.S k30 30 wc w.heap.size (fun k_ => some k_ ≠ ((.slice Ao18 t421.length co18) : Value).ownBlock) v440 t438) ∧ Aside0 (Below w.heap.size w wc))
       case first =>
        have H := HC39.out
        clear HC39
        by_cases c46 : t439 = 0
        case neg =>
         rw [if_neg c46] at H
         have c46b0 : (t439 == 0) = false := beq_eq_false_iff_ne.mpr c46
         have c46b1 : (t439 != 0) = true := bne_iff_ne.mpr c46
         (first | rw [c46b0] | (simp only [i64_w, i32_w]; rw [c46b0]) | skip)
         have H' := Aside0.mk H
         clear H
         go_wp2
         repeat (go_quiet (fail); try go_wp2)
         go_meet
         case rel => exact ⟨_, (true), (by first | rfl | (simp; done) | (simp [*]; done)), H', ⟨by have := HJ5.out; have := HK2.out; have := HJ32.out; first | omega | exact Nat.le_refl _⟩, ⟨by (with_reducible repeat (first | apply Kd.S_alloc | apply Kd.S_drewN | apply Kd.S_drew)); exact Kd.S_mono HO_11.out (fun _ hk => hk.2)⟩, ⟨by (with_reducible repeat (first | apply Kd.S_alloc | apply Kd.S_drewN | apply Kd.S_drew)); exact Kd.S_mono HO441.out (fun _ hk => hk.2)⟩, ⟨by repeat (first | (with_reducible first | exact HB.out | apply below_alloc | apply pw_below_drewN | apply below_drew1) | exact HB.out)⟩⟩
        rw [if_pos c46] at H
        have c46b0 : (t439 == 0) = true := beq_iff_eq.mpr c46
        have c46b1 : (t439 != 0) = false := bne_eq_false_iff_eq.mpr c46
        clear c46
        (first | rw [c46b0] | (simp only [i64_w, i32_w]; rw [c46b0]) | skip)
        have H' := Aside0.mk H
        clear H
        obtain ⟨Ao47, co47, eo47⟩ := Kd.S_slice HO441.out
        subst eo47
        go_wp2
        repeat (go_quiet (fail); try go_wp2)
        go_meet
        case rel => exact ⟨_, (((t438.length : Int) != (t421.length : Int))), (by first | rfl | (simp; done) | (simp [*]; done)), H', ⟨by have := HJ5.out; have := HK2.out; have := HJ32.out; first | omega | exact Nat.le_refl _⟩, ⟨by (with_reducible repeat (first | apply Kd.S_alloc | apply Kd.S_drewN | apply Kd.S_drew)); exact Kd.S_mono HO_11.out (fun _ hk => hk.2)⟩, ⟨by (with_reducible repeat (first | apply Kd.S_alloc | apply Kd.S_drewN | apply Kd.S_drew)); exact Kd.S_mono HO441.out (fun _ hk => hk.2)⟩, ⟨by repeat (first | (with_reducible first | exact HB.out | apply below_alloc | apply pw_below_drewN | apply below_drew1) | exact HB.out)⟩⟩
       case rest =>
        clear HC39
        try clear c1
        try clear c2
        try clear p2
        try clear c3
        try clear c4
        try clear p4
        try clear q4
        try clear hx4
        try clear c6
        try clear p6
        try clear c8
        try clear c9
        try clear c9b0
        try clear c9b1
        try clear c13
        try clear c15
        try clear c15b0
        try clear c15b1
        try clear c16
        try clear c16b0
        try clear c16b1
        try clear c19
        try clear c19b0
        try clear c20
        try clear c20b0
        try clear c21
        try clear c21b0
        try clear c24
        try clear c24b0
        try clear c25
        try clear c25b0
        try clear c26
        try clear c26b0
        try clear c27
        try clear c27b0
        try clear c27b1
        try clear c29
        try clear c29b0
        try clear c30
        try clear c30b0
        try clear c31
        try clear c31b0
        try clear c32
        try clear c32b0
        try clear c32b1
        try clear c34
        try clear c34b0
        try clear c35
        try clear c36
        try clear c37
        try clear c42
        try clear p42
        try clear q42
        try clear hx42
        try clear c46
        try clear c46b0
        try clear c46b1
        try clear hcz23_0
        try clear hcz23_1
        try clear hcz28_0
        try clear hcz28_1
        try clear hfz23_0
        try clear hfz23_1
        try clear hfz28_0
        try clear hfz28_1
        try clear hx425_0
        try clear hx425_1
        try clear hx427_0
        try clear hx428_0
        try clear p2
        try clear p4
        try clear p425
        try clear p427
        try clear p428
        try clear p6
        try clear q4
        try clear q425
        try clear q427
        try clear q428
        obtain ⟨kq, x128_38, rfl, HA, HJ38, HO_11, HO_21, HB⟩ := hcut
        cases kq with
        | zero => exact absurd HA.out (by simp [orrerylaw21_OrderMore.j5])
        | succ kj38 =>
         have H := HA.out
         clear HA
         simp only [orrerylaw21_OrderMore.j5] at H
         by_cases c48 : x128_38 = true
         case pos =>
          subst c48
          have H1 : (some false) = some r := by rw [if_pos rfl] at H; exact H
          clear H
          have H := H1
          clear H1
          obtain rfl := Option.some.inj H
          go_wp2
          repeat (go_quiet (fail); try go_wp2)
          go_ret
          exact ⟨by first | rfl | (simp [errW_none, errW_some] <;> rfl) | (simp [*, errW_none, errW_some] <;> rfl), by repeat (first | (with_reducible first | exact HB.out | apply below_alloc | apply pw_below_drewN | apply below_drew1) | exact HB.out)⟩
         replace c48 := Bool.eq_false_iff.mpr c48
         subst c48
         have H1 : (orrerylaw21_OrderMore.l3 kj38 t438 t421 (t421.length : Int) 0) = some r := by rw [if_neg (show ¬ (false = true) by decide)] at H; exact H
         clear H
         have H := H1
         clear H1
         have H' := Aside0.mk H
         clear H
         go_wp2
         repeat (go_quiet (fail); try go_wp2)
         go_loopg [131] kj38 (fun kq v131 w' => ∃ (x131_5 : Int), v131 = .int .i64 x131_5 ∧ Aside0 (orrerylaw21_OrderMore.l3 kq t438 t421 (t421.length : Int) x131_5 = some r) ∧ Aside0 (kq ≤ kj38) ∧ Aside0 (Kd.S k30 30 w' w.heap.size (fun k_ => some k_ ≠ ((.slice Ao18 t421.length co18) : Value).ownBlock) v440 t438) ∧ Aside0 (Kd.S k30 30 w' w.heap.size (fun k_ => some k_ ≠ (v440 : Value).ownBlock) (.slice Ao18 t421.length co18) t421) ∧ Aside0 (Below w.heap.size w w'))
         case atStart => exact ⟨(0), (by first | rfl | (simp; done) | (simp [*]; done)), H', ⟨Nat.le_refl _⟩, ⟨by (with_reducible repeat (first | apply Kd.S_alloc | apply Kd.S_drewN | apply Kd.S_drew)); exact HO_21.out⟩, ⟨by (with_reducible repeat (first | apply Kd.S_alloc | apply Kd.S_drewN | apply Kd.S_drew)); exact HO_11.out⟩, ⟨by repeat (first | (with_reducible first | exact HB.out | apply below_alloc | apply pw_below_drewN | apply below_drew1) | exact HB.out)⟩⟩
         case round =>
          clear H'
          try clear c1
          try clear c2
          try clear p2
          try clear c3
          try clear c4
          try clear p4
          try clear q4
          try clear hx4
          try clear c6
          try clear p6
          try clear c8
          try clear c9
          try clear c9b0
          try clear c9b1
          try clear c13
          try clear c15
          try clear c15b0
          try clear c15b1
          try clear c16
          try clear c16b0
          try clear c16b1
          try clear c19
          try clear c19b0
          try clear c20
          try clear c20b0
          try clear c21
          try clear c21b0
          try clear c24
          try clear c24b0
          try clear c25
          try clear c25b0
          try clear c26
          try clear c26b0
          try clear c27
          try clear c27b0
          try clear c27b1
          try clear c29
          try clear c29b0
          try clear c30
          try clear c30b0
          try clear c31
          try clear c31b0
          try clear c32
          try clear c32b0
          try clear c32b1
          try clear c34
          try clear c34b0
          try clear c35
          try clear c36
          try clear c37
          try clear c42
          try clear p42
          try clear q42
          try clear hx42
          try clear c46
          try clear c46b0
          try clear c46b1
          try clear c48
          try clear hcz23_0
          try clear hcz23_1
          try clear hcz28_0
          try clear hcz28_1
          try clear hfz23_0
          try clear hfz23_1
          try clear hfz28_0
          try clear hfz28_1
          try clear hx425_0
          try clear hx425_1
          try clear hx427_0
          try clear hx428_0
          try clear p2
          try clear p4
          try clear p42
          try clear p425
          try clear p427
          try clear p428
          try clear p6
          try clear q4
          try clear q42
          try clear q425
          try clear q427
          try clear q428
          obtain ⟨x131_5, rfl, HA, HK5, HO_21, HO_129, HB⟩ := hrel
          cases gk with
          | zero => exact absurd HA.out (by simp [orrerylaw21_OrderMore.l3])
          | succ k5 =>
           have H := HA.out
           clear HA
           simp only [orrerylaw21_OrderMore.l3] at H
           by_cases c49 : x131_5 < (t421.length : Int)
           case neg =>
            rw [if_neg c49] at H
            have c49b0 : decide (x131_5 < (t421.length : Int)) = false := decide_eq_false c49
            clear c49
            obtain rfl := Option.some.inj H
            go_wp2
            repeat (go_quiet (fail); try go_wp2)
            go_ret
            exact ⟨by first | rfl | (simp [errW_none, errW_some] <;> rfl) | (simp [*, errW_none, errW_some] <;> rfl), by repeat (first | (with_reducible first | exact HB.out | apply below_alloc | apply pw_below_drewN | apply below_drew1) | exact HB.out)⟩
           rw [if_pos c49] at H
           have c49b0 : decide (x131_5 < (t421.length : Int)) = true := decide_eq_true c49
           clear c49
           by_cases c50 : 0 ≤ x131_5
           case neg => rw [if_neg c50] at H; exact absurd H (by simp)
           rw [if_pos c50] at H
           have c50b0 : decide (0 ≤ x131_5) = true := decide_eq_true c50
           clear c50
           by_cases c51 : x131_5 < (t421.length : Int)
           case neg => rw [if_neg c51] at H; exact absurd H (by simp)
           rw [if_pos c51] at H
           have c51b0 : decide (x131_5 < (t421.length : Int)) = true := decide_eq_true c51
           clear c51
           have H' := Aside0.mk H
           clear H
           have p442 : 0 ≤ (x131_5 : Int) := of_decide_eq_true (by first | (with_reducible assumption) | assumption)
           have q442 : x131_5 < (t421.length : Int) := of_decide_eq_true (by first | (with_reducible assumption) | assumption)
           obtain ⟨ad442, A442_0, c442_0, A442_1, c442_1, e442, hx442_0, hx442_1, hl442_0, hi442_0, hl442_1, hi442_1⟩ := at_T30 (Kd.S_reads' HO_129.out).2.2 x131_5 p442 q442
           cases e442
           obtain ⟨ce442, hce442, hMe442, hcc442⟩ := Kd.S_get HO_129.out z30 x131_5 p442 (by first | exact q442 | exact of_decide_eq_true (by first | (with_reducible assumption) | assumption) | (have e_ := (Kd.S_reads' HO_129.out).1; omega))
           obtain ⟨ve442_0, ve442_1, rfl, ge442_0, ge442_1⟩ := k30_openM hMe442
           have hv442_0 := hcc442 0 _ rfl
           rw [Nat.add_zero] at hv442_0
           replace hv442_0 := Option.some.inj (hv442_0.symm.trans hx442_0)
           rw [hv442_0] at ge442_0
           have HL442_0 := Aside0.mk (show Kd.R (Kd.int .i64) 3 _ _ _ _ ((rd_T30 t421 x131_5).f0) from ge442_0)
           clear hv442_0 ge442_0
           have hv442_1 := hcc442 1 _ rfl
           rw [add_field _ _ 1 (by omega)] at hv442_1
           replace hv442_1 := Option.some.inj (hv442_1.symm.trans hx442_1)
           rw [hv442_1] at ge442_1
           have HL442_1 := Aside0.mk (show Kd.R (Kd.int .i64) 3 _ _ _ _ ((rd_T30 t421 x131_5).f1) from ge442_1)
           clear hv442_1 ge442_1
           clear hcc442 hce442
           have HR442_0 := Aside0.mk hi442_0
           have HC442_0 := Aside0.mk hl442_0
           clear hi442_0 hl442_0
           have HR442_1 := Aside0.mk hi442_1
           have HC442_1 := Aside0.mk hl442_1
           clear hi442_1 hl442_1
           replace p442 := eq_true p442
           replace q442 := eq_true q442
           go_wp2_with (first | ((with_reducible refine gate_dst (N := 24) rfl ?_); (try (refine gate_guard (by rfl) ?_; dsimp only)); refine box_event ?hg (N := 24) ?hd (cs := #[.slice none 0 0, .slice none 0 0]) (t := 30) ?hr ?_; (case hd => rfl); (case hg => rfl); (case hr => first | (go_simp; done) | (go_simp; rfl)); intro gb443 hg w52 hbox hb; have n0_ := Aside0.mk (Kd.S_below (Kd.S_elderB (by (with_reducible repeat (first | apply Kd.S_alloc | apply Kd.S_drewN | apply Kd.S_drew)); exact HO_21.out) gb443 (Nat.le_of_eq hg.symm)) hb); have n1_ := Aside0.mk (Kd.S_below (Kd.S_elderB (by (with_reducible repeat (first | apply Kd.S_alloc | apply Kd.S_drewN | apply Kd.S_drew)); exact HO_129.out) gb443 (Nat.le_of_eq hg.symm)) hb); have n2_ := Aside0.mk (Kd.R_below (by (with_reducible repeat (first | apply Kd.R_alloc | apply Kd.R_drewN | apply Kd.R_drew)); exact HL442_0.out) hb); have n3_ := Aside0.mk (Kd.R_below (by (with_reducible repeat (first | apply Kd.R_alloc | apply Kd.R_drewN | apply Kd.R_drew)); exact HL442_1.out) hb); have n4_ := Aside0.mk (Kd.C_below (by repeat (first | (with_reducible exact HR442_0.out) | (with_reducible refine Kd.C_alloc ?_ _) | (with_reducible refine Kd.C_drewN ?_ _) | (with_reducible refine Kd.C_drew ?_) | exact HR442_0.out)) hb); have n5_ := Aside0.mk (Kd.C_below (by repeat (first | (with_reducible exact HR442_1.out) | (with_reducible refine Kd.C_alloc ?_ _) | (with_reducible refine Kd.C_drewN ?_ _) | (with_reducible refine Kd.C_drew ?_) | exact HR442_1.out)) hb); have n6_ := Aside0.mk ((Kd.C_aboveB (by repeat (first | (with_reducible exact HR442_0.out) | (with_reducible refine Kd.C_alloc ?_ _) | (with_reducible refine Kd.C_drewN ?_ _) | (with_reducible refine Kd.C_drew ?_) | exact HR442_0.out)) (by decide) (Nat.le_of_eq hg.symm))); have n7_ := Aside0.mk ((Kd.C_aboveB (by repeat (first | (with_reducible exact HR442_1.out) | (with_reducible refine Kd.C_alloc ?_ _) | (with_reducible refine Kd.C_drewN ?_ _) | (with_reducible refine Kd.C_drew ?_) | exact HR442_1.out)) (by decide) (Nat.le_of_eq hg.symm))); have n8_ := Aside0.mk (below_step (by repeat (first | (with_reducible first | exact HB.out | apply below_alloc | apply pw_below_drewN | apply below_drew1) | exact HB.out)) hb); have n9_ := Aside0.mk (hbox); have n10_ := Aside0.mk ((by rw [hg]; exact (below_size (by repeat (first | (with_reducible first | exact HB.out | apply below_alloc | apply pw_below_drewN | apply below_drew1) | exact HB.out))) : w.heap.size ≤ gb443)); have n11_ := Aside0.mk ((by rw [hg]; exact (below_size (by repeat (first | (with_reducible first | exact HB.out | apply below_alloc | apply pw_below_drewN | apply below_drew1) | exact HB.out))) : w.heap.size ≤ gb443)); clear HO_21; clear HO_129; clear HL442_0; clear HL442_1; clear HR442_0; clear HR442_1; clear HB; have HO_21 := n0_; have HO_129 := n1_; have HL442_0 := n2_; have HL442_1 := n3_; have HR442_0 := n4_; have HR442_1 := n5_; have SF442_0_443 := n6_; have SF442_1_443 := n7_; have HB := n8_; have BK443 := n9_; have GW443 := n10_; have GE443 := n11_; clear n0_ n1_ n2_ n3_ n4_ n5_ n6_ n7_ n8_ n9_ n10_ n11_; clear hb hbox hg; have hcz53_0 : w52.cell? ⟨gb443, 0, none⟩ = some (.slice none 0 0) := (blk_cell BK443.out 0).trans rfl; have hcz53_1 : w52.cell? ⟨gb443, 1, none⟩ = some (.slice none 0 0) := (blk_cell BK443.out 1).trans rfl; have hfz53_0 := blk_frozen BK443.out 0; have hfz53_1 := blk_frozen BK443.out 1; obtain ⟨Ao54, co54, eo54⟩ := Kd.S_slice HO_21.out; subst eo54))
           repeat (go_quiet (first | ((with_reducible refine gate_dst (N := 24) rfl ?_); (try (refine gate_guard (by rfl) ?_; dsimp only)); refine box_event ?hg (N := 24) ?hd (cs := #[.slice none 0 0, .slice none 0 0]) (t := 30) ?hr ?_; (case hd => rfl); (case hg => rfl); (case hr => first | (go_simp; done) | (go_simp; rfl)); intro gb443 hg w52 hbox hb; have n0_ := Aside0.mk (Kd.S_below (Kd.S_elderB (by (with_reducible repeat (first | apply Kd.S_alloc | apply Kd.S_drewN | apply Kd.S_drew)); exact HO_21.out) gb443 (Nat.le_of_eq hg.symm)) hb); have n1_ := Aside0.mk (Kd.S_below (Kd.S_elderB (by (with_reducible repeat (first | apply Kd.S_alloc | apply Kd.S_drewN | apply Kd.S_drew)); exact HO_129.out) gb443 (Nat.le_of_eq hg.symm)) hb); have n2_ := Aside0.mk (Kd.R_below (by (with_reducible repeat (first | apply Kd.R_alloc | apply Kd.R_drewN | apply Kd.R_drew)); exact HL442_0.out) hb); have n3_ := Aside0.mk (Kd.R_below (by (with_reducible repeat (first | apply Kd.R_alloc | apply Kd.R_drewN | apply Kd.R_drew)); exact HL442_1.out) hb); have n4_ := Aside0.mk (Kd.C_below (by repeat (first | (with_reducible exact HR442_0.out) | (with_reducible refine Kd.C_alloc ?_ _) | (with_reducible refine Kd.C_drewN ?_ _) | (with_reducible refine Kd.C_drew ?_) | exact HR442_0.out)) hb); have n5_ := Aside0.mk (Kd.C_below (by repeat (first | (with_reducible exact HR442_1.out) | (with_reducible refine Kd.C_alloc ?_ _) | (with_reducible refine Kd.C_drewN ?_ _) | (with_reducible refine Kd.C_drew ?_) | exact HR442_1.out)) hb); have n6_ := Aside0.mk ((Kd.C_aboveB (by repeat (first | (with_reducible exact HR442_0.out) | (with_reducible refine Kd.C_alloc ?_ _) | (with_reducible refine Kd.C_drewN ?_ _) | (with_reducible refine Kd.C_drew ?_) | exact HR442_0.out)) (by decide) (Nat.le_of_eq hg.symm))); have n7_ := Aside0.mk ((Kd.C_aboveB (by repeat (first | (with_reducible exact HR442_1.out) | (with_reducible refine Kd.C_alloc ?_ _) | (with_reducible refine Kd.C_drewN ?_ _) | (with_reducible refine Kd.C_drew ?_) | exact HR442_1.out)) (by decide) (Nat.le_of_eq hg.symm))); have n8_ := Aside0.mk (below_step (by repeat (first | (with_reducible first | exact HB.out | apply below_alloc | apply pw_below_drewN | apply below_drew1) | exact HB.out)) hb); have n9_ := Aside0.mk (hbox); have n10_ := Aside0.mk ((by rw [hg]; exact (below_size (by repeat (first | (with_reducible first | exact HB.out | apply below_alloc | apply pw_below_drewN | apply below_drew1) | exact HB.out))) : w.heap.size ≤ gb443)); have n11_ := Aside0.mk ((by rw [hg]; exact (below_size (by repeat (first | (with_reducible first | exact HB.out | apply below_alloc | apply pw_below_drewN | apply below_drew1) | exact HB.out))) : w.heap.size ≤ gb443)); clear HO_21; clear HO_129; clear HL442_0; clear HL442_1; clear HR442_0; clear HR442_1; clear HB; have HO_21 := n0_; have HO_129 := n1_; have HL442_0 := n2_; have HL442_1 := n3_; have HR442_0 := n4_; have HR442_1 := n5_; have SF442_0_443 := n6_; have SF442_1_443 := n7_; have HB := n8_; have BK443 := n9_; have GW443 := n10_; have GE443 := n11_; clear n0_ n1_ n2_ n3_ n4_ n5_ n6_ n7_ n8_ n9_ n10_ n11_; clear hb hbox hg; have hcz53_0 : w52.cell? ⟨gb443, 0, none⟩ = some (.slice none 0 0) := (blk_cell BK443.out 0).trans rfl; have hcz53_1 : w52.cell? ⟨gb443, 1, none⟩ = some (.slice none 0 0) := (blk_cell BK443.out 1).trans rfl; have hfz53_0 := blk_frozen BK443.out 0; have hfz53_1 := blk_frozen BK443.out 1; obtain ⟨Ao54, co54, eo54⟩ := Kd.S_slice HO_21.out; subst eo54)); try go_wp2_with (first | ((with_reducible refine gate_dst (N := 24) rfl ?_); (try (refine gate_guard (by rfl) ?_; dsimp only)); refine box_event ?hg (N := 24) ?hd (cs := #[.slice none 0 0, .slice none 0 0]) (t := 30) ?hr ?_; (case hd => rfl); (case hg => rfl); (case hr => first | (go_simp; done) | (go_simp; rfl)); intro gb443 hg w52 hbox hb; have n0_ := Aside0.mk (Kd.S_below (Kd.S_elderB (by (with_reducible repeat (first | apply Kd.S_alloc | apply Kd.S_drewN | apply Kd.S_drew)); exact HO_21.out) gb443 (Nat.le_of_eq hg.symm)) hb); have n1_ := Aside0.mk (Kd.S_below (Kd.S_elderB (by (with_reducible repeat (first | apply Kd.S_alloc | apply Kd.S_drewN | apply Kd.S_drew)); exact HO_129.out) gb443 (Nat.le_of_eq hg.symm)) hb); have n2_ := Aside0.mk (Kd.R_below (by (with_reducible repeat (first | apply Kd.R_alloc | apply Kd.R_drewN | apply Kd.R_drew)); exact HL442_0.out) hb); have n3_ := Aside0.mk (Kd.R_below (by (with_reducible repeat (first | apply Kd.R_alloc | apply Kd.R_drewN | apply Kd.R_drew)); exact HL442_1.out) hb); have n4_ := Aside0.mk (Kd.C_below (by repeat (first | (with_reducible exact HR442_0.out) | (with_reducible refine Kd.C_alloc ?_ _) | (with_reducible refine Kd.C_drewN ?_ _) | (with_reducible refine Kd.C_drew ?_) | exact HR442_0.out)) hb); have n5_ := Aside0.mk (Kd.C_below (by repeat (first | (with_reducible exact HR442_1.out) | (with_reducible refine Kd.C_alloc ?_ _) | (with_reducible refine Kd.C_drewN ?_ _) | (with_reducible refine Kd.C_drew ?_) | exact HR442_1.out)) hb); have n6_ := Aside0.mk ((Kd.C_aboveB (by repeat (first | (with_reducible exact HR442_0.out) | (with_reducible refine Kd.C_alloc ?_ _) | (with_reducible refine Kd.C_drewN ?_ _) | (with_reducible refine Kd.C_drew ?_) | exact HR442_0.out)) (by decide) (Nat.le_of_eq hg.symm))); have n7_ := Aside0.mk ((Kd.C_aboveB (by repeat (first | (with_reducible exact HR442_1.out) | (with_reducible refine Kd.C_alloc ?_ _) | (with_reducible refine Kd.C_drewN ?_ _) | (with_reducible refine Kd.C_drew ?_) | exact HR442_1.out)) (by decide) (Nat.le_of_eq hg.symm))); have n8_ := Aside0.mk (below_step (by repeat (first | (with_reducible first | exact HB.out | apply below_alloc | apply pw_below_drewN | apply below_drew1) | exact HB.out)) hb); have n9_ := Aside0.mk (hbox); have n10_ := Aside0.mk ((by rw [hg]; exact (below_size (by repeat (first | (with_reducible first | exact HB.out | apply below_alloc | apply pw_below_drewN | apply below_drew1) | exact HB.out))) : w.heap.size ≤ gb443)); have n11_ := Aside0.mk ((by rw [hg]; exact (below_size (by repeat (first | (with_reducible first | exact HB.out | apply below_alloc | apply pw_below_drewN | apply below_drew1) | exact HB.out))) : w.heap.size ≤ gb443)); clear HO_21; clear HO_129; clear HL442_0; clear HL442_1; clear HR442_0; clear HR442_1; clear HB; have HO_21 := n0_; have HO_129 := n1_; have HL442_0 := n2_; have HL442_1 := n3_; have HR442_0 := n4_; have HR442_1 := n5_; have SF442_0_443 := n6_; have SF442_1_443 := n7_; have HB := n8_; have BK443 := n9_; have GW443 := n10_; have GE443 := n11_; clear n0_ n1_ n2_ n3_ n4_ n5_ n6_ n7_ n8_ n9_ n10_ n11_; clear hb hbox hg; have hcz53_0 : w52.cell? ⟨gb443, 0, none⟩ = some (.slice none 0 0) := (blk_cell BK443.out 0).trans rfl; have hcz53_1 : w52.cell? ⟨gb443, 1, none⟩ = some (.slice none 0 0) := (blk_cell BK443.out 1).trans rfl; have hfz53_0 := blk_frozen BK443.out 0; have hfz53_1 := blk_frozen BK443.out 1; obtain ⟨Ao54, co54, eo54⟩ := Kd.S_slice HO_21.out; subst eo54)))
           go_loopg [25, 137] k5 (fun kq v25 v137 w' => ∃ (x25_6 : Bool) (x137_6 : Int), v25 = .bool x25_6 ∧ v137 = .int .i64 x137_6 ∧ Aside0 (orrerylaw21_OrderMore.l4 kq t438 x25_6 t421 (t421.length : Int) x131_5 t438 (t438.length : Int) x137_6 ((rd_T30 t421 x131_5).f0) ((rd_T30 t421 x131_5).f1) = some r) ∧ Aside0 (kq ≤ k5) ∧ Aside0 (Kd.S k30 30 w' w.heap.size (fun k_ => some k_ ≠ ((.slice (some ad442) t421.length co18) : Value).ownBlock ∧ k_ ≠ gb443) (.slice Ao54 t438.length co54) t438) ∧ Aside0 (Kd.S k30 30 w' w.heap.size (fun k_ => some k_ ≠ ((.slice Ao54 t438.length co54) : Value).ownBlock ∧ some k_ ≠ ((.slice Ao54 t438.length co54) : Value).ownBlock ∧ k_ ≠ gb443) (.slice (some ad442) t421.length co18) t421) ∧ Aside0 (Kd.S k30 30 w' w.heap.size (fun k_ => some k_ ≠ ((.slice (some ad442) t421.length co18) : Value).ownBlock ∧ k_ ≠ gb443) (.slice Ao54 t438.length co54) t438) ∧ Aside0 (w'.heap[gb443]? = some (.cells #[(.slice A442_0 ((rd_T30 t421 x131_5).f0).length c442_0), (.slice A442_1 ((rd_T30 t421 x131_5).f1).length c442_1)] 30 (0, 0))) ∧ Aside0 (Kd.C (Kd.int .i64) w' A442_0 ((rd_T30 t421 x131_5).f0).length ((rd_T30 t421 x131_5).f0)) ∧ Aside0 (Kd.C (Kd.int .i64) w' A442_1 ((rd_T30 t421 x131_5).f1).length ((rd_T30 t421 x131_5).f1)) ∧ Aside0 (Below w.heap.size w w'))
           case atStart => exact ⟨(false), (0), (by first | rfl | (simp; done) | (simp [*]; done)), (by first | rfl | (simp; done) | (simp [*]; done)), H', ⟨Nat.le_refl _⟩, ⟨by (with_reducible repeat (first | apply Kd.S_alloc | apply Kd.S_drewN | apply Kd.S_drew)); exact Kd.S_mono (Kd.S_far (p := ⟨gb443, 1, none⟩) (Kd.S_far (p := ⟨gb443, 0, none⟩) (Kd.S_mono HO_21.out (fun k_ hk => (⟨hk, hk.2⟩ : _ ∧ k_ ≠ gb443))) (fun _ hk => hk.2) (.slice A442_0 ((rd_T30 t421 x131_5).f0).length c442_0)) (fun _ hk => hk.2) (.slice A442_1 ((rd_T30 t421 x131_5).f1).length c442_1)) (fun _ hk => ⟨hk.1.1, hk.1.2⟩)⟩, ⟨by (with_reducible repeat (first | apply Kd.S_alloc | apply Kd.S_drewN | apply Kd.S_drew)); exact Kd.S_mono (Kd.S_far (p := ⟨gb443, 1, none⟩) (Kd.S_far (p := ⟨gb443, 0, none⟩) (Kd.S_mono HO_129.out (fun k_ hk => (⟨hk, hk.2⟩ : _ ∧ k_ ≠ gb443))) (fun _ hk => hk.2) (.slice A442_0 ((rd_T30 t421 x131_5).f0).length c442_0)) (fun _ hk => hk.2) (.slice A442_1 ((rd_T30 t421 x131_5).f1).length c442_1)) (fun _ hk => ⟨hk.1.1, ⟨hk.1.1, hk.1.2⟩⟩)⟩, ⟨by (with_reducible repeat (first | apply Kd.S_alloc | apply Kd.S_drewN | apply Kd.S_drew)); exact Kd.S_mono (Kd.S_far (p := ⟨gb443, 1, none⟩) (Kd.S_far (p := ⟨gb443, 0, none⟩) (Kd.S_mono HO_21.out (fun k_ hk => (⟨hk, hk.2⟩ : _ ∧ k_ ≠ gb443))) (fun _ hk => hk.2) (.slice A442_0 ((rd_T30 t421 x131_5).f0).length c442_0)) (fun _ hk => hk.2) (.slice A442_1 ((rd_T30 t421 x131_5).f1).length c442_1)) (fun _ hk => ⟨hk.1.1, hk.1.2⟩)⟩, ⟨by (with_reducible repeat (first | refine blk_drewN ?_ _ | refine blk_drew ?_ | refine blk_alloc ?_ _)); refine blk_put (cs := #[.slice A442_0 ((rd_T30 t421 x131_5).f0).length c442_0, .slice none 0 0]) ?_ 1 _ rfl; (with_reducible repeat (first | refine blk_drewN ?_ _ | refine blk_drew ?_ | refine blk_alloc ?_ _)); refine blk_put (cs := #[.slice none 0 0, .slice none 0 0]) ?_ 0 _ rfl; (with_reducible repeat (first | refine blk_drewN ?_ _ | refine blk_drew ?_ | refine blk_alloc ?_ _)); exact BK443.out⟩, ⟨(Kd.R_reads' (by (with_reducible repeat (first | apply Kd.R_alloc | apply Kd.R_drewN | apply Kd.R_drew)); exact (Kd.R_mono (Kd.R_far (p := ⟨gb443, 1, none⟩) (Kd.R_far (p := ⟨gb443, 0, none⟩) (Kd.R_types HL442_0.out BK443.out (by decide)) (fun _ hk => hk.2) (.slice A442_0 ((rd_T30 t421 x131_5).f0).length c442_0)) (fun _ hk => hk.2) (.slice A442_1 ((rd_T30 t421 x131_5).f1).length c442_1)) (fun _ h_ => h_.1)))).2.2⟩, ⟨(Kd.R_reads' (by (with_reducible repeat (first | apply Kd.R_alloc | apply Kd.R_drewN | apply Kd.R_drew)); exact (Kd.R_mono (Kd.R_far (p := ⟨gb443, 1, none⟩) (Kd.R_far (p := ⟨gb443, 0, none⟩) (Kd.R_types HL442_1.out BK443.out (by decide)) (fun _ hk => hk.2) (.slice A442_0 ((rd_T30 t421 x131_5).f0).length c442_0)) (fun _ hk => hk.2) (.slice A442_1 ((rd_T30 t421 x131_5).f1).length c442_1)) (fun _ h_ => h_.1)))).2.2⟩, ⟨by repeat (first | (with_reducible first | exact HB.out | apply below_alloc | apply pw_below_drewN | apply below_drew1 | refine below_set ?_ GE443.out) | exact HB.out)⟩⟩
           case round =>
            clear H'
            try clear c1
            try clear c2
            try clear p2
            try clear c3
            try clear c4
            try clear p4
            try clear q4
            try clear hx4
            try clear c5
            try clear c6
            try clear p6
            try clear c8
            try clear c9
            try clear c9b0
            try clear c9b1
            try clear c13
            try clear c15
            try clear c15b0
            try clear c15b1
            try clear c16
            try clear c16b0
            try clear c16b1
            try clear c19
            try clear c19b0
            try clear c20
            try clear c20b0
            try clear c21
            try clear c21b0
            try clear c24
            try clear c24b0
            try clear c25
            try clear c25b0
            try clear c26
            try clear c26b0
            try clear c27
            try clear c27b0
            try clear c27b1
            try clear c29
            try clear c29b0
            try clear c30
            try clear c30b0
            try clear c31
            try clear c31b0
            try clear c32
            try clear c32b0
            try clear c32b1
            try clear c34
            try clear c34b0
            try clear c35
            try clear c36
            try clear c37
            try clear c42
            try clear p42
            try clear q42
            try clear hx42
            try clear c44
            try clear p44
            try clear q44
            try clear hx44
            try clear c46
            try clear c46b0
            try clear c46b1
            try clear c48
            try clear c49
            try clear c49b0
            try clear c50
            try clear c50b0
            try clear c51
            try clear c51b0
            try clear hcz23_0
            try clear hcz23_1
            try clear hcz28_0
            try clear hcz28_1
            try clear hcz53_0
            try clear hcz53_1
            try clear hfz23_0
            try clear hfz23_1
            try clear hfz28_0
            try clear hfz28_1
            try clear hfz53_0
            try clear hfz53_1
            try clear hx425_0
            try clear hx425_1
            try clear hx427_0
            try clear hx428_0
            try clear hx442_0
            try clear hx442_1
            try clear p2
            try clear p4
            try clear p42
            try clear p425
            try clear p427
            try clear p428
            try clear p442
            try clear p6
            try clear q4
            try clear q42
            try clear q425
            try clear q427
            try clear q428
            try clear q442
            obtain ⟨x25_6, x137_6, rfl, rfl, HA, HK6, HO_21, HO_129, HO_135, BK443, HR442_0, HR442_1, HB⟩ := hrel
            cases gk with
            | zero => exact absurd HA.out (by simp [orrerylaw21_OrderMore.l4])
            | succ k6 =>
             have H := HA.out
             clear HA
             simp only [orrerylaw21_OrderMore.l4] at H
             by_cases c55 : x137_6 < (t438.length : Int)
             case neg =>
              rw [if_neg c55] at H
              have c55b0 : decide (x137_6 < (t438.length : Int)) = false := decide_eq_false c55
              clear c55
              by_cases c73 : x25_6 = true
              case neg =>
               replace c73 := Bool.eq_false_iff.mpr c73
               subst c73
               have H1 : (some false) = some r := by rw [if_neg (show ¬ (false = true) by decide)] at H; exact H
               clear H
               have H := H1
               clear H1
               obtain rfl := Option.some.inj H
               go_wp2
               repeat (go_quiet (fail); try go_wp2)
               go_ret
               exact ⟨by first | rfl | (simp [errW_none, errW_some] <;> rfl) | (simp [*, errW_none, errW_some] <;> rfl), by repeat (first | (with_reducible first | exact HB.out | apply below_alloc | apply pw_below_drewN | apply below_drew1 | refine below_set ?_ GE443.out) | exact HB.out)⟩
              subst c73
              have H1 : (orrerylaw21_OrderMore.l3 k6 t438 t421 (t421.length : Int) (wrap64 (x131_5 + 1))) = some r := by rw [if_pos rfl] at H; exact H
              clear H
              have H := H1
              clear H1
              have H' := Aside0.mk H
              clear H
              go_wp2
              repeat (go_quiet (fail); try go_wp2)
              (first | go_roundg k6 | (refine Handed.intro k6 ?measure ?_; rotate_left; go_step; (repeat apply Exists.intro); (refine ⟨?rel, ?fr_⟩); (case fr_ => (simp only [add_plain]; rfl))))
              case measure => have := HJ5.out; have := HK2.out; have := HJ32.out; have := HJ38.out; have := HK5.out; have := HK6.out; omega
              case rel => exact ⟨(wrap64 (x131_5 + 1)), (by first | rfl | (simp; done) | (simp [*]; done)), H', ⟨by have := HJ5.out; have := HK2.out; have := HJ32.out; have := HJ38.out; have := HK5.out; have := HK6.out; omega⟩, ⟨by (with_reducible repeat (first | apply Kd.S_alloc | apply Kd.S_drewN | apply Kd.S_drew)); exact Kd.S_mono HO_21.out (fun _ hk => hk.1)⟩, ⟨by (with_reducible repeat (first | apply Kd.S_alloc | apply Kd.S_drewN | apply Kd.S_drew)); exact Kd.S_mono HO_129.out (fun _ hk => hk.1)⟩, ⟨by repeat (first | (with_reducible first | exact HB.out | apply below_alloc | apply pw_below_drewN | apply below_drew1 | refine below_set ?_ GE443.out) | exact HB.out)⟩⟩
             rw [if_pos c55] at H
             have c55b0 : decide (x137_6 < (t438.length : Int)) = true := decide_eq_true c55
             clear c55
             by_cases c56 : 0 ≤ x137_6
             case neg => rw [if_neg c56] at H; exact absurd H (by simp)
             rw [if_pos c56] at H
             have c56b0 : decide (0 ≤ x137_6) = true := decide_eq_true c56
             clear c56
             by_cases c57 : x137_6 < (t438.length : Int)
             case neg => rw [if_neg c57] at H; exact absurd H (by simp)
             rw [if_pos c57] at H
             have c57b0 : decide (x137_6 < (t438.length : Int)) = true := decide_eq_true c57
             clear c57
             by_cases c58 : x25_6 = true
             case pos =>
              subst c58
              have H1 : (orrerylaw21_OrderMore.l4 k6 t438 true t421 (t421.length : Int) x131_5 t438 (t438.length : Int) (wrap64 (x137_6 + 1)) ((rd_T30 t421 x131_5).f0) ((rd_T30 t421 x131_5).f1)) = some r := by rw [if_pos rfl] at H; exact H
              clear H
              have H := H1
              clear H1
              have H' := Aside0.mk H
              clear H
              have p444 : 0 ≤ (x137_6 : Int) := of_decide_eq_true (by first | (with_reducible assumption) | assumption)
              have q444 : x137_6 < (t438.length : Int) := of_decide_eq_true (by first | (with_reducible assumption) | assumption)
              obtain ⟨ad444, A444_0, c444_0, A444_1, c444_1, e444, hx444_0, hx444_1, hl444_0, hi444_0, hl444_1, hi444_1⟩ := at_T30 (Kd.S_reads' HO_135.out).2.2 x137_6 p444 q444
              cases e444
              obtain ⟨ce444, hce444, hMe444, hcc444⟩ := Kd.S_get HO_135.out z30 x137_6 p444 (by first | exact q444 | exact of_decide_eq_true (by first | (with_reducible assumption) | assumption) | (have e_ := (Kd.S_reads' HO_135.out).1; omega))
              obtain ⟨ve444_0, ve444_1, rfl, ge444_0, ge444_1⟩ := k30_openM hMe444
              have hv444_0 := hcc444 0 _ rfl
              rw [Nat.add_zero] at hv444_0
              replace hv444_0 := Option.some.inj (hv444_0.symm.trans hx444_0)
              rw [hv444_0] at ge444_0
              have HL444_0 := Aside0.mk (show Kd.R (Kd.int .i64) 3 _ _ _ _ ((rd_T30 t438 x137_6).f0) from ge444_0)
              clear hv444_0 ge444_0
              have hv444_1 := hcc444 1 _ rfl
              rw [add_field _ _ 1 (by omega)] at hv444_1
              replace hv444_1 := Option.some.inj (hv444_1.symm.trans hx444_1)
              rw [hv444_1] at ge444_1
              have HL444_1 := Aside0.mk (show Kd.R (Kd.int .i64) 3 _ _ _ _ ((rd_T30 t438 x137_6).f1) from ge444_1)
              clear hv444_1 ge444_1
              clear hcc444 hce444
              have HR444_0 := Aside0.mk hi444_0
              have HC444_0 := Aside0.mk hl444_0
              clear hi444_0 hl444_0
              have HR444_1 := Aside0.mk hi444_1
              have HC444_1 := Aside0.mk hl444_1
              clear hi444_1 hl444_1
              replace p444 := eq_true p444
              replace q444 := eq_true q444
              go_wp2_with (first | ((with_reducible refine gate_dst (N := 27) rfl ?_); (try (refine gate_guard (by rfl) ?_; dsimp only)); refine box_event ?hg (N := 27) ?hd (cs := #[.slice none 0 0, .slice none 0 0]) (t := 30) ?hr ?_; (case hd => rfl); (case hg => rfl); (case hr => first | (go_simp; done) | (go_simp; rfl)); intro gb445 hg w59 hbox hb; have n0_ := Aside0.mk (Kd.S_below (Kd.S_elderB (by (with_reducible repeat (first | apply Kd.S_alloc | apply Kd.S_drewN | apply Kd.S_drew)); exact HO_21.out) gb445 (Nat.le_of_eq hg.symm)) hb); have n1_ := Aside0.mk (Kd.S_below (Kd.S_elderB (by (with_reducible repeat (first | apply Kd.S_alloc | apply Kd.S_drewN | apply Kd.S_drew)); exact HO_129.out) gb445 (Nat.le_of_eq hg.symm)) hb); have n2_ := Aside0.mk (Kd.S_below (Kd.S_elderB (by (with_reducible repeat (first | apply Kd.S_alloc | apply Kd.S_drewN | apply Kd.S_drew)); exact HO_135.out) gb445 (Nat.le_of_eq hg.symm)) hb); have n3_ := Aside0.mk (Kd.R_below (by (with_reducible repeat (first | apply Kd.R_alloc | apply Kd.R_drewN | apply Kd.R_drew)); exact HL444_0.out) hb); have n4_ := Aside0.mk (Kd.R_below (by (with_reducible repeat (first | apply Kd.R_alloc | apply Kd.R_drewN | apply Kd.R_drew)); exact HL444_1.out) hb); have n5_ := Aside0.mk (blk_below (g := gb443) (o := .cells #[.slice A442_0 ((rd_T30 t421 x131_5).f0).length c442_0, .slice A442_1 ((rd_T30 t421 x131_5).f1).length c442_1] 30 (0, 0)) (by (with_reducible repeat (first | refine blk_drewN ?_ _ | refine blk_drew ?_ | refine blk_alloc ?_ _)); exact BK443.out) hb); have n6_ := Aside0.mk (Kd.C_below (by repeat (first | (with_reducible exact HR442_0.out) | (with_reducible refine Kd.C_alloc ?_ _) | (with_reducible refine Kd.C_drewN ?_ _) | (with_reducible refine Kd.C_drew ?_) | exact HR442_0.out)) hb); have n7_ := Aside0.mk (Kd.C_below (by repeat (first | (with_reducible exact HR442_1.out) | (with_reducible refine Kd.C_alloc ?_ _) | (with_reducible refine Kd.C_drewN ?_ _) | (with_reducible refine Kd.C_drew ?_) | exact HR442_1.out)) hb); have n8_ := Aside0.mk (Kd.C_below (by repeat (first | (with_reducible exact HR444_0.out) | (with_reducible refine Kd.C_alloc ?_ _) | (with_reducible refine Kd.C_drewN ?_ _) | (with_reducible refine Kd.C_drew ?_) | exact HR444_0.out)) hb); have n9_ := Aside0.mk (Kd.C_below (by repeat (first | (with_reducible exact HR444_1.out) | (with_reducible refine Kd.C_alloc ?_ _) | (with_reducible refine Kd.C_drewN ?_ _) | (with_reducible refine Kd.C_drew ?_) | exact HR444_1.out)) hb); have n10_ := Aside0.mk ((Kd.C_aboveB (by repeat (first | (with_reducible exact HR442_0.out) | (with_reducible refine Kd.C_alloc ?_ _) | (with_reducible refine Kd.C_drewN ?_ _) | (with_reducible refine Kd.C_drew ?_) | exact HR442_0.out)) (by decide) (Nat.le_of_eq hg.symm))); have n11_ := Aside0.mk ((Kd.C_aboveB (by repeat (first | (with_reducible exact HR442_1.out) | (with_reducible refine Kd.C_alloc ?_ _) | (with_reducible refine Kd.C_drewN ?_ _) | (with_reducible refine Kd.C_drew ?_) | exact HR442_1.out)) (by decide) (Nat.le_of_eq hg.symm))); have n12_ := Aside0.mk ((Kd.C_aboveB (by repeat (first | (with_reducible exact HR444_0.out) | (with_reducible refine Kd.C_alloc ?_ _) | (with_reducible refine Kd.C_drewN ?_ _) | (with_reducible refine Kd.C_drew ?_) | exact HR444_0.out)) (by decide) (Nat.le_of_eq hg.symm))); have n13_ := Aside0.mk ((Kd.C_aboveB (by repeat (first | (with_reducible exact HR444_1.out) | (with_reducible refine Kd.C_alloc ?_ _) | (with_reducible refine Kd.C_drewN ?_ _) | (with_reducible refine Kd.C_drew ?_) | exact HR444_1.out)) (by decide) (Nat.le_of_eq hg.symm))); have n14_ := Aside0.mk (below_step (by repeat (first | (with_reducible first | exact HB.out | apply below_alloc | apply pw_below_drewN | apply below_drew1 | refine below_set ?_ GE443.out) | exact HB.out)) hb); have n15_ := Aside0.mk (hbox); have n16_ := Aside0.mk ((by rw [hg]; exact (below_size (by repeat (first | (with_reducible first | exact HB.out | apply below_alloc | apply pw_below_drewN | apply below_drew1 | refine below_set ?_ GE443.out) | exact HB.out))) : w.heap.size ≤ gb445)); have n17_ := Aside0.mk ((by rw [hg]; exact (below_size (by repeat (first | (with_reducible first | exact HB.out | apply below_alloc | apply pw_below_drewN | apply below_drew1 | refine below_set ?_ GE443.out) | exact HB.out))) : w.heap.size ≤ gb445)); have n18_ := Aside0.mk ((by rw [hg]; exact Nat.ne_of_lt (blk_lt (g := gb443) (o := .cells #[.slice A442_0 ((rd_T30 t421 x131_5).f0).length c442_0, .slice A442_1 ((rd_T30 t421 x131_5).f1).length c442_1] 30 (0, 0)) (by (with_reducible repeat (first | refine blk_drewN ?_ _ | refine blk_drew ?_ | refine blk_alloc ?_ _)); exact BK443.out)) : gb443 ≠ gb445)); have n19_ := Aside0.mk ((by rw [hg]; exact Nat.ne_of_gt (blk_lt (g := gb443) (o := .cells #[.slice A442_0 ((rd_T30 t421 x131_5).f0).length c442_0, .slice A442_1 ((rd_T30 t421 x131_5).f1).length c442_1] 30 (0, 0)) (by (with_reducible repeat (first | refine blk_drewN ?_ _ | refine blk_drew ?_ | refine blk_alloc ?_ _)); exact BK443.out)) : gb445 ≠ gb443)); clear HO_21; clear HO_129; clear HO_135; clear HL444_0; clear HL444_1; clear BK443; clear HR442_0; clear HR442_1; clear HR444_0; clear HR444_1; clear HB; have HO_21 := n0_; have HO_129 := n1_; have HO_135 := n2_; have HL444_0 := n3_; have HL444_1 := n4_; have BK443 := n5_; have HR442_0 := n6_; have HR442_1 := n7_; have HR444_0 := n8_; have HR444_1 := n9_; have SF442_0_445 := n10_; have SF442_1_445 := n11_; have SF444_0_445 := n12_; have SF444_1_445 := n13_; have HB := n14_; have BK445 := n15_; have GW445 := n16_; have GE445 := n17_; have NB443_445 := n18_; have NB445_443 := n19_; clear n0_ n1_ n2_ n3_ n4_ n5_ n6_ n7_ n8_ n9_ n10_ n11_ n12_ n13_ n14_ n15_ n16_ n17_ n18_ n19_; clear hb hbox hg; have hnb60 := NB445_443.out; have hnc60 := NB443_445.out; have hcz61_0 : w59.cell? ⟨gb445, 0, none⟩ = some (.slice none 0 0) := (blk_cell BK445.out 0).trans rfl; have hcz61_1 : w59.cell? ⟨gb445, 1, none⟩ = some (.slice none 0 0) := (blk_cell BK445.out 1).trans rfl; have hfz61_0 := blk_frozen BK445.out 0; have hfz61_1 := blk_frozen BK445.out 1))
              repeat (go_quiet (first | ((with_reducible refine gate_dst (N := 27) rfl ?_); (try (refine gate_guard (by rfl) ?_; dsimp only)); refine box_event ?hg (N := 27) ?hd (cs := #[.slice none 0 0, .slice none 0 0]) (t := 30) ?hr ?_; (case hd => rfl); (case hg => rfl); (case hr => first | (go_simp; done) | (go_simp; rfl)); intro gb445 hg w59 hbox hb; have n0_ := Aside0.mk (Kd.S_below (Kd.S_elderB (by (with_reducible repeat (first | apply Kd.S_alloc | apply Kd.S_drewN | apply Kd.S_drew)); exact HO_21.out) gb445 (Nat.le_of_eq hg.symm)) hb); have n1_ := Aside0.mk (Kd.S_below (Kd.S_elderB (by (with_reducible repeat (first | apply Kd.S_alloc | apply Kd.S_drewN | apply Kd.S_drew)); exact HO_129.out) gb445 (Nat.le_of_eq hg.symm)) hb); have n2_ := Aside0.mk (Kd.S_below (Kd.S_elderB (by (with_reducible repeat (first | apply Kd.S_alloc | apply Kd.S_drewN | apply Kd.S_drew)); exact HO_135.out) gb445 (Nat.le_of_eq hg.symm)) hb); have n3_ := Aside0.mk (Kd.R_below (by (with_reducible repeat (first | apply Kd.R_alloc | apply Kd.R_drewN | apply Kd.R_drew)); exact HL444_0.out) hb); have n4_ := Aside0.mk (Kd.R_below (by (with_reducible repeat (first | apply Kd.R_alloc | apply Kd.R_drewN | apply Kd.R_drew)); exact HL444_1.out) hb); have n5_ := Aside0.mk (blk_below (g := gb443) (o := .cells #[.slice A442_0 ((rd_T30 t421 x131_5).f0).length c442_0, .slice A442_1 ((rd_T30 t421 x131_5).f1).length c442_1] 30 (0, 0)) (by (with_reducible repeat (first | refine blk_drewN ?_ _ | refine blk_drew ?_ | refine blk_alloc ?_ _)); exact BK443.out) hb); have n6_ := Aside0.mk (Kd.C_below (by repeat (first | (with_reducible exact HR442_0.out) | (with_reducible refine Kd.C_alloc ?_ _) | (with_reducible refine Kd.C_drewN ?_ _) | (with_reducible refine Kd.C_drew ?_) | exact HR442_0.out)) hb); have n7_ := Aside0.mk (Kd.C_below (by repeat (first | (with_reducible exact HR442_1.out) | (with_reducible refine Kd.C_alloc ?_ _) | (with_reducible refine Kd.C_drewN ?_ _) | (with_reducible refine Kd.C_drew ?_) | exact HR442_1.out)) hb); have n8_ := Aside0.mk (Kd.C_below (by repeat (first | (with_reducible exact HR444_0.out) | (with_reducible refine Kd.C_alloc ?_ _) | (with_reducible refine Kd.C_drewN ?_ _) | (with_reducible refine Kd.C_drew ?_) | exact HR444_0.out)) hb); have n9_ := Aside0.mk (Kd.C_below (by repeat (first | (with_reducible exact HR444_1.out) | (with_reducible refine Kd.C_alloc ?_ _) | (with_reducible refine Kd.C_drewN ?_ _) | (with_reducible refine Kd.C_drew ?_) | exact HR444_1.out)) hb); have n10_ := Aside0.mk ((Kd.C_aboveB (by repeat (first | (with_reducible exact HR442_0.out) | (with_reducible refine Kd.C_alloc ?_ _) | (with_reducible refine Kd.C_drewN ?_ _) | (with_reducible refine Kd.C_drew ?_) | exact HR442_0.out)) (by decide) (Nat.le_of_eq hg.symm))); have n11_ := Aside0.mk ((Kd.C_aboveB (by repeat (first | (with_reducible exact HR442_1.out) | (with_reducible refine Kd.C_alloc ?_ _) | (with_reducible refine Kd.C_drewN ?_ _) | (with_reducible refine Kd.C_drew ?_) | exact HR442_1.out)) (by decide) (Nat.le_of_eq hg.symm))); have n12_ := Aside0.mk ((Kd.C_aboveB (by repeat (first | (with_reducible exact HR444_0.out) | (with_reducible refine Kd.C_alloc ?_ _) | (with_reducible refine Kd.C_drewN ?_ _) | (with_reducible refine Kd.C_drew ?_) | exact HR444_0.out)) (by decide) (Nat.le_of_eq hg.symm))); have n13_ := Aside0.mk ((Kd.C_aboveB (by repeat (first | (with_reducible exact HR444_1.out) | (with_reducible refine Kd.C_alloc ?_ _) | (with_reducible refine Kd.C_drewN ?_ _) | (with_reducible refine Kd.C_drew ?_) | exact HR444_1.out)) (by decide) (Nat.le_of_eq hg.symm))); have n14_ := Aside0.mk (below_step (by repeat (first | (with_reducible first | exact HB.out | apply below_alloc | apply pw_below_drewN | apply below_drew1 | refine below_set ?_ GE443.out) | exact HB.out)) hb); have n15_ := Aside0.mk (hbox); have n16_ := Aside0.mk ((by rw [hg]; exact (below_size (by repeat (first | (with_reducible first | exact HB.out | apply below_alloc | apply pw_below_drewN | apply below_drew1 | refine below_set ?_ GE443.out) | exact HB.out))) : w.heap.size ≤ gb445)); have n17_ := Aside0.mk ((by rw [hg]; exact (below_size (by repeat (first | (with_reducible first | exact HB.out | apply below_alloc | apply pw_below_drewN | apply below_drew1 | refine below_set ?_ GE443.out) | exact HB.out))) : w.heap.size ≤ gb445)); have n18_ := Aside0.mk ((by rw [hg]; exact Nat.ne_of_lt (blk_lt (g := gb443) (o := .cells #[.slice A442_0 ((rd_T30 t421 x131_5).f0).length c442_0, .slice A442_1 ((rd_T30 t421 x131_5).f1).length c442_1] 30 (0, 0)) (by (with_reducible repeat (first | refine blk_drewN ?_ _ | refine blk_drew ?_ | refine blk_alloc ?_ _)); exact BK443.out)) : gb443 ≠ gb445)); have n19_ := Aside0.mk ((by rw [hg]; exact Nat.ne_of_gt (blk_lt (g := gb443) (o := .cells #[.slice A442_0 ((rd_T30 t421 x131_5).f0).length c442_0, .slice A442_1 ((rd_T30 t421 x131_5).f1).length c442_1] 30 (0, 0)) (by (with_reducible repeat (first | refine blk_drewN ?_ _ | refine blk_drew ?_ | refine blk_alloc ?_ _)); exact BK443.out)) : gb445 ≠ gb443)); clear HO_21; clear HO_129; clear HO_135; clear HL444_0; clear HL444_1; clear BK443; clear HR442_0; clear HR442_1; clear HR444_0; clear HR444_1; clear HB; have HO_21 := n0_; have HO_129 := n1_; have HO_135 := n2_; have HL444_0 := n3_; have HL444_1 := n4_; have BK443 := n5_; have HR442_0 := n6_; have HR442_1 := n7_; have HR444_0 := n8_; have HR444_1 := n9_; have SF442_0_445 := n10_; have SF442_1_445 := n11_; have SF444_0_445 := n12_; have SF444_1_445 := n13_; have HB := n14_; have BK445 := n15_; have GW445 := n16_; have GE445 := n17_; have NB443_445 := n18_; have NB445_443 := n19_; clear n0_ n1_ n2_ n3_ n4_ n5_ n6_ n7_ n8_ n9_ n10_ n11_ n12_ n13_ n14_ n15_ n16_ n17_ n18_ n19_; clear hb hbox hg; have hnb60 := NB445_443.out; have hnc60 := NB443_445.out; have hcz61_0 : w59.cell? ⟨gb445, 0, none⟩ = some (.slice none 0 0) := (blk_cell BK445.out 0).trans rfl; have hcz61_1 : w59.cell? ⟨gb445, 1, none⟩ = some (.slice none 0 0) := (blk_cell BK445.out 1).trans rfl; have hfz61_0 := blk_frozen BK445.out 0; have hfz61_1 := blk_frozen BK445.out 1)); try go_wp2_with (first | ((with_reducible refine gate_dst (N := 27) rfl ?_); (try (refine gate_guard (by rfl) ?_; dsimp only)); refine box_event ?hg (N := 27) ?hd (cs := #[.slice none 0 0, .slice none 0 0]) (t := 30) ?hr ?_; (case hd => rfl); (case hg => rfl); (case hr => first | (go_simp; done) | (go_simp; rfl)); intro gb445 hg w59 hbox hb; have n0_ := Aside0.mk (Kd.S_below (Kd.S_elderB (by (with_reducible repeat (first | apply Kd.S_alloc | apply Kd.S_drewN | apply Kd.S_drew)); exact HO_21.out) gb445 (Nat.le_of_eq hg.symm)) hb); have n1_ := Aside0.mk (Kd.S_below (Kd.S_elderB (by (with_reducible repeat (first | apply Kd.S_alloc | apply Kd.S_drewN | apply Kd.S_drew)); exact HO_129.out) gb445 (Nat.le_of_eq hg.symm)) hb); have n2_ := Aside0.mk (Kd.S_below (Kd.S_elderB (by (with_reducible repeat (first | apply Kd.S_alloc | apply Kd.S_drewN | apply Kd.S_drew)); exact HO_135.out) gb445 (Nat.le_of_eq hg.symm)) hb); have n3_ := Aside0.mk (Kd.R_below (by (with_reducible repeat (first | apply Kd.R_alloc | apply Kd.R_drewN | apply Kd.R_drew)); exact HL444_0.out) hb); have n4_ := Aside0.mk (Kd.R_below (by (with_reducible repeat (first | apply Kd.R_alloc | apply Kd.R_drewN | apply Kd.R_drew)); exact HL444_1.out) hb); have n5_ := Aside0.mk (blk_below (g := gb443) (o := .cells #[.slice A442_0 ((rd_T30 t421 x131_5).f0).length c442_0, .slice A442_1 ((rd_T30 t421 x131_5).f1).length c442_1] 30 (0, 0)) (by (with_reducible repeat (first | refine blk_drewN ?_ _ | refine blk_drew ?_ | refine blk_alloc ?_ _)); exact BK443.out) hb); have n6_ := Aside0.mk (Kd.C_below (by repeat (first | (with_reducible exact HR442_0.out) | (with_reducible refine Kd.C_alloc ?_ _) | (with_reducible refine Kd.C_drewN ?_ _) | (with_reducible refine Kd.C_drew ?_) | exact HR442_0.out)) hb); have n7_ := Aside0.mk (Kd.C_below (by repeat (first | (with_reducible exact HR442_1.out) | (with_reducible refine Kd.C_alloc ?_ _) | (with_reducible refine Kd.C_drewN ?_ _) | (with_reducible refine Kd.C_drew ?_) | exact HR442_1.out)) hb); have n8_ := Aside0.mk (Kd.C_below (by repeat (first | (with_reducible exact HR444_0.out) | (with_reducible refine Kd.C_alloc ?_ _) | (with_reducible refine Kd.C_drewN ?_ _) | (with_reducible refine Kd.C_drew ?_) | exact HR444_0.out)) hb); have n9_ := Aside0.mk (Kd.C_below (by repeat (first | (with_reducible exact HR444_1.out) | (with_reducible refine Kd.C_alloc ?_ _) | (with_reducible refine Kd.C_drewN ?_ _) | (with_reducible refine Kd.C_drew ?_) | exact HR444_1.out)) hb); have n10_ := Aside0.mk ((Kd.C_aboveB (by repeat (first | (with_reducible exact HR442_0.out) | (with_reducible refine Kd.C_alloc ?_ _) | (with_reducible refine Kd.C_drewN ?_ _) | (with_reducible refine Kd.C_drew ?_) | exact HR442_0.out)) (by decide) (Nat.le_of_eq hg.symm))); have n11_ := Aside0.mk ((Kd.C_aboveB (by repeat (first | (with_reducible exact HR442_1.out) | (with_reducible refine Kd.C_alloc ?_ _) | (with_reducible refine Kd.C_drewN ?_ _) | (with_reducible refine Kd.C_drew ?_) | exact HR442_1.out)) (by decide) (Nat.le_of_eq hg.symm))); have n12_ := Aside0.mk ((Kd.C_aboveB (by repeat (first | (with_reducible exact HR444_0.out) | (with_reducible refine Kd.C_alloc ?_ _) | (with_reducible refine Kd.C_drewN ?_ _) | (with_reducible refine Kd.C_drew ?_) | exact HR444_0.out)) (by decide) (Nat.le_of_eq hg.symm))); have n13_ := Aside0.mk ((Kd.C_aboveB (by repeat (first | (with_reducible exact HR444_1.out) | (with_reducible refine Kd.C_alloc ?_ _) | (with_reducible refine Kd.C_drewN ?_ _) | (with_reducible refine Kd.C_drew ?_) | exact HR444_1.out)) (by decide) (Nat.le_of_eq hg.symm))); have n14_ := Aside0.mk (below_step (by repeat (first | (with_reducible first | exact HB.out | apply below_alloc | apply pw_below_drewN | apply below_drew1 | refine below_set ?_ GE443.out) | exact HB.out)) hb); have n15_ := Aside0.mk (hbox); have n16_ := Aside0.mk ((by rw [hg]; exact (below_size (by repeat (first | (with_reducible first | exact HB.out | apply below_alloc | apply pw_below_drewN | apply below_drew1 | refine below_set ?_ GE443.out) | exact HB.out))) : w.heap.size ≤ gb445)); have n17_ := Aside0.mk ((by rw [hg]; exact (below_size (by repeat (first | (with_reducible first | exact HB.out | apply below_alloc | apply pw_below_drewN | apply below_drew1 | refine below_set ?_ GE443.out) | exact HB.out))) : w.heap.size ≤ gb445)); have n18_ := Aside0.mk ((by rw [hg]; exact Nat.ne_of_lt (blk_lt (g := gb443) (o := .cells #[.slice A442_0 ((rd_T30 t421 x131_5).f0).length c442_0, .slice A442_1 ((rd_T30 t421 x131_5).f1).length c442_1] 30 (0, 0)) (by (with_reducible repeat (first | refine blk_drewN ?_ _ | refine blk_drew ?_ | refine blk_alloc ?_ _)); exact BK443.out)) : gb443 ≠ gb445)); have n19_ := Aside0.mk ((by rw [hg]; exact Nat.ne_of_gt (blk_lt (g := gb443) (o := .cells #[.slice A442_0 ((rd_T30 t421 x131_5).f0).length c442_0, .slice A442_1 ((rd_T30 t421 x131_5).f1).length c442_1] 30 (0, 0)) (by (with_reducible repeat (first | refine blk_drewN ?_ _ | refine blk_drew ?_ | refine blk_alloc ?_ _)); exact BK443.out)) : gb445 ≠ gb443)); clear HO_21; clear HO_129; clear HO_135; clear HL444_0; clear HL444_1; clear BK443; clear HR442_0; clear HR442_1; clear HR444_0; clear HR444_1; clear HB; have HO_21 := n0_; have HO_129 := n1_; have HO_135 := n2_; have HL444_0 := n3_; have HL444_1 := n4_; have BK443 := n5_; have HR442_0 := n6_; have HR442_1 := n7_; have HR444_0 := n8_; have HR444_1 := n9_; have SF442_0_445 := n10_; have SF442_1_445 := n11_; have SF444_0_445 := n12_; have SF444_1_445 := n13_; have HB := n14_; have BK445 := n15_; have GW445 := n16_; have GE445 := n17_; have NB443_445 := n18_; have NB445_443 := n19_; clear n0_ n1_ n2_ n3_ n4_ n5_ n6_ n7_ n8_ n9_ n10_ n11_ n12_ n13_ n14_ n15_ n16_ n17_ n18_ n19_; clear hb hbox hg; have hnb60 := NB445_443.out; have hnc60 := NB443_445.out; have hcz61_0 : w59.cell? ⟨gb445, 0, none⟩ = some (.slice none 0 0) := (blk_cell BK445.out 0).trans rfl; have hcz61_1 : w59.cell? ⟨gb445, 1, none⟩ = some (.slice none 0 0) := (blk_cell BK445.out 1).trans rfl; have hfz61_0 := blk_frozen BK445.out 0; have hfz61_1 := blk_frozen BK445.out 1)))
              (first | go_roundg k6 | (refine Handed.intro k6 ?measure ?_; rotate_left; go_step; (repeat apply Exists.intro); (refine ⟨?rel, ?fr_⟩); (case fr_ => (simp only [add_plain]; rfl))))
              case measure => have := HJ5.out; have := HK2.out; have := HJ32.out; have := HJ38.out; have := HK5.out; have := HK6.out; omega
              case rel => exact ⟨(true), (wrap64 (x137_6 + 1)), (by first | rfl | (simp; done) | (simp [*]; done)), (by first | rfl | (simp; done) | (simp [*]; done)), H', ⟨by have := HJ5.out; have := HK2.out; have := HJ32.out; have := HJ38.out; have := HK5.out; have := HK6.out; omega⟩, ⟨by (with_reducible repeat (first | apply Kd.S_alloc | apply Kd.S_drewN | apply Kd.S_drew)); exact Kd.S_mono (Kd.S_far (p := ⟨gb445, 1, none⟩) (Kd.S_far (p := ⟨gb445, 0, none⟩) (Kd.S_mono HO_21.out (fun k_ hk => (⟨hk, hk.2⟩ : _ ∧ k_ ≠ gb445))) (fun _ hk => hk.2) (.slice A444_0 ((rd_T30 t438 x137_6).f0).length c444_0)) (fun _ hk => hk.2) (.slice A444_1 ((rd_T30 t438 x137_6).f1).length c444_1)) (fun _ hk => ⟨hk.1.1.1, hk.1.1.2⟩)⟩, ⟨by (with_reducible repeat (first | apply Kd.S_alloc | apply Kd.S_drewN | apply Kd.S_drew)); exact Kd.S_mono (Kd.S_far (p := ⟨gb445, 1, none⟩) (Kd.S_far (p := ⟨gb445, 0, none⟩) (Kd.S_mono HO_129.out (fun k_ hk => (⟨hk, hk.2⟩ : _ ∧ k_ ≠ gb445))) (fun _ hk => hk.2) (.slice A444_0 ((rd_T30 t438 x137_6).f0).length c444_0)) (fun _ hk => hk.2) (.slice A444_1 ((rd_T30 t438 x137_6).f1).length c444_1)) (fun _ hk => ⟨hk.1.1.1, ⟨hk.1.1.2.1, hk.1.1.2.2⟩⟩)⟩, ⟨by (with_reducible repeat (first | apply Kd.S_alloc | apply Kd.S_drewN | apply Kd.S_drew)); exact Kd.S_mono (Kd.S_far (p := ⟨gb445, 1, none⟩) (Kd.S_far (p := ⟨gb445, 0, none⟩) (Kd.S_mono HO_135.out (fun k_ hk => (⟨hk, hk.2⟩ : _ ∧ k_ ≠ gb445))) (fun _ hk => hk.2) (.slice A444_0 ((rd_T30 t438 x137_6).f0).length c444_0)) (fun _ hk => hk.2) (.slice A444_1 ((rd_T30 t438 x137_6).f1).length c444_1)) (fun _ hk => ⟨hk.1.1.1, hk.1.1.2⟩)⟩, ⟨by (with_reducible repeat (first | refine blk_drewN ?_ _ | refine blk_drew ?_ | refine blk_alloc ?_ _)); refine blk_far ?_ NB443_445.out _; (with_reducible repeat (first | refine blk_drewN ?_ _ | refine blk_drew ?_ | refine blk_alloc ?_ _)); refine blk_far ?_ NB443_445.out _; (with_reducible repeat (first | refine blk_drewN ?_ _ | refine blk_drew ?_ | refine blk_alloc ?_ _)); exact BK443.out⟩, ⟨by (with_reducible repeat (first | apply Kd.C_alloc | apply Kd.C_drewN | apply Kd.C_drew)); exact (Kd.C_farP (p := ⟨gb445, 1, none⟩) (Kd.C_farP (p := ⟨gb445, 0, none⟩) HR442_0.out SF442_0_445.out (.slice A444_0 ((rd_T30 t438 x137_6).f0).length c444_0)) SF442_0_445.out (.slice A444_1 ((rd_T30 t438 x137_6).f1).length c444_1))⟩, ⟨by (with_reducible repeat (first | apply Kd.C_alloc | apply Kd.C_drewN | apply Kd.C_drew)); exact (Kd.C_farP (p := ⟨gb445, 1, none⟩) (Kd.C_farP (p := ⟨gb445, 0, none⟩) HR442_1.out SF442_1_445.out (.slice A444_0 ((rd_T30 t438 x137_6).f0).length c444_0)) SF442_1_445.out (.slice A444_1 ((rd_T30 t438 x137_6).f1).length c444_1))⟩, ⟨by repeat (first | (with_reducible first | exact HB.out | apply below_alloc | apply pw_below_drewN | apply below_drew1 | refine below_set ?_ GE443.out | refine below_set ?_ GE445.out) | exact HB.out)⟩⟩
             replace c58 := Bool.eq_false_iff.mpr c58
             subst c58
             have H1 : ((orreryref17_Ints.f k6 ((rd_T30 t421 x131_5).f0) ((rd_T30 t438 x137_6).f0)).bind fun t446 => (if t446 = true then ((orreryref17_Ints.f k6 ((rd_T30 t421 x131_5).f1) ((rd_T30 t438 x137_6).f1)).bind fun t447 => (orrerylaw21_OrderMore.l4 k6 t438 t447 t421 (t421.length : Int) x131_5 t438 (t438.length : Int) (wrap64 (x137_6 + 1)) ((rd_T30 t421 x131_5).f0) ((rd_T30 t421 x131_5).f1))) else (orrerylaw21_OrderMore.l4 k6 t438 false t421 (t421.length : Int) x131_5 t438 (t438.length : Int) (wrap64 (x137_6 + 1)) ((rd_T30 t421 x131_5).f0) ((rd_T30 t421 x131_5).f1)))) = some r := by rw [if_neg (show ¬ (false = true) by decide)] at H; exact H
             clear H
             have H := H1
             clear H1
             replace H := Option.bind_eq_some_iff.mp H
             obtain ⟨t446, A620, H⟩ := H
             replace H : (if t446 = true then ((orreryref17_Ints.f k6 ((rd_T30 t421 x131_5).f1) ((rd_T30 t438 x137_6).f1)).bind fun t447 => (orrerylaw21_OrderMore.l4 k6 t438 t447 t421 (t421.length : Int) x131_5 t438 (t438.length : Int) (wrap64 (x137_6 + 1)) ((rd_T30 t421 x131_5).f0) ((rd_T30 t421 x131_5).f1))) else (orrerylaw21_OrderMore.l4 k6 t438 false t421 (t421.length : Int) x131_5 t438 (t438.length : Int) (wrap64 (x137_6 + 1)) ((rd_T30 t421 x131_5).f0) ((rd_T30 t421 x131_5).f1))) = some r := H
             have A62 := Aside0.mk A620
             clear A620
             by_cases c63 : t446 = true
             case neg =>
              replace c63 := Bool.eq_false_iff.mpr c63
              subst c63
              have H1 : (orrerylaw21_OrderMore.l4 k6 t438 false t421 (t421.length : Int) x131_5 t438 (t438.length : Int) (wrap64 (x137_6 + 1)) ((rd_T30 t421 x131_5).f0) ((rd_T30 t421 x131_5).f1)) = some r := by rw [if_neg (show ¬ (false = true) by decide)] at H; exact H
              clear H
              have H := H1
              clear H1
              have H' := Aside0.mk H
              clear H
              have p444 : 0 ≤ (x137_6 : Int) := of_decide_eq_true (by first | (with_reducible assumption) | assumption)
              have q444 : x137_6 < (t438.length : Int) := of_decide_eq_true (by first | (with_reducible assumption) | assumption)
              obtain ⟨ad444, A444_0, c444_0, A444_1, c444_1, e444, hx444_0, hx444_1, hl444_0, hi444_0, hl444_1, hi444_1⟩ := at_T30 (Kd.S_reads' HO_135.out).2.2 x137_6 p444 q444
              cases e444
              obtain ⟨ce444, hce444, hMe444, hcc444⟩ := Kd.S_get HO_135.out z30 x137_6 p444 (by first | exact q444 | exact of_decide_eq_true (by first | (with_reducible assumption) | assumption) | (have e_ := (Kd.S_reads' HO_135.out).1; omega))
              obtain ⟨ve444_0, ve444_1, rfl, ge444_0, ge444_1⟩ := k30_openM hMe444
              have hv444_0 := hcc444 0 _ rfl
              rw [Nat.add_zero] at hv444_0
              replace hv444_0 := Option.some.inj (hv444_0.symm.trans hx444_0)
              rw [hv444_0] at ge444_0
              have HL444_0 := Aside0.mk (show Kd.R (Kd.int .i64) 3 _ _ _ _ ((rd_T30 t438 x137_6).f0) from ge444_0)
              clear hv444_0 ge444_0
              have hv444_1 := hcc444 1 _ rfl
              rw [add_field _ _ 1 (by omega)] at hv444_1
              replace hv444_1 := Option.some.inj (hv444_1.symm.trans hx444_1)
              rw [hv444_1] at ge444_1
              have HL444_1 := Aside0.mk (show Kd.R (Kd.int .i64) 3 _ _ _ _ ((rd_T30 t438 x137_6).f1) from ge444_1)
              clear hv444_1 ge444_1
              clear hcc444 hce444
              have HR444_0 := Aside0.mk hi444_0
              have HC444_0 := Aside0.mk hl444_0
              clear hi444_0 hl444_0
              have HR444_1 := Aside0.mk hi444_1
              have HC444_1 := Aside0.mk hl444_1
              clear hi444_1 hl444_1
              replace p444 := eq_true p444
              replace q444 := eq_true q444
              go_wp2_with (first | ((with_reducible refine gate_dst (N := 27) rfl ?_); (try (refine gate_guard (by rfl) ?_; dsimp only)); refine box_event ?hg (N := 27) ?hd (cs := #[.slice none 0 0, .slice none 0 0]) (t := 30) ?hr ?_; (case hd => rfl); (case hg => rfl); (case hr => first | (go_simp; done) | (go_simp; rfl)); intro gb445 hg w69 hbox hb; have n0_ := Aside0.mk (Kd.S_below (Kd.S_elderB (by (with_reducible repeat (first | apply Kd.S_alloc | apply Kd.S_drewN | apply Kd.S_drew)); exact HO_21.out) gb445 (Nat.le_of_eq hg.symm)) hb); have n1_ := Aside0.mk (Kd.S_below (Kd.S_elderB (by (with_reducible repeat (first | apply Kd.S_alloc | apply Kd.S_drewN | apply Kd.S_drew)); exact HO_129.out) gb445 (Nat.le_of_eq hg.symm)) hb); have n2_ := Aside0.mk (Kd.S_below (Kd.S_elderB (by (with_reducible repeat (first | apply Kd.S_alloc | apply Kd.S_drewN | apply Kd.S_drew)); exact HO_135.out) gb445 (Nat.le_of_eq hg.symm)) hb); have n3_ := Aside0.mk (Kd.R_below (by (with_reducible repeat (first | apply Kd.R_alloc | apply Kd.R_drewN | apply Kd.R_drew)); exact HL444_0.out) hb); have n4_ := Aside0.mk (Kd.R_below (by (with_reducible repeat (first | apply Kd.R_alloc | apply Kd.R_drewN | apply Kd.R_drew)); exact HL444_1.out) hb); have n5_ := Aside0.mk (blk_below (g := gb443) (o := .cells #[.slice A442_0 ((rd_T30 t421 x131_5).f0).length c442_0, .slice A442_1 ((rd_T30 t421 x131_5).f1).length c442_1] 30 (0, 0)) (by (with_reducible repeat (first | refine blk_drewN ?_ _ | refine blk_drew ?_ | refine blk_alloc ?_ _)); exact BK443.out) hb); have n6_ := Aside0.mk (Kd.C_below (by repeat (first | (with_reducible exact HR442_0.out) | (with_reducible refine Kd.C_alloc ?_ _) | (with_reducible refine Kd.C_drewN ?_ _) | (with_reducible refine Kd.C_drew ?_) | exact HR442_0.out)) hb); have n7_ := Aside0.mk (Kd.C_below (by repeat (first | (with_reducible exact HR442_1.out) | (with_reducible refine Kd.C_alloc ?_ _) | (with_reducible refine Kd.C_drewN ?_ _) | (with_reducible refine Kd.C_drew ?_) | exact HR442_1.out)) hb); have n8_ := Aside0.mk (Kd.C_below (by repeat (first | (with_reducible exact HR444_0.out) | (with_reducible refine Kd.C_alloc ?_ _) | (with_reducible refine Kd.C_drewN ?_ _) | (with_reducible refine Kd.C_drew ?_) | exact HR444_0.out)) hb); have n9_ := Aside0.mk (Kd.C_below (by repeat (first | (with_reducible exact HR444_1.out) | (with_reducible refine Kd.C_alloc ?_ _) | (with_reducible refine Kd.C_drewN ?_ _) | (with_reducible refine Kd.C_drew ?_) | exact HR444_1.out)) hb); have n10_ := Aside0.mk ((Kd.C_aboveB (by repeat (first | (with_reducible exact HR442_0.out) | (with_reducible refine Kd.C_alloc ?_ _) | (with_reducible refine Kd.C_drewN ?_ _) | (with_reducible refine Kd.C_drew ?_) | exact HR442_0.out)) (by decide) (Nat.le_of_eq hg.symm))); have n11_ := Aside0.mk ((Kd.C_aboveB (by repeat (first | (with_reducible exact HR442_1.out) | (with_reducible refine Kd.C_alloc ?_ _) | (with_reducible refine Kd.C_drewN ?_ _) | (with_reducible refine Kd.C_drew ?_) | exact HR442_1.out)) (by decide) (Nat.le_of_eq hg.symm))); have n12_ := Aside0.mk ((Kd.C_aboveB (by repeat (first | (with_reducible exact HR444_0.out) | (with_reducible refine Kd.C_alloc ?_ _) | (with_reducible refine Kd.C_drewN ?_ _) | (with_reducible refine Kd.C_drew ?_) | exact HR444_0.out)) (by decide) (Nat.le_of_eq hg.symm))); have n13_ := Aside0.mk ((Kd.C_aboveB (by repeat (first | (with_reducible exact HR444_1.out) | (with_reducible refine Kd.C_alloc ?_ _) | (with_reducible refine Kd.C_drewN ?_ _) | (with_reducible refine Kd.C_drew ?_) | exact HR444_1.out)) (by decide) (Nat.le_of_eq hg.symm))); have n14_ := Aside0.mk (below_step (by repeat (first | (with_reducible first | exact HB.out | apply below_alloc | apply pw_below_drewN | apply below_drew1 | refine below_set ?_ GE443.out) | exact HB.out)) hb); have n15_ := Aside0.mk (hbox); have n16_ := Aside0.mk ((by rw [hg]; exact (below_size (by repeat (first | (with_reducible first | exact HB.out | apply below_alloc | apply pw_below_drewN | apply below_drew1 | refine below_set ?_ GE443.out) | exact HB.out))) : w.heap.size ≤ gb445)); have n17_ := Aside0.mk ((by rw [hg]; exact (below_size (by repeat (first | (with_reducible first | exact HB.out | apply below_alloc | apply pw_below_drewN | apply below_drew1 | refine below_set ?_ GE443.out) | exact HB.out))) : w.heap.size ≤ gb445)); have n18_ := Aside0.mk ((by rw [hg]; exact Nat.ne_of_lt (blk_lt (g := gb443) (o := .cells #[.slice A442_0 ((rd_T30 t421 x131_5).f0).length c442_0, .slice A442_1 ((rd_T30 t421 x131_5).f1).length c442_1] 30 (0, 0)) (by (with_reducible repeat (first | refine blk_drewN ?_ _ | refine blk_drew ?_ | refine blk_alloc ?_ _)); exact BK443.out)) : gb443 ≠ gb445)); have n19_ := Aside0.mk ((by rw [hg]; exact Nat.ne_of_gt (blk_lt (g := gb443) (o := .cells #[.slice A442_0 ((rd_T30 t421 x131_5).f0).length c442_0, .slice A442_1 ((rd_T30 t421 x131_5).f1).length c442_1] 30 (0, 0)) (by (with_reducible repeat (first | refine blk_drewN ?_ _ | refine blk_drew ?_ | refine blk_alloc ?_ _)); exact BK443.out)) : gb445 ≠ gb443)); clear HO_21; clear HO_129; clear HO_135; clear HL444_0; clear HL444_1; clear BK443; clear HR442_0; clear HR442_1; clear HR444_0; clear HR444_1; clear HB; have HO_21 := n0_; have HO_129 := n1_; have HO_135 := n2_; have HL444_0 := n3_; have HL444_1 := n4_; have BK443 := n5_; have HR442_0 := n6_; have HR442_1 := n7_; have HR444_0 := n8_; have HR444_1 := n9_; have SF442_0_445 := n10_; have SF442_1_445 := n11_; have SF444_0_445 := n12_; have SF444_1_445 := n13_; have HB := n14_; have BK445 := n15_; have GW445 := n16_; have GE445 := n17_; have NB443_445 := n18_; have NB445_443 := n19_; clear n0_ n1_ n2_ n3_ n4_ n5_ n6_ n7_ n8_ n9_ n10_ n11_ n12_ n13_ n14_ n15_ n16_ n17_ n18_ n19_; clear hb hbox hg; have hnb70 := NB445_443.out; have hnc70 := NB443_445.out; have hcz71_0 : w69.cell? ⟨gb445, 0, none⟩ = some (.slice none 0 0) := (blk_cell BK445.out 0).trans rfl; have hcz71_1 : w69.cell? ⟨gb445, 1, none⟩ = some (.slice none 0 0) := (blk_cell BK445.out 1).trans rfl; have hfz71_0 := blk_frozen BK445.out 0; have hfz71_1 := blk_frozen BK445.out 1; have hcz72_0 : w69.cell? ⟨gb443, 0, none⟩ = some (.slice A442_0 ((rd_T30 t421 x131_5).f0).length c442_0) := (blk_cell BK443.out 0).trans rfl; have hcz72_1 : w69.cell? ⟨gb443, 1, none⟩ = some (.slice A442_1 ((rd_T30 t421 x131_5).f1).length c442_1) := (blk_cell BK443.out 1).trans rfl; have hfz72_0 := blk_frozen BK443.out 0; have hfz72_1 := blk_frozen BK443.out 1) | (go_at_call 11; (with_reducible refine (orreryref17_Ints.calls k6 _ _ ((rd_T30 t421 x131_5).f0) _ _ ((rd_T30 t438 x137_6).f0) false _ ?side1 ?side2 ?side3 ?side4 A62.out).mono ?_); (case side1 => repeat (first | exact (by (with_reducible repeat (first | apply Kd.C_alloc | apply Kd.C_drewN | apply Kd.C_drew)); exact (Kd.C_farP (p := ⟨gb445, 1, none⟩) (Kd.C_farP (p := ⟨gb445, 0, none⟩) HR442_0.out SF442_0_445.out (.slice A444_0 ((rd_T30 t438 x137_6).f0).length c444_0)) SF442_0_445.out (.slice A444_1 ((rd_T30 t438 x137_6).f1).length c444_1))) | (with_reducible refine Kd.C_alloc ?_ _) | (with_reducible refine Kd.C_drewN ?_ _) | (with_reducible refine Kd.C_drew ?_))); (case side2 => exact HC442_0.out); (case side3 => repeat (first | exact ((Kd.R_reads' (by (with_reducible repeat (first | apply Kd.R_alloc | apply Kd.R_drewN | apply Kd.R_drew)); exact (Kd.R_mono (Kd.R_far (p := ⟨gb445, 1, none⟩) (Kd.R_far (p := ⟨gb445, 0, none⟩) (Kd.R_types HL444_0.out BK445.out (by decide)) (fun _ hk => hk.2) (.slice A444_0 ((rd_T30 t438 x137_6).f0).length c444_0)) (fun _ hk => hk.2) (.slice A444_1 ((rd_T30 t438 x137_6).f1).length c444_1)) (fun _ h_ => h_.1)))).2.2) | (with_reducible refine Kd.C_alloc ?_ _) | (with_reducible refine Kd.C_drewN ?_ _) | (with_reducible refine Kd.C_drew ?_))); (case side4 => exact HC444_0.out); rintro e w' ⟨rfl, ⟨nd, rfl⟩⟩; (try first | exact ⟨rfl, _, World.drewN_drewN _ _ _⟩ | exact ⟨rfl, _, Eq.trans (World.drewN_drewN _ _ _) (congrArg (World.drewN _) (Nat.add_assoc _ _ _))⟩)))
              repeat (go_quiet (first | ((with_reducible refine gate_dst (N := 27) rfl ?_); (try (refine gate_guard (by rfl) ?_; dsimp only)); refine box_event ?hg (N := 27) ?hd (cs := #[.slice none 0 0, .slice none 0 0]) (t := 30) ?hr ?_; (case hd => rfl); (case hg => rfl); (case hr => first | (go_simp; done) | (go_simp; rfl)); intro gb445 hg w69 hbox hb; have n0_ := Aside0.mk (Kd.S_below (Kd.S_elderB (by (with_reducible repeat (first | apply Kd.S_alloc | apply Kd.S_drewN | apply Kd.S_drew)); exact HO_21.out) gb445 (Nat.le_of_eq hg.symm)) hb); have n1_ := Aside0.mk (Kd.S_below (Kd.S_elderB (by (with_reducible repeat (first | apply Kd.S_alloc | apply Kd.S_drewN | apply Kd.S_drew)); exact HO_129.out) gb445 (Nat.le_of_eq hg.symm)) hb); have n2_ := Aside0.mk (Kd.S_below (Kd.S_elderB (by (with_reducible repeat (first | apply Kd.S_alloc | apply Kd.S_drewN | apply Kd.S_drew)); exact HO_135.out) gb445 (Nat.le_of_eq hg.symm)) hb); have n3_ := Aside0.mk (Kd.R_below (by (with_reducible repeat (first | apply Kd.R_alloc | apply Kd.R_drewN | apply Kd.R_drew)); exact HL444_0.out) hb); have n4_ := Aside0.mk (Kd.R_below (by (with_reducible repeat (first | apply Kd.R_alloc | apply Kd.R_drewN | apply Kd.R_drew)); exact HL444_1.out) hb); have n5_ := Aside0.mk (blk_below (g := gb443) (o := .cells #[.slice A442_0 ((rd_T30 t421 x131_5).f0).length c442_0, .slice A442_1 ((rd_T30 t421 x131_5).f1).length c442_1] 30 (0, 0)) (by (with_reducible repeat (first | refine blk_drewN ?_ _ | refine blk_drew ?_ | refine blk_alloc ?_ _)); exact BK443.out) hb); have n6_ := Aside0.mk (Kd.C_below (by repeat (first | (with_reducible exact HR442_0.out) | (with_reducible refine Kd.C_alloc ?_ _) | (with_reducible refine Kd.C_drewN ?_ _) | (with_reducible refine Kd.C_drew ?_) | exact HR442_0.out)) hb); have n7_ := Aside0.mk (Kd.C_below (by repeat (first | (with_reducible exact HR442_1.out) | (with_reducible refine Kd.C_alloc ?_ _) | (with_reducible refine Kd.C_drewN ?_ _) | (with_reducible refine Kd.C_drew ?_) | exact HR442_1.out)) hb); have n8_ := Aside0.mk (Kd.C_below (by repeat (first | (with_reducible exact HR444_0.out) | (with_reducible refine Kd.C_alloc ?_ _) | (with_reducible refine Kd.C_drewN ?_ _) | (with_reducible refine Kd.C_drew ?_) | exact HR444_0.out)) hb); have n9_ := Aside0.mk (Kd.C_below (by repeat (first | (with_reducible exact HR444_1.out) | (with_reducible refine Kd.C_alloc ?_ _) | (with_reducible refine Kd.C_drewN ?_ _) | (with_reducible refine Kd.C_drew ?_) | exact HR444_1.out)) hb); have n10_ := Aside0.mk ((Kd.C_aboveB (by repeat (first | (with_reducible exact HR442_0.out) | (with_reducible refine Kd.C_alloc ?_ _) | (with_reducible refine Kd.C_drewN ?_ _) | (with_reducible refine Kd.C_drew ?_) | exact HR442_0.out)) (by decide) (Nat.le_of_eq hg.symm))); have n11_ := Aside0.mk ((Kd.C_aboveB (by repeat (first | (with_reducible exact HR442_1.out) | (with_reducible refine Kd.C_alloc ?_ _) | (with_reducible refine Kd.C_drewN ?_ _) | (with_reducible refine Kd.C_drew ?_) | exact HR442_1.out)) (by decide) (Nat.le_of_eq hg.symm))); have n12_ := Aside0.mk ((Kd.C_aboveB (by repeat (first | (with_reducible exact HR444_0.out) | (with_reducible refine Kd.C_alloc ?_ _) | (with_reducible refine Kd.C_drewN ?_ _) | (with_reducible refine Kd.C_drew ?_) | exact HR444_0.out)) (by decide) (Nat.le_of_eq hg.symm))); have n13_ := Aside0.mk ((Kd.C_aboveB (by repeat (first | (with_reducible exact HR444_1.out) | (with_reducible refine Kd.C_alloc ?_ _) | (with_reducible refine Kd.C_drewN ?_ _) | (with_reducible refine Kd.C_drew ?_) | exact HR444_1.out)) (by decide) (Nat.le_of_eq hg.symm))); have n14_ := Aside0.mk (below_step (by repeat (first | (with_reducible first | exact HB.out | apply below_alloc | apply pw_below_drewN | apply below_drew1 | refine below_set ?_ GE443.out) | exact HB.out)) hb); have n15_ := Aside0.mk (hbox); have n16_ := Aside0.mk ((by rw [hg]; exact (below_size (by repeat (first | (with_reducible first | exact HB.out | apply below_alloc | apply pw_below_drewN | apply below_drew1 | refine below_set ?_ GE443.out) | exact HB.out))) : w.heap.size ≤ gb445)); have n17_ := Aside0.mk ((by rw [hg]; exact (below_size (by repeat (first | (with_reducible first | exact HB.out | apply below_alloc | apply pw_below_drewN | apply below_drew1 | refine below_set ?_ GE443.out) | exact HB.out))) : w.heap.size ≤ gb445)); have n18_ := Aside0.mk ((by rw [hg]; exact Nat.ne_of_lt (blk_lt (g := gb443) (o := .cells #[.slice A442_0 ((rd_T30 t421 x131_5).f0).length c442_0, .slice A442_1 ((rd_T30 t421 x131_5).f1).length c442_1] 30 (0, 0)) (by (with_reducible repeat (first | refine blk_drewN ?_ _ | refine blk_drew ?_ | refine blk_alloc ?_ _)); exact BK443.out)) : gb443 ≠ gb445)); have n19_ := Aside0.mk ((by rw [hg]; exact Nat.ne_of_gt (blk_lt (g := gb443) (o := .cells #[.slice A442_0 ((rd_T30 t421 x131_5).f0).length c442_0, .slice A442_1 ((rd_T30 t421 x131_5).f1).length c442_1] 30 (0, 0)) (by (with_reducible repeat (first | refine blk_drewN ?_ _ | refine blk_drew ?_ | refine blk_alloc ?_ _)); exact BK443.out)) : gb445 ≠ gb443)); clear HO_21; clear HO_129; clear HO_135; clear HL444_0; clear HL444_1; clear BK443; clear HR442_0; clear HR442_1; clear HR444_0; clear HR444_1; clear HB; have HO_21 := n0_; have HO_129 := n1_; have HO_135 := n2_; have HL444_0 := n3_; have HL444_1 := n4_; have BK443 := n5_; have HR442_0 := n6_; have HR442_1 := n7_; have HR444_0 := n8_; have HR444_1 := n9_; have SF442_0_445 := n10_; have SF442_1_445 := n11_; have SF444_0_445 := n12_; have SF444_1_445 := n13_; have HB := n14_; have BK445 := n15_; have GW445 := n16_; have GE445 := n17_; have NB443_445 := n18_; have NB445_443 := n19_; clear n0_ n1_ n2_ n3_ n4_ n5_ n6_ n7_ n8_ n9_ n10_ n11_ n12_ n13_ n14_ n15_ n16_ n17_ n18_ n19_; clear hb hbox hg; have hnb70 := NB445_443.out; have hnc70 := NB443_445.out; have hcz71_0 : w69.cell? ⟨gb445, 0, none⟩ = some (.slice none 0 0) := (blk_cell BK445.out 0).trans rfl; have hcz71_1 : w69.cell? ⟨gb445, 1, none⟩ = some (.slice none 0 0) := (blk_cell BK445.out 1).trans rfl; have hfz71_0 := blk_frozen BK445.out 0; have hfz71_1 := blk_frozen BK445.out 1; have hcz72_0 : w69.cell? ⟨gb443, 0, none⟩ = some (.slice A442_0 ((rd_T30 t421 x131_5).f0).length c442_0) := (blk_cell BK443.out 0).trans rfl; have hcz72_1 : w69.cell? ⟨gb443, 1, none⟩ = some (.slice A442_1 ((rd_T30 t421 x131_5).f1).length c442_1) := (blk_cell BK443.out 1).trans rfl; have hfz72_0 := blk_frozen BK443.out 0; have hfz72_1 := blk_frozen BK443.out 1) | (go_at_call 11; (with_reducible refine (orreryref17_Ints.calls k6 _ _ ((rd_T30 t421 x131_5).f0) _ _ ((rd_T30 t438 x137_6).f0) false _ ?side1 ?side2 ?side3 ?side4 A62.out).mono ?_); (case side1 => repeat (first | exact (by (with_reducible repeat (first | apply Kd.C_alloc | apply Kd.C_drewN | apply Kd.C_drew)); exact (Kd.C_farP (p := ⟨gb445, 1, none⟩) (Kd.C_farP (p := ⟨gb445, 0, none⟩) HR442_0.out SF442_0_445.out (.slice A444_0 ((rd_T30 t438 x137_6).f0).length c444_0)) SF442_0_445.out (.slice A444_1 ((rd_T30 t438 x137_6).f1).length c444_1))) | (with_reducible refine Kd.C_alloc ?_ _) | (with_reducible refine Kd.C_drewN ?_ _) | (with_reducible refine Kd.C_drew ?_))); (case side2 => exact HC442_0.out); (case side3 => repeat (first | exact ((Kd.R_reads' (by (with_reducible repeat (first | apply Kd.R_alloc | apply Kd.R_drewN | apply Kd.R_drew)); exact (Kd.R_mono (Kd.R_far (p := ⟨gb445, 1, none⟩) (Kd.R_far (p := ⟨gb445, 0, none⟩) (Kd.R_types HL444_0.out BK445.out (by decide)) (fun _ hk => hk.2) (.slice A444_0 ((rd_T30 t438 x137_6).f0).length c444_0)) (fun _ hk => hk.2) (.slice A444_1 ((rd_T30 t438 x137_6).f1).length c444_1)) (fun _ h_ => h_.1)))).2.2) | (with_reducible refine Kd.C_alloc ?_ _) | (with_reducible refine Kd.C_drewN ?_ _) | (with_reducible refine Kd.C_drew ?_))); (case side4 => exact HC444_0.out); rintro e w' ⟨rfl, ⟨nd, rfl⟩⟩; (try first | exact ⟨rfl, _, World.drewN_drewN _ _ _⟩ | exact ⟨rfl, _, Eq.trans (World.drewN_drewN _ _ _) (congrArg (World.drewN _) (Nat.add_assoc _ _ _))⟩))); try go_wp2_with (first | ((with_reducible refine gate_dst (N := 27) rfl ?_); (try (refine gate_guard (by rfl) ?_; dsimp only)); refine box_event ?hg (N := 27) ?hd (cs := #[.slice none 0 0, .slice none 0 0]) (t := 30) ?hr ?_; (case hd => rfl); (case hg => rfl); (case hr => first | (go_simp; done) | (go_simp; rfl)); intro gb445 hg w69 hbox hb; have n0_ := Aside0.mk (Kd.S_below (Kd.S_elderB (by (with_reducible repeat (first | apply Kd.S_alloc | apply Kd.S_drewN | apply Kd.S_drew)); exact HO_21.out) gb445 (Nat.le_of_eq hg.symm)) hb); have n1_ := Aside0.mk (Kd.S_below (Kd.S_elderB (by (with_reducible repeat (first | apply Kd.S_alloc | apply Kd.S_drewN | apply Kd.S_drew)); exact HO_129.out) gb445 (Nat.le_of_eq hg.symm)) hb); have n2_ := Aside0.mk (Kd.S_below (Kd.S_elderB (by (with_reducible repeat (first | apply Kd.S_alloc | apply Kd.S_drewN | apply Kd.S_drew)); exact HO_135.out) gb445 (Nat.le_of_eq hg.symm)) hb); have n3_ := Aside0.mk (Kd.R_below (by (with_reducible repeat (first | apply Kd.R_alloc | apply Kd.R_drewN | apply Kd.R_drew)); exact HL444_0.out) hb); have n4_ := Aside0.mk (Kd.R_below (by (with_reducible repeat (first | apply Kd.R_alloc | apply Kd.R_drewN | apply Kd.R_drew)); exact HL444_1.out) hb); have n5_ := Aside0.mk (blk_below (g := gb443) (o := .cells #[.slice A442_0 ((rd_T30 t421 x131_5).f0).length c442_0, .slice A442_1 ((rd_T30 t421 x131_5).f1).length c442_1] 30 (0, 0)) (by (with_reducible repeat (first | refine blk_drewN ?_ _ | refine blk_drew ?_ | refine blk_alloc ?_ _)); exact BK443.out) hb); have n6_ := Aside0.mk (Kd.C_below (by repeat (first | (with_reducible exact HR442_0.out) | (with_reducible refine Kd.C_alloc ?_ _) | (with_reducible refine Kd.C_drewN ?_ _) | (with_reducible refine Kd.C_drew ?_) | exact HR442_0.out)) hb); have n7_ := Aside0.mk (Kd.C_below (by repeat (first | (with_reducible exact HR442_1.out) | (with_reducible refine Kd.C_alloc ?_ _) | (with_reducible refine Kd.C_drewN ?_ _) | (with_reducible refine Kd.C_drew ?_) | exact HR442_1.out)) hb); have n8_ := Aside0.mk (Kd.C_below (by repeat (first | (with_reducible exact HR444_0.out) | (with_reducible refine Kd.C_alloc ?_ _) | (with_reducible refine Kd.C_drewN ?_ _) | (with_reducible refine Kd.C_drew ?_) | exact HR444_0.out)) hb); have n9_ := Aside0.mk (Kd.C_below (by repeat (first | (with_reducible exact HR444_1.out) | (with_reducible refine Kd.C_alloc ?_ _) | (with_reducible refine Kd.C_drewN ?_ _) | (with_reducible refine Kd.C_drew ?_) | exact HR444_1.out)) hb); have n10_ := Aside0.mk ((Kd.C_aboveB (by repeat (first | (with_reducible exact HR442_0.out) | (with_reducible refine Kd.C_alloc ?_ _) | (with_reducible refine Kd.C_drewN ?_ _) | (with_reducible refine Kd.C_drew ?_) | exact HR442_0.out)) (by decide) (Nat.le_of_eq hg.symm))); have n11_ := Aside0.mk ((Kd.C_aboveB (by repeat (first | (with_reducible exact HR442_1.out) | (with_reducible refine Kd.C_alloc ?_ _) | (with_reducible refine Kd.C_drewN ?_ _) | (with_reducible refine Kd.C_drew ?_) | exact HR442_1.out)) (by decide) (Nat.le_of_eq hg.symm))); have n12_ := Aside0.mk ((Kd.C_aboveB (by repeat (first | (with_reducible exact HR444_0.out) | (with_reducible refine Kd.C_alloc ?_ _) | (with_reducible refine Kd.C_drewN ?_ _) | (with_reducible refine Kd.C_drew ?_) | exact HR444_0.out)) (by decide) (Nat.le_of_eq hg.symm))); have n13_ := Aside0.mk ((Kd.C_aboveB (by repeat (first | (with_reducible exact HR444_1.out) | (with_reducible refine Kd.C_alloc ?_ _) | (with_reducible refine Kd.C_drewN ?_ _) | (with_reducible refine Kd.C_drew ?_) | exact HR444_1.out)) (by decide) (Nat.le_of_eq hg.symm))); have n14_ := Aside0.mk (below_step (by repeat (first | (with_reducible first | exact HB.out | apply below_alloc | apply pw_below_drewN | apply below_drew1 | refine below_set ?_ GE443.out) | exact HB.out)) hb); have n15_ := Aside0.mk (hbox); have n16_ := Aside0.mk ((by rw [hg]; exact (below_size (by repeat (first | (with_reducible first | exact HB.out | apply below_alloc | apply pw_below_drewN | apply below_drew1 | refine below_set ?_ GE443.out) | exact HB.out))) : w.heap.size ≤ gb445)); have n17_ := Aside0.mk ((by rw [hg]; exact (below_size (by repeat (first | (with_reducible first | exact HB.out | apply below_alloc | apply pw_below_drewN | apply below_drew1 | refine below_set ?_ GE443.out) | exact HB.out))) : w.heap.size ≤ gb445)); have n18_ := Aside0.mk ((by rw [hg]; exact Nat.ne_of_lt (blk_lt (g := gb443) (o := .cells #[.slice A442_0 ((rd_T30 t421 x131_5).f0).length c442_0, .slice A442_1 ((rd_T30 t421 x131_5).f1).length c442_1] 30 (0, 0)) (by (with_reducible repeat (first | refine blk_drewN ?_ _ | refine blk_drew ?_ | refine blk_alloc ?_ _)); exact BK443.out)) : gb443 ≠ gb445)); have n19_ := Aside0.mk ((by rw [hg]; exact Nat.ne_of_gt (blk_lt (g := gb443) (o := .cells #[.slice A442_0 ((rd_T30 t421 x131_5).f0).length c442_0, .slice A442_1 ((rd_T30 t421 x131_5).f1).length c442_1] 30 (0, 0)) (by (with_reducible repeat (first | refine blk_drewN ?_ _ | refine blk_drew ?_ | refine blk_alloc ?_ _)); exact BK443.out)) : gb445 ≠ gb443)); clear HO_21; clear HO_129; clear HO_135; clear HL444_0; clear HL444_1; clear BK443; clear HR442_0; clear HR442_1; clear HR444_0; clear HR444_1; clear HB; have HO_21 := n0_; have HO_129 := n1_; have HO_135 := n2_; have HL444_0 := n3_; have HL444_1 := n4_; have BK443 := n5_; have HR442_0 := n6_; have HR442_1 := n7_; have HR444_0 := n8_; have HR444_1 := n9_; have SF442_0_445 := n10_; have SF442_1_445 := n11_; have SF444_0_445 := n12_; have SF444_1_445 := n13_; have HB := n14_; have BK445 := n15_; have GW445 := n16_; have GE445 := n17_; have NB443_445 := n18_; have NB445_443 := n19_; clear n0_ n1_ n2_ n3_ n4_ n5_ n6_ n7_ n8_ n9_ n10_ n11_ n12_ n13_ n14_ n15_ n16_ n17_ n18_ n19_; clear hb hbox hg; have hnb70 := NB445_443.out; have hnc70 := NB443_445.out; have hcz71_0 : w69.cell? ⟨gb445, 0, none⟩ = some (.slice none 0 0) := (blk_cell BK445.out 0).trans rfl; have hcz71_1 : w69.cell? ⟨gb445, 1, none⟩ = some (.slice none 0 0) := (blk_cell BK445.out 1).trans rfl; have hfz71_0 := blk_frozen BK445.out 0; have hfz71_1 := blk_frozen BK445.out 1; have hcz72_0 : w69.cell? ⟨gb443, 0, none⟩ = some (.slice A442_0 ((rd_T30 t421 x131_5).f0).length c442_0) := (blk_cell BK443.out 0).trans rfl; have hcz72_1 : w69.cell? ⟨gb443, 1, none⟩ = some (.slice A442_1 ((rd_T30 t421 x131_5).f1).length c442_1) := (blk_cell BK443.out 1).trans rfl; have hfz72_0 := blk_frozen BK443.out 0; have hfz72_1 := blk_frozen BK443.out 1) | (go_at_call 11; (with_reducible refine (orreryref17_Ints.calls k6 _ _ ((rd_T30 t421 x131_5).f0) _ _ ((rd_T30 t438 x137_6).f0) false _ ?side1 ?side2 ?side3 ?side4 A62.out).mono ?_); (case side1 => repeat (first | exact (by (with_reducible repeat (first | apply Kd.C_alloc | apply Kd.C_drewN | apply Kd.C_drew)); exact (Kd.C_farP (p := ⟨gb445, 1, none⟩) (Kd.C_farP (p := ⟨gb445, 0, none⟩) HR442_0.out SF442_0_445.out (.slice A444_0 ((rd_T30 t438 x137_6).f0).length c444_0)) SF442_0_445.out (.slice A444_1 ((rd_T30 t438 x137_6).f1).length c444_1))) | (with_reducible refine Kd.C_alloc ?_ _) | (with_reducible refine Kd.C_drewN ?_ _) | (with_reducible refine Kd.C_drew ?_))); (case side2 => exact HC442_0.out); (case side3 => repeat (first | exact ((Kd.R_reads' (by (with_reducible repeat (first | apply Kd.R_alloc | apply Kd.R_drewN | apply Kd.R_drew)); exact (Kd.R_mono (Kd.R_far (p := ⟨gb445, 1, none⟩) (Kd.R_far (p := ⟨gb445, 0, none⟩) (Kd.R_types HL444_0.out BK445.out (by decide)) (fun _ hk => hk.2) (.slice A444_0 ((rd_T30 t438 x137_6).f0).length c444_0)) (fun _ hk => hk.2) (.slice A444_1 ((rd_T30 t438 x137_6).f1).length c444_1)) (fun _ h_ => h_.1)))).2.2) | (with_reducible refine Kd.C_alloc ?_ _) | (with_reducible refine Kd.C_drewN ?_ _) | (with_reducible refine Kd.C_drew ?_))); (case side4 => exact HC444_0.out); rintro e w' ⟨rfl, ⟨nd, rfl⟩⟩; (try first | exact ⟨rfl, _, World.drewN_drewN _ _ _⟩ | exact ⟨rfl, _, Eq.trans (World.drewN_drewN _ _ _) (congrArg (World.drewN _) (Nat.add_assoc _ _ _))⟩))))
              (first | go_roundg k6 | (refine Handed.intro k6 ?measure ?_; rotate_left; go_step; (repeat apply Exists.intro); (refine ⟨?rel, ?fr_⟩); (case fr_ => (simp only [add_plain]; rfl))))
              case measure => have := HJ5.out; have := HK2.out; have := HJ32.out; have := HJ38.out; have := HK5.out; have := HK6.out; omega
              case rel => exact ⟨(false), (wrap64 (x137_6 + 1)), (by first | rfl | (simp; done) | (simp [*]; done)), (by first | rfl | (simp; done) | (simp [*]; done)), H', ⟨by have := HJ5.out; have := HK2.out; have := HJ32.out; have := HJ38.out; have := HK5.out; have := HK6.out; omega⟩, ⟨by (with_reducible repeat (first | apply Kd.S_alloc | apply Kd.S_drewN | apply Kd.S_drew)); exact Kd.S_mono (Kd.S_far (p := ⟨gb445, 1, none⟩) (Kd.S_far (p := ⟨gb445, 0, none⟩) (Kd.S_mono HO_21.out (fun k_ hk => (⟨hk, hk.2⟩ : _ ∧ k_ ≠ gb445))) (fun _ hk => hk.2) (.slice A444_0 ((rd_T30 t438 x137_6).f0).length c444_0)) (fun _ hk => hk.2) (.slice A444_1 ((rd_T30 t438 x137_6).f1).length c444_1)) (fun _ hk => ⟨hk.1.1.1, hk.1.1.2⟩)⟩, ⟨by (with_reducible repeat (first | apply Kd.S_alloc | apply Kd.S_drewN | apply Kd.S_drew)); exact Kd.S_mono (Kd.S_far (p := ⟨gb445, 1, none⟩) (Kd.S_far (p := ⟨gb445, 0, none⟩) (Kd.S_mono HO_129.out (fun k_ hk => (⟨hk, hk.2⟩ : _ ∧ k_ ≠ gb445))) (fun _ hk => hk.2) (.slice A444_0 ((rd_T30 t438 x137_6).f0).length c444_0)) (fun _ hk => hk.2) (.slice A444_1 ((rd_T30 t438 x137_6).f1).length c444_1)) (fun _ hk => ⟨hk.1.1.1, ⟨hk.1.1.2.1, hk.1.1.2.2⟩⟩)⟩, ⟨by (with_reducible repeat (first | apply Kd.S_alloc | apply Kd.S_drewN | apply Kd.S_drew)); exact Kd.S_mono (Kd.S_far (p := ⟨gb445, 1, none⟩) (Kd.S_far (p := ⟨gb445, 0, none⟩) (Kd.S_mono HO_135.out (fun k_ hk => (⟨hk, hk.2⟩ : _ ∧ k_ ≠ gb445))) (fun _ hk => hk.2) (.slice A444_0 ((rd_T30 t438 x137_6).f0).length c444_0)) (fun _ hk => hk.2) (.slice A444_1 ((rd_T30 t438 x137_6).f1).length c444_1)) (fun _ hk => ⟨hk.1.1.1, hk.1.1.2⟩)⟩, ⟨by (with_reducible repeat (first | refine blk_drewN ?_ _ | refine blk_drew ?_ | refine blk_alloc ?_ _)); refine blk_far ?_ NB443_445.out _; (with_reducible repeat (first | refine blk_drewN ?_ _ | refine blk_drew ?_ | refine blk_alloc ?_ _)); refine blk_far ?_ NB443_445.out _; (with_reducible repeat (first | refine blk_drewN ?_ _ | refine blk_drew ?_ | refine blk_alloc ?_ _)); exact BK443.out⟩, ⟨by (with_reducible repeat (first | apply Kd.C_alloc | apply Kd.C_drewN | apply Kd.C_drew)); exact (Kd.C_farP (p := ⟨gb445, 1, none⟩) (Kd.C_farP (p := ⟨gb445, 0, none⟩) HR442_0.out SF442_0_445.out (.slice A444_0 ((rd_T30 t438 x137_6).f0).length c444_0)) SF442_0_445.out (.slice A444_1 ((rd_T30 t438 x137_6).f1).length c444_1))⟩, ⟨by (with_reducible repeat (first | apply Kd.C_alloc | apply Kd.C_drewN | apply Kd.C_drew)); exact (Kd.C_farP (p := ⟨gb445, 1, none⟩) (Kd.C_farP (p := ⟨gb445, 0, none⟩) HR442_1.out SF442_1_445.out (.slice A444_0 ((rd_T30 t438 x137_6).f0).length c444_0)) SF442_1_445.out (.slice A444_1 ((rd_T30 t438 x137_6).f1).length c444_1))⟩, ⟨by repeat (first | (with_reducible first | exact HB.out | apply below_alloc | apply pw_below_drewN | apply below_drew1 | refine below_set ?_ GE443.out | refine below_set ?_ GE445.out) | exact HB.out)⟩⟩
             subst c63
             have H1 : ((orreryref17_Ints.f k6 ((rd_T30 t421 x131_5).f1) ((rd_T30 t438 x137_6).f1)).bind fun t447 => (orrerylaw21_OrderMore.l4 k6 t438 t447 t421 (t421.length : Int) x131_5 t438 (t438.length : Int) (wrap64 (x137_6 + 1)) ((rd_T30 t421 x131_5).f0) ((rd_T30 t421 x131_5).f1))) = some r := by rw [if_pos rfl] at H; exact H
             clear H
             have H := H1
             clear H1
             replace H := Option.bind_eq_some_iff.mp H
             obtain ⟨t447, A640, H⟩ := H
             replace H : (orrerylaw21_OrderMore.l4 k6 t438 t447 t421 (t421.length : Int) x131_5 t438 (t438.length : Int) (wrap64 (x137_6 + 1)) ((rd_T30 t421 x131_5).f0) ((rd_T30 t421 x131_5).f1)) = some r := H
             have A64 := Aside0.mk A640
             clear A640
             have H' := Aside0.mk H
             clear H
             have p444 : 0 ≤ (x137_6 : Int) := of_decide_eq_true (by first | (with_reducible assumption) | assumption)
             have q444 : x137_6 < (t438.length : Int) := of_decide_eq_true (by first | (with_reducible assumption) | assumption)
             obtain ⟨ad444, A444_0, c444_0, A444_1, c444_1, e444, hx444_0, hx444_1, hl444_0, hi444_0, hl444_1, hi444_1⟩ := at_T30 (Kd.S_reads' HO_135.out).2.2 x137_6 p444 q444
             cases e444
             obtain ⟨ce444, hce444, hMe444, hcc444⟩ := Kd.S_get HO_135.out z30 x137_6 p444 (by first | exact q444 | exact of_decide_eq_true (by first | (with_reducible assumption) | assumption) | (have e_ := (Kd.S_reads' HO_135.out).1; omega))
             obtain ⟨ve444_0, ve444_1, rfl, ge444_0, ge444_1⟩ := k30_openM hMe444
             have hv444_0 := hcc444 0 _ rfl
             rw [Nat.add_zero] at hv444_0
             replace hv444_0 := Option.some.inj (hv444_0.symm.trans hx444_0)
             rw [hv444_0] at ge444_0
             have HL444_0 := Aside0.mk (show Kd.R (Kd.int .i64) 3 _ _ _ _ ((rd_T30 t438 x137_6).f0) from ge444_0)
             clear hv444_0 ge444_0
             have hv444_1 := hcc444 1 _ rfl
             rw [add_field _ _ 1 (by omega)] at hv444_1
             replace hv444_1 := Option.some.inj (hv444_1.symm.trans hx444_1)
             rw [hv444_1] at ge444_1
             have HL444_1 := Aside0.mk (show Kd.R (Kd.int .i64) 3 _ _ _ _ ((rd_T30 t438 x137_6).f1) from ge444_1)
             clear hv444_1 ge444_1
             clear hcc444 hce444
             have HR444_0 := Aside0.mk hi444_0
             have HC444_0 := Aside0.mk hl444_0
             clear hi444_0 hl444_0
             have HR444_1 := Aside0.mk hi444_1
             have HC444_1 := Aside0.mk hl444_1
             clear hi444_1 hl444_1
             replace p444 := eq_true p444
             replace q444 := eq_true q444
             go_wp2_with (first | ((with_reducible refine gate_dst (N := 27) rfl ?_); (try (refine gate_guard (by rfl) ?_; dsimp only)); refine box_event ?hg (N := 27) ?hd (cs := #[.slice none 0 0, .slice none 0 0]) (t := 30) ?hr ?_; (case hd => rfl); (case hg => rfl); (case hr => first | (go_simp; done) | (go_simp; rfl)); intro gb445 hg w65 hbox hb; have n0_ := Aside0.mk (Kd.S_below (Kd.S_elderB (by (with_reducible repeat (first | apply Kd.S_alloc | apply Kd.S_drewN | apply Kd.S_drew)); exact HO_21.out) gb445 (Nat.le_of_eq hg.symm)) hb); have n1_ := Aside0.mk (Kd.S_below (Kd.S_elderB (by (with_reducible repeat (first | apply Kd.S_alloc | apply Kd.S_drewN | apply Kd.S_drew)); exact HO_129.out) gb445 (Nat.le_of_eq hg.symm)) hb); have n2_ := Aside0.mk (Kd.S_below (Kd.S_elderB (by (with_reducible repeat (first | apply Kd.S_alloc | apply Kd.S_drewN | apply Kd.S_drew)); exact HO_135.out) gb445 (Nat.le_of_eq hg.symm)) hb); have n3_ := Aside0.mk (Kd.R_below (by (with_reducible repeat (first | apply Kd.R_alloc | apply Kd.R_drewN | apply Kd.R_drew)); exact HL444_0.out) hb); have n4_ := Aside0.mk (Kd.R_below (by (with_reducible repeat (first | apply Kd.R_alloc | apply Kd.R_drewN | apply Kd.R_drew)); exact HL444_1.out) hb); have n5_ := Aside0.mk (blk_below (g := gb443) (o := .cells #[.slice A442_0 ((rd_T30 t421 x131_5).f0).length c442_0, .slice A442_1 ((rd_T30 t421 x131_5).f1).length c442_1] 30 (0, 0)) (by (with_reducible repeat (first | refine blk_drewN ?_ _ | refine blk_drew ?_ | refine blk_alloc ?_ _)); exact BK443.out) hb); have n6_ := Aside0.mk (Kd.C_below (by repeat (first | (with_reducible exact HR442_0.out) | (with_reducible refine Kd.C_alloc ?_ _) | (with_reducible refine Kd.C_drewN ?_ _) | (with_reducible refine Kd.C_drew ?_) | exact HR442_0.out)) hb); have n7_ := Aside0.mk (Kd.C_below (by repeat (first | (with_reducible exact HR442_1.out) | (with_reducible refine Kd.C_alloc ?_ _) | (with_reducible refine Kd.C_drewN ?_ _) | (with_reducible refine Kd.C_drew ?_) | exact HR442_1.out)) hb); have n8_ := Aside0.mk (Kd.C_below (by repeat (first | (with_reducible exact HR444_0.out) | (with_reducible refine Kd.C_alloc ?_ _) | (with_reducible refine Kd.C_drewN ?_ _) | (with_reducible refine Kd.C_drew ?_) | exact HR444_0.out)) hb); have n9_ := Aside0.mk (Kd.C_below (by repeat (first | (with_reducible exact HR444_1.out) | (with_reducible refine Kd.C_alloc ?_ _) | (with_reducible refine Kd.C_drewN ?_ _) | (with_reducible refine Kd.C_drew ?_) | exact HR444_1.out)) hb); have n10_ := Aside0.mk ((Kd.C_aboveB (by repeat (first | (with_reducible exact HR442_0.out) | (with_reducible refine Kd.C_alloc ?_ _) | (with_reducible refine Kd.C_drewN ?_ _) | (with_reducible refine Kd.C_drew ?_) | exact HR442_0.out)) (by decide) (Nat.le_of_eq hg.symm))); have n11_ := Aside0.mk ((Kd.C_aboveB (by repeat (first | (with_reducible exact HR442_1.out) | (with_reducible refine Kd.C_alloc ?_ _) | (with_reducible refine Kd.C_drewN ?_ _) | (with_reducible refine Kd.C_drew ?_) | exact HR442_1.out)) (by decide) (Nat.le_of_eq hg.symm))); have n12_ := Aside0.mk ((Kd.C_aboveB (by repeat (first | (with_reducible exact HR444_0.out) | (with_reducible refine Kd.C_alloc ?_ _) | (with_reducible refine Kd.C_drewN ?_ _) | (with_reducible refine Kd.C_drew ?_) | exact HR444_0.out)) (by decide) (Nat.le_of_eq hg.symm))); have n13_ := Aside0.mk ((Kd.C_aboveB (by repeat (first | (with_reducible exact HR444_1.out) | (with_reducible refine Kd.C_alloc ?_ _) | (with_reducible refine Kd.C_drewN ?_ _) | (with_reducible refine Kd.C_drew ?_) | exact HR444_1.out)) (by decide) (Nat.le_of_eq hg.symm))); have n14_ := Aside0.mk (below_step (by repeat (first | (with_reducible first | exact HB.out | apply below_alloc | apply pw_below_drewN | apply below_drew1 | refine below_set ?_ GE443.out) | exact HB.out)) hb); have n15_ := Aside0.mk (hbox); have n16_ := Aside0.mk ((by rw [hg]; exact (below_size (by repeat (first | (with_reducible first | exact HB.out | apply below_alloc | apply pw_below_drewN | apply below_drew1 | refine below_set ?_ GE443.out) | exact HB.out))) : w.heap.size ≤ gb445)); have n17_ := Aside0.mk ((by rw [hg]; exact (below_size (by repeat (first | (with_reducible first | exact HB.out | apply below_alloc | apply pw_below_drewN | apply below_drew1 | refine below_set ?_ GE443.out) | exact HB.out))) : w.heap.size ≤ gb445)); have n18_ := Aside0.mk ((by rw [hg]; exact Nat.ne_of_lt (blk_lt (g := gb443) (o := .cells #[.slice A442_0 ((rd_T30 t421 x131_5).f0).length c442_0, .slice A442_1 ((rd_T30 t421 x131_5).f1).length c442_1] 30 (0, 0)) (by (with_reducible repeat (first | refine blk_drewN ?_ _ | refine blk_drew ?_ | refine blk_alloc ?_ _)); exact BK443.out)) : gb443 ≠ gb445)); have n19_ := Aside0.mk ((by rw [hg]; exact Nat.ne_of_gt (blk_lt (g := gb443) (o := .cells #[.slice A442_0 ((rd_T30 t421 x131_5).f0).length c442_0, .slice A442_1 ((rd_T30 t421 x131_5).f1).length c442_1] 30 (0, 0)) (by (with_reducible repeat (first | refine blk_drewN ?_ _ | refine blk_drew ?_ | refine blk_alloc ?_ _)); exact BK443.out)) : gb445 ≠ gb443)); clear HO_21; clear HO_129; clear HO_135; clear HL444_0; clear HL444_1; clear BK443; clear HR442_0; clear HR442_1; clear HR444_0; clear HR444_1; clear HB; have HO_21 := n0_; have HO_129 := n1_; have HO_135 := n2_; have HL444_0 := n3_; have HL444_1 := n4_; have BK443 := n5_; have HR442_0 := n6_; have HR442_1 := n7_; have HR444_0 := n8_; have HR444_1 := n9_; have SF442_0_445 := n10_; have SF442_1_445 := n11_; have SF444_0_445 := n12_; have SF444_1_445 := n13_; have HB := n14_; have BK445 := n15_; have GW445 := n16_; have GE445 := n17_; have NB443_445 := n18_; have NB445_443 := n19_; clear n0_ n1_ n2_ n3_ n4_ n5_ n6_ n7_ n8_ n9_ n10_ n11_ n12_ n13_ n14_ n15_ n16_ n17_ n18_ n19_; clear hb hbox hg; have hnb66 := NB445_443.out; have hnc66 := NB443_445.out; have hcz67_0 : w65.cell? ⟨gb445, 0, none⟩ = some (.slice none 0 0) := (blk_cell BK445.out 0).trans rfl; have hcz67_1 : w65.cell? ⟨gb445, 1, none⟩ = some (.slice none 0 0) := (blk_cell BK445.out 1).trans rfl; have hfz67_0 := blk_frozen BK445.out 0; have hfz67_1 := blk_frozen BK445.out 1; have hcz68_0 : w65.cell? ⟨gb443, 0, none⟩ = some (.slice A442_0 ((rd_T30 t421 x131_5).f0).length c442_0) := (blk_cell BK443.out 0).trans rfl; have hcz68_1 : w65.cell? ⟨gb443, 1, none⟩ = some (.slice A442_1 ((rd_T30 t421 x131_5).f1).length c442_1) := (blk_cell BK443.out 1).trans rfl; have hfz68_0 := blk_frozen BK443.out 0; have hfz68_1 := blk_frozen BK443.out 1) | (go_at_call 11; (with_reducible refine (orreryref17_Ints.calls k6 _ _ ((rd_T30 t421 x131_5).f0) _ _ ((rd_T30 t438 x137_6).f0) true _ ?side1 ?side2 ?side3 ?side4 A62.out).mono ?_); (case side1 => repeat (first | exact (by (with_reducible repeat (first | apply Kd.C_alloc | apply Kd.C_drewN | apply Kd.C_drew)); exact (Kd.C_farP (p := ⟨gb445, 1, none⟩) (Kd.C_farP (p := ⟨gb445, 0, none⟩) HR442_0.out SF442_0_445.out (.slice A444_0 ((rd_T30 t438 x137_6).f0).length c444_0)) SF442_0_445.out (.slice A444_1 ((rd_T30 t438 x137_6).f1).length c444_1))) | (with_reducible refine Kd.C_alloc ?_ _) | (with_reducible refine Kd.C_drewN ?_ _) | (with_reducible refine Kd.C_drew ?_))); (case side2 => exact HC442_0.out); (case side3 => repeat (first | exact ((Kd.R_reads' (by (with_reducible repeat (first | apply Kd.R_alloc | apply Kd.R_drewN | apply Kd.R_drew)); exact (Kd.R_mono (Kd.R_far (p := ⟨gb445, 1, none⟩) (Kd.R_far (p := ⟨gb445, 0, none⟩) (Kd.R_types HL444_0.out BK445.out (by decide)) (fun _ hk => hk.2) (.slice A444_0 ((rd_T30 t438 x137_6).f0).length c444_0)) (fun _ hk => hk.2) (.slice A444_1 ((rd_T30 t438 x137_6).f1).length c444_1)) (fun _ h_ => h_.1)))).2.2) | (with_reducible refine Kd.C_alloc ?_ _) | (with_reducible refine Kd.C_drewN ?_ _) | (with_reducible refine Kd.C_drew ?_))); (case side4 => exact HC444_0.out); rintro e w' ⟨rfl, ⟨nd, rfl⟩⟩; (try first | exact ⟨rfl, _, World.drewN_drewN _ _ _⟩ | exact ⟨rfl, _, Eq.trans (World.drewN_drewN _ _ _) (congrArg (World.drewN _) (Nat.add_assoc _ _ _))⟩)) | (go_at_call 11; (with_reducible refine (orreryref17_Ints.calls k6 _ _ ((rd_T30 t421 x131_5).f1) _ _ ((rd_T30 t438 x137_6).f1) t447 _ ?side1 ?side2 ?side3 ?side4 A64.out).mono ?_); (case side1 => repeat (first | exact (by (with_reducible repeat (first | apply Kd.C_alloc | apply Kd.C_drewN | apply Kd.C_drew)); exact (Kd.C_farP (p := ⟨gb445, 1, none⟩) (Kd.C_farP (p := ⟨gb445, 0, none⟩) HR442_1.out SF442_1_445.out (.slice A444_0 ((rd_T30 t438 x137_6).f0).length c444_0)) SF442_1_445.out (.slice A444_1 ((rd_T30 t438 x137_6).f1).length c444_1))) | (with_reducible refine Kd.C_alloc ?_ _) | (with_reducible refine Kd.C_drewN ?_ _) | (with_reducible refine Kd.C_drew ?_))); (case side2 => exact HC442_1.out); (case side3 => repeat (first | exact ((Kd.R_reads' (by (with_reducible repeat (first | apply Kd.R_alloc | apply Kd.R_drewN | apply Kd.R_drew)); exact (Kd.R_mono (Kd.R_far (p := ⟨gb445, 1, none⟩) (Kd.R_far (p := ⟨gb445, 0, none⟩) (Kd.R_types HL444_1.out BK445.out (by decide)) (fun _ hk => hk.2) (.slice A444_0 ((rd_T30 t438 x137_6).f0).length c444_0)) (fun _ hk => hk.2) (.slice A444_1 ((rd_T30 t438 x137_6).f1).length c444_1)) (fun _ h_ => h_.1)))).2.2) | (with_reducible refine Kd.C_alloc ?_ _) | (with_reducible refine Kd.C_drewN ?_ _) | (with_reducible refine Kd.C_drew ?_))); (case side4 => exact HC444_1.out); rintro e w' ⟨rfl, ⟨nd, rfl⟩⟩; (try first | exact ⟨rfl, _, World.drewN_drewN _ _ _⟩ | exact ⟨rfl, _, Eq.trans (World.drewN_drewN _ _ _) (congrArg (World.drewN _) (Nat.add_assoc _ _ _))⟩)))
             repeat (go_quiet (first | ((with_reducible refine gate_dst (N := 27) rfl ?_); (try (refine gate_guard (by rfl) ?_; dsimp only)); refine box_event ?hg (N := 27) ?hd (cs := #[.slice none 0 0, .slice none 0 0]) (t := 30) ?hr ?_; (case hd => rfl); (case hg => rfl); (case hr => first | (go_simp; done) | (go_simp; rfl)); intro gb445 hg w65 hbox hb; have n0_ := Aside0.mk (Kd.S_below (Kd.S_elderB (by (with_reducible repeat (first | apply Kd.S_alloc | apply Kd.S_drewN | apply Kd.S_drew)); exact HO_21.out) gb445 (Nat.le_of_eq hg.symm)) hb); have n1_ := Aside0.mk (Kd.S_below (Kd.S_elderB (by (with_reducible repeat (first | apply Kd.S_alloc | apply Kd.S_drewN | apply Kd.S_drew)); exact HO_129.out) gb445 (Nat.le_of_eq hg.symm)) hb); have n2_ := Aside0.mk (Kd.S_below (Kd.S_elderB (by (with_reducible repeat (first | apply Kd.S_alloc | apply Kd.S_drewN | apply Kd.S_drew)); exact HO_135.out) gb445 (Nat.le_of_eq hg.symm)) hb); have n3_ := Aside0.mk (Kd.R_below (by (with_reducible repeat (first | apply Kd.R_alloc | apply Kd.R_drewN | apply Kd.R_drew)); exact HL444_0.out) hb); have n4_ := Aside0.mk (Kd.R_below (by (with_reducible repeat (first | apply Kd.R_alloc | apply Kd.R_drewN | apply Kd.R_drew)); exact HL444_1.out) hb); have n5_ := Aside0.mk (blk_below (g := gb443) (o := .cells #[.slice A442_0 ((rd_T30 t421 x131_5).f0).length c442_0, .slice A442_1 ((rd_T30 t421 x131_5).f1).length c442_1] 30 (0, 0)) (by (with_reducible repeat (first | refine blk_drewN ?_ _ | refine blk_drew ?_ | refine blk_alloc ?_ _)); exact BK443.out) hb); have n6_ := Aside0.mk (Kd.C_below (by repeat (first | (with_reducible exact HR442_0.out) | (with_reducible refine Kd.C_alloc ?_ _) | (with_reducible refine Kd.C_drewN ?_ _) | (with_reducible refine Kd.C_drew ?_) | exact HR442_0.out)) hb); have n7_ := Aside0.mk (Kd.C_below (by repeat (first | (with_reducible exact HR442_1.out) | (with_reducible refine Kd.C_alloc ?_ _) | (with_reducible refine Kd.C_drewN ?_ _) | (with_reducible refine Kd.C_drew ?_) | exact HR442_1.out)) hb); have n8_ := Aside0.mk (Kd.C_below (by repeat (first | (with_reducible exact HR444_0.out) | (with_reducible refine Kd.C_alloc ?_ _) | (with_reducible refine Kd.C_drewN ?_ _) | (with_reducible refine Kd.C_drew ?_) | exact HR444_0.out)) hb); have n9_ := Aside0.mk (Kd.C_below (by repeat (first | (with_reducible exact HR444_1.out) | (with_reducible refine Kd.C_alloc ?_ _) | (with_reducible refine Kd.C_drewN ?_ _) | (with_reducible refine Kd.C_drew ?_) | exact HR444_1.out)) hb); have n10_ := Aside0.mk ((Kd.C_aboveB (by repeat (first | (with_reducible exact HR442_0.out) | (with_reducible refine Kd.C_alloc ?_ _) | (with_reducible refine Kd.C_drewN ?_ _) | (with_reducible refine Kd.C_drew ?_) | exact HR442_0.out)) (by decide) (Nat.le_of_eq hg.symm))); have n11_ := Aside0.mk ((Kd.C_aboveB (by repeat (first | (with_reducible exact HR442_1.out) | (with_reducible refine Kd.C_alloc ?_ _) | (with_reducible refine Kd.C_drewN ?_ _) | (with_reducible refine Kd.C_drew ?_) | exact HR442_1.out)) (by decide) (Nat.le_of_eq hg.symm))); have n12_ := Aside0.mk ((Kd.C_aboveB (by repeat (first | (with_reducible exact HR444_0.out) | (with_reducible refine Kd.C_alloc ?_ _) | (with_reducible refine Kd.C_drewN ?_ _) | (with_reducible refine Kd.C_drew ?_) | exact HR444_0.out)) (by decide) (Nat.le_of_eq hg.symm))); have n13_ := Aside0.mk ((Kd.C_aboveB (by repeat (first | (with_reducible exact HR444_1.out) | (with_reducible refine Kd.C_alloc ?_ _) | (with_reducible refine Kd.C_drewN ?_ _) | (with_reducible refine Kd.C_drew ?_) | exact HR444_1.out)) (by decide) (Nat.le_of_eq hg.symm))); have n14_ := Aside0.mk (below_step (by repeat (first | (with_reducible first | exact HB.out | apply below_alloc | apply pw_below_drewN | apply below_drew1 | refine below_set ?_ GE443.out) | exact HB.out)) hb); have n15_ := Aside0.mk (hbox); have n16_ := Aside0.mk ((by rw [hg]; exact (below_size (by repeat (first | (with_reducible first | exact HB.out | apply below_alloc | apply pw_below_drewN | apply below_drew1 | refine below_set ?_ GE443.out) | exact HB.out))) : w.heap.size ≤ gb445)); have n17_ := Aside0.mk ((by rw [hg]; exact (below_size (by repeat (first | (with_reducible first | exact HB.out | apply below_alloc | apply pw_below_drewN | apply below_drew1 | refine below_set ?_ GE443.out) | exact HB.out))) : w.heap.size ≤ gb445)); have n18_ := Aside0.mk ((by rw [hg]; exact Nat.ne_of_lt (blk_lt (g := gb443) (o := .cells #[.slice A442_0 ((rd_T30 t421 x131_5).f0).length c442_0, .slice A442_1 ((rd_T30 t421 x131_5).f1).length c442_1] 30 (0, 0)) (by (with_reducible repeat (first | refine blk_drewN ?_ _ | refine blk_drew ?_ | refine blk_alloc ?_ _)); exact BK443.out)) : gb443 ≠ gb445)); have n19_ := Aside0.mk ((by rw [hg]; exact Nat.ne_of_gt (blk_lt (g := gb443) (o := .cells #[.slice A442_0 ((rd_T30 t421 x131_5).f0).length c442_0, .slice A442_1 ((rd_T30 t421 x131_5).f1).length c442_1] 30 (0, 0)) (by (with_reducible repeat (first | refine blk_drewN ?_ _ | refine blk_drew ?_ | refine blk_alloc ?_ _)); exact BK443.out)) : gb445 ≠ gb443)); clear HO_21; clear HO_129; clear HO_135; clear HL444_0; clear HL444_1; clear BK443; clear HR442_0; clear HR442_1; clear HR444_0; clear HR444_1; clear HB; have HO_21 := n0_; have HO_129 := n1_; have HO_135 := n2_; have HL444_0 := n3_; have HL444_1 := n4_; have BK443 := n5_; have HR442_0 := n6_; have HR442_1 := n7_; have HR444_0 := n8_; have HR444_1 := n9_; have SF442_0_445 := n10_; have SF442_1_445 := n11_; have SF444_0_445 := n12_; have SF444_1_445 := n13_; have HB := n14_; have BK445 := n15_; have GW445 := n16_; have GE445 := n17_; have NB443_445 := n18_; have NB445_443 := n19_; clear n0_ n1_ n2_ n3_ n4_ n5_ n6_ n7_ n8_ n9_ n10_ n11_ n12_ n13_ n14_ n15_ n16_ n17_ n18_ n19_; clear hb hbox hg; have hnb66 := NB445_443.out; have hnc66 := NB443_445.out; have hcz67_0 : w65.cell? ⟨gb445, 0, none⟩ = some (.slice none 0 0) := (blk_cell BK445.out 0).trans rfl; have hcz67_1 : w65.cell? ⟨gb445, 1, none⟩ = some (.slice none 0 0) := (blk_cell BK445.out 1).trans rfl; have hfz67_0 := blk_frozen BK445.out 0; have hfz67_1 := blk_frozen BK445.out 1; have hcz68_0 : w65.cell? ⟨gb443, 0, none⟩ = some (.slice A442_0 ((rd_T30 t421 x131_5).f0).length c442_0) := (blk_cell BK443.out 0).trans rfl; have hcz68_1 : w65.cell? ⟨gb443, 1, none⟩ = some (.slice A442_1 ((rd_T30 t421 x131_5).f1).length c442_1) := (blk_cell BK443.out 1).trans rfl; have hfz68_0 := blk_frozen BK443.out 0; have hfz68_1 := blk_frozen BK443.out 1) | (go_at_call 11; (with_reducible refine (orreryref17_Ints.calls k6 _ _ ((rd_T30 t421 x131_5).f0) _ _ ((rd_T30 t438 x137_6).f0) true _ ?side1 ?side2 ?side3 ?side4 A62.out).mono ?_); (case side1 => repeat (first | exact (by (with_reducible repeat (first | apply Kd.C_alloc | apply Kd.C_drewN | apply Kd.C_drew)); exact (Kd.C_farP (p := ⟨gb445, 1, none⟩) (Kd.C_farP (p := ⟨gb445, 0, none⟩) HR442_0.out SF442_0_445.out (.slice A444_0 ((rd_T30 t438 x137_6).f0).length c444_0)) SF442_0_445.out (.slice A444_1 ((rd_T30 t438 x137_6).f1).length c444_1))) | (with_reducible refine Kd.C_alloc ?_ _) | (with_reducible refine Kd.C_drewN ?_ _) | (with_reducible refine Kd.C_drew ?_))); (case side2 => exact HC442_0.out); (case side3 => repeat (first | exact ((Kd.R_reads' (by (with_reducible repeat (first | apply Kd.R_alloc | apply Kd.R_drewN | apply Kd.R_drew)); exact (Kd.R_mono (Kd.R_far (p := ⟨gb445, 1, none⟩) (Kd.R_far (p := ⟨gb445, 0, none⟩) (Kd.R_types HL444_0.out BK445.out (by decide)) (fun _ hk => hk.2) (.slice A444_0 ((rd_T30 t438 x137_6).f0).length c444_0)) (fun _ hk => hk.2) (.slice A444_1 ((rd_T30 t438 x137_6).f1).length c444_1)) (fun _ h_ => h_.1)))).2.2) | (with_reducible refine Kd.C_alloc ?_ _) | (with_reducible refine Kd.C_drewN ?_ _) | (with_reducible refine Kd.C_drew ?_))); (case side4 => exact HC444_0.out); rintro e w' ⟨rfl, ⟨nd, rfl⟩⟩; (try first | exact ⟨rfl, _, World.drewN_drewN _ _ _⟩ | exact ⟨rfl, _, Eq.trans (World.drewN_drewN _ _ _) (congrArg (World.drewN _) (Nat.add_assoc _ _ _))⟩)) | (go_at_call 11; (with_reducible refine (orreryref17_Ints.calls k6 _ _ ((rd_T30 t421 x131_5).f1) _ _ ((rd_T30 t438 x137_6).f1) t447 _ ?side1 ?side2 ?side3 ?side4 A64.out).mono ?_); (case side1 => repeat (first | exact (by (with_reducible repeat (first | apply Kd.C_alloc | apply Kd.C_drewN | apply Kd.C_drew)); exact (Kd.C_farP (p := ⟨gb445, 1, none⟩) (Kd.C_farP (p := ⟨gb445, 0, none⟩) HR442_1.out SF442_1_445.out (.slice A444_0 ((rd_T30 t438 x137_6).f0).length c444_0)) SF442_1_445.out (.slice A444_1 ((rd_T30 t438 x137_6).f1).length c444_1))) | (with_reducible refine Kd.C_alloc ?_ _) | (with_reducible refine Kd.C_drewN ?_ _) | (with_reducible refine Kd.C_drew ?_))); (case side2 => exact HC442_1.out); (case side3 => repeat (first | exact ((Kd.R_reads' (by (with_reducible repeat (first | apply Kd.R_alloc | apply Kd.R_drewN | apply Kd.R_drew)); exact (Kd.R_mono (Kd.R_far (p := ⟨gb445, 1, none⟩) (Kd.R_far (p := ⟨gb445, 0, none⟩) (Kd.R_types HL444_1.out BK445.out (by decide)) (fun _ hk => hk.2) (.slice A444_0 ((rd_T30 t438 x137_6).f0).length c444_0)) (fun _ hk => hk.2) (.slice A444_1 ((rd_T30 t438 x137_6).f1).length c444_1)) (fun _ h_ => h_.1)))).2.2) | (with_reducible refine Kd.C_alloc ?_ _) | (with_reducible refine Kd.C_drewN ?_ _) | (with_reducible refine Kd.C_drew ?_))); (case side4 => exact HC444_1.out); rintro e w' ⟨rfl, ⟨nd, rfl⟩⟩; (try first | exact ⟨rfl, _, World.drewN_drewN _ _ _⟩ | exact ⟨rfl, _, Eq.trans (World.drewN_drewN _ _ _) (congrArg (World.drewN _) (Nat.add_assoc _ _ _))⟩))); try go_wp2_with (first | ((with_reducible refine gate_dst (N := 27) rfl ?_); (try (refine gate_guard (by rfl) ?_; dsimp only)); refine box_event ?hg (N := 27) ?hd (cs := #[.slice none 0 0, .slice none 0 0]) (t := 30) ?hr ?_; (case hd => rfl); (case hg => rfl); (case hr => first | (go_simp; done) | (go_simp; rfl)); intro gb445 hg w65 hbox hb; have n0_ := Aside0.mk (Kd.S_below (Kd.S_elderB (by (with_reducible repeat (first | apply Kd.S_alloc | apply Kd.S_drewN | apply Kd.S_drew)); exact HO_21.out) gb445 (Nat.le_of_eq hg.symm)) hb); have n1_ := Aside0.mk (Kd.S_below (Kd.S_elderB (by (with_reducible repeat (first | apply Kd.S_alloc | apply Kd.S_drewN | apply Kd.S_drew)); exact HO_129.out) gb445 (Nat.le_of_eq hg.symm)) hb); have n2_ := Aside0.mk (Kd.S_below (Kd.S_elderB (by (with_reducible repeat (first | apply Kd.S_alloc | apply Kd.S_drewN | apply Kd.S_drew)); exact HO_135.out) gb445 (Nat.le_of_eq hg.symm)) hb); have n3_ := Aside0.mk (Kd.R_below (by (with_reducible repeat (first | apply Kd.R_alloc | apply Kd.R_drewN | apply Kd.R_drew)); exact HL444_0.out) hb); have n4_ := Aside0.mk (Kd.R_below (by (with_reducible repeat (first | apply Kd.R_alloc | apply Kd.R_drewN | apply Kd.R_drew)); exact HL444_1.out) hb); have n5_ := Aside0.mk (blk_below (g := gb443) (o := .cells #[.slice A442_0 ((rd_T30 t421 x131_5).f0).length c442_0, .slice A442_1 ((rd_T30 t421 x131_5).f1).length c442_1] 30 (0, 0)) (by (with_reducible repeat (first | refine blk_drewN ?_ _ | refine blk_drew ?_ | refine blk_alloc ?_ _)); exact BK443.out) hb); have n6_ := Aside0.mk (Kd.C_below (by repeat (first | (with_reducible exact HR442_0.out) | (with_reducible refine Kd.C_alloc ?_ _) | (with_reducible refine Kd.C_drewN ?_ _) | (with_reducible refine Kd.C_drew ?_) | exact HR442_0.out)) hb); have n7_ := Aside0.mk (Kd.C_below (by repeat (first | (with_reducible exact HR442_1.out) | (with_reducible refine Kd.C_alloc ?_ _) | (with_reducible refine Kd.C_drewN ?_ _) | (with_reducible refine Kd.C_drew ?_) | exact HR442_1.out)) hb); have n8_ := Aside0.mk (Kd.C_below (by repeat (first | (with_reducible exact HR444_0.out) | (with_reducible refine Kd.C_alloc ?_ _) | (with_reducible refine Kd.C_drewN ?_ _) | (with_reducible refine Kd.C_drew ?_) | exact HR444_0.out)) hb); have n9_ := Aside0.mk (Kd.C_below (by repeat (first | (with_reducible exact HR444_1.out) | (with_reducible refine Kd.C_alloc ?_ _) | (with_reducible refine Kd.C_drewN ?_ _) | (with_reducible refine Kd.C_drew ?_) | exact HR444_1.out)) hb); have n10_ := Aside0.mk ((Kd.C_aboveB (by repeat (first | (with_reducible exact HR442_0.out) | (with_reducible refine Kd.C_alloc ?_ _) | (with_reducible refine Kd.C_drewN ?_ _) | (with_reducible refine Kd.C_drew ?_) | exact HR442_0.out)) (by decide) (Nat.le_of_eq hg.symm))); have n11_ := Aside0.mk ((Kd.C_aboveB (by repeat (first | (with_reducible exact HR442_1.out) | (with_reducible refine Kd.C_alloc ?_ _) | (with_reducible refine Kd.C_drewN ?_ _) | (with_reducible refine Kd.C_drew ?_) | exact HR442_1.out)) (by decide) (Nat.le_of_eq hg.symm))); have n12_ := Aside0.mk ((Kd.C_aboveB (by repeat (first | (with_reducible exact HR444_0.out) | (with_reducible refine Kd.C_alloc ?_ _) | (with_reducible refine Kd.C_drewN ?_ _) | (with_reducible refine Kd.C_drew ?_) | exact HR444_0.out)) (by decide) (Nat.le_of_eq hg.symm))); have n13_ := Aside0.mk ((Kd.C_aboveB (by repeat (first | (with_reducible exact HR444_1.out) | (with_reducible refine Kd.C_alloc ?_ _) | (with_reducible refine Kd.C_drewN ?_ _) | (with_reducible refine Kd.C_drew ?_) | exact HR444_1.out)) (by decide) (Nat.le_of_eq hg.symm))); have n14_ := Aside0.mk (below_step (by repeat (first | (with_reducible first | exact HB.out | apply below_alloc | apply pw_below_drewN | apply below_drew1 | refine below_set ?_ GE443.out) | exact HB.out)) hb); have n15_ := Aside0.mk (hbox); have n16_ := Aside0.mk ((by rw [hg]; exact (below_size (by repeat (first | (with_reducible first | exact HB.out | apply below_alloc | apply pw_below_drewN | apply below_drew1 | refine below_set ?_ GE443.out) | exact HB.out))) : w.heap.size ≤ gb445)); have n17_ := Aside0.mk ((by rw [hg]; exact (below_size (by repeat (first | (with_reducible first | exact HB.out | apply below_alloc | apply pw_below_drewN | apply below_drew1 | refine below_set ?_ GE443.out) | exact HB.out))) : w.heap.size ≤ gb445)); have n18_ := Aside0.mk ((by rw [hg]; exact Nat.ne_of_lt (blk_lt (g := gb443) (o := .cells #[.slice A442_0 ((rd_T30 t421 x131_5).f0).length c442_0, .slice A442_1 ((rd_T30 t421 x131_5).f1).length c442_1] 30 (0, 0)) (by (with_reducible repeat (first | refine blk_drewN ?_ _ | refine blk_drew ?_ | refine blk_alloc ?_ _)); exact BK443.out)) : gb443 ≠ gb445)); have n19_ := Aside0.mk ((by rw [hg]; exact Nat.ne_of_gt (blk_lt (g := gb443) (o := .cells #[.slice A442_0 ((rd_T30 t421 x131_5).f0).length c442_0, .slice A442_1 ((rd_T30 t421 x131_5).f1).length c442_1] 30 (0, 0)) (by (with_reducible repeat (first | refine blk_drewN ?_ _ | refine blk_drew ?_ | refine blk_alloc ?_ _)); exact BK443.out)) : gb445 ≠ gb443)); clear HO_21; clear HO_129; clear HO_135; clear HL444_0; clear HL444_1; clear BK443; clear HR442_0; clear HR442_1; clear HR444_0; clear HR444_1; clear HB; have HO_21 := n0_; have HO_129 := n1_; have HO_135 := n2_; have HL444_0 := n3_; have HL444_1 := n4_; have BK443 := n5_; have HR442_0 := n6_; have HR442_1 := n7_; have HR444_0 := n8_; have HR444_1 := n9_; have SF442_0_445 := n10_; have SF442_1_445 := n11_; have SF444_0_445 := n12_; have SF444_1_445 := n13_; have HB := n14_; have BK445 := n15_; have GW445 := n16_; have GE445 := n17_; have NB443_445 := n18_; have NB445_443 := n19_; clear n0_ n1_ n2_ n3_ n4_ n5_ n6_ n7_ n8_ n9_ n10_ n11_ n12_ n13_ n14_ n15_ n16_ n17_ n18_ n19_; clear hb hbox hg; have hnb66 := NB445_443.out; have hnc66 := NB443_445.out; have hcz67_0 : w65.cell? ⟨gb445, 0, none⟩ = some (.slice none 0 0) := (blk_cell BK445.out 0).trans rfl; have hcz67_1 : w65.cell? ⟨gb445, 1, none⟩ = some (.slice none 0 0) := (blk_cell BK445.out 1).trans rfl; have hfz67_0 := blk_frozen BK445.out 0; have hfz67_1 := blk_frozen BK445.out 1; have hcz68_0 : w65.cell? ⟨gb443, 0, none⟩ = some (.slice A442_0 ((rd_T30 t421 x131_5).f0).length c442_0) := (blk_cell BK443.out 0).trans rfl; have hcz68_1 : w65.cell? ⟨gb443, 1, none⟩ = some (.slice A442_1 ((rd_T30 t421 x131_5).f1).length c442_1) := (blk_cell BK443.out 1).trans rfl; have hfz68_0 := blk_frozen BK443.out 0; have hfz68_1 := blk_frozen BK443.out 1) | (go_at_call 11; (with_reducible refine (orreryref17_Ints.calls k6 _ _ ((rd_T30 t421 x131_5).f0) _ _ ((rd_T30 t438 x137_6).f0) true _ ?side1 ?side2 ?side3 ?side4 A62.out).mono ?_); (case side1 => repeat (first | exact (by (with_reducible repeat (first | apply Kd.C_alloc | apply Kd.C_drewN | apply Kd.C_drew)); exact (Kd.C_farP (p := ⟨gb445, 1, none⟩) (Kd.C_farP (p := ⟨gb445, 0, none⟩) HR442_0.out SF442_0_445.out (.slice A444_0 ((rd_T30 t438 x137_6).f0).length c444_0)) SF442_0_445.out (.slice A444_1 ((rd_T30 t438 x137_6).f1).length c444_1))) | (with_reducible refine Kd.C_alloc ?_ _) | (with_reducible refine Kd.C_drewN ?_ _) | (with_reducible refine Kd.C_drew ?_))); (case side2 => exact HC442_0.out); (case side3 => repeat (first | exact ((Kd.R_reads' (by (with_reducible repeat (first | apply Kd.R_alloc | apply Kd.R_drewN | apply Kd.R_drew)); exact (Kd.R_mono (Kd.R_far (p := ⟨gb445, 1, none⟩) (Kd.R_far (p := ⟨gb445, 0, none⟩) (Kd.R_types HL444_0.out BK445.out (by decide)) (fun _ hk => hk.2) (.slice A444_0 ((rd_T30 t438 x137_6).f0).length c444_0)) (fun _ hk => hk.2) (.slice A444_1 ((rd_T30 t438 x137_6).f1).length c444_1)) (fun _ h_ => h_.1)))).2.2) | (with_reducible refine Kd.C_alloc ?_ _) | (with_reducible refine Kd.C_drewN ?_ _) | (with_reducible refine Kd.C_drew ?_))); (case side4 => exact HC444_0.out); rintro e w' ⟨rfl, ⟨nd, rfl⟩⟩; (try first | exact ⟨rfl, _, World.drewN_drewN _ _ _⟩ | exact ⟨rfl, _, Eq.trans (World.drewN_drewN _ _ _) (congrArg (World.drewN _) (Nat.add_assoc _ _ _))⟩)) | (go_at_call 11; (with_reducible refine (orreryref17_Ints.calls k6 _ _ ((rd_T30 t421 x131_5).f1) _ _ ((rd_T30 t438 x137_6).f1) t447 _ ?side1 ?side2 ?side3 ?side4 A64.out).mono ?_); (case side1 => repeat (first | exact (by (with_reducible repeat (first | apply Kd.C_alloc | apply Kd.C_drewN | apply Kd.C_drew)); exact (Kd.C_farP (p := ⟨gb445, 1, none⟩) (Kd.C_farP (p := ⟨gb445, 0, none⟩) HR442_1.out SF442_1_445.out (.slice A444_0 ((rd_T30 t438 x137_6).f0).length c444_0)) SF442_1_445.out (.slice A444_1 ((rd_T30 t438 x137_6).f1).length c444_1))) | (with_reducible refine Kd.C_alloc ?_ _) | (with_reducible refine Kd.C_drewN ?_ _) | (with_reducible refine Kd.C_drew ?_))); (case side2 => exact HC442_1.out); (case side3 => repeat (first | exact ((Kd.R_reads' (by (with_reducible repeat (first | apply Kd.R_alloc | apply Kd.R_drewN | apply Kd.R_drew)); exact (Kd.R_mono (Kd.R_far (p := ⟨gb445, 1, none⟩) (Kd.R_far (p := ⟨gb445, 0, none⟩) (Kd.R_types HL444_1.out BK445.out (by decide)) (fun _ hk => hk.2) (.slice A444_0 ((rd_T30 t438 x137_6).f0).length c444_0)) (fun _ hk => hk.2) (.slice A444_1 ((rd_T30 t438 x137_6).f1).length c444_1)) (fun _ h_ => h_.1)))).2.2) | (with_reducible refine Kd.C_alloc ?_ _) | (with_reducible refine Kd.C_drewN ?_ _) | (with_reducible refine Kd.C_drew ?_))); (case side4 => exact HC444_1.out); rintro e w' ⟨rfl, ⟨nd, rfl⟩⟩; (try first | exact ⟨rfl, _, World.drewN_drewN _ _ _⟩ | exact ⟨rfl, _, Eq.trans (World.drewN_drewN _ _ _) (congrArg (World.drewN _) (Nat.add_assoc _ _ _))⟩))))
             (first | go_roundg k6 | (refine Handed.intro k6 ?measure ?_; rotate_left; go_step; (repeat apply Exists.intro); (refine ⟨?rel, ?fr_⟩); (case fr_ => (simp only [add_plain]; rfl))))
             case measure => have := HJ5.out; have := HK2.out; have := HJ32.out; have := HJ38.out; have := HK5.out; have := HK6.out; omega
             case rel => exact ⟨(t447), (wrap64 (x137_6 + 1)), (by first | rfl | (simp; done) | (simp [*]; done)), (by first | rfl | (simp; done) | (simp [*]; done)), H', ⟨by have := HJ5.out; have := HK2.out; have := HJ32.out; have := HJ38.out; have := HK5.out; have := HK6.out; omega⟩, ⟨by (with_reducible repeat (first | apply Kd.S_alloc | apply Kd.S_drewN | apply Kd.S_drew)); exact Kd.S_mono (Kd.S_far (p := ⟨gb445, 1, none⟩) (Kd.S_far (p := ⟨gb445, 0, none⟩) (Kd.S_mono HO_21.out (fun k_ hk => (⟨hk, hk.2⟩ : _ ∧ k_ ≠ gb445))) (fun _ hk => hk.2) (.slice A444_0 ((rd_T30 t438 x137_6).f0).length c444_0)) (fun _ hk => hk.2) (.slice A444_1 ((rd_T30 t438 x137_6).f1).length c444_1)) (fun _ hk => ⟨hk.1.1.1, hk.1.1.2⟩)⟩, ⟨by (with_reducible repeat (first | apply Kd.S_alloc | apply Kd.S_drewN | apply Kd.S_drew)); exact Kd.S_mono (Kd.S_far (p := ⟨gb445, 1, none⟩) (Kd.S_far (p := ⟨gb445, 0, none⟩) (Kd.S_mono HO_129.out (fun k_ hk => (⟨hk, hk.2⟩ : _ ∧ k_ ≠ gb445))) (fun _ hk => hk.2) (.slice A444_0 ((rd_T30 t438 x137_6).f0).length c444_0)) (fun _ hk => hk.2) (.slice A444_1 ((rd_T30 t438 x137_6).f1).length c444_1)) (fun _ hk => ⟨hk.1.1.1, ⟨hk.1.1.2.1, hk.1.1.2.2⟩⟩)⟩, ⟨by (with_reducible repeat (first | apply Kd.S_alloc | apply Kd.S_drewN | apply Kd.S_drew)); exact Kd.S_mono (Kd.S_far (p := ⟨gb445, 1, none⟩) (Kd.S_far (p := ⟨gb445, 0, none⟩) (Kd.S_mono HO_135.out (fun k_ hk => (⟨hk, hk.2⟩ : _ ∧ k_ ≠ gb445))) (fun _ hk => hk.2) (.slice A444_0 ((rd_T30 t438 x137_6).f0).length c444_0)) (fun _ hk => hk.2) (.slice A444_1 ((rd_T30 t438 x137_6).f1).length c444_1)) (fun _ hk => ⟨hk.1.1.1, hk.1.1.2⟩)⟩, ⟨by (with_reducible repeat (first | refine blk_drewN ?_ _ | refine blk_drew ?_ | refine blk_alloc ?_ _)); refine blk_far ?_ NB443_445.out _; (with_reducible repeat (first | refine blk_drewN ?_ _ | refine blk_drew ?_ | refine blk_alloc ?_ _)); refine blk_far ?_ NB443_445.out _; (with_reducible repeat (first | refine blk_drewN ?_ _ | refine blk_drew ?_ | refine blk_alloc ?_ _)); exact BK443.out⟩, ⟨by (with_reducible repeat (first | apply Kd.C_alloc | apply Kd.C_drewN | apply Kd.C_drew)); exact (Kd.C_farP (p := ⟨gb445, 1, none⟩) (Kd.C_farP (p := ⟨gb445, 0, none⟩) HR442_0.out SF442_0_445.out (.slice A444_0 ((rd_T30 t438 x137_6).f0).length c444_0)) SF442_0_445.out (.slice A444_1 ((rd_T30 t438 x137_6).f1).length c444_1))⟩, ⟨by (with_reducible repeat (first | apply Kd.C_alloc | apply Kd.C_drewN | apply Kd.C_drew)); exact (Kd.C_farP (p := ⟨gb445, 1, none⟩) (Kd.C_farP (p := ⟨gb445, 0, none⟩) HR442_1.out SF442_1_445.out (.slice A444_0 ((rd_T30 t438 x137_6).f0).length c444_0)) SF442_1_445.out (.slice A444_1 ((rd_T30 t438 x137_6).f1).length c444_1))⟩, ⟨by repeat (first | (with_reducible first | exact HB.out | apply below_alloc | apply pw_below_drewN | apply below_drew1 | refine below_set ?_ GE443.out | refine below_set ?_ GE445.out) | exact HB.out)⟩⟩

end Go.Proofs.Ytlaneafplmbcnaa.PO
