/- What the Go functions of this part compute, as Lean functions, and that the machine's calls come to just that; written for this claim by a program of the session (gen.sh, after the kit's printer). -/
import Derived.Test.YtlaneafplmbcnaaPOx0
import Derived.Test.YtlaneafplmbcnaaSq
namespace Go.Proofs.Ytlaneafplmbcnaa.PO
open Go.RowKit Go.Proofs.YtlaneafplmbcnaaW.PrintWords Go.Proofs.YtlaneafplmbcnaaW.PrintLast Go.Proofs.YtlaneafplmbcnaaW.PrintMore
attribute [local go_sem] max2_int min2_int max_two min_two max_three min_three max_four min_four   -- for this text's walks alone
set_option linter.unusedVariables false
set_option linter.unusedSimpArgs false

/-! ### match_augment: function 26 -/
mutual
def match_augment.l0 : Nat → Int → List (List Int) → List Int → List Int → Int → List Int → List Int → Int → Int → Option (Bool × List Int × List Int)
  | 0, _, _, _, _, _, _, _, _, _ => none
  | k + 1, x0, x1, x2, x3, x9, x10, x11, x29, x30 => if x30 < x29 then (if 0 ≤ x0 then (if x0 < (x1.length : Int) then (if 0 ≤ x30 then (if x30 < ((rd_L3 x1 x0).length : Int) then (if x30 < (x10.length : Int) then (if x30 < (x11.length : Int) then (match_augment.l0 k x0 x1 x2 x3 x9 (x10.set (x30 : Int).toNat (rd (rd_L3 x1 x0) x30)) (x11.set (x30 : Int).toNat x0) x29 (wrap64 (x30 + 1))) else (none)) else (none)) else (none)) else (none)) else (none)) else (none)) else (match_augment.l1 k x0 x1 x2 x3 x9 x10 x11 x9 0)
def match_augment.j5 : Nat → Int → List Int → List Int → Int → List Int → List Int → Option (Bool × List Int × List Int)
  | 0, _, _, _, _, _, _ => none
  | k + 1, x0, x2, x3, x9, x10, x11 => match_augment.l4 k x0 x2 x3 x10 x11 (-1) x9 0
def match_augment.l4 : Nat → Int → List Int → List Int → List Int → List Int → Int → Int → Int → Option (Bool × List Int × List Int)
  | 0, _, _, _, _, _, _, _, _ => none
  | k + 1, x0, x2, x3, x10, x11, x17, x144, x145 => if x145 < x144 then (if 0 ≤ x145 then (if x145 < (x3.length : Int) then (if (rd x3 x145) < 0 then (if x145 < (x10.length : Int) then (if (rd x10 x145) > (-536870912) then (if x17 < 0 then (match_augment.l4 k x0 x2 x3 x10 x11 x145 x144 (wrap64 (x145 + 1))) else (if 0 ≤ x17 then (if x17 < (x10.length : Int) then (if (rd x10 x145) > (rd x10 x17) then (match_augment.l4 k x0 x2 x3 x10 x11 x145 x144 (wrap64 (x145 + 1))) else (match_augment.l4 k x0 x2 x3 x10 x11 x17 x144 (wrap64 (x145 + 1)))) else (none)) else (none))) else (match_augment.l4 k x0 x2 x3 x10 x11 x17 x144 (wrap64 (x145 + 1)))) else (none)) else (match_augment.l4 k x0 x2 x3 x10 x11 x17 x144 (wrap64 (x145 + 1)))) else (none)) else (none)) else (if x17 < 0 then (some (false, x2, x3)) else (match_augment.l5 k x0 x2 x3 x11 x17))
def match_augment.l5 : Nat → Int → List Int → List Int → List Int → Int → Option (Bool × List Int × List Int)
  | 0, _, _, _, _, _ => none
  | k + 1, x0, x2, x3, x11, x19 => if 0 ≤ x19 then (if x19 < (x11.length : Int) then (if 0 ≤ (rd x11 x19) then (if (rd x11 x19) < (x2.length : Int) then ((some (x2.set ((rd x11 x19) : Int).toNat x19 : List Int)).bind fun y519 => (if x19 < (x3.length : Int) then ((some (x3.set (x19 : Int).toNat (rd x11 x19) : List Int)).bind fun y520 => (if (rd x11 x19) = x0 then (some (true, y519, y520)) else (match_augment.l5 k x0 y519 y520 x11 (rd x2 (rd x11 x19))))) else (none))) else (none)) else (none)) else (none)) else (none)
def match_augment.l1 : Nat → Int → List (List Int) → List Int → List Int → Int → List Int → List Int → Int → Int → Option (Bool × List Int × List Int)
  | 0, _, _, _, _, _, _, _, _, _ => none
  | k + 1, x0, x1, x2, x3, x9, x10, x11, x48, x49 => if x49 < x48 then (match_augment.l2 k x0 x1 x2 x3 x9 x10 x11 false x48 x49 x9 0) else (match_augment.j5 k x0 x2 x3 x9 x10 x11)
def match_augment.l2 : Nat → Int → List (List Int) → List Int → List Int → Int → List Int → List Int → Bool → Int → Int → Int → Int → Option (Bool × List Int × List Int)
  | 0, _, _, _, _, _, _, _, _, _, _, _, _ => none
  | k + 1, x0, x1, x2, x3, x9, x10, x11, x13, x48, x49, x51, x52 => if x52 < x51 then (if 0 ≤ x52 then (if x52 < (x3.length : Int) then (if x52 < (x10.length : Int) then (if (rd x10 x52) ≤ (-536870912) then (match_augment.j3 k x0 x1 x2 x3 x9 x10 x11 x13 x52 (rd x3 x52) x48 x49 x51 x52 true) else (match_augment.j3 k x0 x1 x2 x3 x9 x10 x11 x13 x52 (rd x3 x52) x48 x49 x51 x52 (decide ((rd x3 x52) < 0)))) else (none)) else (none)) else (none)) else (if x13 = true then (match_augment.l1 k x0 x1 x2 x3 x9 x10 x11 x48 (wrap64 (x49 + 1))) else (match_augment.j5 k x0 x2 x3 x9 x10 x11))
def match_augment.j3 : Nat → Int → List (List Int) → List Int → List Int → Int → List Int → List Int → Bool → Int → Int → Int → Int → Int → Int → Bool → Option (Bool × List Int × List Int)
  | 0, _, _, _, _, _, _, _, _, _, _, _, _, _, _, _ => none
  | k + 1, x0, x1, x2, x3, x9, x10, x11, x13, x14, x15, x48, x49, x51, x52, x67 => if x67 = true then (match_augment.l2 k x0 x1 x2 x3 x9 x10 x11 x13 x48 x49 x51 (wrap64 (x52 + 1))) else (match_augment.l3 k x0 x1 x2 x3 x9 x10 x11 x13 x14 x15 x48 x49 x51 x52 x9 0)
def match_augment.l3 : Nat → Int → List (List Int) → List Int → List Int → Int → List Int → List Int → Bool → Int → Int → Int → Int → Int → Int → Int → Int → Option (Bool × List Int × List Int)
  | 0, _, _, _, _, _, _, _, _, _, _, _, _, _, _, _, _ => none
  | k + 1, x0, x1, x2, x3, x9, x10, x11, x13, x14, x15, x48, x49, x51, x52, x68, x69 => if x69 < x68 then (if 0 ≤ x15 then (if x15 < (x1.length : Int) then (if 0 ≤ x69 then (if x69 < ((rd_L3 x1 x15).length : Int) then (if (rd (rd_L3 x1 x15) x69) > (-1073741824) then (if x69 = x14 then (match_augment.l3 k x0 x1 x2 x3 x9 x10 x11 x13 x14 x15 x48 x49 x51 x52 x68 (wrap64 (x69 + 1))) else (if 0 ≤ x14 then (if x14 < (x10.length : Int) then (if x14 < ((rd_L3 x1 x15).length : Int) then (if x69 < (x10.length : Int) then (if (wrap64 ((wrap64 ((rd x10 x14) - (rd (rd_L3 x1 x15) x14))) + (rd (rd_L3 x1 x15) x69))) > (rd x10 x69) then (if x69 < (x11.length : Int) then (match_augment.l3 k x0 x1 x2 x3 x9 (x10.set (x69 : Int).toNat (wrap64 ((wrap64 ((rd x10 x14) - (rd (rd_L3 x1 x15) x14))) + (rd (rd_L3 x1 x15) x69)))) (x11.set (x69 : Int).toNat x15) true x14 x15 x48 x49 x51 x52 x68 (wrap64 (x69 + 1))) else (none)) else (match_augment.l3 k x0 x1 x2 x3 x9 x10 x11 x13 x14 x15 x48 x49 x51 x52 x68 (wrap64 (x69 + 1)))) else (none)) else (none)) else (none)) else (none))) else (match_augment.l3 k x0 x1 x2 x3 x9 x10 x11 x13 x14 x15 x48 x49 x51 x52 x68 (wrap64 (x69 + 1)))) else (none)) else (none)) else (none)) else (none)) else (match_augment.l2 k x0 x1 x2 x3 x9 x10 x11 x13 x48 x49 x51 (wrap64 (x52 + 1)))
end
def match_augment.f (k : Nat) (a0 : Int) (l1 : List (List Int)) (l2 : List Int) (l3 : List Int) : Option (Bool × List Int × List Int) := if 0 ≤ (l1.length : Int) then (if ((l1.length : Int) : Int).toNat ≤ 35184372088832 then ((some (List.replicate ((l1.length : Int) : Int).toNat 0 : List Int)).bind fun y486 => (match_augment.l0 k a0 l1 l2 l3 (l1.length : Int) y486 (List.replicate ((l1.length : Int) : Int).toNat 0) (y486.length : Int) 0)) else (none)) else (none)
theorem match_augment.mono_l : ∀ k, (∀ y0 y1 y2 y3 y4 y5 y6 y7 y8, LeO (match_augment.l0 k y0 y1 y2 y3 y4 y5 y6 y7 y8) (match_augment.l0 (k + 1) y0 y1 y2 y3 y4 y5 y6 y7 y8)) ∧ (∀ y0 y1 y2 y3 y4 y5, LeO (match_augment.j5 k y0 y1 y2 y3 y4 y5) (match_augment.j5 (k + 1) y0 y1 y2 y3 y4 y5)) ∧ (∀ y0 y1 y2 y3 y4 y5 y6 y7, LeO (match_augment.l4 k y0 y1 y2 y3 y4 y5 y6 y7) (match_augment.l4 (k + 1) y0 y1 y2 y3 y4 y5 y6 y7)) ∧ (∀ y0 y1 y2 y3 y4, LeO (match_augment.l5 k y0 y1 y2 y3 y4) (match_augment.l5 (k + 1) y0 y1 y2 y3 y4)) ∧ (∀ y0 y1 y2 y3 y4 y5 y6 y7 y8, LeO (match_augment.l1 k y0 y1 y2 y3 y4 y5 y6 y7 y8) (match_augment.l1 (k + 1) y0 y1 y2 y3 y4 y5 y6 y7 y8)) ∧ (∀ y0 y1 y2 y3 y4 y5 y6 y7 y8 y9 y10 y11, LeO (match_augment.l2 k y0 y1 y2 y3 y4 y5 y6 y7 y8 y9 y10 y11) (match_augment.l2 (k + 1) y0 y1 y2 y3 y4 y5 y6 y7 y8 y9 y10 y11)) ∧ (∀ y0 y1 y2 y3 y4 y5 y6 y7 y8 y9 y10 y11 y12 y13 y14, LeO (match_augment.j3 k y0 y1 y2 y3 y4 y5 y6 y7 y8 y9 y10 y11 y12 y13 y14) (match_augment.j3 (k + 1) y0 y1 y2 y3 y4 y5 y6 y7 y8 y9 y10 y11 y12 y13 y14)) ∧ (∀ y0 y1 y2 y3 y4 y5 y6 y7 y8 y9 y10 y11 y12 y13 y14 y15, LeO (match_augment.l3 k y0 y1 y2 y3 y4 y5 y6 y7 y8 y9 y10 y11 y12 y13 y14 y15) (match_augment.l3 (k + 1) y0 y1 y2 y3 y4 y5 y6 y7 y8 y9 y10 y11 y12 y13 y14 y15))
  | 0 => ⟨fun _ _ _ _ _ _ _ _ _ r h => by simp [match_augment.l0] at h, fun _ _ _ _ _ _ r h => by simp [match_augment.j5] at h, fun _ _ _ _ _ _ _ _ r h => by simp [match_augment.l4] at h, fun _ _ _ _ _ r h => by simp [match_augment.l5] at h, fun _ _ _ _ _ _ _ _ _ r h => by simp [match_augment.l1] at h, fun _ _ _ _ _ _ _ _ _ _ _ _ r h => by simp [match_augment.l2] at h, fun _ _ _ _ _ _ _ _ _ _ _ _ _ _ _ r h => by simp [match_augment.j3] at h, fun _ _ _ _ _ _ _ _ _ _ _ _ _ _ _ _ r h => by simp [match_augment.l3] at h⟩
  | k + 1 => by
    obtain ⟨ih0, ih1, ih2, ih3, ih4, ih5, ih6, ih7⟩ := match_augment.mono_l k
    refine ⟨?_, ?_, ?_, ?_, ?_, ?_, ?_, ?_⟩
    · intro y0 y1 y2 y3 y4 y5 y6 y7 y8
      unfold match_augment.l0
      repeat' first
      | (with_reducible exact ih0 _ _ _ _ _ _ _ _ _)
      | (with_reducible exact ih1 _ _ _ _ _ _)
      | (with_reducible exact ih2 _ _ _ _ _ _ _ _)
      | (with_reducible exact ih3 _ _ _ _ _)
      | (with_reducible exact ih4 _ _ _ _ _ _ _ _ _)
      | (with_reducible exact ih5 _ _ _ _ _ _ _ _ _ _ _ _)
      | (with_reducible exact ih6 _ _ _ _ _ _ _ _ _ _ _ _ _ _ _)
      | (with_reducible exact ih7 _ _ _ _ _ _ _ _ _ _ _ _ _ _ _ _)
      | (with_reducible exact LeO.refl _)
      | (with_reducible exact LeO.none _)
      | (with_reducible refine LeO.ite ?_ ?_)
      | (with_reducible refine LeO.bind ?_ (fun _ => ?_))
      | exact ih0 _ _ _ _ _ _ _ _ _
      | exact ih1 _ _ _ _ _ _
      | exact ih2 _ _ _ _ _ _ _ _
      | exact ih3 _ _ _ _ _
      | exact ih4 _ _ _ _ _ _ _ _ _
      | exact ih5 _ _ _ _ _ _ _ _ _ _ _ _
      | exact ih6 _ _ _ _ _ _ _ _ _ _ _ _ _ _ _
      | exact ih7 _ _ _ _ _ _ _ _ _ _ _ _ _ _ _ _
      | exact LeO.none _
      | refine LeO.ite ?_ ?_
      | refine LeO.bind ?_ (fun _ => ?_)
    · intro y0 y1 y2 y3 y4 y5
      unfold match_augment.j5
      repeat' first
      | (with_reducible exact ih0 _ _ _ _ _ _ _ _ _)
      | (with_reducible exact ih1 _ _ _ _ _ _)
      | (with_reducible exact ih2 _ _ _ _ _ _ _ _)
      | (with_reducible exact ih3 _ _ _ _ _)
      | (with_reducible exact ih4 _ _ _ _ _ _ _ _ _)
      | (with_reducible exact ih5 _ _ _ _ _ _ _ _ _ _ _ _)
      | (with_reducible exact ih6 _ _ _ _ _ _ _ _ _ _ _ _ _ _ _)
      | (with_reducible exact ih7 _ _ _ _ _ _ _ _ _ _ _ _ _ _ _ _)
      | (with_reducible exact LeO.refl _)
      | (with_reducible exact LeO.none _)
      | (with_reducible refine LeO.ite ?_ ?_)
      | (with_reducible refine LeO.bind ?_ (fun _ => ?_))
      | exact ih0 _ _ _ _ _ _ _ _ _
      | exact ih1 _ _ _ _ _ _
      | exact ih2 _ _ _ _ _ _ _ _
      | exact ih3 _ _ _ _ _
      | exact ih4 _ _ _ _ _ _ _ _ _
      | exact ih5 _ _ _ _ _ _ _ _ _ _ _ _
      | exact ih6 _ _ _ _ _ _ _ _ _ _ _ _ _ _ _
      | exact ih7 _ _ _ _ _ _ _ _ _ _ _ _ _ _ _ _
      | exact LeO.none _
      | refine LeO.ite ?_ ?_
      | refine LeO.bind ?_ (fun _ => ?_)
    · intro y0 y1 y2 y3 y4 y5 y6 y7
      unfold match_augment.l4
      repeat' first
      | (with_reducible exact ih0 _ _ _ _ _ _ _ _ _)
      | (with_reducible exact ih1 _ _ _ _ _ _)
      | (with_reducible exact ih2 _ _ _ _ _ _ _ _)
      | (with_reducible exact ih3 _ _ _ _ _)
      | (with_reducible exact ih4 _ _ _ _ _ _ _ _ _)
      | (with_reducible exact ih5 _ _ _ _ _ _ _ _ _ _ _ _)
      | (with_reducible exact ih6 _ _ _ _ _ _ _ _ _ _ _ _ _ _ _)
      | (with_reducible exact ih7 _ _ _ _ _ _ _ _ _ _ _ _ _ _ _ _)
      | (with_reducible exact LeO.refl _)
      | (with_reducible exact LeO.none _)
      | (with_reducible refine LeO.ite ?_ ?_)
      | (with_reducible refine LeO.bind ?_ (fun _ => ?_))
      | exact ih0 _ _ _ _ _ _ _ _ _
      | exact ih1 _ _ _ _ _ _
      | exact ih2 _ _ _ _ _ _ _ _
      | exact ih3 _ _ _ _ _
      | exact ih4 _ _ _ _ _ _ _ _ _
      | exact ih5 _ _ _ _ _ _ _ _ _ _ _ _
      | exact ih6 _ _ _ _ _ _ _ _ _ _ _ _ _ _ _
      | exact ih7 _ _ _ _ _ _ _ _ _ _ _ _ _ _ _ _
      | exact LeO.none _
      | refine LeO.ite ?_ ?_
      | refine LeO.bind ?_ (fun _ => ?_)
    · intro y0 y1 y2 y3 y4
      unfold match_augment.l5
      repeat' first
      | (with_reducible exact ih0 _ _ _ _ _ _ _ _ _)
      | (with_reducible exact ih1 _ _ _ _ _ _)
      | (with_reducible exact ih2 _ _ _ _ _ _ _ _)
      | (with_reducible exact ih3 _ _ _ _ _)
      | (with_reducible exact ih4 _ _ _ _ _ _ _ _ _)
      | (with_reducible exact ih5 _ _ _ _ _ _ _ _ _ _ _ _)
      | (with_reducible exact ih6 _ _ _ _ _ _ _ _ _ _ _ _ _ _ _)
      | (with_reducible exact ih7 _ _ _ _ _ _ _ _ _ _ _ _ _ _ _ _)
      | (with_reducible exact LeO.refl _)
      | (with_reducible exact LeO.none _)
      | (with_reducible refine LeO.ite ?_ ?_)
      | (with_reducible refine LeO.bind ?_ (fun _ => ?_))
      | exact ih0 _ _ _ _ _ _ _ _ _
      | exact ih1 _ _ _ _ _ _
      | exact ih2 _ _ _ _ _ _ _ _
      | exact ih3 _ _ _ _ _
      | exact ih4 _ _ _ _ _ _ _ _ _
      | exact ih5 _ _ _ _ _ _ _ _ _ _ _ _
      | exact ih6 _ _ _ _ _ _ _ _ _ _ _ _ _ _ _
      | exact ih7 _ _ _ _ _ _ _ _ _ _ _ _ _ _ _ _
      | exact LeO.none _
      | refine LeO.ite ?_ ?_
      | refine LeO.bind ?_ (fun _ => ?_)
    · intro y0 y1 y2 y3 y4 y5 y6 y7 y8
      unfold match_augment.l1
      repeat' first
      | (with_reducible exact ih0 _ _ _ _ _ _ _ _ _)
      | (with_reducible exact ih1 _ _ _ _ _ _)
      | (with_reducible exact ih2 _ _ _ _ _ _ _ _)
      | (with_reducible exact ih3 _ _ _ _ _)
      | (with_reducible exact ih4 _ _ _ _ _ _ _ _ _)
      | (with_reducible exact ih5 _ _ _ _ _ _ _ _ _ _ _ _)
      | (with_reducible exact ih6 _ _ _ _ _ _ _ _ _ _ _ _ _ _ _)
      | (with_reducible exact ih7 _ _ _ _ _ _ _ _ _ _ _ _ _ _ _ _)
      | (with_reducible exact LeO.refl _)
      | (with_reducible exact LeO.none _)
      | (with_reducible refine LeO.ite ?_ ?_)
      | (with_reducible refine LeO.bind ?_ (fun _ => ?_))
      | exact ih0 _ _ _ _ _ _ _ _ _
      | exact ih1 _ _ _ _ _ _
      | exact ih2 _ _ _ _ _ _ _ _
      | exact ih3 _ _ _ _ _
      | exact ih4 _ _ _ _ _ _ _ _ _
      | exact ih5 _ _ _ _ _ _ _ _ _ _ _ _
      | exact ih6 _ _ _ _ _ _ _ _ _ _ _ _ _ _ _
      | exact ih7 _ _ _ _ _ _ _ _ _ _ _ _ _ _ _ _
      | exact LeO.none _
      | refine LeO.ite ?_ ?_
      | refine LeO.bind ?_ (fun _ => ?_)
    · intro y0 y1 y2 y3 y4 y5 y6 y7 y8 y9 y10 y11
      unfold match_augment.l2
      repeat' first
      | (with_reducible exact ih0 _ _ _ _ _ _ _ _ _)
      | (with_reducible exact ih1 _ _ _ _ _ _)
      | (with_reducible exact ih2 _ _ _ _ _ _ _ _)
      | (with_reducible exact ih3 _ _ _ _ _)
      | (with_reducible exact ih4 _ _ _ _ _ _ _ _ _)
      | (with_reducible exact ih5 _ _ _ _ _ _ _ _ _ _ _ _)
      | (with_reducible exact ih6 _ _ _ _ _ _ _ _ _ _ _ _ _ _ _)
      | (with_reducible exact ih7 _ _ _ _ _ _ _ _ _ _ _ _ _ _ _ _)
      | (with_reducible exact LeO.refl _)
      | (with_reducible exact LeO.none _)
      | (with_reducible refine LeO.ite ?_ ?_)
      | (with_reducible refine LeO.bind ?_ (fun _ => ?_))
      | exact ih0 _ _ _ _ _ _ _ _ _
      | exact ih1 _ _ _ _ _ _
      | exact ih2 _ _ _ _ _ _ _ _
      | exact ih3 _ _ _ _ _
      | exact ih4 _ _ _ _ _ _ _ _ _
      | exact ih5 _ _ _ _ _ _ _ _ _ _ _ _
      | exact ih6 _ _ _ _ _ _ _ _ _ _ _ _ _ _ _
      | exact ih7 _ _ _ _ _ _ _ _ _ _ _ _ _ _ _ _
      | exact LeO.none _
      | refine LeO.ite ?_ ?_
      | refine LeO.bind ?_ (fun _ => ?_)
    · intro y0 y1 y2 y3 y4 y5 y6 y7 y8 y9 y10 y11 y12 y13 y14
      unfold match_augment.j3
      repeat' first
      | (with_reducible exact ih0 _ _ _ _ _ _ _ _ _)
      | (with_reducible exact ih1 _ _ _ _ _ _)
      | (with_reducible exact ih2 _ _ _ _ _ _ _ _)
      | (with_reducible exact ih3 _ _ _ _ _)
      | (with_reducible exact ih4 _ _ _ _ _ _ _ _ _)
      | (with_reducible exact ih5 _ _ _ _ _ _ _ _ _ _ _ _)
      | (with_reducible exact ih6 _ _ _ _ _ _ _ _ _ _ _ _ _ _ _)
      | (with_reducible exact ih7 _ _ _ _ _ _ _ _ _ _ _ _ _ _ _ _)
      | (with_reducible exact LeO.refl _)
      | (with_reducible exact LeO.none _)
      | (with_reducible refine LeO.ite ?_ ?_)
      | (with_reducible refine LeO.bind ?_ (fun _ => ?_))
      | exact ih0 _ _ _ _ _ _ _ _ _
      | exact ih1 _ _ _ _ _ _
      | exact ih2 _ _ _ _ _ _ _ _
      | exact ih3 _ _ _ _ _
      | exact ih4 _ _ _ _ _ _ _ _ _
      | exact ih5 _ _ _ _ _ _ _ _ _ _ _ _
      | exact ih6 _ _ _ _ _ _ _ _ _ _ _ _ _ _ _
      | exact ih7 _ _ _ _ _ _ _ _ _ _ _ _ _ _ _ _
      | exact LeO.none _
      | refine LeO.ite ?_ ?_
      | refine LeO.bind ?_ (fun _ => ?_)
    · intro y0 y1 y2 y3 y4 y5 y6 y7 y8 y9 y10 y11 y12 y13 y14 y15
      unfold match_augment.l3
      repeat' first
      | (with_reducible exact ih0 _ _ _ _ _ _ _ _ _)
      | (with_reducible exact ih1 _ _ _ _ _ _)
      | (with_reducible exact ih2 _ _ _ _ _ _ _ _)
      | (with_reducible exact ih3 _ _ _ _ _)
      | (with_reducible exact ih4 _ _ _ _ _ _ _ _ _)
      | (with_reducible exact ih5 _ _ _ _ _ _ _ _ _ _ _ _)
      | (with_reducible exact ih6 _ _ _ _ _ _ _ _ _ _ _ _ _ _ _)
      | (with_reducible exact ih7 _ _ _ _ _ _ _ _ _ _ _ _ _ _ _ _)
      | (with_reducible exact LeO.refl _)
      | (with_reducible exact LeO.none _)
      | (with_reducible refine LeO.ite ?_ ?_)
      | (with_reducible refine LeO.bind ?_ (fun _ => ?_))
      | exact ih0 _ _ _ _ _ _ _ _ _
      | exact ih1 _ _ _ _ _ _
      | exact ih2 _ _ _ _ _ _ _ _
      | exact ih3 _ _ _ _ _
      | exact ih4 _ _ _ _ _ _ _ _ _
      | exact ih5 _ _ _ _ _ _ _ _ _ _ _ _
      | exact ih6 _ _ _ _ _ _ _ _ _ _ _ _ _ _ _
      | exact ih7 _ _ _ _ _ _ _ _ _ _ _ _ _ _ _ _
      | exact LeO.none _
      | refine LeO.ite ?_ ?_
      | refine LeO.bind ?_ (fun _ => ?_)
theorem match_augment.mono : ∀ a0 a1 a2 a3 k, LeO (match_augment.f k a0 a1 a2 a3) (match_augment.f (k + 1) a0 a1 a2 a3) := by
 intro a0 a1 a2 a3 k
 obtain ⟨ih0, ih1, ih2, ih3, ih4, ih5, ih6, ih7⟩ := match_augment.mono_l k
 unfold match_augment.f
 repeat' first
     | (with_reducible exact ih0 _ _ _ _ _ _ _ _ _)
     | (with_reducible exact ih1 _ _ _ _ _ _)
     | (with_reducible exact ih2 _ _ _ _ _ _ _ _)
     | (with_reducible exact ih3 _ _ _ _ _)
     | (with_reducible exact ih4 _ _ _ _ _ _ _ _ _)
     | (with_reducible exact ih5 _ _ _ _ _ _ _ _ _ _ _ _)
     | (with_reducible exact ih6 _ _ _ _ _ _ _ _ _ _ _ _ _ _ _)
     | (with_reducible exact ih7 _ _ _ _ _ _ _ _ _ _ _ _ _ _ _ _)
     | (with_reducible exact LeO.refl _)
     | (with_reducible exact LeO.none _)
     | (with_reducible refine LeO.ite ?_ ?_)
     | (with_reducible refine LeO.bind ?_ (fun _ => ?_))
     | exact ih0 _ _ _ _ _ _ _ _ _
     | exact ih1 _ _ _ _ _ _
     | exact ih2 _ _ _ _ _ _ _ _
     | exact ih3 _ _ _ _ _
     | exact ih4 _ _ _ _ _ _ _ _ _
     | exact ih5 _ _ _ _ _ _ _ _ _ _ _ _
     | exact ih6 _ _ _ _ _ _ _ _ _ _ _ _ _ _ _
     | exact ih7 _ _ _ _ _ _ _ _ _ _ _ _ _ _ _ _
     | exact LeO.none _
     | refine LeO.ite ?_ ?_
     | refine LeO.bind ?_ (fun _ => ?_)
def match_augment.T19 : Bool × List (List Nat × List Nat) := (true, [([], []), ([], []), ([0, 1], [0, 1]), ([2], [2]), ([], []), ([3, 4], [3, 4]), ([5], [5]), ([6], [6]), ([7], [7]), ([8], [8]), ([8], [8]), ([9, 10, 8], [8, 9, 10]), ([8, 11], [8, 11]), ([12, 8], [12]), ([13], [13]), ([13], [13]), ([14, 15, 13], [13, 14, 15]), ([16, 13], [13, 16]), ([13], [13]), ([13], [13]), ([18, 19, 13], [13, 18, 19]), ([20, 13], [13, 20]), ([13], [13]), ([21, 22, 13], [13, 21, 22]), ([23, 13], [13, 23]), ([17, 24, 13], [13, 17, 24]), ([13], [13]), ([13], [13]), ([26, 27, 13], [13, 26, 27]), ([28, 13], [13, 28]), ([13], [13]), ([29, 30, 13], [13, 29, 30]), ([31, 13], [13, 31]), ([25, 32, 13], [13, 25, 32]), ([13], [13]), ([13], [13]), ([34, 35, 13], [13, 34, 35]), ([36, 13], [13, 36]), ([33, 37, 13], [13, 33, 37]), ([13, 38], [13, 38])])
def match_augment.B19 : List Nat := [0, 0, 3, 7, 0, 31, 63, 127, 255, 511, 511, 2047, 4095, 8191, 16383, 16383, 65535, 131071, 16383, 16383, 802815, 1851391, 16383, 8142847, 16531455, 33554431, 16383, 16383, 201342975, 469778431, 16383, 2080391167, 4227874815, 8589934591, 16383, 16383, 51539623935, 120259100671, 274877906943, 549755813887]
theorem match_augment.tab19 : rtab .any (opsOf Try.f26 19) = match_augment.T19 := by kernel_rfl
theorem match_augment.bits19 : waitsOk match_augment.T19.2 match_augment.B19 = true := by kernel_rfl
def match_augment.T20 : Bool × List (List Nat × List Nat) := (true, [([], []), ([], []), ([], []), ([], []), ([], []), ([], []), ([4, 5], [4, 5]), ([6], [6]), ([], []), ([], []), ([8, 9], [8, 9]), ([10], [10]), ([], []), ([11, 12], [11, 12]), ([13], [13]), ([7, 14], [7, 14]), ([], []), ([], []), ([16, 17], [16, 17]), ([18], [18]), ([], []), ([19, 20], [19, 20]), ([21], [21]), ([15, 22], [15, 22]), ([], []), ([0, 1, 0, 1, 4, 5, 6, 7, 8, 9, 10, 11, 12, 13, 14, 15, 16, 17, 18, 19, 20, 21, 22, 23], [0, 1]), ([25, 23, 0, 1, 4, 5, 6, 7, 8, 9, 10, 11, 12, 13, 14, 15, 16, 17, 18, 19, 20, 21, 22, 23], [23, 25]), ([2, 3, 0, 1, 2, 3, 4, 5, 6, 7, 8, 9, 10, 11, 12, 13, 14, 15, 16, 17, 18, 19, 20, 21, 22, 23, 24, 25, 26], [2, 3]), ([27, 24, 26, 0, 1, 2, 3, 4, 5, 6, 7, 8, 9, 10, 11, 12, 13, 14, 15, 16, 17, 18, 19, 20, 21, 22, 23, 24, 25, 26], [24, 27]), ([28, 0, 1, 2, 3, 4, 5, 6, 7, 8, 9, 10, 11, 12, 13, 14, 15, 16, 17, 18, 19, 20, 21, 22, 23, 24, 25, 26, 27, 28], [])])
def match_augment.B20 : List Nat := [0, 0, 0, 0, 0, 0, 48, 112, 0, 0, 768, 1792, 0, 7936, 16128, 32752, 0, 0, 196608, 458752, 0, 2031616, 4128768, 8388592, 0, 16777203, 50331635, 134217727, 268435455, 536870911]
theorem match_augment.tab20 : rtab .any (opsOf Try.f26 20) = match_augment.T20 := by kernel_rfl
theorem match_augment.bits20 : waitsOk match_augment.T20.2 match_augment.B20 = true := by kernel_rfl
def match_augment.T29 : Bool × List (List Nat × List Nat) := (true, [([], []), ([], []), ([0, 1], [0, 1]), ([2], [2]), ([3], [3]), ([4], [4]), ([5], [5]), ([5], [5]), ([6, 7, 5], [5, 6, 7]), ([8, 5], [5, 8]), ([9, 5], [5, 9]), ([5, 10], [5, 10]), ([11, 5], [11]), ([12], [12]), ([13, 12], [12, 13]), ([14, 12, 12], [12, 14]), ([15], [15]), ([15], [15]), ([16, 17, 15], [15, 16, 17]), ([18, 15], [15, 18]), ([15], [15]), ([15], [15]), ([20, 21, 15], [15, 20, 21]), ([22, 15], [15, 22]), ([19, 23, 15], [15, 19, 23]), ([15, 24, 12], [12, 15, 24]), ([12, 25], [12, 25])])
def match_augment.B29 : List Nat := [0, 0, 3, 7, 15, 31, 63, 63, 255, 511, 1023, 2047, 4095, 8191, 16383, 32767, 65535, 65535, 262143, 524287, 65535, 65535, 3211263, 7405567, 16777215, 33554431, 67108863]
theorem match_augment.tab29 : rtab .any (opsOf Try.f26 29) = match_augment.T29 := by kernel_rfl
theorem match_augment.bits29 : waitsOk match_augment.T29.2 match_augment.B29 = true := by kernel_rfl
set_option maxHeartbeats 8000000 in
set_option maxRecDepth 100000 in
theorem match_augment.calls (k : Nat) (a0 : Int) (A1 : Option Addr) (c1 : Nat) (l1 : List (List Int)) (P2_ : Nat → Prop) (u9000_ : Value) (l2 : List Int) (P3_ : Nat → Prop) (u9001_ : Value) (l3 : List Int) (r1 : Bool) (r2 : List Int) (r3 : List Int) (w0 w : World) (hB : Below w0.heap.size w0 w) (hr1 : ∀ W_, Kept w W_ (fun k_ => P2_ k_ ∨ P3_ k_) → Kd.C (Kd.slice 3 (Kd.int .i64)) W_ A1 l1.length l1) (hc1 : l1.length ≤ c1) (ho2 : Kd.R (Kd.int .i64) 3 w w0.heap.size P2_ u9000_ l2) (hp2_3 : ∀ k_, P2_ k_ → ¬ P3_ k_) (ho3 : Kd.R (Kd.int .i64) 3 w w0.heap.size P3_ u9001_ l3) (hp3_2 : ∀ k_, P3_ k_ → ¬ P2_ k_) (h : match_augment.f k a0 l1 l2 l3 = some (r1, r2, r3)) :
    Calls Try.prog 26 #[.int .i64 a0, .slice A1 l1.length c1, u9000_, u9001_] w fun e w' => e = .returned (.bool r1) ∧ Kd.R (Kd.int .i64) 3 w' w0.heap.size (fun k_ => ((P2_ k_ ∨ P3_ k_) ∨ w.heap.size ≤ k_)) u9000_ r2 ∧ Kd.R (Kd.int .i64) 3 w' w0.heap.size (fun k_ => ((P2_ k_ ∨ P3_ k_) ∨ w.heap.size ≤ k_)) u9001_ r3 ∧ Below w0.heap.size w0 w' ∧ Kept w w' (fun k_ => P2_ k_ ∨ P3_ k_) := by
 have HR1 := Aside0.mk hr1
 have HC1 := Aside0.mk hc1
 clear hr1 hc1
 have HO2 := Aside0.mk (show Kd.R (Kd.int .i64) 3 w w0.heap.size (fun k_ => ((P2_ k_ ∨ P3_ k_) ∨ w.heap.size ≤ k_) ∧ some k_ ≠ (u9001_ : Value).ownBlock) u9000_ l2 from Kd.R_mono ho2 (fun k_ hk => ⟨(.inl (.inl hk)), fun e_ => hp2_3 k_ hk (ho3.1 k_ e_.symm)⟩))
 have HO3 := Aside0.mk (show Kd.R (Kd.int .i64) 3 w w0.heap.size (fun k_ => ((P2_ k_ ∨ P3_ k_) ∨ w.heap.size ≤ k_) ∧ some k_ ≠ (u9000_ : Value).ownBlock) u9001_ l3 from Kd.R_mono ho3 (fun k_ hk => ⟨(.inl (.inr hk)), fun e_ => hp3_2 k_ hk (ho2.1 k_ e_.symm)⟩))
 have HK := Aside0.mk (Kept.refl w (fun k_ => P2_ k_ ∨ P3_ k_))
 have HW0 := Aside0.mk hB.size
 have HB := Aside0.mk hB
 clear hB
 have H : (if 0 ≤ (l1.length : Int) then (if ((l1.length : Int) : Int).toNat ≤ 35184372088832 then ((some (List.replicate ((l1.length : Int) : Int).toNat 0 : List Int)).bind fun y486 => (match_augment.l0 k a0 l1 l2 l3 (l1.length : Int) y486 (List.replicate ((l1.length : Int) : Int).toNat 0) (y486.length : Int) 0)) else (none)) else (none)) = some (r1, r2, r3) := h
 clear h
 by_cases c5 : 0 ≤ (l1.length : Int)
 case neg => rw [if_neg c5] at H; exact absurd H (by simp)
 rw [if_pos c5] at H
 have c5b0 := eq_true c5
 have c5b1 : decide (0 ≤ (l1.length : Int)) = true := decide_eq_true c5
 clear c5
 by_cases c6 : ((l1.length : Int) : Int).toNat ≤ 35184372088832
 case neg => rw [if_neg c6] at H; exact absurd H (by simp)
 rw [if_pos c6] at H
 have c6b0 := eq_true c6
 have c6b1 : decide (((l1.length : Int) : Int).toNat ≤ 35184372088832) = true := decide_eq_true c6
 clear c6
 obtain ⟨y486, hy486⟩ : ∃ y_ : List Int, y_ = (List.replicate ((l1.length : Int) : Int).toNat 0) := ⟨_, rfl⟩
 replace H : (match_augment.l0 k a0 l1 l2 l3 (l1.length : Int) y486 (List.replicate ((l1.length : Int) : Int).toNat 0) (y486.length : Int) 0) = some (r1, r2, r3) := by first | (rw [hy486]; with_reducible exact H) | (have H2_ := (Option.bind_some _ _).symm.trans H; rw [hy486]; with_reducible exact H2_) | (have H2_ := (Option.bind_some _ _).symm.trans H; with_reducible exact H2_) | with_reducible exact H | (rw [hy486]; exact H) | exact H
 have Ny486 := Aside0.mk hy486
 clear hy486
 obtain ⟨y489, hy489⟩ : ∃ y_ : List Int, y_ = (List.replicate ((l1.length : Int) : Int).toNat 0) := ⟨_, rfl⟩
 replace H : (match_augment.l0 k a0 l1 l2 l3 (l1.length : Int) y486 y489 (y486.length : Int) 0) = some (r1, r2, r3) := by first | (rw [hy489]; with_reducible exact H) | (have H2_ := (Option.bind_some _ _).symm.trans H; rw [hy489]; with_reducible exact H2_) | (have H2_ := (Option.bind_some _ _).symm.trans H; with_reducible exact H2_) | with_reducible exact H | (rw [hy489]; exact H) | exact H
 have Ny489 := Aside0.mk hy489
 clear hy489
 have H' := Aside0.mk H
 clear H
 go_enter Try.func26, Try.ntmps26
 try go_wp2
 have n0_ := Aside0.mk (Kd.R_drew HO2.out)
 have n1_ := Aside0.mk (Kd.R_drew HO3.out)
 have n2_ := Aside0.mk (Kept.drew HK.out)
 have n3_ := Aside0.mk (below_drew1 HB.out)
 clear HO2
 clear HO3
 clear HK
 clear HB
 have HO2 := n0_
 have HO3 := n1_
 have HK := n2_
 have HB := n3_
 clear n0_ n1_ n2_ n3_
 refine start_ (n := 6) (S := fun w' => True) (ds := []) (msk 6 0) (by kernel_rfl) rfl rfl trivial (fun hHeld => ?_)
 generalize w.drew = w7 at HO2 HO3 HK HB hHeld ⊢
 refine pure_ (i := 0) (N := some 24) (v := ?_) (a' := ?_) (msk 6 1) rfl rfl (by kernel_rfl) (fun _ _ _ h => h) (Or.inl ⟨by rfl, ?_⟩) ?_ ?_
 rotate_left
 · intro w'; go_simp; with_reducible rfl
 rotate_left
 · simp only [Act.put, sq, i64_w, i32_w]; rfl
 refine pure_ (i := 2) (N := some 26) (v := ?_) (a' := ?_) (msk 6 5) rfl rfl (by kernel_rfl) (fun _ _ _ h => h) (Or.inl ⟨by rfl, ?_⟩) ?_ ?_
 rotate_left
 · intro w'; go_simp; with_reducible rfl
 rotate_left
 · simp only [Act.put, sq, i64_w, i32_w]; rfl
 refine join_ (σ := Value × Value) 1 (msk 6 31) (fun s_ => [(25, s_.1), (27, s_.2), (10, s_.1)]) (fun s_ w' => (Kd.R (Kd.int .i64) 3 w' w0.heap.size (fun k_ => ((P2_ k_ ∨ P3_ k_) ∨ w.heap.size ≤ k_) ∧ some k_ ≠ (u9001_ : Value).ownBlock ∧ some k_ ≠ (s_.1 : Value).ownBlock ∧ some k_ ≠ (s_.2 : Value).ownBlock) u9000_ l2) ∧ (Kd.R (Kd.int .i64) 3 w' w0.heap.size (fun k_ => ((P2_ k_ ∨ P3_ k_) ∨ w.heap.size ≤ k_) ∧ some k_ ≠ (u9000_ : Value).ownBlock ∧ some k_ ≠ (s_.1 : Value).ownBlock ∧ some k_ ≠ (s_.2 : Value).ownBlock) u9001_ l3) ∧ (Kd.R (Kd.int .i64) 3 w' w0.heap.size (fun k_ => ((P2_ k_ ∨ P3_ k_) ∨ w.heap.size ≤ k_) ∧ some k_ ≠ (u9000_ : Value).ownBlock ∧ some k_ ≠ (u9001_ : Value).ownBlock ∧ some k_ ≠ (s_.2 : Value).ownBlock) s_.1 y486) ∧ (Kd.R (Kd.int .i64) 3 w' w0.heap.size (fun k_ => ((P2_ k_ ∨ P3_ k_) ∨ w.heap.size ≤ k_) ∧ some k_ ≠ (u9000_ : Value).ownBlock ∧ some k_ ≠ (u9001_ : Value).ownBlock ∧ some k_ ≠ (s_.1 : Value).ownBlock) s_.2 y489) ∧ (Kept w w' (fun k_ => P2_ k_ ∨ P3_ k_)) ∧ (Below w0.heap.size w0 w')) ?_ ?_
 rotate_left
 · intro hCont
   refine two_ (i := 1) (j := 3) (Ni := some 25) (Nj := some 27) (msk 6 7) (msk 6 13) rfl rfl rfl rfl (by kernel_rfl) (by decide) (by decide) (fun K hK => ?_) (fun K hK => ?_)
   · skip
     refine Kd.R_make_step (Kd.int .i64) _ 3 (by rfl) (N := 25) rfl 23 _ _ rfl (l1.length : Int) rfl rfl Try.underlying23 (.int .i64 0) 8 info3 rfl (by decide) (by omega) 0 (ok := fun _ => True) (okp := fun _ => True) rfl (fun _ hk => hk) trivial (of_decide_eq_true (by first | (with_reducible assumption) | assumption)) (Nat.le_trans (Nat.mul_le_mul_right _ (of_decide_eq_true (by first | (with_reducible assumption) | assumption) : (l1.length : Int).toNat ≤ 35184372088832)) (by omega)) (Below.refl _ _) (Nat.le_refl _) ?_
     intro v487 w8 ho9 hb hg_ hnew_
     clear hg_ hnew_
     (first | rw [← Ny486.out] at ho9 | (simp only [Int.reduceToNat] at ho9; rw [← Ny486.out] at ho9))
     have n0_ := Aside0.mk (Kd.R_elder' (by (with_reducible repeat (first | apply Kd.R_alloc | apply Kd.R_drewN | apply Kd.R_drew)); exact HO2.out) (Kd.R_base ho9) hb)
     have n1_ := Aside0.mk (Kd.R_elder' (by (with_reducible repeat (first | apply Kd.R_alloc | apply Kd.R_drewN | apply Kd.R_drew)); exact HO3.out) (Kd.R_base ho9) hb)
     have n2_ := Aside0.mk (Kd.R_lower (Kd.R_new' (Kd.R_new' (Kd.R_newM (M := fun k_ => ((P2_ k_ ∨ P3_ k_) ∨ w.heap.size ≤ k_)) ho9 (by first | exact HK.out.1 | exact (show Kept w _ (fun k_ => P2_ k_ ∨ P3_ k_) from by repeat (first | (with_reducible first | exact HK.out | apply Kept.alloc | apply Kept.drewN | apply Kept.drew) | exact HK.out)).1) (fun k_ h_ => .inr h_)) (Kd.R_lt (by (with_reducible repeat (first | apply Kd.R_alloc | apply Kd.R_drewN | apply Kd.R_drew)); exact HO2.out))) (Kd.R_lt (by (with_reducible repeat (first | apply Kd.R_alloc | apply Kd.R_drewN | apply Kd.R_drew)); exact HO3.out))) (below_size (by repeat (first | (with_reducible first | exact HB.out | apply below_alloc | apply pw_below_drewN | apply below_drew1) | exact HB.out))))
     have n3_ := Aside0.mk (Kept.below (S := (fun k_ => P2_ k_ ∨ P3_ k_)) (by repeat (first | (with_reducible first | exact HK.out | apply Kept.alloc | apply Kept.drewN | apply Kept.drew) | exact HK.out)) hb)
     have n4_ := Aside0.mk (below_step (by repeat (first | (with_reducible first | exact HB.out | apply below_alloc | apply pw_below_drewN | apply below_drew1) | exact HB.out)) hb)
     clear HO2
     clear HO3
     clear HK
     clear HB
     have HO2 := n0_
     have HO3 := n1_
     have HO488 := n2_
     have HK := n3_
     have HB := n4_
     clear n0_ n1_ n2_ n3_ n4_
     clear hb ho9
     refine hK.out _ _ trivial (fun hHeld => ?_)
     clear hK K
     refine norm_ (a' := ?_) ?_ ?_
     rotate_left
     · show Act.put _ (some 25) _ = _
       simp only [Act.put, sq, i64_w, i32_w]
       rfl
     refine pure_ (i := 4) (N := some 10) (v := ?_) (a' := ?_) (msk 6 23) rfl rfl (by kernel_rfl) (fun _ _ _ h => h) (Or.inl ⟨by rfl, ?_⟩) ?_ ?_
     rotate_left
     · intro w'; go_simp; with_reducible rfl
     rotate_left
     · simp only [Act.put, sq, i64_w, i32_w]; rfl
     refine one_ (i := 3) (N := some 27) (msk 6 31) rfl rfl (by kernel_rfl) (by decide) (fun K hK => ?_)
     refine Kd.R_make_step (Kd.int .i64) _ 3 (by rfl) (N := 27) rfl 23 _ _ rfl (l1.length : Int) rfl rfl Try.underlying23 (.int .i64 0) 8 info3 rfl (by decide) (by omega) 0 (ok := fun _ => True) (okp := fun _ => True) rfl (fun _ hk => hk) trivial (of_decide_eq_true (by first | (with_reducible assumption) | assumption)) (Nat.le_trans (Nat.mul_le_mul_right _ (of_decide_eq_true (by first | (with_reducible assumption) | assumption) : (l1.length : Int).toNat ≤ 35184372088832)) (by omega)) (Below.refl _ _) (Nat.le_refl _) ?_
     intro v490 w10 ho11 hb hg_ hnew_
     clear hg_ hnew_
     (first | rw [← Ny489.out] at ho11 | (simp only [Int.reduceToNat] at ho11; rw [← Ny489.out] at ho11))
     have n0_ := Aside0.mk (Kd.R_elder' (by (with_reducible repeat (first | apply Kd.R_alloc | apply Kd.R_drewN | apply Kd.R_drew)); exact HO2.out) (Kd.R_base ho11) hb)
     have n1_ := Aside0.mk (Kd.R_elder' (by (with_reducible repeat (first | apply Kd.R_alloc | apply Kd.R_drewN | apply Kd.R_drew)); exact HO3.out) (Kd.R_base ho11) hb)
     have n2_ := Aside0.mk (Kd.R_elder' (by (with_reducible repeat (first | apply Kd.R_alloc | apply Kd.R_drewN | apply Kd.R_drew)); exact HO488.out) (Kd.R_base ho11) hb)
     have n3_ := Aside0.mk (Kd.R_lower (Kd.R_new' (Kd.R_new' (Kd.R_new' (Kd.R_newM (M := fun k_ => ((P2_ k_ ∨ P3_ k_) ∨ w.heap.size ≤ k_)) ho11 (by first | exact HK.out.1 | exact (show Kept w _ (fun k_ => P2_ k_ ∨ P3_ k_) from by repeat (first | (with_reducible first | exact HK.out | apply Kept.alloc | apply Kept.drewN | apply Kept.drew) | exact HK.out)).1) (fun k_ h_ => .inr h_)) (Kd.R_lt (by (with_reducible repeat (first | apply Kd.R_alloc | apply Kd.R_drewN | apply Kd.R_drew)); exact HO2.out))) (Kd.R_lt (by (with_reducible repeat (first | apply Kd.R_alloc | apply Kd.R_drewN | apply Kd.R_drew)); exact HO3.out))) (Kd.R_lt (by (with_reducible repeat (first | apply Kd.R_alloc | apply Kd.R_drewN | apply Kd.R_drew)); exact HO488.out))) (below_size (by repeat (first | (with_reducible first | exact HB.out | apply below_alloc | apply pw_below_drewN | apply below_drew1) | exact HB.out))))
     have n4_ := Aside0.mk (Kept.below (S := (fun k_ => P2_ k_ ∨ P3_ k_)) (by repeat (first | (with_reducible first | exact HK.out | apply Kept.alloc | apply Kept.drewN | apply Kept.drew) | exact HK.out)) hb)
     have n5_ := Aside0.mk (below_step (by repeat (first | (with_reducible first | exact HB.out | apply below_alloc | apply pw_below_drewN | apply below_drew1) | exact HB.out)) hb)
     clear HO2
     clear HO3
     clear HO488
     clear HK
     clear HB
     have HO2 := n0_
     have HO3 := n1_
     have HO488 := n2_
     have HO491 := n3_
     have HK := n4_
     have HB := n5_
     clear n0_ n1_ n2_ n3_ n4_ n5_
     clear hb ho11
     refine hK.out _ _ trivial (fun hHeld => ?_)
     clear hK K
     refine norm_ (a' := ?_) ?_ ?_
     rotate_left
     · show Act.put _ (some 27) _ = _
       simp only [Act.put, sq, i64_w, i32_w]
       rfl
     exact norm_ (by simp only [putAll, Act.put, List.setIfInBounds_toArray, List.set_cons_zero, List.set_cons_succ]) (hCont (v487, v490) _ ⟨(by (with_reducible repeat (first | apply Kd.R_alloc | apply Kd.R_drewN | apply Kd.R_drew)); exact Kd.R_mono HO2.out (fun _ hk => ⟨hk.1.1.1, ⟨hk.1.1.2, ⟨hk.1.2, hk.2⟩⟩⟩)), (by (with_reducible repeat (first | apply Kd.R_alloc | apply Kd.R_drewN | apply Kd.R_drew)); exact Kd.R_mono HO3.out (fun _ hk => ⟨hk.1.1.1, ⟨hk.1.1.2, ⟨hk.1.2, hk.2⟩⟩⟩)), (by (with_reducible repeat (first | apply Kd.R_alloc | apply Kd.R_drewN | apply Kd.R_drew)); exact Kd.R_mono HO488.out (fun _ hk => ⟨hk.1.1.1.1, ⟨hk.1.1.2, ⟨hk.1.2, hk.2⟩⟩⟩)), (by (with_reducible repeat (first | apply Kd.R_alloc | apply Kd.R_drewN | apply Kd.R_drew)); exact Kd.R_mono HO491.out (fun _ hk => ⟨hk.1.1.1.1, ⟨hk.1.1.2, ⟨hk.1.2, hk.2⟩⟩⟩)), (by repeat (first | (with_reducible first | exact HK.out | apply Kept.alloc | apply Kept.drewN | apply Kept.drew) | exact HK.out)), (by repeat (first | (with_reducible first | exact HB.out | apply below_alloc | apply pw_below_drewN | apply below_drew1) | exact HB.out))⟩)
   · skip
     refine Kd.R_make_step (Kd.int .i64) _ 3 (by rfl) (N := 27) rfl 23 _ _ rfl (l1.length : Int) rfl rfl Try.underlying23 (.int .i64 0) 8 info3 rfl (by decide) (by omega) 0 (ok := fun _ => True) (okp := fun _ => True) rfl (fun _ hk => hk) trivial (of_decide_eq_true (by first | (with_reducible assumption) | assumption)) (Nat.le_trans (Nat.mul_le_mul_right _ (of_decide_eq_true (by first | (with_reducible assumption) | assumption) : (l1.length : Int).toNat ≤ 35184372088832)) (by omega)) (Below.refl _ _) (Nat.le_refl _) ?_
     intro v490 w8 ho9 hb hg_ hnew_
     clear hg_ hnew_
     (first | rw [← Ny489.out] at ho9 | (simp only [Int.reduceToNat] at ho9; rw [← Ny489.out] at ho9))
     have n0_ := Aside0.mk (Kd.R_elder' (by (with_reducible repeat (first | apply Kd.R_alloc | apply Kd.R_drewN | apply Kd.R_drew)); exact HO2.out) (Kd.R_base ho9) hb)
     have n1_ := Aside0.mk (Kd.R_elder' (by (with_reducible repeat (first | apply Kd.R_alloc | apply Kd.R_drewN | apply Kd.R_drew)); exact HO3.out) (Kd.R_base ho9) hb)
     have n2_ := Aside0.mk (Kd.R_lower (Kd.R_new' (Kd.R_new' (Kd.R_newM (M := fun k_ => ((P2_ k_ ∨ P3_ k_) ∨ w.heap.size ≤ k_)) ho9 (by first | exact HK.out.1 | exact (show Kept w _ (fun k_ => P2_ k_ ∨ P3_ k_) from by repeat (first | (with_reducible first | exact HK.out | apply Kept.alloc | apply Kept.drewN | apply Kept.drew) | exact HK.out)).1) (fun k_ h_ => .inr h_)) (Kd.R_lt (by (with_reducible repeat (first | apply Kd.R_alloc | apply Kd.R_drewN | apply Kd.R_drew)); exact HO2.out))) (Kd.R_lt (by (with_reducible repeat (first | apply Kd.R_alloc | apply Kd.R_drewN | apply Kd.R_drew)); exact HO3.out))) (below_size (by repeat (first | (with_reducible first | exact HB.out | apply below_alloc | apply pw_below_drewN | apply below_drew1) | exact HB.out))))
     have n3_ := Aside0.mk (Kept.below (S := (fun k_ => P2_ k_ ∨ P3_ k_)) (by repeat (first | (with_reducible first | exact HK.out | apply Kept.alloc | apply Kept.drewN | apply Kept.drew) | exact HK.out)) hb)
     have n4_ := Aside0.mk (below_step (by repeat (first | (with_reducible first | exact HB.out | apply below_alloc | apply pw_below_drewN | apply below_drew1) | exact HB.out)) hb)
     clear HO2
     clear HO3
     clear HK
     clear HB
     have HO2 := n0_
     have HO3 := n1_
     have HO491 := n2_
     have HK := n3_
     have HB := n4_
     clear n0_ n1_ n2_ n3_ n4_
     clear hb ho9
     refine hK.out _ _ trivial (fun hHeld => ?_)
     clear hK K
     refine norm_ (a' := ?_) ?_ ?_
     rotate_left
     · show Act.put _ (some 27) _ = _
       simp only [Act.put, sq, i64_w, i32_w]
       rfl
     refine one_ (i := 1) (N := some 25) (msk 6 15) rfl rfl (by kernel_rfl) (by decide) (fun K hK => ?_)
     refine Kd.R_make_step (Kd.int .i64) _ 3 (by rfl) (N := 25) rfl 23 _ _ rfl (l1.length : Int) rfl rfl Try.underlying23 (.int .i64 0) 8 info3 rfl (by decide) (by omega) 0 (ok := fun _ => True) (okp := fun _ => True) rfl (fun _ hk => hk) trivial (of_decide_eq_true (by first | (with_reducible assumption) | assumption)) (Nat.le_trans (Nat.mul_le_mul_right _ (of_decide_eq_true (by first | (with_reducible assumption) | assumption) : (l1.length : Int).toNat ≤ 35184372088832)) (by omega)) (Below.refl _ _) (Nat.le_refl _) ?_
     intro v487 w10 ho11 hb hg_ hnew_
     clear hg_ hnew_
     (first | rw [← Ny486.out] at ho11 | (simp only [Int.reduceToNat] at ho11; rw [← Ny486.out] at ho11))
     have n0_ := Aside0.mk (Kd.R_elder' (by (with_reducible repeat (first | apply Kd.R_alloc | apply Kd.R_drewN | apply Kd.R_drew)); exact HO2.out) (Kd.R_base ho11) hb)
     have n1_ := Aside0.mk (Kd.R_elder' (by (with_reducible repeat (first | apply Kd.R_alloc | apply Kd.R_drewN | apply Kd.R_drew)); exact HO3.out) (Kd.R_base ho11) hb)
     have n2_ := Aside0.mk (Kd.R_elder' (by (with_reducible repeat (first | apply Kd.R_alloc | apply Kd.R_drewN | apply Kd.R_drew)); exact HO491.out) (Kd.R_base ho11) hb)
     have n3_ := Aside0.mk (Kd.R_lower (Kd.R_new' (Kd.R_new' (Kd.R_new' (Kd.R_newM (M := fun k_ => ((P2_ k_ ∨ P3_ k_) ∨ w.heap.size ≤ k_)) ho11 (by first | exact HK.out.1 | exact (show Kept w _ (fun k_ => P2_ k_ ∨ P3_ k_) from by repeat (first | (with_reducible first | exact HK.out | apply Kept.alloc | apply Kept.drewN | apply Kept.drew) | exact HK.out)).1) (fun k_ h_ => .inr h_)) (Kd.R_lt (by (with_reducible repeat (first | apply Kd.R_alloc | apply Kd.R_drewN | apply Kd.R_drew)); exact HO2.out))) (Kd.R_lt (by (with_reducible repeat (first | apply Kd.R_alloc | apply Kd.R_drewN | apply Kd.R_drew)); exact HO3.out))) (Kd.R_lt (by (with_reducible repeat (first | apply Kd.R_alloc | apply Kd.R_drewN | apply Kd.R_drew)); exact HO491.out))) (below_size (by repeat (first | (with_reducible first | exact HB.out | apply below_alloc | apply pw_below_drewN | apply below_drew1) | exact HB.out))))
     have n4_ := Aside0.mk (Kept.below (S := (fun k_ => P2_ k_ ∨ P3_ k_)) (by repeat (first | (with_reducible first | exact HK.out | apply Kept.alloc | apply Kept.drewN | apply Kept.drew) | exact HK.out)) hb)
     have n5_ := Aside0.mk (below_step (by repeat (first | (with_reducible first | exact HB.out | apply below_alloc | apply pw_below_drewN | apply below_drew1) | exact HB.out)) hb)
     clear HO2
     clear HO3
     clear HO491
     clear HK
     clear HB
     have HO2 := n0_
     have HO3 := n1_
     have HO491 := n2_
     have HO488 := n3_
     have HK := n4_
     have HB := n5_
     clear n0_ n1_ n2_ n3_ n4_ n5_
     clear hb ho11
     refine hK.out _ _ trivial (fun hHeld => ?_)
     clear hK K
     refine norm_ (a' := ?_) ?_ ?_
     rotate_left
     · show Act.put _ (some 25) _ = _
       simp only [Act.put, sq, i64_w, i32_w]
       rfl
     refine pure_ (i := 4) (N := some 10) (v := ?_) (a' := ?_) (msk 6 31) rfl rfl (by kernel_rfl) (fun _ _ _ h => h) (Or.inl ⟨by rfl, ?_⟩) ?_ ?_
     rotate_left
     · intro w'; go_simp; with_reducible rfl
     rotate_left
     · simp only [Act.put, sq, i64_w, i32_w]; rfl
     exact norm_ (by simp only [putAll, Act.put, List.setIfInBounds_toArray, List.set_cons_zero, List.set_cons_succ]) (hCont (v487, v490) _ ⟨(by (with_reducible repeat (first | apply Kd.R_alloc | apply Kd.R_drewN | apply Kd.R_drew)); exact Kd.R_mono HO2.out (fun _ hk => ⟨hk.1.1.1, ⟨hk.1.1.2, ⟨hk.2, hk.1.2⟩⟩⟩)), (by (with_reducible repeat (first | apply Kd.R_alloc | apply Kd.R_drewN | apply Kd.R_drew)); exact Kd.R_mono HO3.out (fun _ hk => ⟨hk.1.1.1, ⟨hk.1.1.2, ⟨hk.2, hk.1.2⟩⟩⟩)), (by (with_reducible repeat (first | apply Kd.R_alloc | apply Kd.R_drewN | apply Kd.R_drew)); exact Kd.R_mono HO488.out (fun _ hk => ⟨hk.1.1.1.1, ⟨hk.1.1.2, ⟨hk.1.2, hk.2⟩⟩⟩)), (by (with_reducible repeat (first | apply Kd.R_alloc | apply Kd.R_drewN | apply Kd.R_drew)); exact Kd.R_mono HO491.out (fun _ hk => ⟨hk.1.1.1.1, ⟨hk.1.1.2, ⟨hk.1.2, hk.2⟩⟩⟩)), (by repeat (first | (with_reducible first | exact HK.out | apply Kept.alloc | apply Kept.drewN | apply Kept.drew) | exact HK.out)), (by repeat (first | (with_reducible first | exact HB.out | apply below_alloc | apply pw_below_drewN | apply below_drew1) | exact HB.out))⟩)
 rintro ⟨v487, v490⟩ w12 ⟨h0_, h1_, h2_, h3_, h4_, h5_⟩
 have n0_ : Aside0 (Kd.R (Kd.int .i64) 3 w12 w0.heap.size (fun k_ => ((P2_ k_ ∨ P3_ k_) ∨ w.heap.size ≤ k_) ∧ some k_ ≠ (u9001_ : Value).ownBlock ∧ some k_ ≠ (v487 : Value).ownBlock ∧ some k_ ≠ (v490 : Value).ownBlock) u9000_ l2) := ⟨h0_⟩
 have n1_ : Aside0 (Kd.R (Kd.int .i64) 3 w12 w0.heap.size (fun k_ => ((P2_ k_ ∨ P3_ k_) ∨ w.heap.size ≤ k_) ∧ some k_ ≠ (u9000_ : Value).ownBlock ∧ some k_ ≠ (v487 : Value).ownBlock ∧ some k_ ≠ (v490 : Value).ownBlock) u9001_ l3) := ⟨h1_⟩
 have n2_ : Aside0 (Kd.R (Kd.int .i64) 3 w12 w0.heap.size (fun k_ => ((P2_ k_ ∨ P3_ k_) ∨ w.heap.size ≤ k_) ∧ some k_ ≠ (u9000_ : Value).ownBlock ∧ some k_ ≠ (u9001_ : Value).ownBlock ∧ some k_ ≠ (v490 : Value).ownBlock) v487 y486) := ⟨h2_⟩
 have n3_ : Aside0 (Kd.R (Kd.int .i64) 3 w12 w0.heap.size (fun k_ => ((P2_ k_ ∨ P3_ k_) ∨ w.heap.size ≤ k_) ∧ some k_ ≠ (u9000_ : Value).ownBlock ∧ some k_ ≠ (u9001_ : Value).ownBlock ∧ some k_ ≠ (v487 : Value).ownBlock) v490 y489) := ⟨h3_⟩
 have n4_ : Aside0 (Kept w w12 (fun k_ => P2_ k_ ∨ P3_ k_)) := ⟨h4_⟩
 have n5_ : Aside0 (Below w0.heap.size w0 w12) := ⟨h5_⟩
 clear HO2
 clear HO3
 clear HK
 clear HB
 clear h0_ h1_ h2_ h3_ h4_ h5_
 have HO2 := n0_
 have HO3 := n1_
 have HO488 := n2_
 have HO491 := n3_
 have HK := n4_
 have HB := n5_
 clear n0_ n1_ n2_ n3_ n4_ n5_
 have hHeld := trivial
 refine norm_ (a' := ?_) ?_ ?_
 rotate_left
 · simp only [putAll, Act.put, List.setIfInBounds_toArray, List.set_cons_zero, List.set_cons_succ]
   rfl
 refine pure_ (i := 5) (N := some 11) (v := ?_) (a' := ?_) (msk 6 63) rfl rfl (by kernel_rfl) (fun _ _ _ h => h) (Or.inl ⟨by rfl, ?_⟩) ?_ ?_
 rotate_left
 · intro w'; go_simp; with_reducible rfl
 rotate_left
 · simp only [Act.put, sq, i64_w, i32_w]; rfl
 refine done_ (by kernel_rfl) ?_
 obtain ⟨Ao13, co13, eo13⟩ := Kd.R_slice HO488.out
 subst eo13
 try go_wp2
 go_loopg [30] k (fun kq v30 w' => ∃ (x10_1 : List Int) (x11_1 : List Int) (x30_1 : Int), v30 = .int .i64 x30_1 ∧ Aside0 (match_augment.l0 kq a0 l1 l2 l3 (l1.length : Int) x10_1 x11_1 (y486.length : Int) x30_1 = some (r1, r2, r3)) ∧ Aside0 (kq ≤ k) ∧ Aside0 (Kd.R (Kd.int .i64) 3 w' w0.heap.size (fun k_ => ((P2_ k_ ∨ P3_ k_) ∨ w.heap.size ≤ k_) ∧ some k_ ≠ (u9001_ : Value).ownBlock ∧ some k_ ≠ ((.slice Ao13 y486.length co13) : Value).ownBlock ∧ some k_ ≠ (v490 : Value).ownBlock) u9000_ l2) ∧ Aside0 (Kd.R (Kd.int .i64) 3 w' w0.heap.size (fun k_ => ((P2_ k_ ∨ P3_ k_) ∨ w.heap.size ≤ k_) ∧ some k_ ≠ (u9000_ : Value).ownBlock ∧ some k_ ≠ ((.slice Ao13 y486.length co13) : Value).ownBlock ∧ some k_ ≠ (v490 : Value).ownBlock) u9001_ l3) ∧ Aside0 (Kd.R (Kd.int .i64) 3 w' w0.heap.size (fun k_ => ((P2_ k_ ∨ P3_ k_) ∨ w.heap.size ≤ k_) ∧ some k_ ≠ (u9000_ : Value).ownBlock ∧ some k_ ≠ (u9001_ : Value).ownBlock ∧ some k_ ≠ (v490 : Value).ownBlock) (.slice Ao13 y486.length co13) x10_1) ∧ Aside0 (Kd.R (Kd.int .i64) 3 w' w0.heap.size (fun k_ => ((P2_ k_ ∨ P3_ k_) ∨ w.heap.size ≤ k_) ∧ some k_ ≠ (u9000_ : Value).ownBlock ∧ some k_ ≠ (u9001_ : Value).ownBlock ∧ some k_ ≠ ((.slice Ao13 y486.length co13) : Value).ownBlock) v490 x11_1) ∧ Aside0 (Kept w w' (fun k_ => P2_ k_ ∨ P3_ k_)) ∧ Aside0 (Below w0.heap.size w0 w'))
 case atStart => exact ⟨(y486), (y489), (0), (by first | rfl | (simp; done) | (simp [*]; done)), H', ⟨Nat.le_refl _⟩, ⟨by (with_reducible repeat (first | apply Kd.R_alloc | apply Kd.R_drewN | apply Kd.R_drew)); exact HO2.out⟩, ⟨by (with_reducible repeat (first | apply Kd.R_alloc | apply Kd.R_drewN | apply Kd.R_drew)); exact HO3.out⟩, ⟨by (with_reducible repeat (first | apply Kd.R_alloc | apply Kd.R_drewN | apply Kd.R_drew)); exact HO488.out⟩, ⟨by (with_reducible repeat (first | apply Kd.R_alloc | apply Kd.R_drewN | apply Kd.R_drew)); exact HO491.out⟩, ⟨by repeat (first | (with_reducible first | exact HK.out | apply Kept.alloc | apply Kept.drewN | apply Kept.drew) | exact HK.out)⟩, ⟨by repeat (first | (with_reducible first | exact HB.out | apply below_alloc | apply pw_below_drewN | apply below_drew1) | exact HB.out)⟩⟩
 case round =>
  as_aux_lemma =>
   clear H'
   try clear c1
   try clear c2
   try clear p2
   try clear p3
   try clear c5
   try clear c5b0
   try clear c5b1
   try clear c6
   try clear c6b0
   try clear c6b1
   obtain ⟨x10_1, x11_1, x30_1, rfl, HA, HK1, HO_2, HO_3, HO_10, HO_11, HK, HB⟩ := hrel
   have hl10_1 := (Kd.R_reads' HO_10.out).1
   rw [hl10_1] at HO_10
   (try simp only [hl10_1])
   (try simp only [hl10_1] at HO_2)
   (try simp only [hl10_1] at HO_3)
   (try simp only [hl10_1] at HO_11)
   cases gk with
   | zero => exact absurd HA.out (by simp [match_augment.l0])
   | succ k1 =>
    have H := HA.out
    clear HA
    simp only [match_augment.l0] at H
    by_cases c14 : x30_1 < (y486.length : Int)
    case pos =>
     rw [if_pos c14] at H
     have c14b0 : decide (x30_1 < (y486.length : Int)) = true := decide_eq_true c14
     clear c14
     (try (have c14b0r := c14b0; simp only [hl10_1] at c14b0r))
     by_cases c15 : 0 ≤ a0
     case neg => rw [if_neg c15] at H; exact absurd H (by simp)
     rw [if_pos c15] at H
     have c15b0 : decide (0 ≤ a0) = true := decide_eq_true c15
     clear c15
     (try (have c15b0r := c15b0; simp only [hl10_1] at c15b0r))
     by_cases c16 : a0 < (l1.length : Int)
     case neg => rw [if_neg c16] at H; exact absurd H (by simp)
     rw [if_pos c16] at H
     have c16b0 : decide (a0 < (l1.length : Int)) = true := decide_eq_true c16
     clear c16
     (try (have c16b0r := c16b0; simp only [hl10_1] at c16b0r))
     by_cases c17 : 0 ≤ x30_1
     case neg => rw [if_neg c17] at H; exact absurd H (by simp)
     rw [if_pos c17] at H
     have c17b0 : decide (0 ≤ x30_1) = true := decide_eq_true c17
     clear c17
     (try (have c17b0r := c17b0; simp only [hl10_1] at c17b0r))
     by_cases c18 : x30_1 < ((rd_L3 l1 a0).length : Int)
     case neg => rw [if_neg c18] at H; exact absurd H (by simp)
     rw [if_pos c18] at H
     have c18b0 : decide (x30_1 < ((rd_L3 l1 a0).length : Int)) = true := decide_eq_true c18
     clear c18
     (try (have c18b0r := c18b0; simp only [hl10_1] at c18b0r))
     by_cases c19 : x30_1 < (x10_1.length : Int)
     case neg => rw [if_neg c19] at H; exact absurd H (by simp)
     rw [if_pos c19] at H
     have c19b0 : decide (x30_1 < (x10_1.length : Int)) = true := decide_eq_true c19
     clear c19
     (try (have c19b0r := c19b0; simp only [hl10_1] at c19b0r))
     obtain ⟨y494, hy494⟩ : ∃ y_ : List Int, y_ = (x10_1.set (x30_1 : Int).toNat (rd (rd_L3 l1 a0) x30_1)) := ⟨_, rfl⟩
     replace H : (if x30_1 < (x11_1.length : Int) then (match_augment.l0 k1 a0 l1 l2 l3 (l1.length : Int) y494 (x11_1.set (x30_1 : Int).toNat a0) (y486.length : Int) (wrap64 (x30_1 + 1))) else (none)) = some (r1, r2, r3) := by first | (rw [hy494]; with_reducible exact H) | (have H2_ := (Option.bind_some _ _).symm.trans H; rw [hy494]; with_reducible exact H2_) | (have H2_ := (Option.bind_some _ _).symm.trans H; with_reducible exact H2_) | with_reducible exact H | (rw [hy494]; exact H) | exact H
     have Ny494 := Aside0.mk hy494
     clear hy494
     by_cases c21 : x30_1 < (x11_1.length : Int)
     case neg => rw [if_neg c21] at H; exact absurd H (by simp)
     rw [if_pos c21] at H
     have c21b0 : decide (x30_1 < (x11_1.length : Int)) = true := decide_eq_true c21
     clear c21
     (try (have c21b0r := c21b0; simp only [hl10_1] at c21b0r))
     obtain ⟨y495, hy495⟩ : ∃ y_ : List Int, y_ = (x11_1.set (x30_1 : Int).toNat a0) := ⟨_, rfl⟩
     replace H : (match_augment.l0 k1 a0 l1 l2 l3 (l1.length : Int) y494 y495 (y486.length : Int) (wrap64 (x30_1 + 1))) = some (r1, r2, r3) := by first | (rw [hy495]; with_reducible exact H) | (have H2_ := (Option.bind_some _ _).symm.trans H; rw [hy495]; with_reducible exact H2_) | (have H2_ := (Option.bind_some _ _).symm.trans H; with_reducible exact H2_) | with_reducible exact H | (rw [hy495]; exact H) | exact H
     have Ny495 := Aside0.mk hy495
     clear hy495
     have H' := Aside0.mk H
     clear H
     have p492 : 0 ≤ (a0 : Int) := of_decide_eq_true (by first | (with_reducible assumption) | assumption)
     have q492 : a0 < (l1.length : Int) := of_decide_eq_true (by first | (with_reducible assumption) | assumption)
     obtain ⟨ad492, A492_0, c492_0, e492, hx492_0, hl492_0, hi492_0⟩ := at_L3 (Kd.C_kept_now HR1.out HK.out) a0 p492 q492
     cases e492
     have HR492_0 := Aside0.mk hi492_0
     have HC492_0 := Aside0.mk hl492_0
     clear hi492_0 hl492_0
     replace p492 := eq_true p492
     replace q492 := eq_true q492
     have p493 : 0 ≤ (x30_1 : Int) := of_decide_eq_true (by first | (with_reducible assumption) | assumption)
     have q493 : x30_1 < ((rd_L3 l1 a0).length : Int) := of_decide_eq_true (by first | (with_reducible assumption) | assumption)
     obtain ⟨ad493, e493, hx493_0⟩ := Kd.at_int (by repeat (first | (with_reducible exact HR492_0.out) | (with_reducible refine Kd.C_alloc ?_ _) | (with_reducible refine Kd.C_drewN ?_ _) | (with_reducible refine Kd.C_drew ?_) | exact HR492_0.out)) x30_1 p493 q493
     cases e493
     replace p493 := eq_true p493
     replace q493 := eq_true q493
     have p20 : 0 ≤ (x30_1 : Int) := of_decide_eq_true (by first | (with_reducible assumption) | assumption)
     have q20 : (x30_1 : Int) < ((x10_1.length : Int) : Int) := of_decide_eq_true (by first | (with_reducible assumption) | assumption)
     obtain ⟨go20, co20, eo20, gb20, gl20, cl20, HG20⟩ := Kd.R_form HO_10.out (by omega)
     (first | cases eo20 | (injection eo20 with ea_ en_ ec_; (first | subst ea_ | (injection ea_ with ea_; subst ea_)); subst ec_; clear en_))
     have GB20 := Aside0.mk gb20
     have GG20 := Aside0.mk HG20
     clear gb20 gl20 HG20
     have HMgo20 := Aside0.mk (show ((P2_ go20 ∨ P3_ go20) ∨ w.heap.size ≤ go20) from (HO_10.out.1 _ rfl).1)
     obtain ⟨hx20_0, hf20_0⟩ := Kd.R_celln 0 HO_10.out (x30_1 : Int) p20 q20
     replace p20 := eq_true p20
     replace q20 := eq_true q20
     have HP23 := Kd.R_putg HO_10.out (x30_1 : Int) (rd (rd_L3 l1 a0) x30_1)
     go_wp2_with (first | ((with_reducible refine gate_store (t := 3) (p := 45) rfl ?_); refine store_event (t := 3) (p := 45) (v := ?vo_w24) (w1 := (wr.setCell ⟨go20, (x30_1 : Int).toNat, none⟩ (.int .i64 (rd (rd_L3 l1 a0) x30_1)))) ?hg ?ho ?hn ?hr ?_; (case ho => rfl); (case hg => rfl); (case hn => rfl); (case hr => first | (go_simp; done) | (go_simp; rfl)); intro w24 hw; have hg : wr.grownBy w24 (some go20) := (by rw [hw]; exact HP23.2); have hp_ : Kd.R (Kd.int .i64) 3 w24 w0.heap.size (fun k_ => ((P2_ k_ ∨ P3_ k_) ∨ w.heap.size ≤ k_) ∧ some k_ ≠ (u9000_ : Value).ownBlock ∧ some k_ ≠ (u9001_ : Value).ownBlock ∧ some k_ ≠ (v490 : Value).ownBlock) (.slice (some ⟨go20, 0, none⟩) x10_1.length co13) y494 := (by rw [hw, Ny494.out]; exact HP23.1); clear HP23; have n0_ := Aside0.mk (Kd.R_after (v := (.slice (some ⟨go20, 0, none⟩) x10_1.length co13)) (v1 := (.slice (some ⟨go20, 0, none⟩) x10_1.length co13)) (ok := (fun k_ => ((P2_ k_ ∨ P3_ k_) ∨ w.heap.size ≤ k_) ∧ some k_ ≠ (u9001_ : Value).ownBlock ∧ some k_ ≠ (v490 : Value).ownBlock)) (by (with_reducible repeat (first | apply Kd.R_alloc | apply Kd.R_drewN | apply Kd.R_drew)); exact Kd.R_mono HO_2.out (fun _ hk => ⟨⟨hk.1, ⟨hk.2.1, hk.2.2.2⟩⟩, hk.2.2.1⟩)) hg (.inl rfl)); have n1_ := Aside0.mk (Kd.R_after (v := (.slice (some ⟨go20, 0, none⟩) x10_1.length co13)) (v1 := (.slice (some ⟨go20, 0, none⟩) x10_1.length co13)) (ok := (fun k_ => ((P2_ k_ ∨ P3_ k_) ∨ w.heap.size ≤ k_) ∧ some k_ ≠ (u9000_ : Value).ownBlock ∧ some k_ ≠ (v490 : Value).ownBlock)) (by (with_reducible repeat (first | apply Kd.R_alloc | apply Kd.R_drewN | apply Kd.R_drew)); exact Kd.R_mono HO_3.out (fun _ hk => ⟨⟨hk.1, ⟨hk.2.1, hk.2.2.2⟩⟩, hk.2.2.1⟩)) hg (.inl rfl)); have n2_ := Aside0.mk (hp_); have n3_ := Aside0.mk (Kd.R_after (v := (.slice (some ⟨go20, 0, none⟩) x10_1.length co13)) (v1 := (.slice (some ⟨go20, 0, none⟩) x10_1.length co13)) (ok := (fun k_ => ((P2_ k_ ∨ P3_ k_) ∨ w.heap.size ≤ k_) ∧ some k_ ≠ (u9000_ : Value).ownBlock ∧ some k_ ≠ (u9001_ : Value).ownBlock)) (by (with_reducible repeat (first | apply Kd.R_alloc | apply Kd.R_drewN | apply Kd.R_drew)); exact Kd.R_mono HO_11.out (fun _ hk => ⟨⟨hk.1, ⟨hk.2.1, hk.2.2.1⟩⟩, hk.2.2.2⟩)) hg (.inl rfl)); have n4_ := Aside0.mk ((by rw [hw]; exact below_set (HB.out) GB20.out : Below w0.heap.size w0 w24)); have n5_ := Aside0.mk (Kept.of_grown (S := (fun k_ => P2_ k_ ∨ P3_ k_)) hg (by repeat (first | (with_reducible first | exact HK.out | apply Kept.alloc | apply Kept.drewN | apply Kept.drew) | exact HK.out)) (fun k_ e_ => (HO_10.out.1 k_ e_).1)); clear HO_2; clear HO_3; clear HO_10; clear HO_11; clear HB; clear HK; have HO_2 := n0_; have HO_3 := n1_; have HO_10 := n2_; have HO_11 := n3_; have HB := n4_; have HK := n5_; clear n0_ n1_ n2_ n3_ n4_ n5_; clear hg hw hp_; have p22 : 0 ≤ (x30_1 : Int) := of_decide_eq_true (by first | (with_reducible assumption) | assumption); have q22 : (x30_1 : Int) < ((x11_1.length : Int) : Int) := of_decide_eq_true (by first | (with_reducible assumption) | assumption); obtain ⟨go22, co22, eo22, gb22, gl22, cl22, HG22⟩ := Kd.R_form HO_11.out (by omega); (first | cases eo22 | (injection eo22 with ea_ en_ ec_; (first | subst ea_ | (injection ea_ with ea_; subst ea_)); subst ec_; clear en_)); have GB22 := Aside0.mk gb22; have GG22 := Aside0.mk HG22; clear gb22 gl22 HG22; have HMgo22 := Aside0.mk (show ((P2_ go22 ∨ P3_ go22) ∨ w.heap.size ≤ go22) from (HO_11.out.1 _ rfl).1.1); obtain ⟨hx22_0, hf22_0⟩ := Kd.R_celln 0 HO_11.out (x30_1 : Int) p22 q22; replace p22 := eq_true p22; replace q22 := eq_true q22; have n_ := Aside0.mk (Kd.R_mono (ok' := (fun k_ => ((P2_ k_ ∨ P3_ k_) ∨ w.heap.size ≤ k_) ∧ some k_ ≠ (u9000_ : Value).ownBlock ∧ some k_ ≠ (u9001_ : Value).ownBlock ∧ some k_ ≠ (.slice (some ⟨go20, 0, none⟩) x10_1.length co13 : Value).ownBlock)) HO_11.out (fun k_ hk => ⟨hk.1.1, ⟨hk.1.2.1, ⟨hk.1.2.2, hk.2⟩⟩⟩)); clear HO_11; have HO_11 := n_; clear n_; obtain ⟨hy25_, hz25_⟩ := Kd.R_celln 0 HO_11.out (x30_1 : Int) (of_decide_eq_true (by first | (with_reducible assumption) | assumption)) (of_decide_eq_true (by first | (with_reducible assumption) | assumption)); have HP25 := Kd.R_putg HO_11.out (x30_1 : Int) a0) | ((with_reducible refine gate_store (t := 3) (p := 46) rfl ?_); refine store_event (t := 3) (p := 46) (v := ?vo_w26) (w1 := (w24.setCell ⟨go22, (x30_1 : Int).toNat, none⟩ (.int .i64 a0))) ?hg ?ho ?hn ?hr ?_; (case ho => rfl); (case hg => rfl); (case hn => rfl); (case hr => first | (go_simp; done) | (go_simp; rfl)); intro w26 hw; have hg : w24.grownBy w26 (some go22) := (by rw [hw]; exact HP25.2); have hp_ : Kd.R (Kd.int .i64) 3 w26 w0.heap.size (fun k_ => ((P2_ k_ ∨ P3_ k_) ∨ w.heap.size ≤ k_) ∧ some k_ ≠ (u9000_ : Value).ownBlock ∧ some k_ ≠ (u9001_ : Value).ownBlock ∧ some k_ ≠ (.slice (some ⟨go20, 0, none⟩) x10_1.length co13 : Value).ownBlock) (.slice (some ⟨go22, 0, none⟩) x11_1.length co22) y495 := (by rw [hw, Ny495.out]; exact HP25.1); clear HP25; have n0_ := Aside0.mk (Kd.R_after (v := (.slice (some ⟨go22, 0, none⟩) x11_1.length co22)) (v1 := (.slice (some ⟨go22, 0, none⟩) x11_1.length co22)) (ok := (fun k_ => ((P2_ k_ ∨ P3_ k_) ∨ w.heap.size ≤ k_) ∧ some k_ ≠ (u9001_ : Value).ownBlock ∧ some k_ ≠ (.slice (some ⟨go20, 0, none⟩) x10_1.length co13 : Value).ownBlock)) (by (with_reducible repeat (first | apply Kd.R_alloc | apply Kd.R_drewN | apply Kd.R_drew)); exact Kd.R_mono HO_2.out (fun _ hk => ⟨⟨hk.1.1, ⟨hk.1.2.1, hk.2⟩⟩, hk.1.2.2⟩)) hg (.inl rfl)); have n1_ := Aside0.mk (Kd.R_after (v := (.slice (some ⟨go22, 0, none⟩) x11_1.length co22)) (v1 := (.slice (some ⟨go22, 0, none⟩) x11_1.length co22)) (ok := (fun k_ => ((P2_ k_ ∨ P3_ k_) ∨ w.heap.size ≤ k_) ∧ some k_ ≠ (u9000_ : Value).ownBlock ∧ some k_ ≠ (.slice (some ⟨go20, 0, none⟩) x10_1.length co13 : Value).ownBlock)) (by (with_reducible repeat (first | apply Kd.R_alloc | apply Kd.R_drewN | apply Kd.R_drew)); exact Kd.R_mono HO_3.out (fun _ hk => ⟨⟨hk.1.1, ⟨hk.1.2.1, hk.2⟩⟩, hk.1.2.2⟩)) hg (.inl rfl)); have n2_ := Aside0.mk (Kd.R_after (v := (.slice (some ⟨go22, 0, none⟩) x11_1.length co22)) (v1 := (.slice (some ⟨go22, 0, none⟩) x11_1.length co22)) (ok := (fun k_ => ((P2_ k_ ∨ P3_ k_) ∨ w.heap.size ≤ k_) ∧ some k_ ≠ (u9000_ : Value).ownBlock ∧ some k_ ≠ (u9001_ : Value).ownBlock)) (by (with_reducible repeat (first | apply Kd.R_alloc | apply Kd.R_drewN | apply Kd.R_drew)); exact Kd.R_mono HO_10.out (fun _ hk => ⟨⟨hk.1, ⟨hk.2.1, hk.2.2.1⟩⟩, hk.2.2.2⟩)) hg (.inl rfl)); have n3_ := Aside0.mk (hp_); have n4_ := Aside0.mk ((by rw [hw]; exact below_set (HB.out) GB22.out : Below w0.heap.size w0 w26)); have n5_ := Aside0.mk (Kept.of_grown (S := (fun k_ => P2_ k_ ∨ P3_ k_)) hg (by repeat (first | (with_reducible first | exact HK.out | apply Kept.alloc | apply Kept.drewN | apply Kept.drew) | exact HK.out)) (fun k_ e_ => (HO_11.out.1 k_ e_).1)); clear HO_2; clear HO_3; clear HO_10; clear HO_11; clear HB; clear HK; have HO_2 := n0_; have HO_3 := n1_; have HO_10 := n2_; have HO_11 := n3_; have HB := n4_; have HK := n5_; clear n0_ n1_ n2_ n3_ n4_ n5_; clear hg hw hp_))
     (try simp only [← hl10_1])
     (first | go_roundg k1 | (refine Handed.intro k1 ?measure ?_; rotate_left; go_step; (repeat apply Exists.intro); (refine ⟨?rel, ?fr_⟩); (case fr_ => (simp only [add_plain]; rfl))))
     case measure => have := HK1.out; omega
     case rel => exact ⟨(y494), (y495), (wrap64 (x30_1 + 1)), (by first | rfl | (simp; done) | (simp [*]; done)), H', ⟨by have := HK1.out; omega⟩, ⟨by (try simp only [hl10_1]); (with_reducible repeat (first | apply Kd.R_alloc | apply Kd.R_drewN | apply Kd.R_drew)); exact Kd.R_mono HO_2.out (fun _ hk => ⟨hk.1.1, ⟨hk.1.2.1, ⟨hk.1.2.2, hk.2⟩⟩⟩)⟩, ⟨by (try simp only [hl10_1]); (with_reducible repeat (first | apply Kd.R_alloc | apply Kd.R_drewN | apply Kd.R_drew)); exact Kd.R_mono HO_3.out (fun _ hk => ⟨hk.1.1, ⟨hk.1.2.1, ⟨hk.1.2.2, hk.2⟩⟩⟩)⟩, ⟨by (try simp only [hl10_1]); (with_reducible repeat (first | apply Kd.R_alloc | apply Kd.R_drewN | apply Kd.R_drew)); exact Kd.R_mono HO_10.out (fun _ hk => ⟨hk.1.1, ⟨hk.1.2.1, ⟨hk.1.2.2, hk.2⟩⟩⟩)⟩, ⟨by (try simp only [hl10_1]); (with_reducible repeat (first | apply Kd.R_alloc | apply Kd.R_drewN | apply Kd.R_drew)); exact HO_11.out⟩, ⟨by repeat (first | (with_reducible first | exact HK.out | apply Kept.alloc | apply Kept.drewN | apply Kept.drew) | exact HK.out)⟩, ⟨by repeat (first | (with_reducible first | exact HB.out | apply below_alloc | apply pw_below_drewN | apply below_drew1) | exact HB.out)⟩⟩
    rw [if_neg c14] at H
    have c14b0 : decide (x30_1 < (y486.length : Int)) = false := decide_eq_false c14
    clear c14
    (try (have c14b0r := c14b0; simp only [hl10_1] at c14b0r))
    have HC27 := Aside0.mk H
    clear H
    go_upto_block 2 with (fail)
    go_cut [] (fun wc => ∃ (kq : Nat) (x10_26 : List Int) (x11_26 : List Int), Aside0 (match_augment.j5 kq a0 l2 l3 (l1.length : Int) x10_26 x11_26 = some (r1, r2, r3)) ∧ Aside0 (kq ≤ k1) ∧ Aside0 (Kd.R (Kd.int .i64) 3 wc w0.heap.size (fun k_ => ((P2_ k_ ∨ P3_ k_) ∨ w.heap.size ≤ k_) ∧ some k_ ≠ (u9001_ : Value).ownBlock ∧ some k_ ≠ ((.slice Ao13 x10_1.length co13) : Value).ownBlock ∧ some k_ ≠ (v490 : Value).ownBlock) u9000_ l2) ∧ Aside0 (Kd.R (Kd.int .i64) 3 wc w0.heap.size (fun k_ => ((P2_ k_ ∨ P3_ k_) ∨ w.heap.size ≤ k_) ∧ some k_ ≠ (u9000_ : Value).ownBlock ∧ some k_ ≠ ((.slice Ao13 x10_1.length co13) : Value).ownBlock ∧ some k_ ≠ (v490 : Value).ownBlock) u9001_ l3) ∧ Aside0 (Kd.R (Kd.int .i64) 3 wc w0.heap.size (fun k_ => ((P2_ k_ ∨ P3_ k_) ∨ w.heap.size ≤ k_) ∧ some k_ ≠ (u9000_ : Value).ownBlock ∧ some k_ ≠ (u9001_ : Value).ownBlock ∧ some k_ ≠ (v490 : Value).ownBlock) (.slice Ao13 x10_1.length co13) x10_26) ∧ Aside0 (Kd.R (Kd.int .i64) 3 wc w0.heap.size (fun k_ => ((P2_ k_ ∨ P3_ k_) ∨ w.heap.size ≤ k_) ∧ some k_ ≠ (u9000_ : Value).ownBlock ∧ some k_ ≠ (u9001_ : Value).ownBlock ∧ some k_ ≠ ((.slice Ao13 x10_1.length co13) : Value).ownBlock) v490 x11_26) ∧ Aside0 (Kept w wc (fun k_ => P2_ k_ ∨ P3_ k_)) ∧ Aside0 (Below w0.heap.size w0 wc))
    case first =>
     have H := HC27.out
     clear HC27
     have H' := Aside0.mk H
     clear H
     go_wp2
     go_loopg [49] k1 (fun kq v49 w' => ∃ (x10_2 : List Int) (x11_2 : List Int) (x49_2 : Int), v49 = .int .i64 x49_2 ∧ Aside0 (match_augment.l1 kq a0 l1 l2 l3 (l1.length : Int) x10_2 x11_2 (l1.length : Int) x49_2 = some (r1, r2, r3)) ∧ Aside0 (kq ≤ k1) ∧ Aside0 (Kd.R (Kd.int .i64) 3 w' w0.heap.size (fun k_ => ((P2_ k_ ∨ P3_ k_) ∨ w.heap.size ≤ k_) ∧ some k_ ≠ (u9001_ : Value).ownBlock ∧ some k_ ≠ ((.slice Ao13 x10_1.length co13) : Value).ownBlock ∧ some k_ ≠ (v490 : Value).ownBlock) u9000_ l2) ∧ Aside0 (Kd.R (Kd.int .i64) 3 w' w0.heap.size (fun k_ => ((P2_ k_ ∨ P3_ k_) ∨ w.heap.size ≤ k_) ∧ some k_ ≠ (u9000_ : Value).ownBlock ∧ some k_ ≠ ((.slice Ao13 x10_1.length co13) : Value).ownBlock ∧ some k_ ≠ (v490 : Value).ownBlock) u9001_ l3) ∧ Aside0 (Kd.R (Kd.int .i64) 3 w' w0.heap.size (fun k_ => ((P2_ k_ ∨ P3_ k_) ∨ w.heap.size ≤ k_) ∧ some k_ ≠ (u9000_ : Value).ownBlock ∧ some k_ ≠ (u9001_ : Value).ownBlock ∧ some k_ ≠ (v490 : Value).ownBlock) (.slice Ao13 x10_1.length co13) x10_2) ∧ Aside0 (Kd.R (Kd.int .i64) 3 w' w0.heap.size (fun k_ => ((P2_ k_ ∨ P3_ k_) ∨ w.heap.size ≤ k_) ∧ some k_ ≠ (u9000_ : Value).ownBlock ∧ some k_ ≠ (u9001_ : Value).ownBlock ∧ some k_ ≠ ((.slice Ao13 x10_1.length co13) : Value).ownBlock) v490 x11_2) ∧ Aside0 (Kept w w' (fun k_ => P2_ k_ ∨ P3_ k_)) ∧ Aside0 (Below w0.heap.size w0 w'))
     case atStart => exact ⟨(x10_1), (x11_1), (0), (by first | rfl | (simp; done) | (simp [*]; done)), H', ⟨Nat.le_refl _⟩, ⟨by (try simp only [hl10_1]); (with_reducible repeat (first | apply Kd.R_alloc | apply Kd.R_drewN | apply Kd.R_drew)); exact HO_2.out⟩, ⟨by (try simp only [hl10_1]); (with_reducible repeat (first | apply Kd.R_alloc | apply Kd.R_drewN | apply Kd.R_drew)); exact HO_3.out⟩, ⟨by (try simp only [hl10_1]); (with_reducible repeat (first | apply Kd.R_alloc | apply Kd.R_drewN | apply Kd.R_drew)); exact HO_10.out⟩, ⟨by (try simp only [hl10_1]); (with_reducible repeat (first | apply Kd.R_alloc | apply Kd.R_drewN | apply Kd.R_drew)); exact HO_11.out⟩, ⟨by repeat (first | (with_reducible first | exact HK.out | apply Kept.alloc | apply Kept.drewN | apply Kept.drew) | exact HK.out)⟩, ⟨by repeat (first | (with_reducible first | exact HB.out | apply below_alloc | apply pw_below_drewN | apply below_drew1) | exact HB.out)⟩⟩
     case round =>
      as_aux_lemma =>
       clear H'
       try clear c1
       try clear c2
       try clear p2
       try clear q2
       try clear hx2
       try clear p3
       try clear c4
       try clear p4
       try clear q4
       try clear hx4
       try clear c5
       try clear c5b0
       try clear c5b1
       try clear c6
       try clear c6b0
       try clear c6b1
       try clear p6
       try clear c14
       try clear c14b0
       try clear c15
       try clear c15b0
       try clear c16
       try clear c16b0
       try clear c17
       try clear c17b0
       try clear c18
       try clear c18b0
       try clear c19
       try clear c19b0
       try clear p20
       try clear q20
       try clear hx20
       try clear hf20
       try clear c21
       try clear c21b0
       try clear p22
       try clear q22
       try clear hx22
       try clear hf22
       try clear c26
       try clear hx20_0
       try clear hx22_0
       try clear hx492_0
       try clear hx493_0
       try clear p2
       try clear p20
       try clear p22
       try clear p3
       try clear p492
       try clear p493
       try clear q20
       try clear q22
       try clear q492
       try clear q493
       obtain ⟨x10_2, x11_2, x49_2, rfl, HA, HK2, HO_2, HO_3, HO_10, HO_11, HK, HB⟩ := hrel
       have hl10_2 := (Kd.R_reads' HO_10.out).1
       rw [hl10_2] at HO_10
       (try simp only [hl10_2])
       (try simp only [hl10_2] at HO_2)
       (try simp only [hl10_2] at HO_3)
       (try simp only [hl10_2] at HO_11)
       cases gk with
       | zero => exact absurd HA.out (by simp [match_augment.l1])
       | succ k2 =>
        have H := HA.out
        clear HA
        simp only [match_augment.l1] at H
        by_cases c28 : x49_2 < (l1.length : Int)
        case neg =>
         rw [if_neg c28] at H
         have c28b0 : decide (x49_2 < (l1.length : Int)) = false := decide_eq_false c28
         clear c28
         (first | rw [c28b0] | (simp only [i64_w, i32_w]; rw [c28b0]) | skip)
         (try (have c28b0r := c28b0; simp only [hl10_1, hl10_2] at c28b0r))
         have H' := Aside0.mk H
         clear H
         go_wp2
         (try simp only [← hl10_2])
         go_meet
         case rel => exact ⟨_, (x10_2), (x11_2), H', ⟨by have := HK1.out; have := HK2.out; first | omega | exact Nat.le_refl _⟩, ⟨by (try simp only [hl10_1]); (try simp only [hl10_2]); (with_reducible repeat (first | apply Kd.R_alloc | apply Kd.R_drewN | apply Kd.R_drew)); exact HO_2.out⟩, ⟨by (try simp only [hl10_1]); (try simp only [hl10_2]); (with_reducible repeat (first | apply Kd.R_alloc | apply Kd.R_drewN | apply Kd.R_drew)); exact HO_3.out⟩, ⟨by (try simp only [hl10_1]); (try simp only [hl10_2]); (with_reducible repeat (first | apply Kd.R_alloc | apply Kd.R_drewN | apply Kd.R_drew)); exact HO_10.out⟩, ⟨by (try simp only [hl10_1]); (try simp only [hl10_2]); (with_reducible repeat (first | apply Kd.R_alloc | apply Kd.R_drewN | apply Kd.R_drew)); exact HO_11.out⟩, ⟨by repeat (first | (with_reducible first | exact HK.out | apply Kept.alloc | apply Kept.drewN | apply Kept.drew) | exact HK.out)⟩, ⟨by repeat (first | (with_reducible first | exact HB.out | apply below_alloc | apply pw_below_drewN | apply below_drew1) | exact HB.out)⟩⟩
        rw [if_pos c28] at H
        have c28b0 : decide (x49_2 < (l1.length : Int)) = true := decide_eq_true c28
        clear c28
        (first | rw [c28b0] | (simp only [i64_w, i32_w]; rw [c28b0]) | skip)
        (try (have c28b0r := c28b0; simp only [hl10_1, hl10_2] at c28b0r))
        have H' := Aside0.mk H
        clear H
        go_wp2
        go_loopg [13, 52] k2 (fun kq v13 v52 w' => ∃ (x10_3 : List Int) (x11_3 : List Int) (x13_3 : Bool) (x52_3 : Int), v13 = .bool x13_3 ∧ v52 = .int .i64 x52_3 ∧ Aside0 (match_augment.l2 kq a0 l1 l2 l3 (l1.length : Int) x10_3 x11_3 x13_3 (l1.length : Int) x49_2 (l1.length : Int) x52_3 = some (r1, r2, r3)) ∧ Aside0 (kq ≤ k2) ∧ Aside0 (Kd.R (Kd.int .i64) 3 w' w0.heap.size (fun k_ => ((P2_ k_ ∨ P3_ k_) ∨ w.heap.size ≤ k_) ∧ some k_ ≠ (u9001_ : Value).ownBlock ∧ some k_ ≠ ((.slice Ao13 x10_2.length co13) : Value).ownBlock ∧ some k_ ≠ (v490 : Value).ownBlock) u9000_ l2) ∧ Aside0 (Kd.R (Kd.int .i64) 3 w' w0.heap.size (fun k_ => ((P2_ k_ ∨ P3_ k_) ∨ w.heap.size ≤ k_) ∧ some k_ ≠ (u9000_ : Value).ownBlock ∧ some k_ ≠ ((.slice Ao13 x10_2.length co13) : Value).ownBlock ∧ some k_ ≠ (v490 : Value).ownBlock) u9001_ l3) ∧ Aside0 (Kd.R (Kd.int .i64) 3 w' w0.heap.size (fun k_ => ((P2_ k_ ∨ P3_ k_) ∨ w.heap.size ≤ k_) ∧ some k_ ≠ (u9000_ : Value).ownBlock ∧ some k_ ≠ (u9001_ : Value).ownBlock ∧ some k_ ≠ (v490 : Value).ownBlock) (.slice Ao13 x10_2.length co13) x10_3) ∧ Aside0 (Kd.R (Kd.int .i64) 3 w' w0.heap.size (fun k_ => ((P2_ k_ ∨ P3_ k_) ∨ w.heap.size ≤ k_) ∧ some k_ ≠ (u9000_ : Value).ownBlock ∧ some k_ ≠ (u9001_ : Value).ownBlock ∧ some k_ ≠ ((.slice Ao13 x10_2.length co13) : Value).ownBlock) v490 x11_3) ∧ Aside0 (Kept w w' (fun k_ => P2_ k_ ∨ P3_ k_)) ∧ Aside0 (Below w0.heap.size w0 w'))
        case atStart => exact ⟨(x10_2), (x11_2), (false), (0), (by first | rfl | (simp; done) | (simp [*]; done)), (by first | rfl | (simp; done) | (simp [*]; done)), H', ⟨Nat.le_refl _⟩, ⟨by (try simp only [hl10_1]); (try simp only [hl10_2]); (with_reducible repeat (first | apply Kd.R_alloc | apply Kd.R_drewN | apply Kd.R_drew)); exact HO_2.out⟩, ⟨by (try simp only [hl10_1]); (try simp only [hl10_2]); (with_reducible repeat (first | apply Kd.R_alloc | apply Kd.R_drewN | apply Kd.R_drew)); exact HO_3.out⟩, ⟨by (try simp only [hl10_1]); (try simp only [hl10_2]); (with_reducible repeat (first | apply Kd.R_alloc | apply Kd.R_drewN | apply Kd.R_drew)); exact HO_10.out⟩, ⟨by (try simp only [hl10_1]); (try simp only [hl10_2]); (with_reducible repeat (first | apply Kd.R_alloc | apply Kd.R_drewN | apply Kd.R_drew)); exact HO_11.out⟩, ⟨by repeat (first | (with_reducible first | exact HK.out | apply Kept.alloc | apply Kept.drewN | apply Kept.drew) | exact HK.out)⟩, ⟨by repeat (first | (with_reducible first | exact HB.out | apply below_alloc | apply pw_below_drewN | apply below_drew1) | exact HB.out)⟩⟩
        case round =>
         as_aux_lemma =>
          clear H'
          try clear c1
          try clear c2
          try clear p2
          try clear q2
          try clear hx2
          try clear p3
          try clear c4
          try clear p4
          try clear q4
          try clear hx4
          try clear c5
          try clear c5b0
          try clear c5b1
          try clear c6
          try clear c6b0
          try clear c6b1
          try clear p6
          try clear c14
          try clear c14b0
          try clear c15
          try clear c15b0
          try clear c16
          try clear c16b0
          try clear c17
          try clear c17b0
          try clear c18
          try clear c18b0
          try clear c19
          try clear c19b0
          try clear p20
          try clear q20
          try clear hx20
          try clear hf20
          try clear c21
          try clear c21b0
          try clear p22
          try clear q22
          try clear hx22
          try clear hf22
          try clear c26
          try clear c28
          try clear c28b0
          try clear hx20_0
          try clear hx22_0
          try clear hx492_0
          try clear hx493_0
          try clear p2
          try clear p20
          try clear p22
          try clear p3
          try clear p4
          try clear p492
          try clear p493
          try clear p6
          try clear q2
          try clear q20
          try clear q22
          try clear q4
          try clear q492
          try clear q493
          obtain ⟨x10_3, x11_3, x13_3, x52_3, rfl, rfl, HA, HK3, HO_2, HO_3, HO_10, HO_11, HK, HB⟩ := hrel
          have hl10_3 := (Kd.R_reads' HO_10.out).1
          rw [hl10_3] at HO_10
          (try simp only [hl10_3])
          (try simp only [hl10_3] at HO_2)
          (try simp only [hl10_3] at HO_3)
          (try simp only [hl10_3] at HO_11)
          cases gk with
          | zero => exact absurd HA.out (by simp [match_augment.l2])
          | succ k3 =>
           have H := HA.out
           clear HA
           simp only [match_augment.l2] at H
           by_cases c29 : x52_3 < (l1.length : Int)
           case neg =>
            rw [if_neg c29] at H
            have c29b0 : decide (x52_3 < (l1.length : Int)) = false := decide_eq_false c29
            clear c29
            (try (have c29b0r := c29b0; simp only [hl10_1, hl10_2, hl10_3] at c29b0r))
            by_cases c59 : x13_3 = true
            case neg =>
             replace c59 := Bool.eq_false_iff.mpr c59
             subst c59
             have H1 : (match_augment.j5 k3 a0 l2 l3 (l1.length : Int) x10_3 x11_3) = some (r1, r2, r3) := by rw [if_neg (show ¬ (false = true) by decide)] at H; exact H
             clear H
             have H := H1
             clear H1
             have H' := Aside0.mk H
             clear H
             go_wp2
             (try simp only [← hl10_2, ← hl10_3])
             go_meet
             case rel => exact ⟨_, (x10_3), (x11_3), H', ⟨by have := HK1.out; have := HK2.out; have := HK3.out; first | omega | exact Nat.le_refl _⟩, ⟨by (try simp only [hl10_1]); (try simp only [hl10_2]); (try simp only [hl10_3]); (with_reducible repeat (first | apply Kd.R_alloc | apply Kd.R_drewN | apply Kd.R_drew)); exact HO_2.out⟩, ⟨by (try simp only [hl10_1]); (try simp only [hl10_2]); (try simp only [hl10_3]); (with_reducible repeat (first | apply Kd.R_alloc | apply Kd.R_drewN | apply Kd.R_drew)); exact HO_3.out⟩, ⟨by (try simp only [hl10_1]); (try simp only [hl10_2]); (try simp only [hl10_3]); (with_reducible repeat (first | apply Kd.R_alloc | apply Kd.R_drewN | apply Kd.R_drew)); exact HO_10.out⟩, ⟨by (try simp only [hl10_1]); (try simp only [hl10_2]); (try simp only [hl10_3]); (with_reducible repeat (first | apply Kd.R_alloc | apply Kd.R_drewN | apply Kd.R_drew)); exact HO_11.out⟩, ⟨by repeat (first | (with_reducible first | exact HK.out | apply Kept.alloc | apply Kept.drewN | apply Kept.drew) | exact HK.out)⟩, ⟨by repeat (first | (with_reducible first | exact HB.out | apply below_alloc | apply pw_below_drewN | apply below_drew1) | exact HB.out)⟩⟩
            subst c59
            have H1 : (match_augment.l1 k3 a0 l1 l2 l3 (l1.length : Int) x10_3 x11_3 (l1.length : Int) (wrap64 (x49_2 + 1))) = some (r1, r2, r3) := by rw [if_pos rfl] at H; exact H
            clear H
            have H := H1
            clear H1
            have H' := Aside0.mk H
            clear H
            go_wp2
            (try simp only [← hl10_2, ← hl10_3])
            (first | go_roundg k3 | (refine Handed.intro k3 ?measure ?_; rotate_left; go_step; (repeat apply Exists.intro); (refine ⟨?rel, ?fr_⟩); (case fr_ => (simp only [add_plain]; rfl))))
            case measure => have := HK1.out; have := HK2.out; have := HK3.out; omega
            case rel => exact ⟨(x10_3), (x11_3), (wrap64 (x49_2 + 1)), (by first | rfl | (simp; done) | (simp [*]; done)), H', ⟨by have := HK1.out; have := HK2.out; have := HK3.out; omega⟩, ⟨by (try simp only [hl10_1]); (try simp only [hl10_2]); (try simp only [hl10_3]); (with_reducible repeat (first | apply Kd.R_alloc | apply Kd.R_drewN | apply Kd.R_drew)); exact HO_2.out⟩, ⟨by (try simp only [hl10_1]); (try simp only [hl10_2]); (try simp only [hl10_3]); (with_reducible repeat (first | apply Kd.R_alloc | apply Kd.R_drewN | apply Kd.R_drew)); exact HO_3.out⟩, ⟨by (try simp only [hl10_1]); (try simp only [hl10_2]); (try simp only [hl10_3]); (with_reducible repeat (first | apply Kd.R_alloc | apply Kd.R_drewN | apply Kd.R_drew)); exact HO_10.out⟩, ⟨by (try simp only [hl10_1]); (try simp only [hl10_2]); (try simp only [hl10_3]); (with_reducible repeat (first | apply Kd.R_alloc | apply Kd.R_drewN | apply Kd.R_drew)); exact HO_11.out⟩, ⟨by repeat (first | (with_reducible first | exact HK.out | apply Kept.alloc | apply Kept.drewN | apply Kept.drew) | exact HK.out)⟩, ⟨by repeat (first | (with_reducible first | exact HB.out | apply below_alloc | apply pw_below_drewN | apply below_drew1) | exact HB.out)⟩⟩
           rw [if_pos c29] at H
           have c29b0 : decide (x52_3 < (l1.length : Int)) = true := decide_eq_true c29
           clear c29
           (try (have c29b0r := c29b0; simp only [hl10_1, hl10_2, hl10_3] at c29b0r))
           by_cases c30 : 0 ≤ x52_3
           case neg => rw [if_neg c30] at H; exact absurd H (by simp)
           rw [if_pos c30] at H
           have c30b0 : decide (0 ≤ x52_3) = true := decide_eq_true c30
           clear c30
           (try (have c30b0r := c30b0; simp only [hl10_1, hl10_2, hl10_3] at c30b0r))
           by_cases c31 : x52_3 < (l3.length : Int)
           case neg => rw [if_neg c31] at H; exact absurd H (by simp)
           rw [if_pos c31] at H
           have c31b0 : decide (x52_3 < (l3.length : Int)) = true := decide_eq_true c31
           clear c31
           (try (have c31b0r := c31b0; simp only [hl10_1, hl10_2, hl10_3] at c31b0r))
           have HC32 := Aside0.mk H
           clear H
           obtain ⟨Ao33, co33, eo33⟩ := Kd.R_slice HO_3.out
           subst eo33
           have p496 : 0 ≤ (x52_3 : Int) := of_decide_eq_true (by first | (with_reducible assumption) | assumption)
           have q496 : x52_3 < (l3.length : Int) := of_decide_eq_true (by first | (with_reducible assumption) | assumption)
           obtain ⟨ad496, e496, hx496_0⟩ := Kd.at_int (Kd.R_reads' HO_3.out).2.2 x52_3 p496 q496
           cases e496
           replace p496 := eq_true p496
           replace q496 := eq_true q496
           go_upto_region 15 with (fail)
           go_cut [67] (fun v67 wc => ∃ (kq : Nat) (x67_31 : Bool), v67 = .bool x67_31 ∧ Aside0 (match_augment.j3 kq a0 l1 l2 l3 (l1.length : Int) x10_3 x11_3 x13_3 x52_3 (rd l3 x52_3) (l1.length : Int) x49_2 (l1.length : Int) x52_3 x67_31 = some (r1, r2, r3)) ∧ Aside0 (kq ≤ k3) ∧ Aside0 (Kd.R (Kd.int .i64) 3 wc w0.heap.size (fun k_ => ((P2_ k_ ∨ P3_ k_) ∨ w.heap.size ≤ k_) ∧ some k_ ≠ ((.slice (some ad496) l3.length co33) : Value).ownBlock ∧ some k_ ≠ ((.slice Ao13 x10_3.length co13) : Value).ownBlock ∧ some k_ ≠ (v490 : Value).ownBlock) u9000_ l2) ∧ Aside0 (Kd.R (Kd.int .i64) 3 wc w0.heap.size (fun k_ => ((P2_ k_ ∨ P3_ k_) ∨ w.heap.size ≤ k_) ∧ some k_ ≠ (u9000_ : Value).ownBlock ∧ some k_ ≠ ((.slice Ao13 x10_3.length co13) : Value).ownBlock ∧ some k_ ≠ (v490 : Value).ownBlock) (.slice (some ad496) l3.length co33) l3) ∧ Aside0 (Kd.R (Kd.int .i64) 3 wc w0.heap.size (fun k_ => ((P2_ k_ ∨ P3_ k_) ∨ w.heap.size ≤ k_) ∧ some k_ ≠ (u9000_ : Value).ownBlock ∧ some k_ ≠ ((.slice (some ad496) l3.length co33) : Value).ownBlock ∧ some k_ ≠ (v490 : Value).ownBlock) (.slice Ao13 x10_3.length co13) x10_3) ∧ Aside0 (Kd.R (Kd.int .i64) 3 wc w0.heap.size (fun k_ => ((P2_ k_ ∨ P3_ k_) ∨ w.heap.size ≤ k_) ∧ some k_ ≠ (u9000_ : Value).ownBlock ∧ some k_ ≠ ((.slice (some ad496) l3.length co33) : Value).ownBlock ∧ some k_ ≠ ((.slice Ao13 x10_3.length co13) : Value).ownBlock) v490 x11_3) ∧ Aside0 (Kept w wc (fun k_ => P2_ k_ ∨ P3_ k_)) ∧ Aside0 (Below w0.heap.size w0 wc))
           case first =>
            have H := HC32.out
            clear HC32
            by_cases c34 : x52_3 < (x10_3.length : Int)
            case neg => rw [if_neg c34] at H; exact absurd H (by simp)
            rw [if_pos c34] at H
            have c34b0 : decide (x52_3 < (x10_3.length : Int)) = true := decide_eq_true c34
            clear c34
            (first | rw [c34b0] | (simp only [i64_w, i32_w]; rw [c34b0]) | skip)
            (try (have c34b0r := c34b0; simp only [hl10_1, hl10_2, hl10_3] at c34b0r))
            by_cases c35 : (rd x10_3 x52_3) ≤ (-536870912)
            case pos =>
             rw [if_pos c35] at H
             have c35b0 : decide ((rd x10_3 x52_3) ≤ (-536870912)) = true := decide_eq_true c35
             clear c35
             (try (have c35b0r := c35b0; simp only [hl10_1, hl10_2, hl10_3] at c35b0r))
             have H' := Aside0.mk H
             clear H
             have p497 : 0 ≤ (x52_3 : Int) := of_decide_eq_true (by first | (with_reducible assumption) | assumption)
             have q497 : x52_3 < (x10_3.length : Int) := of_decide_eq_true (by first | (with_reducible assumption) | assumption)
             obtain ⟨ad497, e497, hx497_0⟩ := Kd.at_int (Kd.R_reads' HO_10.out).2.2 x52_3 p497 q497
             cases e497
             replace p497 := eq_true p497
             replace q497 := eq_true q497
             go_wp2
             go_meet
             case rel => exact ⟨_, (true), (by first | rfl | (simp; done) | (simp [*]; done)), H', ⟨by have := HK1.out; have := HK2.out; have := HK3.out; first | omega | exact Nat.le_refl _⟩, ⟨by (try simp only [hl10_1]); (try simp only [hl10_2]); (try simp only [hl10_3]); (with_reducible repeat (first | apply Kd.R_alloc | apply Kd.R_drewN | apply Kd.R_drew)); exact HO_2.out⟩, ⟨by (try simp only [hl10_1]); (try simp only [hl10_2]); (try simp only [hl10_3]); (with_reducible repeat (first | apply Kd.R_alloc | apply Kd.R_drewN | apply Kd.R_drew)); exact HO_3.out⟩, ⟨by (try simp only [hl10_1]); (try simp only [hl10_2]); (try simp only [hl10_3]); (with_reducible repeat (first | apply Kd.R_alloc | apply Kd.R_drewN | apply Kd.R_drew)); exact HO_10.out⟩, ⟨by (try simp only [hl10_1]); (try simp only [hl10_2]); (try simp only [hl10_3]); (with_reducible repeat (first | apply Kd.R_alloc | apply Kd.R_drewN | apply Kd.R_drew)); exact HO_11.out⟩, ⟨by repeat (first | (with_reducible first | exact HK.out | apply Kept.alloc | apply Kept.drewN | apply Kept.drew) | exact HK.out)⟩, ⟨by repeat (first | (with_reducible first | exact HB.out | apply below_alloc | apply pw_below_drewN | apply below_drew1) | exact HB.out)⟩⟩
            rw [if_neg c35] at H
            have c35b0 : decide ((rd x10_3 x52_3) ≤ (-536870912)) = false := decide_eq_false c35
            clear c35
            (try (have c35b0r := c35b0; simp only [hl10_1, hl10_2, hl10_3] at c35b0r))
            have H' := Aside0.mk H
            clear H
            have p497 : 0 ≤ (x52_3 : Int) := of_decide_eq_true (by first | (with_reducible assumption) | assumption)
            have q497 : x52_3 < (x10_3.length : Int) := of_decide_eq_true (by first | (with_reducible assumption) | assumption)
            obtain ⟨ad497, e497, hx497_0⟩ := Kd.at_int (Kd.R_reads' HO_10.out).2.2 x52_3 p497 q497
            cases e497
            replace p497 := eq_true p497
            replace q497 := eq_true q497
            go_wp2
            go_meet
            case rel => exact ⟨_, (decide ((rd l3 x52_3) < 0)), (by first | rfl | (simp; done) | (simp [*]; done)), H', ⟨by have := HK1.out; have := HK2.out; have := HK3.out; first | omega | exact Nat.le_refl _⟩, ⟨by (try simp only [hl10_1]); (try simp only [hl10_2]); (try simp only [hl10_3]); (with_reducible repeat (first | apply Kd.R_alloc | apply Kd.R_drewN | apply Kd.R_drew)); exact HO_2.out⟩, ⟨by (try simp only [hl10_1]); (try simp only [hl10_2]); (try simp only [hl10_3]); (with_reducible repeat (first | apply Kd.R_alloc | apply Kd.R_drewN | apply Kd.R_drew)); exact HO_3.out⟩, ⟨by (try simp only [hl10_1]); (try simp only [hl10_2]); (try simp only [hl10_3]); (with_reducible repeat (first | apply Kd.R_alloc | apply Kd.R_drewN | apply Kd.R_drew)); exact HO_10.out⟩, ⟨by (try simp only [hl10_1]); (try simp only [hl10_2]); (try simp only [hl10_3]); (with_reducible repeat (first | apply Kd.R_alloc | apply Kd.R_drewN | apply Kd.R_drew)); exact HO_11.out⟩, ⟨by repeat (first | (with_reducible first | exact HK.out | apply Kept.alloc | apply Kept.drewN | apply Kept.drew) | exact HK.out)⟩, ⟨by repeat (first | (with_reducible first | exact HB.out | apply below_alloc | apply pw_below_drewN | apply below_drew1) | exact HB.out)⟩⟩
           case rest =>
            clear HC32
            try clear c1
            try clear c2
            try clear p2
            try clear q2
            try clear hx2
            try clear c3
            try clear p3
            try clear c4
            try clear p4
            try clear q4
            try clear hx4
            try clear c5
            try clear c5b0
            try clear c5b1
            try clear c6
            try clear c6b0
            try clear c6b1
            try clear p6
            try clear c14
            try clear c14b0
            try clear c15
            try clear c15b0
            try clear c16
            try clear c16b0
            try clear c17
            try clear c17b0
            try clear c18
            try clear c18b0
            try clear c19
            try clear c19b0
            try clear p20
            try clear q20
            try clear hx20
            try clear hf20
            try clear c21
            try clear c21b0
            try clear p22
            try clear q22
            try clear hx22
            try clear hf22
            try clear c26
            try clear c28
            try clear c28b0
            try clear c29
            try clear c29b0
            try clear c30
            try clear c30b0
            try clear c31
            try clear c31b0
            try clear c34
            try clear c34b0
            try clear c35
            try clear c35b0
            try clear hx20_0
            try clear hx22_0
            try clear hx492_0
            try clear hx493_0
            try clear hx496_0
            try clear hx497_0
            try clear p2
            try clear p20
            try clear p22
            try clear p3
            try clear p4
            try clear p492
            try clear p493
            try clear p496
            try clear p497
            try clear p6
            try clear q2
            try clear q20
            try clear q22
            try clear q4
            try clear q492
            try clear q493
            try clear q496
            try clear q497
            obtain ⟨kq, x67_31, rfl, HA, HJ31, HO_2, HO_3, HO_10, HO_11, HK, HB⟩ := hcut
            cases kq with
            | zero => exact absurd HA.out (by simp [match_augment.j3])
            | succ kj31 =>
             have H := HA.out
             clear HA
             simp only [match_augment.j3] at H
             by_cases c36 : x67_31 = true
             case pos =>
              subst c36
              have H1 : (match_augment.l2 kj31 a0 l1 l2 l3 (l1.length : Int) x10_3 x11_3 x13_3 (l1.length : Int) x49_2 (l1.length : Int) (wrap64 (x52_3 + 1))) = some (r1, r2, r3) := by rw [if_pos rfl] at H; exact H
              clear H
              have H := H1
              clear H1
              have H' := Aside0.mk H
              clear H
              go_wp2
              (try simp only [← hl10_3])
              (first | go_roundg kj31 | (refine Handed.intro kj31 ?measure ?_; rotate_left; go_step; (repeat apply Exists.intro); (refine ⟨?rel, ?fr_⟩); (case fr_ => (simp only [add_plain]; rfl))))
              case measure => have := HK1.out; have := HK2.out; have := HK3.out; have := HJ31.out; omega
              case rel => exact ⟨(x10_3), (x11_3), (x13_3), (wrap64 (x52_3 + 1)), (by first | rfl | (simp; done) | (simp [*]; done)), (by first | rfl | (simp; done) | (simp [*]; done)), H', ⟨by have := HK1.out; have := HK2.out; have := HK3.out; have := HJ31.out; omega⟩, ⟨by (try simp only [hl10_1]); (try simp only [hl10_2]); (try simp only [hl10_3]); (with_reducible repeat (first | apply Kd.R_alloc | apply Kd.R_drewN | apply Kd.R_drew)); exact HO_2.out⟩, ⟨by (try simp only [hl10_1]); (try simp only [hl10_2]); (try simp only [hl10_3]); (with_reducible repeat (first | apply Kd.R_alloc | apply Kd.R_drewN | apply Kd.R_drew)); exact HO_3.out⟩, ⟨by (try simp only [hl10_1]); (try simp only [hl10_2]); (try simp only [hl10_3]); (with_reducible repeat (first | apply Kd.R_alloc | apply Kd.R_drewN | apply Kd.R_drew)); exact HO_10.out⟩, ⟨by (try simp only [hl10_1]); (try simp only [hl10_2]); (try simp only [hl10_3]); (with_reducible repeat (first | apply Kd.R_alloc | apply Kd.R_drewN | apply Kd.R_drew)); exact HO_11.out⟩, ⟨by repeat (first | (with_reducible first | exact HK.out | apply Kept.alloc | apply Kept.drewN | apply Kept.drew) | exact HK.out)⟩, ⟨by repeat (first | (with_reducible first | exact HB.out | apply below_alloc | apply pw_below_drewN | apply below_drew1) | exact HB.out)⟩⟩
             replace c36 := Bool.eq_false_iff.mpr c36
             subst c36
             have H1 : (match_augment.l3 kj31 a0 l1 l2 l3 (l1.length : Int) x10_3 x11_3 x13_3 x52_3 (rd l3 x52_3) (l1.length : Int) x49_2 (l1.length : Int) x52_3 (l1.length : Int) 0) = some (r1, r2, r3) := by rw [if_neg (show ¬ (false = true) by decide)] at H; exact H
             clear H
             have H := H1
             clear H1
             have H' := Aside0.mk H
             clear H
             go_wp2
             go_loopg [13, 69] kj31 (fun kq v13 v69 w' => ∃ (x10_5 : List Int) (x11_5 : List Int) (x13_5 : Bool) (x69_5 : Int), v13 = .bool x13_5 ∧ v69 = .int .i64 x69_5 ∧ Aside0 (match_augment.l3 kq a0 l1 l2 l3 (l1.length : Int) x10_5 x11_5 x13_5 x52_3 (rd l3 x52_3) (l1.length : Int) x49_2 (l1.length : Int) x52_3 (l1.length : Int) x69_5 = some (r1, r2, r3)) ∧ Aside0 (kq ≤ kj31) ∧ Aside0 (Kd.R (Kd.int .i64) 3 w' w0.heap.size (fun k_ => ((P2_ k_ ∨ P3_ k_) ∨ w.heap.size ≤ k_) ∧ some k_ ≠ ((.slice (some ad496) l3.length co33) : Value).ownBlock ∧ some k_ ≠ ((.slice Ao13 x10_3.length co13) : Value).ownBlock ∧ some k_ ≠ (v490 : Value).ownBlock) u9000_ l2) ∧ Aside0 (Kd.R (Kd.int .i64) 3 w' w0.heap.size (fun k_ => ((P2_ k_ ∨ P3_ k_) ∨ w.heap.size ≤ k_) ∧ some k_ ≠ (u9000_ : Value).ownBlock ∧ some k_ ≠ ((.slice Ao13 x10_3.length co13) : Value).ownBlock ∧ some k_ ≠ (v490 : Value).ownBlock) (.slice (some ad496) l3.length co33) l3) ∧ Aside0 (Kd.R (Kd.int .i64) 3 w' w0.heap.size (fun k_ => ((P2_ k_ ∨ P3_ k_) ∨ w.heap.size ≤ k_) ∧ some k_ ≠ (u9000_ : Value).ownBlock ∧ some k_ ≠ ((.slice (some ad496) l3.length co33) : Value).ownBlock ∧ some k_ ≠ (v490 : Value).ownBlock) (.slice Ao13 x10_3.length co13) x10_5) ∧ Aside0 (Kd.R (Kd.int .i64) 3 w' w0.heap.size (fun k_ => ((P2_ k_ ∨ P3_ k_) ∨ w.heap.size ≤ k_) ∧ some k_ ≠ (u9000_ : Value).ownBlock ∧ some k_ ≠ ((.slice (some ad496) l3.length co33) : Value).ownBlock ∧ some k_ ≠ ((.slice Ao13 x10_3.length co13) : Value).ownBlock) v490 x11_5) ∧ Aside0 (Kept w w' (fun k_ => P2_ k_ ∨ P3_ k_)) ∧ Aside0 (Below w0.heap.size w0 w'))
             case atStart => exact ⟨(x10_3), (x11_3), (x13_3), (0), (by first | rfl | (simp; done) | (simp [*]; done)), (by first | rfl | (simp; done) | (simp [*]; done)), H', ⟨Nat.le_refl _⟩, ⟨by (try simp only [hl10_1]); (try simp only [hl10_2]); (try simp only [hl10_3]); (with_reducible repeat (first | apply Kd.R_alloc | apply Kd.R_drewN | apply Kd.R_drew)); exact HO_2.out⟩, ⟨by (try simp only [hl10_1]); (try simp only [hl10_2]); (try simp only [hl10_3]); (with_reducible repeat (first | apply Kd.R_alloc | apply Kd.R_drewN | apply Kd.R_drew)); exact HO_3.out⟩, ⟨by (try simp only [hl10_1]); (try simp only [hl10_2]); (try simp only [hl10_3]); (with_reducible repeat (first | apply Kd.R_alloc | apply Kd.R_drewN | apply Kd.R_drew)); exact HO_10.out⟩, ⟨by (try simp only [hl10_1]); (try simp only [hl10_2]); (try simp only [hl10_3]); (with_reducible repeat (first | apply Kd.R_alloc | apply Kd.R_drewN | apply Kd.R_drew)); exact HO_11.out⟩, ⟨by repeat (first | (with_reducible first | exact HK.out | apply Kept.alloc | apply Kept.drewN | apply Kept.drew) | exact HK.out)⟩, ⟨by repeat (first | (with_reducible first | exact HB.out | apply below_alloc | apply pw_below_drewN | apply below_drew1) | exact HB.out)⟩⟩
             case round =>
              as_aux_lemma =>
               clear H'
               try clear c1
               try clear c2
               try clear p2
               try clear q2
               try clear hx2
               try clear c3
               try clear p3
               try clear c4
               try clear p4
               try clear q4
               try clear hx4
               try clear c5
               try clear c5b0
               try clear c5b1
               try clear c6
               try clear c6b0
               try clear c6b1
               try clear p6
               try clear c14
               try clear c14b0
               try clear c15
               try clear c15b0
               try clear c16
               try clear c16b0
               try clear c17
               try clear c17b0
               try clear c18
               try clear c18b0
               try clear c19
               try clear c19b0
               try clear p20
               try clear q20
               try clear hx20
               try clear hf20
               try clear c21
               try clear c21b0
               try clear p22
               try clear q22
               try clear hx22
               try clear hf22
               try clear c26
               try clear c28
               try clear c28b0
               try clear c29
               try clear c29b0
               try clear c30
               try clear c30b0
               try clear c31
               try clear c31b0
               try clear c34
               try clear c34b0
               try clear c35
               try clear c35b0
               try clear c36
               try clear hx20_0
               try clear hx22_0
               try clear hx492_0
               try clear hx493_0
               try clear hx496_0
               try clear hx497_0
               try clear p2
               try clear p20
               try clear p22
               try clear p3
               try clear p4
               try clear p492
               try clear p493
               try clear p496
               try clear p497
               try clear p6
               try clear q2
               try clear q20
               try clear q22
               try clear q4
               try clear q492
               try clear q493
               try clear q496
               try clear q497
               obtain ⟨x10_5, x11_5, x13_5, x69_5, rfl, rfl, HA, HK5, HO_2, HO_3, HO_10, HO_11, HK, HB⟩ := hrel
               have hl10_5 := (Kd.R_reads' HO_10.out).1
               rw [hl10_5] at HO_10
               (try simp only [hl10_5])
               (try simp only [hl10_5] at HO_2)
               (try simp only [hl10_5] at HO_3)
               (try simp only [hl10_5] at HO_11)
               cases gk with
               | zero => exact absurd HA.out (by simp [match_augment.l3])
               | succ k5 =>
                have H := HA.out
                clear HA
                simp only [match_augment.l3] at H
                by_cases c37 : x69_5 < (l1.length : Int)
                case neg =>
                 rw [if_neg c37] at H
                 have c37b0 : decide (x69_5 < (l1.length : Int)) = false := decide_eq_false c37
                 clear c37
                 (try (have c37b0r := c37b0; simp only [hl10_1, hl10_2, hl10_3, hl10_5] at c37b0r))
                 have H' := Aside0.mk H
                 clear H
                 go_wp2
                 (try simp only [← hl10_3, ← hl10_5])
                 (first | go_roundg k5 | (refine Handed.intro k5 ?measure ?_; rotate_left; go_step; (repeat apply Exists.intro); (refine ⟨?rel, ?fr_⟩); (case fr_ => (simp only [add_plain]; rfl))))
                 case measure => have := HK1.out; have := HK2.out; have := HK3.out; have := HJ31.out; have := HK5.out; omega
                 case rel => exact ⟨(x10_5), (x11_5), (x13_5), (wrap64 (x52_3 + 1)), (by first | rfl | (simp; done) | (simp [*]; done)), (by first | rfl | (simp; done) | (simp [*]; done)), H', ⟨by have := HK1.out; have := HK2.out; have := HK3.out; have := HJ31.out; have := HK5.out; omega⟩, ⟨by (try simp only [hl10_1]); (try simp only [hl10_2]); (try simp only [hl10_3]); (try simp only [hl10_5]); (with_reducible repeat (first | apply Kd.R_alloc | apply Kd.R_drewN | apply Kd.R_drew)); exact HO_2.out⟩, ⟨by (try simp only [hl10_1]); (try simp only [hl10_2]); (try simp only [hl10_3]); (try simp only [hl10_5]); (with_reducible repeat (first | apply Kd.R_alloc | apply Kd.R_drewN | apply Kd.R_drew)); exact HO_3.out⟩, ⟨by (try simp only [hl10_1]); (try simp only [hl10_2]); (try simp only [hl10_3]); (try simp only [hl10_5]); (with_reducible repeat (first | apply Kd.R_alloc | apply Kd.R_drewN | apply Kd.R_drew)); exact HO_10.out⟩, ⟨by (try simp only [hl10_1]); (try simp only [hl10_2]); (try simp only [hl10_3]); (try simp only [hl10_5]); (with_reducible repeat (first | apply Kd.R_alloc | apply Kd.R_drewN | apply Kd.R_drew)); exact HO_11.out⟩, ⟨by repeat (first | (with_reducible first | exact HK.out | apply Kept.alloc | apply Kept.drewN | apply Kept.drew) | exact HK.out)⟩, ⟨by repeat (first | (with_reducible first | exact HB.out | apply below_alloc | apply pw_below_drewN | apply below_drew1) | exact HB.out)⟩⟩
                rw [if_pos c37] at H
                have c37b0 : decide (x69_5 < (l1.length : Int)) = true := decide_eq_true c37
                clear c37
                (try (have c37b0r := c37b0; simp only [hl10_1, hl10_2, hl10_3, hl10_5] at c37b0r))
                by_cases c38 : 0 ≤ (rd l3 x52_3)
                case neg => rw [if_neg c38] at H; exact absurd H (by simp)
                rw [if_pos c38] at H
                have c38b0 : decide (0 ≤ (rd l3 x52_3)) = true := decide_eq_true c38
                clear c38
                (try (have c38b0r := c38b0; simp only [hl10_1, hl10_2, hl10_3, hl10_5] at c38b0r))
                by_cases c39 : (rd l3 x52_3) < (l1.length : Int)
                case neg => rw [if_neg c39] at H; exact absurd H (by simp)
                rw [if_pos c39] at H
                have c39b0 : decide ((rd l3 x52_3) < (l1.length : Int)) = true := decide_eq_true c39
                clear c39
                (try (have c39b0r := c39b0; simp only [hl10_1, hl10_2, hl10_3, hl10_5] at c39b0r))
                by_cases c40 : 0 ≤ x69_5
                case neg => rw [if_neg c40] at H; exact absurd H (by simp)
                rw [if_pos c40] at H
                have c40b0 : decide (0 ≤ x69_5) = true := decide_eq_true c40
                clear c40
                (try (have c40b0r := c40b0; simp only [hl10_1, hl10_2, hl10_3, hl10_5] at c40b0r))
                by_cases c41 : x69_5 < ((rd_L3 l1 (rd l3 x52_3)).length : Int)
                case neg => rw [if_neg c41] at H; exact absurd H (by simp)
                rw [if_pos c41] at H
                have c41b0 : decide (x69_5 < ((rd_L3 l1 (rd l3 x52_3)).length : Int)) = true := decide_eq_true c41
                clear c41
                (try (have c41b0r := c41b0; simp only [hl10_1, hl10_2, hl10_3, hl10_5] at c41b0r))
                by_cases c42 : (rd (rd_L3 l1 (rd l3 x52_3)) x69_5) > (-1073741824)
                case neg =>
                 rw [if_neg c42] at H
                 have c42b0 : decide ((-1073741824) < (rd (rd_L3 l1 (rd l3 x52_3)) x69_5)) = false := decide_eq_false c42
                 clear c42
                 (try (have c42b0r := c42b0; simp only [hl10_1, hl10_2, hl10_3, hl10_5] at c42b0r))
                 have H' := Aside0.mk H
                 clear H
                 try go_wp2
                 have n0_ := Aside0.mk (Kd.R_drew HO_2.out)
                 have n1_ := Aside0.mk (Kd.R_drew HO_3.out)
                 have n2_ := Aside0.mk (Kd.R_drew HO_10.out)
                 have n3_ := Aside0.mk (Kd.R_drew HO_11.out)
                 have n4_ := Aside0.mk (Kept.drew HK.out)
                 have n5_ := Aside0.mk (below_drew1 HB.out)
                 clear HO_2
                 clear HO_3
                 clear HO_10
                 clear HO_11
                 clear HK
                 clear HB
                 have HO_2 := n0_
                 have HO_3 := n1_
                 have HO_10 := n2_
                 have HO_11 := n3_
                 have HK := n4_
                 have HB := n5_
                 clear n0_ n1_ n2_ n3_ n4_ n5_
                 have p498 : 0 ≤ ((rd l3 x52_3) : Int) := of_decide_eq_true (by first | (with_reducible assumption) | assumption)
                 have q498 : (rd l3 x52_3) < (l1.length : Int) := of_decide_eq_true (by first | (with_reducible assumption) | assumption)
                 obtain ⟨ad498, A498_0, c498_0, e498, hx498_0, hl498_0, hi498_0⟩ := at_L3 (Kd.C_kept_now HR1.out HK.out) (rd l3 x52_3) p498 q498
                 have hw498_0 := hx498_0
                 cases e498
                 have HR498_0 := Aside0.mk hi498_0
                 have HC498_0 := Aside0.mk hl498_0
                 clear hi498_0 hl498_0
                 replace p498 := eq_true p498
                 replace q498 := eq_true q498
                 have p499 : 0 ≤ (x69_5 : Int) := of_decide_eq_true (by first | (with_reducible assumption) | assumption)
                 have q499 : x69_5 < ((rd_L3 l1 (rd l3 x52_3)).length : Int) := of_decide_eq_true (by first | (with_reducible assumption) | assumption)
                 obtain ⟨ad499, e499, hx499_0⟩ := Kd.at_int (by repeat (first | (with_reducible exact HR498_0.out) | (with_reducible refine Kd.C_alloc ?_ _) | (with_reducible refine Kd.C_drewN ?_ _) | (with_reducible refine Kd.C_drew ?_) | exact HR498_0.out)) x69_5 p499 q499
                 cases e499
                 replace p499 := eq_true p499
                 replace q499 := eq_true q499
                 refine start_ (n := 40) (S := fun w' => w'.cell? (ad498.add ((rd l3 x52_3)).toNat) = some (.slice (some ad499) (rd_L3 l1 (rd l3 x52_3)).length c498_0) ∧ w'.cell? (ad499.add (x69_5).toNat) = some (.int .i64 (rd (rd_L3 l1 (rd l3 x52_3)) x69_5))) (ds := []) (msk 40 0) (by kernel_rfl) rfl rfl ⟨hx498_0, hx499_0⟩ (fun hHeld => ?_); refine with_tabW match_augment.tab19 match_augment.bits19 (fun HT_ HW_ => ?_)
                 generalize wr.drew = w58 at HO_2 HO_3 HO_10 HO_11 HK HB HR498_0 hx498_0 hx499_0 hHeld ⊢
                 refine pu_ 0 72 (msk 40 1) HT_.out ?_ ?_ ?_ ?_ ?_
                 rotate_left
                 · intro w'; go_simp; with_reducible rfl
                 rotate_left
                 · simp only [Act.put, sq, i64_w, i32_w]; rfl
                 refine pu_ 1 73 (msk 40 3) HT_.out ?_ ?_ ?_ ?_ ?_
                 rotate_left
                 · intro w'; go_simp; with_reducible rfl
                 rotate_left
                 · simp only [Act.put, sq, i64_w, i32_w]; rfl
                 refine pu_ 2 74 (msk 40 7) HT_.out ?_ ?_ ?_ ?_ ?_
                 rotate_left
                 · intro w'; go_simp; with_reducible rfl
                 rotate_left
                 · simp only [Act.put, sq, i64_w, i32_w]; rfl
                 refine pu_ 4 76 (msk 40 23) HT_.out ?_ ?_ ?_ ?_ ?_
                 rotate_left
                 · intro w'; go_simp; with_reducible rfl
                 rotate_left
                 · simp only [Act.put, sq, i64_w, i32_w]; rfl
                 refine tk_ 3 75 (msk 40 31) HT_.out HW_.out hHeld ?_ ?_ ?_ ?_ ?_
                 rotate_left
                 · rintro w' ⟨s0, s1⟩; go_simp; with_reducible rfl
                 rotate_left
                 · simp only [Act.put, sq, i64_w, i32_w]; rfl
                 refine pu_ 5 77 (msk 40 63) HT_.out ?_ ?_ ?_ ?_ ?_
                 rotate_left
                 · intro w'; go_simp; with_reducible rfl
                 rotate_left
                 · simp only [Act.put, sq, i64_w, i32_w]; rfl
                 refine tk_ 6 78 (msk 40 127) HT_.out HW_.out hHeld ?_ ?_ ?_ ?_ ?_
                 rotate_left
                 · rintro w' ⟨s0, s1⟩; go_simp; with_reducible rfl
                 rotate_left
                 · simp only [Act.put, sq, i64_w, i32_w]; rfl
                 refine pu_ 7 79 (msk 40 255) HT_.out ?_ ?_ ?_ ?_ ?_
                 rotate_left
                 · intro w'; go_simp; with_reducible rfl
                 rotate_left
                 · simp only [Act.put, sq, i64_w, i32_w]; rfl
                 refine pu_ 8 80 (msk 40 511) HT_.out ?_ ?_ ?_ ?_ ?_
                 rotate_left
                 · intro w'; go_simp; with_reducible rfl
                 rotate_left
                 · simp only [Act.put, sq, i64_w, i32_w]; rfl
                 refine pv_ 9 81 (msk 40 1023) HT_.out ?_ ?_ ?_
                 rotate_left
                 · simp only [Act.put, sq, i64_w, i32_w]; rfl
                 refine pv_ 10 82 (msk 40 2047) HT_.out ?_ ?_ ?_
                 rotate_left
                 · simp only [Act.put, sq, i64_w, i32_w]; rfl
                 refine pv_ 11 83 (msk 40 4095) HT_.out ?_ ?_ ?_
                 rotate_left
                 · simp only [Act.put, sq, i64_w, i32_w]; rfl
                 refine pu_ 12 84 (msk 40 8191) HT_.out ?_ ?_ ?_ ?_ ?_
                 rotate_left
                 · intro w'; go_simp; with_reducible rfl
                 rotate_left
                 · simp only [Act.put, sq, i64_w, i32_w]; rfl
                 refine pu_ 13 85 (msk 40 16383) HT_.out ?_ ?_ ?_ ?_ ?_
                 rotate_left
                 · intro w'; go_simp; with_reducible rfl
                 rotate_left
                 · simp only [Act.put, sq, i64_w, i32_w]; rfl
                 refine pv_ 14 86 (msk 40 32767) HT_.out ?_ ?_ ?_
                 rotate_left
                 · simp only [Act.put, sq, i64_w, i32_w]; rfl
                 refine pv_ 15 87 (msk 40 65535) HT_.out ?_ ?_ ?_
                 rotate_left
                 · simp only [Act.put, sq, i64_w, i32_w]; rfl
                 refine pv_ 16 88 (msk 40 131071) HT_.out ?_ ?_ ?_
                 rotate_left
                 · simp only [Act.put, sq, i64_w, i32_w]; rfl
                 refine pv_ 17 89 (msk 40 262143) HT_.out ?_ ?_ ?_
                 rotate_left
                 · simp only [Act.put, sq, i64_w, i32_w]; rfl
                 refine pv_ 18 90 (msk 40 524287) HT_.out ?_ ?_ ?_
                 rotate_left
                 · simp only [Act.put, sq, i64_w, i32_w]; rfl
                 refine pv_ 19 91 (msk 40 1048575) HT_.out ?_ ?_ ?_
                 rotate_left
                 · simp only [Act.put, sq, i64_w, i32_w]; rfl
                 refine pv_ 20 92 (msk 40 2097151) HT_.out ?_ ?_ ?_
                 rotate_left
                 · simp only [Act.put, sq, i64_w, i32_w]; rfl
                 refine pv_ 21 93 (msk 40 4194303) HT_.out ?_ ?_ ?_
                 rotate_left
                 · simp only [Act.put, sq, i64_w, i32_w]; rfl
                 refine pv_ 22 94 (msk 40 8388607) HT_.out ?_ ?_ ?_
                 rotate_left
                 · simp only [Act.put, sq, i64_w, i32_w]; rfl
                 refine pv_ 23 95 (msk 40 16777215) HT_.out ?_ ?_ ?_
                 rotate_left
                 · simp only [Act.put, sq, i64_w, i32_w]; rfl
                 refine pv_ 24 96 (msk 40 33554431) HT_.out ?_ ?_ ?_
                 rotate_left
                 · simp only [Act.put, sq, i64_w, i32_w]; rfl
                 refine pv_ 25 97 (msk 40 67108863) HT_.out ?_ ?_ ?_
                 rotate_left
                 · simp only [Act.put, sq, i64_w, i32_w]; rfl
                 refine pv_ 26 98 (msk 40 134217727) HT_.out ?_ ?_ ?_
                 rotate_left
                 · simp only [Act.put, sq, i64_w, i32_w]; rfl
                 refine pv_ 27 99 (msk 40 268435455) HT_.out ?_ ?_ ?_
                 rotate_left
                 · simp only [Act.put, sq, i64_w, i32_w]; rfl
                 refine pv_ 28 100 (msk 40 536870911) HT_.out ?_ ?_ ?_
                 rotate_left
                 · simp only [Act.put, sq, i64_w, i32_w]; rfl
                 refine pv_ 29 101 (msk 40 1073741823) HT_.out ?_ ?_ ?_
                 rotate_left
                 · simp only [Act.put, sq, i64_w, i32_w]; rfl
                 refine pv_ 30 102 (msk 40 2147483647) HT_.out ?_ ?_ ?_
                 rotate_left
                 · simp only [Act.put, sq, i64_w, i32_w]; rfl
                 refine pv_ 31 103 (msk 40 4294967295) HT_.out ?_ ?_ ?_
                 rotate_left
                 · simp only [Act.put, sq, i64_w, i32_w]; rfl
                 refine pv_ 32 104 (msk 40 8589934591) HT_.out ?_ ?_ ?_
                 rotate_left
                 · simp only [Act.put, sq, i64_w, i32_w]; rfl
                 refine pv_ 33 105 (msk 40 17179869183) HT_.out ?_ ?_ ?_
                 rotate_left
                 · simp only [Act.put, sq, i64_w, i32_w]; rfl
                 refine pv_ 34 106 (msk 40 34359738367) HT_.out ?_ ?_ ?_
                 rotate_left
                 · simp only [Act.put, sq, i64_w, i32_w]; rfl
                 refine pv_ 35 107 (msk 40 68719476735) HT_.out ?_ ?_ ?_
                 rotate_left
                 · simp only [Act.put, sq, i64_w, i32_w]; rfl
                 refine pv_ 36 108 (msk 40 137438953471) HT_.out ?_ ?_ ?_
                 rotate_left
                 · simp only [Act.put, sq, i64_w, i32_w]; rfl
                 refine pv_ 37 109 (msk 40 274877906943) HT_.out ?_ ?_ ?_
                 rotate_left
                 · simp only [Act.put, sq, i64_w, i32_w]; rfl
                 refine pv_ 38 110 (msk 40 549755813887) HT_.out ?_ ?_ ?_
                 rotate_left
                 · simp only [Act.put, sq, i64_w, i32_w]; rfl
                 refine pu_ 39 111 (msk 40 1099511627775) HT_.out ?_ ?_ ?_ ?_ ?_
                 rotate_left
                 · intro w'; go_simp; with_reducible rfl
                 rotate_left
                 · simp only [Act.put, sq, i64_w, i32_w]; rfl
                 refine done_ (done_of HT_.out (by kernel_rfl)) ?_
                 try go_wp2
                 (try simp only [← hl10_5])
                 (first | go_roundg k5 | (refine Handed.intro k5 ?measure ?_; rotate_left; go_step; (repeat apply Exists.intro); (refine ⟨?rel, ?fr_⟩); (case fr_ => (simp only [add_plain]; rfl))))
                 case measure => have := HK1.out; have := HK2.out; have := HK3.out; have := HJ31.out; have := HK5.out; omega
                 case rel => exact ⟨(x10_5), (x11_5), (x13_5), (wrap64 (x69_5 + 1)), (by first | rfl | (simp; done) | (simp [*]; done)), (by first | rfl | (simp; done) | (simp [*]; done)), H', ⟨by have := HK1.out; have := HK2.out; have := HK3.out; have := HJ31.out; have := HK5.out; omega⟩, ⟨by (try simp only [hl10_1]); (try simp only [hl10_2]); (try simp only [hl10_3]); (try simp only [hl10_5]); (with_reducible repeat (first | apply Kd.R_alloc | apply Kd.R_drewN | apply Kd.R_drew)); exact HO_2.out⟩, ⟨by (try simp only [hl10_1]); (try simp only [hl10_2]); (try simp only [hl10_3]); (try simp only [hl10_5]); (with_reducible repeat (first | apply Kd.R_alloc | apply Kd.R_drewN | apply Kd.R_drew)); exact HO_3.out⟩, ⟨by (try simp only [hl10_1]); (try simp only [hl10_2]); (try simp only [hl10_3]); (try simp only [hl10_5]); (with_reducible repeat (first | apply Kd.R_alloc | apply Kd.R_drewN | apply Kd.R_drew)); exact HO_10.out⟩, ⟨by (try simp only [hl10_1]); (try simp only [hl10_2]); (try simp only [hl10_3]); (try simp only [hl10_5]); (with_reducible repeat (first | apply Kd.R_alloc | apply Kd.R_drewN | apply Kd.R_drew)); exact HO_11.out⟩, ⟨by repeat (first | (with_reducible first | exact HK.out | apply Kept.alloc | apply Kept.drewN | apply Kept.drew) | exact HK.out)⟩, ⟨by repeat (first | (with_reducible first | exact HB.out | apply below_alloc | apply pw_below_drewN | apply below_drew1) | exact HB.out)⟩⟩
                rw [if_pos c42] at H
                have c42b0 : decide ((-1073741824) < (rd (rd_L3 l1 (rd l3 x52_3)) x69_5)) = true := decide_eq_true c42
                clear c42
                (try (have c42b0r := c42b0; simp only [hl10_1, hl10_2, hl10_3, hl10_5] at c42b0r))
                by_cases c43 : x69_5 = x52_3
                case pos =>
                 rw [if_pos c43] at H
                 have c43b0 : (x69_5 == x52_3) = true := beq_iff_eq.mpr c43
                 have c43b1 : (x69_5 != x52_3) = false := bne_eq_false_iff_eq.mpr c43
                 clear c43
                 (try (have c43b0r := c43b0; simp only [hl10_1, hl10_2, hl10_3, hl10_5] at c43b0r))
                 (try (have c43b1r := c43b1; simp only [hl10_1, hl10_2, hl10_3, hl10_5] at c43b1r))
                 have H' := Aside0.mk H
                 clear H
                 try go_wp2
                 have n0_ := Aside0.mk (Kd.R_drew HO_2.out)
                 have n1_ := Aside0.mk (Kd.R_drew HO_3.out)
                 have n2_ := Aside0.mk (Kd.R_drew HO_10.out)
                 have n3_ := Aside0.mk (Kd.R_drew HO_11.out)
                 have n4_ := Aside0.mk (Kept.drew HK.out)
                 have n5_ := Aside0.mk (below_drew1 HB.out)
                 clear HO_2
                 clear HO_3
                 clear HO_10
                 clear HO_11
                 clear HK
                 clear HB
                 have HO_2 := n0_
                 have HO_3 := n1_
                 have HO_10 := n2_
                 have HO_11 := n3_
                 have HK := n4_
                 have HB := n5_
                 clear n0_ n1_ n2_ n3_ n4_ n5_
                 have p498 : 0 ≤ ((rd l3 x52_3) : Int) := of_decide_eq_true (by first | (with_reducible assumption) | assumption)
                 have q498 : (rd l3 x52_3) < (l1.length : Int) := of_decide_eq_true (by first | (with_reducible assumption) | assumption)
                 obtain ⟨ad498, A498_0, c498_0, e498, hx498_0, hl498_0, hi498_0⟩ := at_L3 (Kd.C_kept_now HR1.out HK.out) (rd l3 x52_3) p498 q498
                 have hw498_0 := hx498_0
                 cases e498
                 have HR498_0 := Aside0.mk hi498_0
                 have HC498_0 := Aside0.mk hl498_0
                 clear hi498_0 hl498_0
                 replace p498 := eq_true p498
                 replace q498 := eq_true q498
                 have p499 : 0 ≤ (x69_5 : Int) := of_decide_eq_true (by first | (with_reducible assumption) | assumption)
                 have q499 : x69_5 < ((rd_L3 l1 (rd l3 x52_3)).length : Int) := of_decide_eq_true (by first | (with_reducible assumption) | assumption)
                 obtain ⟨ad499, e499, hx499_0⟩ := Kd.at_int (by repeat (first | (with_reducible exact HR498_0.out) | (with_reducible refine Kd.C_alloc ?_ _) | (with_reducible refine Kd.C_drewN ?_ _) | (with_reducible refine Kd.C_drew ?_) | exact HR498_0.out)) x69_5 p499 q499
                 cases e499
                 replace p499 := eq_true p499
                 replace q499 := eq_true q499
                 refine start_ (n := 40) (S := fun w' => w'.cell? (ad498.add ((rd l3 x52_3)).toNat) = some (.slice (some ad499) (rd_L3 l1 (rd l3 x52_3)).length c498_0) ∧ w'.cell? (ad499.add (x69_5).toNat) = some (.int .i64 (rd (rd_L3 l1 (rd l3 x52_3)) x69_5))) (ds := []) (msk 40 0) (by kernel_rfl) rfl rfl ⟨hx498_0, hx499_0⟩ (fun hHeld => ?_); refine with_tabW match_augment.tab19 match_augment.bits19 (fun HT_ HW_ => ?_)
                 generalize wr.drew = w44 at HO_2 HO_3 HO_10 HO_11 HK HB HR498_0 hx498_0 hx499_0 hHeld ⊢
                 refine pu_ 0 72 (msk 40 1) HT_.out ?_ ?_ ?_ ?_ ?_
                 rotate_left
                 · intro w'; go_simp; with_reducible rfl
                 rotate_left
                 · simp only [Act.put, sq, i64_w, i32_w]; rfl
                 refine pu_ 1 73 (msk 40 3) HT_.out ?_ ?_ ?_ ?_ ?_
                 rotate_left
                 · intro w'; go_simp; with_reducible rfl
                 rotate_left
                 · simp only [Act.put, sq, i64_w, i32_w]; rfl
                 refine pu_ 2 74 (msk 40 7) HT_.out ?_ ?_ ?_ ?_ ?_
                 rotate_left
                 · intro w'; go_simp; with_reducible rfl
                 rotate_left
                 · simp only [Act.put, sq, i64_w, i32_w]; rfl
                 refine pu_ 4 76 (msk 40 23) HT_.out ?_ ?_ ?_ ?_ ?_
                 rotate_left
                 · intro w'; go_simp; with_reducible rfl
                 rotate_left
                 · simp only [Act.put, sq, i64_w, i32_w]; rfl
                 refine tk_ 3 75 (msk 40 31) HT_.out HW_.out hHeld ?_ ?_ ?_ ?_ ?_
                 rotate_left
                 · rintro w' ⟨s0, s1⟩; go_simp; with_reducible rfl
                 rotate_left
                 · simp only [Act.put, sq, i64_w, i32_w]; rfl
                 refine pu_ 5 77 (msk 40 63) HT_.out ?_ ?_ ?_ ?_ ?_
                 rotate_left
                 · intro w'; go_simp; with_reducible rfl
                 rotate_left
                 · simp only [Act.put, sq, i64_w, i32_w]; rfl
                 refine tk_ 6 78 (msk 40 127) HT_.out HW_.out hHeld ?_ ?_ ?_ ?_ ?_
                 rotate_left
                 · rintro w' ⟨s0, s1⟩; go_simp; with_reducible rfl
                 rotate_left
                 · simp only [Act.put, sq, i64_w, i32_w]; rfl
                 refine pu_ 7 79 (msk 40 255) HT_.out ?_ ?_ ?_ ?_ ?_
                 rotate_left
                 · intro w'; go_simp; with_reducible rfl
                 rotate_left
                 · simp only [Act.put, sq, i64_w, i32_w]; rfl
                 refine pu_ 8 80 (msk 40 511) HT_.out ?_ ?_ ?_ ?_ ?_
                 rotate_left
                 · intro w'; go_simp; with_reducible rfl
                 rotate_left
                 · simp only [Act.put, sq, i64_w, i32_w]; rfl
                 refine pu_ 9 81 (msk 40 1023) HT_.out ?_ ?_ ?_ ?_ ?_
                 rotate_left
                 · intro w'; go_simp; with_reducible rfl
                 rotate_left
                 · simp only [Act.put, sq, i64_w, i32_w]; rfl
                 refine pu_ 10 82 (msk 40 2047) HT_.out ?_ ?_ ?_ ?_ ?_
                 rotate_left
                 · intro w'; go_simp; with_reducible rfl
                 rotate_left
                 · simp only [Act.put, sq, i64_w, i32_w]; rfl
                 refine pu_ 11 83 (msk 40 4095) HT_.out ?_ ?_ ?_ ?_ ?_
                 rotate_left
                 · intro w'; go_simp; with_reducible rfl
                 rotate_left
                 · simp only [Act.put, sq, i64_w, i32_w]; rfl
                 refine pu_ 12 84 (msk 40 8191) HT_.out ?_ ?_ ?_ ?_ ?_
                 rotate_left
                 · intro w'; go_simp; with_reducible rfl
                 rotate_left
                 · simp only [Act.put, sq, i64_w, i32_w]; rfl
                 refine pu_ 13 85 (msk 40 16383) HT_.out ?_ ?_ ?_ ?_ ?_
                 rotate_left
                 · intro w'; go_simp; with_reducible rfl
                 rotate_left
                 · simp only [Act.put, sq, i64_w, i32_w]; rfl
                 refine pv_ 14 86 (msk 40 32767) HT_.out ?_ ?_ ?_
                 rotate_left
                 · simp only [Act.put, sq, i64_w, i32_w]; rfl
                 refine pv_ 15 87 (msk 40 65535) HT_.out ?_ ?_ ?_
                 rotate_left
                 · simp only [Act.put, sq, i64_w, i32_w]; rfl
                 refine pv_ 16 88 (msk 40 131071) HT_.out ?_ ?_ ?_
                 rotate_left
                 · simp only [Act.put, sq, i64_w, i32_w]; rfl
                 refine pv_ 17 89 (msk 40 262143) HT_.out ?_ ?_ ?_
                 rotate_left
                 · simp only [Act.put, sq, i64_w, i32_w]; rfl
                 refine pv_ 18 90 (msk 40 524287) HT_.out ?_ ?_ ?_
                 rotate_left
                 · simp only [Act.put, sq, i64_w, i32_w]; rfl
                 refine pv_ 19 91 (msk 40 1048575) HT_.out ?_ ?_ ?_
                 rotate_left
                 · simp only [Act.put, sq, i64_w, i32_w]; rfl
                 refine pv_ 20 92 (msk 40 2097151) HT_.out ?_ ?_ ?_
                 rotate_left
                 · simp only [Act.put, sq, i64_w, i32_w]; rfl
                 refine pv_ 21 93 (msk 40 4194303) HT_.out ?_ ?_ ?_
                 rotate_left
                 · simp only [Act.put, sq, i64_w, i32_w]; rfl
                 refine pv_ 22 94 (msk 40 8388607) HT_.out ?_ ?_ ?_
                 rotate_left
                 · simp only [Act.put, sq, i64_w, i32_w]; rfl
                 refine pv_ 23 95 (msk 40 16777215) HT_.out ?_ ?_ ?_
                 rotate_left
                 · simp only [Act.put, sq, i64_w, i32_w]; rfl
                 refine pv_ 24 96 (msk 40 33554431) HT_.out ?_ ?_ ?_
                 rotate_left
                 · simp only [Act.put, sq, i64_w, i32_w]; rfl
                 refine pv_ 25 97 (msk 40 67108863) HT_.out ?_ ?_ ?_
                 rotate_left
                 · simp only [Act.put, sq, i64_w, i32_w]; rfl
                 refine pv_ 26 98 (msk 40 134217727) HT_.out ?_ ?_ ?_
                 rotate_left
                 · simp only [Act.put, sq, i64_w, i32_w]; rfl
                 refine pv_ 27 99 (msk 40 268435455) HT_.out ?_ ?_ ?_
                 rotate_left
                 · simp only [Act.put, sq, i64_w, i32_w]; rfl
                 refine pv_ 28 100 (msk 40 536870911) HT_.out ?_ ?_ ?_
                 rotate_left
                 · simp only [Act.put, sq, i64_w, i32_w]; rfl
                 refine pv_ 29 101 (msk 40 1073741823) HT_.out ?_ ?_ ?_
                 rotate_left
                 · simp only [Act.put, sq, i64_w, i32_w]; rfl
                 refine pv_ 30 102 (msk 40 2147483647) HT_.out ?_ ?_ ?_
                 rotate_left
                 · simp only [Act.put, sq, i64_w, i32_w]; rfl
                 refine pv_ 31 103 (msk 40 4294967295) HT_.out ?_ ?_ ?_
                 rotate_left
                 · simp only [Act.put, sq, i64_w, i32_w]; rfl
                 refine pv_ 32 104 (msk 40 8589934591) HT_.out ?_ ?_ ?_
                 rotate_left
                 · simp only [Act.put, sq, i64_w, i32_w]; rfl
                 refine pv_ 33 105 (msk 40 17179869183) HT_.out ?_ ?_ ?_
                 rotate_left
                 · simp only [Act.put, sq, i64_w, i32_w]; rfl
                 refine pv_ 34 106 (msk 40 34359738367) HT_.out ?_ ?_ ?_
                 rotate_left
                 · simp only [Act.put, sq, i64_w, i32_w]; rfl
                 refine pv_ 35 107 (msk 40 68719476735) HT_.out ?_ ?_ ?_
                 rotate_left
                 · simp only [Act.put, sq, i64_w, i32_w]; rfl
                 refine pv_ 36 108 (msk 40 137438953471) HT_.out ?_ ?_ ?_
                 rotate_left
                 · simp only [Act.put, sq, i64_w, i32_w]; rfl
                 refine pv_ 37 109 (msk 40 274877906943) HT_.out ?_ ?_ ?_
                 rotate_left
                 · simp only [Act.put, sq, i64_w, i32_w]; rfl
                 refine pv_ 38 110 (msk 40 549755813887) HT_.out ?_ ?_ ?_
                 rotate_left
                 · simp only [Act.put, sq, i64_w, i32_w]; rfl
                 refine pu_ 39 111 (msk 40 1099511627775) HT_.out ?_ ?_ ?_ ?_ ?_
                 rotate_left
                 · intro w'; go_simp; with_reducible rfl
                 rotate_left
                 · simp only [Act.put, sq, i64_w, i32_w]; rfl
                 refine done_ (done_of HT_.out (by kernel_rfl)) ?_
                 try go_wp2
                 (try simp only [← hl10_5])
                 (first | go_roundg k5 | (refine Handed.intro k5 ?measure ?_; rotate_left; go_step; (repeat apply Exists.intro); (refine ⟨?rel, ?fr_⟩); (case fr_ => (simp only [add_plain]; rfl))))
                 case measure => have := HK1.out; have := HK2.out; have := HK3.out; have := HJ31.out; have := HK5.out; omega
                 case rel => exact ⟨(x10_5), (x11_5), (x13_5), (wrap64 (x69_5 + 1)), (by first | rfl | (simp; done) | (simp [*]; done)), (by first | rfl | (simp; done) | (simp [*]; done)), H', ⟨by have := HK1.out; have := HK2.out; have := HK3.out; have := HJ31.out; have := HK5.out; omega⟩, ⟨by (try simp only [hl10_1]); (try simp only [hl10_2]); (try simp only [hl10_3]); (try simp only [hl10_5]); (with_reducible repeat (first | apply Kd.R_alloc | apply Kd.R_drewN | apply Kd.R_drew)); exact HO_2.out⟩, ⟨by (try simp only [hl10_1]); (try simp only [hl10_2]); (try simp only [hl10_3]); (try simp only [hl10_5]); (with_reducible repeat (first | apply Kd.R_alloc | apply Kd.R_drewN | apply Kd.R_drew)); exact HO_3.out⟩, ⟨by (try simp only [hl10_1]); (try simp only [hl10_2]); (try simp only [hl10_3]); (try simp only [hl10_5]); (with_reducible repeat (first | apply Kd.R_alloc | apply Kd.R_drewN | apply Kd.R_drew)); exact HO_10.out⟩, ⟨by (try simp only [hl10_1]); (try simp only [hl10_2]); (try simp only [hl10_3]); (try simp only [hl10_5]); (with_reducible repeat (first | apply Kd.R_alloc | apply Kd.R_drewN | apply Kd.R_drew)); exact HO_11.out⟩, ⟨by repeat (first | (with_reducible first | exact HK.out | apply Kept.alloc | apply Kept.drewN | apply Kept.drew) | exact HK.out)⟩, ⟨by repeat (first | (with_reducible first | exact HB.out | apply below_alloc | apply pw_below_drewN | apply below_drew1) | exact HB.out)⟩⟩
                rw [if_neg c43] at H
                have c43b0 : (x69_5 == x52_3) = false := beq_eq_false_iff_ne.mpr c43
                have c43b1 : (x69_5 != x52_3) = true := bne_iff_ne.mpr c43
                (try (have c43b0r := c43b0; simp only [hl10_1, hl10_2, hl10_3, hl10_5] at c43b0r))
                (try (have c43b1r := c43b1; simp only [hl10_1, hl10_2, hl10_3, hl10_5] at c43b1r))
                by_cases c45 : 0 ≤ x52_3
                case neg => rw [if_neg c45] at H; exact absurd H (by simp)
                rw [if_pos c45] at H
                have c45b0 : decide (0 ≤ x52_3) = true := decide_eq_true c45
                clear c45
                (try (have c45b0r := c45b0; simp only [hl10_1, hl10_2, hl10_3, hl10_5] at c45b0r))
                by_cases c46 : x52_3 < (x10_5.length : Int)
                case neg => rw [if_neg c46] at H; exact absurd H (by simp)
                rw [if_pos c46] at H
                have c46b0 : decide (x52_3 < (x10_5.length : Int)) = true := decide_eq_true c46
                clear c46
                (try (have c46b0r := c46b0; simp only [hl10_1, hl10_2, hl10_3, hl10_5] at c46b0r))
                by_cases c47 : x52_3 < ((rd_L3 l1 (rd l3 x52_3)).length : Int)
                case neg => rw [if_neg c47] at H; exact absurd H (by simp)
                rw [if_pos c47] at H
                have c47b0 : decide (x52_3 < ((rd_L3 l1 (rd l3 x52_3)).length : Int)) = true := decide_eq_true c47
                clear c47
                (try (have c47b0r := c47b0; simp only [hl10_1, hl10_2, hl10_3, hl10_5] at c47b0r))
                by_cases c48 : x69_5 < (x10_5.length : Int)
                case neg => rw [if_neg c48] at H; exact absurd H (by simp)
                rw [if_pos c48] at H
                have c48b0 : decide (x69_5 < (x10_5.length : Int)) = true := decide_eq_true c48
                clear c48
                (try (have c48b0r := c48b0; simp only [hl10_1, hl10_2, hl10_3, hl10_5] at c48b0r))
                by_cases c49 : (wrap64 ((wrap64 ((rd x10_5 x52_3) - (rd (rd_L3 l1 (rd l3 x52_3)) x52_3))) + (rd (rd_L3 l1 (rd l3 x52_3)) x69_5))) > (rd x10_5 x69_5)
                case neg =>
                 rw [if_neg c49] at H
                 have c49b0 : decide ((rd x10_5 x69_5) < (wrap64 ((wrap64 ((rd x10_5 x52_3) - (rd (rd_L3 l1 (rd l3 x52_3)) x52_3))) + (rd (rd_L3 l1 (rd l3 x52_3)) x69_5)))) = false := decide_eq_false c49
                 clear c49
                 (try (have c49b0r := c49b0; simp only [hl10_1, hl10_2, hl10_3, hl10_5] at c49b0r))
                 have H' := Aside0.mk H
                 clear H
                 try go_wp2
                 have n0_ := Aside0.mk (Kd.R_drew HO_2.out)
                 have n1_ := Aside0.mk (Kd.R_drew HO_3.out)
                 have n2_ := Aside0.mk (Kd.R_drew HO_10.out)
                 have n3_ := Aside0.mk (Kd.R_drew HO_11.out)
                 have n4_ := Aside0.mk (Kept.drew HK.out)
                 have n5_ := Aside0.mk (below_drew1 HB.out)
                 clear HO_2
                 clear HO_3
                 clear HO_10
                 clear HO_11
                 clear HK
                 clear HB
                 have HO_2 := n0_
                 have HO_3 := n1_
                 have HO_10 := n2_
                 have HO_11 := n3_
                 have HK := n4_
                 have HB := n5_
                 clear n0_ n1_ n2_ n3_ n4_ n5_
                 have p498 : 0 ≤ ((rd l3 x52_3) : Int) := of_decide_eq_true (by first | (with_reducible assumption) | assumption)
                 have q498 : (rd l3 x52_3) < (l1.length : Int) := of_decide_eq_true (by first | (with_reducible assumption) | assumption)
                 obtain ⟨ad498, A498_0, c498_0, e498, hx498_0, hl498_0, hi498_0⟩ := at_L3 (Kd.C_kept_now HR1.out HK.out) (rd l3 x52_3) p498 q498
                 have hw498_0 := hx498_0
                 cases e498
                 have HR498_0 := Aside0.mk hi498_0
                 have HC498_0 := Aside0.mk hl498_0
                 clear hi498_0 hl498_0
                 replace p498 := eq_true p498
                 replace q498 := eq_true q498
                 have p499 : 0 ≤ (x69_5 : Int) := of_decide_eq_true (by first | (with_reducible assumption) | assumption)
                 have q499 : x69_5 < ((rd_L3 l1 (rd l3 x52_3)).length : Int) := of_decide_eq_true (by first | (with_reducible assumption) | assumption)
                 obtain ⟨ad499, e499, hx499_0⟩ := Kd.at_int (by repeat (first | (with_reducible exact HR498_0.out) | (with_reducible refine Kd.C_alloc ?_ _) | (with_reducible refine Kd.C_drewN ?_ _) | (with_reducible refine Kd.C_drew ?_) | exact HR498_0.out)) x69_5 p499 q499
                 cases e499
                 replace p499 := eq_true p499
                 replace q499 := eq_true q499
                 have p500 : 0 ≤ (x52_3 : Int) := of_decide_eq_true (by first | (with_reducible assumption) | assumption)
                 have q500 : x52_3 < (x10_5.length : Int) := of_decide_eq_true (by first | (with_reducible assumption) | assumption)
                 obtain ⟨ad500, e500, hx500_0⟩ := Kd.at_int (Kd.R_reads' HO_10.out).2.2 x52_3 p500 q500
                 cases e500
                 replace p500 := eq_true p500
                 replace q500 := eq_true q500
                 have p501 : 0 ≤ ((rd l3 x52_3) : Int) := of_decide_eq_true (by first | (with_reducible assumption) | assumption)
                 have q501 : (rd l3 x52_3) < (l1.length : Int) := of_decide_eq_true (by first | (with_reducible assumption) | assumption)
                 obtain ⟨ad501, A501_0, c501_0, e501, hx501_0, hl501_0, hi501_0⟩ := at_L3 (Kd.C_kept_now HR1.out HK.out) (rd l3 x52_3) p501 q501
                 have hw501_0 := hx501_0
                 obtain rfl : ad498 = ad501 := (by injection e501)
                 have HR501_0 := Aside0.mk hi501_0
                 have HC501_0 := Aside0.mk hl501_0
                 clear hi501_0 hl501_0
                 replace p501 := eq_true p501
                 replace q501 := eq_true q501
                 have ea_ := Option.some.inj (hx498_0.symm.trans hx501_0)
                 injection ea_ with ea_ en_ ec_
                 subst ea_
                 subst ec_
                 clear en_
                 have p502 : 0 ≤ (x52_3 : Int) := of_decide_eq_true (by first | (with_reducible assumption) | assumption)
                 have q502 : x52_3 < ((rd_L3 l1 (rd l3 x52_3)).length : Int) := of_decide_eq_true (by first | (with_reducible assumption) | assumption)
                 obtain ⟨ad502, e502, hx502_0⟩ := Kd.at_int (by repeat (first | (with_reducible exact HR501_0.out) | (with_reducible refine Kd.C_alloc ?_ _) | (with_reducible refine Kd.C_drewN ?_ _) | (with_reducible refine Kd.C_drew ?_) | exact HR501_0.out)) x52_3 p502 q502
                 cases e502
                 replace p502 := eq_true p502
                 replace q502 := eq_true q502
                 have p503 : 0 ≤ ((rd l3 x52_3) : Int) := of_decide_eq_true (by first | (with_reducible assumption) | assumption)
                 have q503 : (rd l3 x52_3) < (l1.length : Int) := of_decide_eq_true (by first | (with_reducible assumption) | assumption)
                 obtain ⟨ad503, A503_0, c503_0, e503, hx503_0, hl503_0, hi503_0⟩ := at_L3 (Kd.C_kept_now HR1.out HK.out) (rd l3 x52_3) p503 q503
                 have hw503_0 := hx503_0
                 obtain rfl : ad498 = ad503 := (by injection e503)
                 have HR503_0 := Aside0.mk hi503_0
                 have HC503_0 := Aside0.mk hl503_0
                 clear hi503_0 hl503_0
                 replace p503 := eq_true p503
                 replace q503 := eq_true q503
                 have ea_ := Option.some.inj (hx498_0.symm.trans hx503_0)
                 injection ea_ with ea_ en_ ec_
                 subst ea_
                 subst ec_
                 clear en_
                 have p504 : 0 ≤ (x69_5 : Int) := of_decide_eq_true (by first | (with_reducible assumption) | assumption)
                 have q504 : x69_5 < ((rd_L3 l1 (rd l3 x52_3)).length : Int) := of_decide_eq_true (by first | (with_reducible assumption) | assumption)
                 obtain ⟨ad504, e504, hx504_0⟩ := Kd.at_int (by repeat (first | (with_reducible exact HR503_0.out) | (with_reducible refine Kd.C_alloc ?_ _) | (with_reducible refine Kd.C_drewN ?_ _) | (with_reducible refine Kd.C_drew ?_) | exact HR503_0.out)) x69_5 p504 q504
                 cases e504
                 replace p504 := eq_true p504
                 replace q504 := eq_true q504
                 have p505 : 0 ≤ (x69_5 : Int) := of_decide_eq_true (by first | (with_reducible assumption) | assumption)
                 have q505 : x69_5 < (x10_5.length : Int) := of_decide_eq_true (by first | (with_reducible assumption) | assumption)
                 obtain ⟨ad505, e505, hx505_0⟩ := Kd.at_int (Kd.R_reads' HO_10.out).2.2 x69_5 p505 q505
                 obtain rfl : ad500 = ad505 := (by injection e505)
                 replace p505 := eq_true p505
                 replace q505 := eq_true q505
                 refine start_ (n := 40) (S := fun w' => w'.cell? (ad498.add ((rd l3 x52_3)).toNat) = some (.slice (some ad499) (rd_L3 l1 (rd l3 x52_3)).length c498_0) ∧ w'.cell? (ad499.add (x69_5).toNat) = some (.int .i64 (rd (rd_L3 l1 (rd l3 x52_3)) x69_5)) ∧ w'.cell? (ad500.add (x52_3).toNat) = some (.int .i64 (rd x10_5 x52_3)) ∧ w'.cell? (ad498.add ((rd l3 x52_3)).toNat) = some (.slice (some ad499) (rd_L3 l1 (rd l3 x52_3)).length c498_0) ∧ w'.cell? (ad499.add (x52_3).toNat) = some (.int .i64 (rd (rd_L3 l1 (rd l3 x52_3)) x52_3)) ∧ w'.cell? (ad498.add ((rd l3 x52_3)).toNat) = some (.slice (some ad499) (rd_L3 l1 (rd l3 x52_3)).length c498_0) ∧ w'.cell? (ad499.add (x69_5).toNat) = some (.int .i64 (rd (rd_L3 l1 (rd l3 x52_3)) x69_5)) ∧ w'.cell? (ad500.add (x69_5).toNat) = some (.int .i64 (rd x10_5 x69_5))) (ds := []) (msk 40 0) (by kernel_rfl) rfl rfl ⟨hx498_0, hx499_0, hx500_0, hx501_0, hx502_0, hx503_0, hx504_0, hx505_0⟩ (fun hHeld => ?_); refine with_tabW match_augment.tab19 match_augment.bits19 (fun HT_ HW_ => ?_)
                 generalize wr.drew = w57 at HO_2 HO_3 HO_10 HO_11 HK HB HR498_0 HR501_0 HR503_0 hx498_0 hx499_0 hx500_0 hx501_0 hx502_0 hx503_0 hx504_0 hx505_0 hHeld ⊢
                 refine pu_ 0 72 (msk 40 1) HT_.out ?_ ?_ ?_ ?_ ?_
                 rotate_left
                 · intro w'; go_simp; with_reducible rfl
                 rotate_left
                 · simp only [Act.put, sq, i64_w, i32_w]; rfl
                 refine pu_ 1 73 (msk 40 3) HT_.out ?_ ?_ ?_ ?_ ?_
                 rotate_left
                 · intro w'; go_simp; with_reducible rfl
                 rotate_left
                 · simp only [Act.put, sq, i64_w, i32_w]; rfl
                 refine pu_ 2 74 (msk 40 7) HT_.out ?_ ?_ ?_ ?_ ?_
                 rotate_left
                 · intro w'; go_simp; with_reducible rfl
                 rotate_left
                 · simp only [Act.put, sq, i64_w, i32_w]; rfl
                 refine pu_ 4 76 (msk 40 23) HT_.out ?_ ?_ ?_ ?_ ?_
                 rotate_left
                 · intro w'; go_simp; with_reducible rfl
                 rotate_left
                 · simp only [Act.put, sq, i64_w, i32_w]; rfl
                 refine tk_ 3 75 (msk 40 31) HT_.out HW_.out hHeld ?_ ?_ ?_ ?_ ?_
                 rotate_left
                 · rintro w' ⟨s0, s1, s2, s3, s4, s5, s6, s7⟩; go_simp; with_reducible rfl
                 rotate_left
                 · simp only [Act.put, sq, i64_w, i32_w]; rfl
                 refine pu_ 5 77 (msk 40 63) HT_.out ?_ ?_ ?_ ?_ ?_
                 rotate_left
                 · intro w'; go_simp; with_reducible rfl
                 rotate_left
                 · simp only [Act.put, sq, i64_w, i32_w]; rfl
                 refine tk_ 6 78 (msk 40 127) HT_.out HW_.out hHeld ?_ ?_ ?_ ?_ ?_
                 rotate_left
                 · rintro w' ⟨s0, s1, s2, s3, s4, s5, s6, s7⟩; go_simp; with_reducible rfl
                 rotate_left
                 · simp only [Act.put, sq, i64_w, i32_w]; rfl
                 refine pu_ 7 79 (msk 40 255) HT_.out ?_ ?_ ?_ ?_ ?_
                 rotate_left
                 · intro w'; go_simp; with_reducible rfl
                 rotate_left
                 · simp only [Act.put, sq, i64_w, i32_w]; rfl
                 refine pu_ 8 80 (msk 40 511) HT_.out ?_ ?_ ?_ ?_ ?_
                 rotate_left
                 · intro w'; go_simp; with_reducible rfl
                 rotate_left
                 · simp only [Act.put, sq, i64_w, i32_w]; rfl
                 refine pu_ 9 81 (msk 40 1023) HT_.out ?_ ?_ ?_ ?_ ?_
                 rotate_left
                 · intro w'; go_simp; with_reducible rfl
                 rotate_left
                 · simp only [Act.put, sq, i64_w, i32_w]; rfl
                 refine pu_ 10 82 (msk 40 2047) HT_.out ?_ ?_ ?_ ?_ ?_
                 rotate_left
                 · intro w'; go_simp; with_reducible rfl
                 rotate_left
                 · simp only [Act.put, sq, i64_w, i32_w]; rfl
                 refine pu_ 11 83 (msk 40 4095) HT_.out ?_ ?_ ?_ ?_ ?_
                 rotate_left
                 · intro w'; go_simp; with_reducible rfl
                 rotate_left
                 · simp only [Act.put, sq, i64_w, i32_w]; rfl
                 refine pu_ 12 84 (msk 40 8191) HT_.out ?_ ?_ ?_ ?_ ?_
                 rotate_left
                 · intro w'; go_simp; with_reducible rfl
                 rotate_left
                 · simp only [Act.put, sq, i64_w, i32_w]; rfl
                 refine pu_ 13 85 (msk 40 16383) HT_.out ?_ ?_ ?_ ?_ ?_
                 rotate_left
                 · intro w'; go_simp; with_reducible rfl
                 rotate_left
                 · simp only [Act.put, sq, i64_w, i32_w]; rfl
                 refine pu_ 14 86 (msk 40 32767) HT_.out ?_ ?_ ?_ ?_ ?_
                 rotate_left
                 · intro w'; go_simp; with_reducible rfl
                 rotate_left
                 · simp only [Act.put, sq, i64_w, i32_w]; rfl
                 refine pu_ 15 87 (msk 40 65535) HT_.out ?_ ?_ ?_ ?_ ?_
                 rotate_left
                 · intro w'; go_simp; with_reducible rfl
                 rotate_left
                 · simp only [Act.put, sq, i64_w, i32_w]; rfl
                 refine pu_ 16 88 (msk 40 131071) HT_.out ?_ ?_ ?_ ?_ ?_
                 rotate_left
                 · intro w'; go_simp; with_reducible rfl
                 rotate_left
                 · simp only [Act.put, sq, i64_w, i32_w]; rfl
                 refine pu_ 18 90 (msk 40 393215) HT_.out ?_ ?_ ?_ ?_ ?_
                 rotate_left
                 · intro w'; go_simp; with_reducible rfl
                 rotate_left
                 · simp only [Act.put, sq, i64_w, i32_w]; rfl
                 refine pu_ 19 91 (msk 40 917503) HT_.out ?_ ?_ ?_ ?_ ?_
                 rotate_left
                 · intro w'; go_simp; with_reducible rfl
                 rotate_left
                 · simp only [Act.put, sq, i64_w, i32_w]; rfl
                 refine pu_ 20 92 (msk 40 1966079) HT_.out ?_ ?_ ?_ ?_ ?_
                 rotate_left
                 · intro w'; go_simp; with_reducible rfl
                 rotate_left
                 · simp only [Act.put, sq, i64_w, i32_w]; rfl
                 refine pu_ 22 94 (msk 40 6160383) HT_.out ?_ ?_ ?_ ?_ ?_
                 rotate_left
                 · intro w'; go_simp; with_reducible rfl
                 rotate_left
                 · simp only [Act.put, sq, i64_w, i32_w]; rfl
                 refine pu_ 26 98 (msk 40 73269247) HT_.out ?_ ?_ ?_ ?_ ?_
                 rotate_left
                 · intro w'; go_simp; with_reducible rfl
                 rotate_left
                 · simp only [Act.put, sq, i64_w, i32_w]; rfl
                 refine pu_ 27 99 (msk 40 207486975) HT_.out ?_ ?_ ?_ ?_ ?_
                 rotate_left
                 · intro w'; go_simp; with_reducible rfl
                 rotate_left
                 · simp only [Act.put, sq, i64_w, i32_w]; rfl
                 refine pu_ 28 100 (msk 40 475922431) HT_.out ?_ ?_ ?_ ?_ ?_
                 rotate_left
                 · intro w'; go_simp; with_reducible rfl
                 rotate_left
                 · simp only [Act.put, sq, i64_w, i32_w]; rfl
                 refine pu_ 30 102 (msk 40 1549664255) HT_.out ?_ ?_ ?_ ?_ ?_
                 rotate_left
                 · intro w'; go_simp; with_reducible rfl
                 rotate_left
                 · simp only [Act.put, sq, i64_w, i32_w]; rfl
                 refine pu_ 34 106 (msk 40 18729533439) HT_.out ?_ ?_ ?_ ?_ ?_
                 rotate_left
                 · intro w'; go_simp; with_reducible rfl
                 rotate_left
                 · simp only [Act.put, sq, i64_w, i32_w]; rfl
                 refine pu_ 35 107 (msk 40 53089271807) HT_.out ?_ ?_ ?_ ?_ ?_
                 rotate_left
                 · intro w'; go_simp; with_reducible rfl
                 rotate_left
                 · simp only [Act.put, sq, i64_w, i32_w]; rfl
                 refine pu_ 36 108 (msk 40 121808748543) HT_.out ?_ ?_ ?_ ?_ ?_
                 rotate_left
                 · intro w'; go_simp; with_reducible rfl
                 rotate_left
                 · simp only [Act.put, sq, i64_w, i32_w]; rfl
                 refine tk_ 17 89 (msk 40 121808879615) HT_.out HW_.out hHeld ?_ ?_ ?_ ?_ ?_
                 rotate_left
                 · rintro w' ⟨s0, s1, s2, s3, s4, s5, s6, s7⟩; go_simp; with_reducible rfl
                 rotate_left
                 · simp only [Act.put, sq, i64_w, i32_w]; rfl
                 refine tk_ 21 93 (msk 40 121810976767) HT_.out HW_.out hHeld ?_ ?_ ?_ ?_ ?_
                 rotate_left
                 · rintro w' ⟨s0, s1, s2, s3, s4, s5, s6, s7⟩; go_simp; with_reducible rfl
                 rotate_left
                 · simp only [Act.put, sq, i64_w, i32_w]; rfl
                 refine pu_ 23 95 (msk 40 121819365375) HT_.out ?_ ?_ ?_ ?_ ?_
                 rotate_left
                 · intro w'; go_simp; with_reducible rfl
                 rotate_left
                 · simp only [Act.put, sq, i64_w, i32_w]; rfl
                 refine tk_ 24 96 (msk 40 121836142591) HT_.out HW_.out hHeld ?_ ?_ ?_ ?_ ?_
                 rotate_left
                 · rintro w' ⟨s0, s1, s2, s3, s4, s5, s6, s7⟩; go_simp; with_reducible rfl
                 rotate_left
                 · simp only [Act.put, sq, i64_w, i32_w]; rfl
                 refine pu_ 25 97 (msk 40 121869697023) HT_.out ?_ ?_ ?_ ?_ ?_
                 rotate_left
                 · intro w'; go_simp; with_reducible rfl
                 rotate_left
                 · simp only [Act.put, sq, i64_w, i32_w]; rfl
                 refine tk_ 29 101 (msk 40 122406567935) HT_.out HW_.out hHeld ?_ ?_ ?_ ?_ ?_
                 rotate_left
                 · rintro w' ⟨s0, s1, s2, s3, s4, s5, s6, s7⟩; go_simp; with_reducible rfl
                 rotate_left
                 · simp only [Act.put, sq, i64_w, i32_w]; rfl
                 refine pu_ 31 103 (msk 40 124554051583) HT_.out ?_ ?_ ?_ ?_ ?_
                 rotate_left
                 · intro w'; go_simp; with_reducible rfl
                 rotate_left
                 · simp only [Act.put, sq, i64_w, i32_w]; rfl
                 refine tk_ 32 104 (msk 40 128849018879) HT_.out HW_.out hHeld ?_ ?_ ?_ ?_ ?_
                 rotate_left
                 · rintro w' ⟨s0, s1, s2, s3, s4, s5, s6, s7⟩; go_simp; with_reducible rfl
                 rotate_left
                 · simp only [Act.put, sq, i64_w, i32_w]; rfl
                 refine pu_ 33 105 (msk 40 137438953471) HT_.out ?_ ?_ ?_ ?_ ?_
                 rotate_left
                 · intro w'; go_simp; with_reducible rfl
                 rotate_left
                 · simp only [Act.put, sq, i64_w, i32_w]; rfl
                 refine tk_ 37 109 (msk 40 274877906943) HT_.out HW_.out hHeld ?_ ?_ ?_ ?_ ?_
                 rotate_left
                 · rintro w' ⟨s0, s1, s2, s3, s4, s5, s6, s7⟩; go_simp; with_reducible rfl
                 rotate_left
                 · simp only [Act.put, sq, i64_w, i32_w]; rfl
                 refine pu_ 38 110 (msk 40 549755813887) HT_.out ?_ ?_ ?_ ?_ ?_
                 rotate_left
                 · intro w'; go_simp; with_reducible rfl
                 rotate_left
                 · simp only [Act.put, sq, i64_w, i32_w]; rfl
                 refine pu_ 39 111 (msk 40 1099511627775) HT_.out ?_ ?_ ?_ ?_ ?_
                 rotate_left
                 · intro w'; go_simp; with_reducible rfl
                 rotate_left
                 · simp only [Act.put, sq, i64_w, i32_w]; rfl
                 refine done_ (done_of HT_.out (by kernel_rfl)) ?_
                 try go_wp2
                 (try simp only [← hl10_5])
                 (first | go_roundg k5 | (refine Handed.intro k5 ?measure ?_; rotate_left; go_step; (repeat apply Exists.intro); (refine ⟨?rel, ?fr_⟩); (case fr_ => (simp only [add_plain]; rfl))))
                 case measure => have := HK1.out; have := HK2.out; have := HK3.out; have := HJ31.out; have := HK5.out; omega
                 case rel => exact ⟨(x10_5), (x11_5), (x13_5), (wrap64 (x69_5 + 1)), (by first | rfl | (simp; done) | (simp [*]; done)), (by first | rfl | (simp; done) | (simp [*]; done)), H', ⟨by have := HK1.out; have := HK2.out; have := HK3.out; have := HJ31.out; have := HK5.out; omega⟩, ⟨by (try simp only [hl10_1]); (try simp only [hl10_2]); (try simp only [hl10_3]); (try simp only [hl10_5]); (with_reducible repeat (first | apply Kd.R_alloc | apply Kd.R_drewN | apply Kd.R_drew)); exact HO_2.out⟩, ⟨by (try simp only [hl10_1]); (try simp only [hl10_2]); (try simp only [hl10_3]); (try simp only [hl10_5]); (with_reducible repeat (first | apply Kd.R_alloc | apply Kd.R_drewN | apply Kd.R_drew)); exact HO_3.out⟩, ⟨by (try simp only [hl10_1]); (try simp only [hl10_2]); (try simp only [hl10_3]); (try simp only [hl10_5]); (with_reducible repeat (first | apply Kd.R_alloc | apply Kd.R_drewN | apply Kd.R_drew)); exact HO_10.out⟩, ⟨by (try simp only [hl10_1]); (try simp only [hl10_2]); (try simp only [hl10_3]); (try simp only [hl10_5]); (with_reducible repeat (first | apply Kd.R_alloc | apply Kd.R_drewN | apply Kd.R_drew)); exact HO_11.out⟩, ⟨by repeat (first | (with_reducible first | exact HK.out | apply Kept.alloc | apply Kept.drewN | apply Kept.drew) | exact HK.out)⟩, ⟨by repeat (first | (with_reducible first | exact HB.out | apply below_alloc | apply pw_below_drewN | apply below_drew1) | exact HB.out)⟩⟩
                rw [if_pos c49] at H
                have c49b0 : decide ((rd x10_5 x69_5) < (wrap64 ((wrap64 ((rd x10_5 x52_3) - (rd (rd_L3 l1 (rd l3 x52_3)) x52_3))) + (rd (rd_L3 l1 (rd l3 x52_3)) x69_5)))) = true := decide_eq_true c49
                clear c49
                (try (have c49b0r := c49b0; simp only [hl10_1, hl10_2, hl10_3, hl10_5] at c49b0r))
                obtain ⟨y511, hy511⟩ : ∃ y_ : List Int, y_ = (x10_5.set (x69_5 : Int).toNat (wrap64 ((wrap64 ((rd x10_5 x52_3) - (rd (rd_L3 l1 (rd l3 x52_3)) x52_3))) + (rd (rd_L3 l1 (rd l3 x52_3)) x69_5)))) := ⟨_, rfl⟩
                replace H : (if x69_5 < (x11_5.length : Int) then (match_augment.l3 k5 a0 l1 l2 l3 (l1.length : Int) y511 (x11_5.set (x69_5 : Int).toNat (rd l3 x52_3)) true x52_3 (rd l3 x52_3) (l1.length : Int) x49_2 (l1.length : Int) x52_3 (l1.length : Int) (wrap64 (x69_5 + 1))) else (none)) = some (r1, r2, r3) := by first | (rw [hy511]; with_reducible exact H) | (have H2_ := (Option.bind_some _ _).symm.trans H; rw [hy511]; with_reducible exact H2_) | (have H2_ := (Option.bind_some _ _).symm.trans H; with_reducible exact H2_) | with_reducible exact H | (rw [hy511]; exact H) | exact H
                have Ny511 := Aside0.mk hy511
                clear hy511
                by_cases c51 : x69_5 < (x11_5.length : Int)
                case neg => rw [if_neg c51] at H; exact absurd H (by simp)
                rw [if_pos c51] at H
                have c51b0 : decide (x69_5 < (x11_5.length : Int)) = true := decide_eq_true c51
                clear c51
                (try (have c51b0r := c51b0; simp only [hl10_1, hl10_2, hl10_3, hl10_5] at c51b0r))
                obtain ⟨y512, hy512⟩ : ∃ y_ : List Int, y_ = (x11_5.set (x69_5 : Int).toNat (rd l3 x52_3)) := ⟨_, rfl⟩
                replace H : (match_augment.l3 k5 a0 l1 l2 l3 (l1.length : Int) y511 y512 true x52_3 (rd l3 x52_3) (l1.length : Int) x49_2 (l1.length : Int) x52_3 (l1.length : Int) (wrap64 (x69_5 + 1))) = some (r1, r2, r3) := by first | (rw [hy512]; with_reducible exact H) | (have H2_ := (Option.bind_some _ _).symm.trans H; rw [hy512]; with_reducible exact H2_) | (have H2_ := (Option.bind_some _ _).symm.trans H; with_reducible exact H2_) | with_reducible exact H | (rw [hy512]; exact H) | exact H
                have Ny512 := Aside0.mk hy512
                clear hy512
                have H' := Aside0.mk H
                clear H
                try go_wp2
                have n0_ := Aside0.mk (Kd.R_drew HO_2.out)
                have n1_ := Aside0.mk (Kd.R_drew HO_3.out)
                have n2_ := Aside0.mk (Kd.R_drew HO_10.out)
                have n3_ := Aside0.mk (Kd.R_drew HO_11.out)
                have n4_ := Aside0.mk (Kept.drew HK.out)
                have n5_ := Aside0.mk (below_drew1 HB.out)
                clear HO_2
                clear HO_3
                clear HO_10
                clear HO_11
                clear HK
                clear HB
                have HO_2 := n0_
                have HO_3 := n1_
                have HO_10 := n2_
                have HO_11 := n3_
                have HK := n4_
                have HB := n5_
                clear n0_ n1_ n2_ n3_ n4_ n5_
                have p498 : 0 ≤ ((rd l3 x52_3) : Int) := of_decide_eq_true (by first | (with_reducible assumption) | assumption)
                have q498 : (rd l3 x52_3) < (l1.length : Int) := of_decide_eq_true (by first | (with_reducible assumption) | assumption)
                obtain ⟨ad498, A498_0, c498_0, e498, hx498_0, hl498_0, hi498_0⟩ := at_L3 (Kd.C_kept_now HR1.out HK.out) (rd l3 x52_3) p498 q498
                have hw498_0 := hx498_0
                cases e498
                have HR498_0 := Aside0.mk hi498_0
                have HC498_0 := Aside0.mk hl498_0
                clear hi498_0 hl498_0
                replace p498 := eq_true p498
                replace q498 := eq_true q498
                have p499 : 0 ≤ (x69_5 : Int) := of_decide_eq_true (by first | (with_reducible assumption) | assumption)
                have q499 : x69_5 < ((rd_L3 l1 (rd l3 x52_3)).length : Int) := of_decide_eq_true (by first | (with_reducible assumption) | assumption)
                obtain ⟨ad499, e499, hx499_0⟩ := Kd.at_int (by repeat (first | (with_reducible exact HR498_0.out) | (with_reducible refine Kd.C_alloc ?_ _) | (with_reducible refine Kd.C_drewN ?_ _) | (with_reducible refine Kd.C_drew ?_) | exact HR498_0.out)) x69_5 p499 q499
                cases e499
                replace p499 := eq_true p499
                replace q499 := eq_true q499
                have p500 : 0 ≤ (x52_3 : Int) := of_decide_eq_true (by first | (with_reducible assumption) | assumption)
                have q500 : x52_3 < (x10_5.length : Int) := of_decide_eq_true (by first | (with_reducible assumption) | assumption)
                obtain ⟨ad500, e500, hx500_0⟩ := Kd.at_int (Kd.R_reads' HO_10.out).2.2 x52_3 p500 q500
                cases e500
                replace p500 := eq_true p500
                replace q500 := eq_true q500
                have p501 : 0 ≤ ((rd l3 x52_3) : Int) := of_decide_eq_true (by first | (with_reducible assumption) | assumption)
                have q501 : (rd l3 x52_3) < (l1.length : Int) := of_decide_eq_true (by first | (with_reducible assumption) | assumption)
                obtain ⟨ad501, A501_0, c501_0, e501, hx501_0, hl501_0, hi501_0⟩ := at_L3 (Kd.C_kept_now HR1.out HK.out) (rd l3 x52_3) p501 q501
                have hw501_0 := hx501_0
                obtain rfl : ad498 = ad501 := (by injection e501)
                have HR501_0 := Aside0.mk hi501_0
                have HC501_0 := Aside0.mk hl501_0
                clear hi501_0 hl501_0
                replace p501 := eq_true p501
                replace q501 := eq_true q501
                have ea_ := Option.some.inj (hx498_0.symm.trans hx501_0)
                injection ea_ with ea_ en_ ec_
                subst ea_
                subst ec_
                clear en_
                have p502 : 0 ≤ (x52_3 : Int) := of_decide_eq_true (by first | (with_reducible assumption) | assumption)
                have q502 : x52_3 < ((rd_L3 l1 (rd l3 x52_3)).length : Int) := of_decide_eq_true (by first | (with_reducible assumption) | assumption)
                obtain ⟨ad502, e502, hx502_0⟩ := Kd.at_int (by repeat (first | (with_reducible exact HR501_0.out) | (with_reducible refine Kd.C_alloc ?_ _) | (with_reducible refine Kd.C_drewN ?_ _) | (with_reducible refine Kd.C_drew ?_) | exact HR501_0.out)) x52_3 p502 q502
                cases e502
                replace p502 := eq_true p502
                replace q502 := eq_true q502
                have p503 : 0 ≤ ((rd l3 x52_3) : Int) := of_decide_eq_true (by first | (with_reducible assumption) | assumption)
                have q503 : (rd l3 x52_3) < (l1.length : Int) := of_decide_eq_true (by first | (with_reducible assumption) | assumption)
                obtain ⟨ad503, A503_0, c503_0, e503, hx503_0, hl503_0, hi503_0⟩ := at_L3 (Kd.C_kept_now HR1.out HK.out) (rd l3 x52_3) p503 q503
                have hw503_0 := hx503_0
                obtain rfl : ad498 = ad503 := (by injection e503)
                have HR503_0 := Aside0.mk hi503_0
                have HC503_0 := Aside0.mk hl503_0
                clear hi503_0 hl503_0
                replace p503 := eq_true p503
                replace q503 := eq_true q503
                have ea_ := Option.some.inj (hx498_0.symm.trans hx503_0)
                injection ea_ with ea_ en_ ec_
                subst ea_
                subst ec_
                clear en_
                have p504 : 0 ≤ (x69_5 : Int) := of_decide_eq_true (by first | (with_reducible assumption) | assumption)
                have q504 : x69_5 < ((rd_L3 l1 (rd l3 x52_3)).length : Int) := of_decide_eq_true (by first | (with_reducible assumption) | assumption)
                obtain ⟨ad504, e504, hx504_0⟩ := Kd.at_int (by repeat (first | (with_reducible exact HR503_0.out) | (with_reducible refine Kd.C_alloc ?_ _) | (with_reducible refine Kd.C_drewN ?_ _) | (with_reducible refine Kd.C_drew ?_) | exact HR503_0.out)) x69_5 p504 q504
                cases e504
                replace p504 := eq_true p504
                replace q504 := eq_true q504
                have p505 : 0 ≤ (x69_5 : Int) := of_decide_eq_true (by first | (with_reducible assumption) | assumption)
                have q505 : x69_5 < (x10_5.length : Int) := of_decide_eq_true (by first | (with_reducible assumption) | assumption)
                obtain ⟨ad505, e505, hx505_0⟩ := Kd.at_int (Kd.R_reads' HO_10.out).2.2 x69_5 p505 q505
                obtain rfl : ad500 = ad505 := (by injection e505)
                replace p505 := eq_true p505
                replace q505 := eq_true q505
                refine start_ (n := 40) (S := fun w' => w'.cell? (ad498.add ((rd l3 x52_3)).toNat) = some (.slice (some ad499) (rd_L3 l1 (rd l3 x52_3)).length c498_0) ∧ w'.cell? (ad499.add (x69_5).toNat) = some (.int .i64 (rd (rd_L3 l1 (rd l3 x52_3)) x69_5)) ∧ w'.cell? (ad500.add (x52_3).toNat) = some (.int .i64 (rd x10_5 x52_3)) ∧ w'.cell? (ad498.add ((rd l3 x52_3)).toNat) = some (.slice (some ad499) (rd_L3 l1 (rd l3 x52_3)).length c498_0) ∧ w'.cell? (ad499.add (x52_3).toNat) = some (.int .i64 (rd (rd_L3 l1 (rd l3 x52_3)) x52_3)) ∧ w'.cell? (ad498.add ((rd l3 x52_3)).toNat) = some (.slice (some ad499) (rd_L3 l1 (rd l3 x52_3)).length c498_0) ∧ w'.cell? (ad499.add (x69_5).toNat) = some (.int .i64 (rd (rd_L3 l1 (rd l3 x52_3)) x69_5)) ∧ w'.cell? (ad500.add (x69_5).toNat) = some (.int .i64 (rd x10_5 x69_5))) (ds := []) (msk 40 0) (by kernel_rfl) rfl rfl ⟨hx498_0, hx499_0, hx500_0, hx501_0, hx502_0, hx503_0, hx504_0, hx505_0⟩ (fun hHeld => ?_); refine with_tabW match_augment.tab19 match_augment.bits19 (fun HT_ HW_ => ?_)
                generalize wr.drew = w53 at HO_2 HO_3 HO_10 HO_11 HK HB HR498_0 HR501_0 HR503_0 hx498_0 hx499_0 hx500_0 hx501_0 hx502_0 hx503_0 hx504_0 hx505_0 hHeld ⊢
                refine pu_ 0 72 (msk 40 1) HT_.out ?_ ?_ ?_ ?_ ?_
                rotate_left
                · intro w'; go_simp; with_reducible rfl
                rotate_left
                · simp only [Act.put, sq, i64_w, i32_w]; rfl
                refine pu_ 1 73 (msk 40 3) HT_.out ?_ ?_ ?_ ?_ ?_
                rotate_left
                · intro w'; go_simp; with_reducible rfl
                rotate_left
                · simp only [Act.put, sq, i64_w, i32_w]; rfl
                refine pu_ 2 74 (msk 40 7) HT_.out ?_ ?_ ?_ ?_ ?_
                rotate_left
                · intro w'; go_simp; with_reducible rfl
                rotate_left
                · simp only [Act.put, sq, i64_w, i32_w]; rfl
                refine pu_ 4 76 (msk 40 23) HT_.out ?_ ?_ ?_ ?_ ?_
                rotate_left
                · intro w'; go_simp; with_reducible rfl
                rotate_left
                · simp only [Act.put, sq, i64_w, i32_w]; rfl
                refine tk_ 3 75 (msk 40 31) HT_.out HW_.out hHeld ?_ ?_ ?_ ?_ ?_
                rotate_left
                · rintro w' ⟨s0, s1, s2, s3, s4, s5, s6, s7⟩; go_simp; with_reducible rfl
                rotate_left
                · simp only [Act.put, sq, i64_w, i32_w]; rfl
                refine pu_ 5 77 (msk 40 63) HT_.out ?_ ?_ ?_ ?_ ?_
                rotate_left
                · intro w'; go_simp; with_reducible rfl
                rotate_left
                · simp only [Act.put, sq, i64_w, i32_w]; rfl
                refine tk_ 6 78 (msk 40 127) HT_.out HW_.out hHeld ?_ ?_ ?_ ?_ ?_
                rotate_left
                · rintro w' ⟨s0, s1, s2, s3, s4, s5, s6, s7⟩; go_simp; with_reducible rfl
                rotate_left
                · simp only [Act.put, sq, i64_w, i32_w]; rfl
                refine pu_ 7 79 (msk 40 255) HT_.out ?_ ?_ ?_ ?_ ?_
                rotate_left
                · intro w'; go_simp; with_reducible rfl
                rotate_left
                · simp only [Act.put, sq, i64_w, i32_w]; rfl
                refine pu_ 8 80 (msk 40 511) HT_.out ?_ ?_ ?_ ?_ ?_
                rotate_left
                · intro w'; go_simp; with_reducible rfl
                rotate_left
                · simp only [Act.put, sq, i64_w, i32_w]; rfl
                refine pu_ 9 81 (msk 40 1023) HT_.out ?_ ?_ ?_ ?_ ?_
                rotate_left
                · intro w'; go_simp; with_reducible rfl
                rotate_left
                · simp only [Act.put, sq, i64_w, i32_w]; rfl
                refine pu_ 10 82 (msk 40 2047) HT_.out ?_ ?_ ?_ ?_ ?_
                rotate_left
                · intro w'; go_simp; with_reducible rfl
                rotate_left
                · simp only [Act.put, sq, i64_w, i32_w]; rfl
                refine pu_ 11 83 (msk 40 4095) HT_.out ?_ ?_ ?_ ?_ ?_
                rotate_left
                · intro w'; go_simp; with_reducible rfl
                rotate_left
                · simp only [Act.put, sq, i64_w, i32_w]; rfl
                refine pu_ 12 84 (msk 40 8191) HT_.out ?_ ?_ ?_ ?_ ?_
                rotate_left
                · intro w'; go_simp; with_reducible rfl
                rotate_left
                · simp only [Act.put, sq, i64_w, i32_w]; rfl
                refine pu_ 13 85 (msk 40 16383) HT_.out ?_ ?_ ?_ ?_ ?_
                rotate_left
                · intro w'; go_simp; with_reducible rfl
                rotate_left
                · simp only [Act.put, sq, i64_w, i32_w]; rfl
                refine pu_ 14 86 (msk 40 32767) HT_.out ?_ ?_ ?_ ?_ ?_
                rotate_left
                · intro w'; go_simp; with_reducible rfl
                rotate_left
                · simp only [Act.put, sq, i64_w, i32_w]; rfl
                refine pu_ 15 87 (msk 40 65535) HT_.out ?_ ?_ ?_ ?_ ?_
                rotate_left
                · intro w'; go_simp; with_reducible rfl
                rotate_left
                · simp only [Act.put, sq, i64_w, i32_w]; rfl
                refine pu_ 16 88 (msk 40 131071) HT_.out ?_ ?_ ?_ ?_ ?_
                rotate_left
                · intro w'; go_simp; with_reducible rfl
                rotate_left
                · simp only [Act.put, sq, i64_w, i32_w]; rfl
                refine pu_ 18 90 (msk 40 393215) HT_.out ?_ ?_ ?_ ?_ ?_
                rotate_left
                · intro w'; go_simp; with_reducible rfl
                rotate_left
                · simp only [Act.put, sq, i64_w, i32_w]; rfl
                refine pu_ 19 91 (msk 40 917503) HT_.out ?_ ?_ ?_ ?_ ?_
                rotate_left
                · intro w'; go_simp; with_reducible rfl
                rotate_left
                · simp only [Act.put, sq, i64_w, i32_w]; rfl
                refine pu_ 20 92 (msk 40 1966079) HT_.out ?_ ?_ ?_ ?_ ?_
                rotate_left
                · intro w'; go_simp; with_reducible rfl
                rotate_left
                · simp only [Act.put, sq, i64_w, i32_w]; rfl
                refine pu_ 22 94 (msk 40 6160383) HT_.out ?_ ?_ ?_ ?_ ?_
                rotate_left
                · intro w'; go_simp; with_reducible rfl
                rotate_left
                · simp only [Act.put, sq, i64_w, i32_w]; rfl
                refine pu_ 26 98 (msk 40 73269247) HT_.out ?_ ?_ ?_ ?_ ?_
                rotate_left
                · intro w'; go_simp; with_reducible rfl
                rotate_left
                · simp only [Act.put, sq, i64_w, i32_w]; rfl
                refine pu_ 27 99 (msk 40 207486975) HT_.out ?_ ?_ ?_ ?_ ?_
                rotate_left
                · intro w'; go_simp; with_reducible rfl
                rotate_left
                · simp only [Act.put, sq, i64_w, i32_w]; rfl
                refine pu_ 28 100 (msk 40 475922431) HT_.out ?_ ?_ ?_ ?_ ?_
                rotate_left
                · intro w'; go_simp; with_reducible rfl
                rotate_left
                · simp only [Act.put, sq, i64_w, i32_w]; rfl
                refine pu_ 30 102 (msk 40 1549664255) HT_.out ?_ ?_ ?_ ?_ ?_
                rotate_left
                · intro w'; go_simp; with_reducible rfl
                rotate_left
                · simp only [Act.put, sq, i64_w, i32_w]; rfl
                refine pu_ 34 106 (msk 40 18729533439) HT_.out ?_ ?_ ?_ ?_ ?_
                rotate_left
                · intro w'; go_simp; with_reducible rfl
                rotate_left
                · simp only [Act.put, sq, i64_w, i32_w]; rfl
                refine pu_ 35 107 (msk 40 53089271807) HT_.out ?_ ?_ ?_ ?_ ?_
                rotate_left
                · intro w'; go_simp; with_reducible rfl
                rotate_left
                · simp only [Act.put, sq, i64_w, i32_w]; rfl
                refine pu_ 36 108 (msk 40 121808748543) HT_.out ?_ ?_ ?_ ?_ ?_
                rotate_left
                · intro w'; go_simp; with_reducible rfl
                rotate_left
                · simp only [Act.put, sq, i64_w, i32_w]; rfl
                refine tk_ 17 89 (msk 40 121808879615) HT_.out HW_.out hHeld ?_ ?_ ?_ ?_ ?_
                rotate_left
                · rintro w' ⟨s0, s1, s2, s3, s4, s5, s6, s7⟩; go_simp; with_reducible rfl
                rotate_left
                · simp only [Act.put, sq, i64_w, i32_w]; rfl
                refine tk_ 21 93 (msk 40 121810976767) HT_.out HW_.out hHeld ?_ ?_ ?_ ?_ ?_
                rotate_left
                · rintro w' ⟨s0, s1, s2, s3, s4, s5, s6, s7⟩; go_simp; with_reducible rfl
                rotate_left
                · simp only [Act.put, sq, i64_w, i32_w]; rfl
                refine pu_ 23 95 (msk 40 121819365375) HT_.out ?_ ?_ ?_ ?_ ?_
                rotate_left
                · intro w'; go_simp; with_reducible rfl
                rotate_left
                · simp only [Act.put, sq, i64_w, i32_w]; rfl
                refine tk_ 24 96 (msk 40 121836142591) HT_.out HW_.out hHeld ?_ ?_ ?_ ?_ ?_
                rotate_left
                · rintro w' ⟨s0, s1, s2, s3, s4, s5, s6, s7⟩; go_simp; with_reducible rfl
                rotate_left
                · simp only [Act.put, sq, i64_w, i32_w]; rfl
                refine pu_ 25 97 (msk 40 121869697023) HT_.out ?_ ?_ ?_ ?_ ?_
                rotate_left
                · intro w'; go_simp; with_reducible rfl
                rotate_left
                · simp only [Act.put, sq, i64_w, i32_w]; rfl
                refine tk_ 29 101 (msk 40 122406567935) HT_.out HW_.out hHeld ?_ ?_ ?_ ?_ ?_
                rotate_left
                · rintro w' ⟨s0, s1, s2, s3, s4, s5, s6, s7⟩; go_simp; with_reducible rfl
                rotate_left
                · simp only [Act.put, sq, i64_w, i32_w]; rfl
                refine pu_ 31 103 (msk 40 124554051583) HT_.out ?_ ?_ ?_ ?_ ?_
                rotate_left
                · intro w'; go_simp; with_reducible rfl
                rotate_left
                · simp only [Act.put, sq, i64_w, i32_w]; rfl
                refine tk_ 32 104 (msk 40 128849018879) HT_.out HW_.out hHeld ?_ ?_ ?_ ?_ ?_
                rotate_left
                · rintro w' ⟨s0, s1, s2, s3, s4, s5, s6, s7⟩; go_simp; with_reducible rfl
                rotate_left
                · simp only [Act.put, sq, i64_w, i32_w]; rfl
                refine pu_ 33 105 (msk 40 137438953471) HT_.out ?_ ?_ ?_ ?_ ?_
                rotate_left
                · intro w'; go_simp; with_reducible rfl
                rotate_left
                · simp only [Act.put, sq, i64_w, i32_w]; rfl
                refine tk_ 37 109 (msk 40 274877906943) HT_.out HW_.out hHeld ?_ ?_ ?_ ?_ ?_
                rotate_left
                · rintro w' ⟨s0, s1, s2, s3, s4, s5, s6, s7⟩; go_simp; with_reducible rfl
                rotate_left
                · simp only [Act.put, sq, i64_w, i32_w]; rfl
                refine pu_ 38 110 (msk 40 549755813887) HT_.out ?_ ?_ ?_ ?_ ?_
                rotate_left
                · intro w'; go_simp; with_reducible rfl
                rotate_left
                · simp only [Act.put, sq, i64_w, i32_w]; rfl
                refine pu_ 39 111 (msk 40 1099511627775) HT_.out ?_ ?_ ?_ ?_ ?_
                rotate_left
                · intro w'; go_simp; with_reducible rfl
                rotate_left
                · simp only [Act.put, sq, i64_w, i32_w]; rfl
                refine done_ (done_of HT_.out (by kernel_rfl)) ?_
                try go_wp2
                have n0_ := Aside0.mk (Kd.R_drew HO_2.out)
                have n1_ := Aside0.mk (Kd.R_drew HO_3.out)
                have n2_ := Aside0.mk (Kd.R_drew HO_10.out)
                have n3_ := Aside0.mk (Kd.R_drew HO_11.out)
                have n4_ := Aside0.mk (Kd.C_drew HR498_0.out)
                have n5_ := Aside0.mk (Kd.C_drew HR501_0.out)
                have n6_ := Aside0.mk (Kd.C_drew HR503_0.out)
                have n7_ := Aside0.mk (Kept.drew HK.out)
                have n8_ := Aside0.mk (below_drew1 HB.out)
                clear HO_2
                clear HO_3
                clear HO_10
                clear HO_11
                clear HR498_0
                clear HR501_0
                clear HR503_0
                clear HK
                clear HB
                have HO_2 := n0_
                have HO_3 := n1_
                have HO_10 := n2_
                have HO_11 := n3_
                have HR498_0 := n4_
                have HR501_0 := n5_
                have HR503_0 := n6_
                have HK := n7_
                have HB := n8_
                clear n0_ n1_ n2_ n3_ n4_ n5_ n6_ n7_ n8_
                have p506 : 0 ≤ (x52_3 : Int) := of_decide_eq_true (by first | (with_reducible assumption) | assumption)
                have q506 : x52_3 < (x10_5.length : Int) := of_decide_eq_true (by first | (with_reducible assumption) | assumption)
                obtain ⟨ad506, e506, hx506_0⟩ := Kd.at_int (Kd.R_reads' HO_10.out).2.2 x52_3 p506 q506
                obtain rfl : ad500 = ad506 := (by injection e506)
                replace p506 := eq_true p506
                replace q506 := eq_true q506
                have p507 : 0 ≤ ((rd l3 x52_3) : Int) := of_decide_eq_true (by first | (with_reducible assumption) | assumption)
                have q507 : (rd l3 x52_3) < (l1.length : Int) := of_decide_eq_true (by first | (with_reducible assumption) | assumption)
                obtain ⟨ad507, A507_0, c507_0, e507, hx507_0, hl507_0, hi507_0⟩ := at_L3 (Kd.C_kept_now HR1.out HK.out) (rd l3 x52_3) p507 q507
                have hw507_0 := hx507_0
                obtain rfl : ad498 = ad507 := (by injection e507)
                have HR507_0 := Aside0.mk hi507_0
                have HC507_0 := Aside0.mk hl507_0
                clear hi507_0 hl507_0
                replace p507 := eq_true p507
                replace q507 := eq_true q507
                have p508 : 0 ≤ (x52_3 : Int) := of_decide_eq_true (by first | (with_reducible assumption) | assumption)
                have q508 : x52_3 < ((rd_L3 l1 (rd l3 x52_3)).length : Int) := of_decide_eq_true (by first | (with_reducible assumption) | assumption)
                obtain ⟨ad508, e508, hx508_0⟩ := Kd.at_int (by repeat (first | (with_reducible exact HR507_0.out) | (with_reducible refine Kd.C_alloc ?_ _) | (with_reducible refine Kd.C_drewN ?_ _) | (with_reducible refine Kd.C_drew ?_) | exact HR507_0.out)) x52_3 p508 q508
                cases e508
                replace p508 := eq_true p508
                replace q508 := eq_true q508
                have p509 : 0 ≤ ((rd l3 x52_3) : Int) := of_decide_eq_true (by first | (with_reducible assumption) | assumption)
                have q509 : (rd l3 x52_3) < (l1.length : Int) := of_decide_eq_true (by first | (with_reducible assumption) | assumption)
                obtain ⟨ad509, A509_0, c509_0, e509, hx509_0, hl509_0, hi509_0⟩ := at_L3 (Kd.C_kept_now HR1.out HK.out) (rd l3 x52_3) p509 q509
                have hw509_0 := hx509_0
                obtain rfl : ad498 = ad509 := (by injection e509)
                have HR509_0 := Aside0.mk hi509_0
                have HC509_0 := Aside0.mk hl509_0
                clear hi509_0 hl509_0
                replace p509 := eq_true p509
                replace q509 := eq_true q509
                have ea_ := Option.some.inj (hx507_0.symm.trans hx509_0)
                injection ea_ with ea_ en_ ec_
                subst ea_
                subst ec_
                clear en_
                have p510 : 0 ≤ (x69_5 : Int) := of_decide_eq_true (by first | (with_reducible assumption) | assumption)
                have q510 : x69_5 < ((rd_L3 l1 (rd l3 x52_3)).length : Int) := of_decide_eq_true (by first | (with_reducible assumption) | assumption)
                obtain ⟨ad510, e510, hx510_0⟩ := Kd.at_int (by repeat (first | (with_reducible exact HR509_0.out) | (with_reducible refine Kd.C_alloc ?_ _) | (with_reducible refine Kd.C_drewN ?_ _) | (with_reducible refine Kd.C_drew ?_) | exact HR509_0.out)) x69_5 p510 q510
                cases e510
                replace p510 := eq_true p510
                replace q510 := eq_true q510
                have p50 : 0 ≤ (x69_5 : Int) := of_decide_eq_true (by first | (with_reducible assumption) | assumption)
                have q50 : (x69_5 : Int) < ((x10_5.length : Int) : Int) := of_decide_eq_true (by first | (with_reducible assumption) | assumption)
                obtain ⟨go50, co50, eo50, gb50, gl50, cl50, HG50⟩ := Kd.R_form HO_10.out (by omega)
                (first | cases eo50 | (injection eo50 with ea_ en_ ec_; (first | subst ea_ | (injection ea_ with ea_; subst ea_)); subst ec_; clear en_))
                have GB50 := Aside0.mk gb50
                have GG50 := Aside0.mk HG50
                clear gb50 gl50 HG50
                have HMgo50 := Aside0.mk (show ((P2_ go50 ∨ P3_ go50) ∨ w.heap.size ≤ go50) from (HO_10.out.1 _ rfl).1)
                (first | simp only [add_plain] at hx500_0 | skip)
                (first | simp only [add_plain] at hx505_0 | skip)
                (first | simp only [add_plain] at hx506_0 | skip)
                obtain ⟨hx50_0, hf50_0⟩ := Kd.R_celln 0 HO_10.out (x69_5 : Int) p50 q50
                replace p50 := eq_true p50
                replace q50 := eq_true q50
                have HP55 := Kd.R_putn HO_10.out (x69_5 : Int) (wrap64 ((wrap64 ((rd x10_5 x52_3) - (rd (rd_L3 l1 (rd l3 x52_3)) x52_3))) + (rd (rd_L3 l1 (rd l3 x52_3)) x69_5)))
                rw [← Ny511.out] at HP55
                have HQ55 := Aside0.mk HP55
                clear HP55
                have p52 : 0 ≤ (x69_5 : Int) := of_decide_eq_true (by first | (with_reducible assumption) | assumption)
                have q52 : (x69_5 : Int) < ((x11_5.length : Int) : Int) := of_decide_eq_true (by first | (with_reducible assumption) | assumption)
                obtain ⟨go52, co52, eo52, gb52, gl52, cl52, HG52⟩ := Kd.R_form HO_11.out (by omega)
                (first | cases eo52 | (injection eo52 with ea_ en_ ec_; (first | subst ea_ | (injection ea_ with ea_; subst ea_)); subst ec_; clear en_))
                have GB52 := Aside0.mk gb52
                have GG52 := Aside0.mk HG52
                clear gb52 gl52 HG52
                have HMgo52 := Aside0.mk (show ((P2_ go52 ∨ P3_ go52) ∨ w.heap.size ≤ go52) from (HO_11.out.1 _ rfl).1)
                obtain ⟨hx52_0, hf52_0⟩ := Kd.R_celln 0 (Kd.R_far (p := ⟨go50, (x69_5 : Int).toNat, none⟩) (Kd.R_mono HO_11.out (fun k_ hk => (⟨hk, fun e_ => hk.2.2.2 (by rw [e_]; rfl)⟩ : _ ∧ k_ ≠ go50))) (fun _ hk => hk.2) (.int .i64 (wrap64 ((wrap64 ((rd x10_5 x52_3) - (rd (rd_L3 l1 (rd l3 x52_3)) x52_3))) + (rd (rd_L3 l1 (rd l3 x52_3)) x69_5))))) (x69_5 : Int) p52 q52
                replace p52 := eq_true p52
                replace q52 := eq_true q52
                have HP56 := Kd.R_putn (Kd.R_far (p := ⟨go50, (x69_5 : Int).toNat, none⟩) (Kd.R_mono HO_11.out (fun k_ hk => (⟨hk, fun e_ => hk.2.2.2 (by rw [e_]; rfl)⟩ : _ ∧ k_ ≠ go50))) (fun _ hk => hk.2) (.int .i64 (wrap64 ((wrap64 ((rd x10_5 x52_3) - (rd (rd_L3 l1 (rd l3 x52_3)) x52_3))) + (rd (rd_L3 l1 (rd l3 x52_3)) x69_5))))) (x69_5 : Int) (rd l3 x52_3)
                rw [← Ny512.out] at HP56
                have HQ56 := Aside0.mk HP56
                clear HP56
                refine start_ (n := 30) (S := fun w' => w'.cell? ⟨go50, (x52_3).toNat, none⟩ = some (.int .i64 (rd x10_5 x52_3)) ∧ w'.cell? (ad498.add ((rd l3 x52_3)).toNat) = some (.slice (some ad508) (rd_L3 l1 (rd l3 x52_3)).length c507_0) ∧ w'.cell? (ad508.add (x52_3).toNat) = some (.int .i64 (rd (rd_L3 l1 (rd l3 x52_3)) x52_3)) ∧ w'.cell? (ad498.add ((rd l3 x52_3)).toNat) = some (.slice (some ad508) (rd_L3 l1 (rd l3 x52_3)).length c507_0) ∧ w'.cell? (ad508.add (x69_5).toNat) = some (.int .i64 (rd (rd_L3 l1 (rd l3 x52_3)) x69_5))) (ds := [26, 28]) (msk 30 0) (by kernel_rfl) rfl rfl ⟨hx506_0, hx507_0, hx508_0, hx509_0, hx510_0⟩ (fun hHeld => ?_); refine with_tabW match_augment.tab20 match_augment.bits20 (fun HT_ HW_ => ?_)
                generalize w53.drew = w54 at HO_2 HO_3 HO_10 HO_11 HR498_0 HR501_0 HR503_0 HK HB GG50 GG52 HQ55 HQ56 HR507_0 HR509_0 hf50_0 hf52_0 hx500_0 hx505_0 hx506_0 hx507_0 hx508_0 hx509_0 hx50_0 hx510_0 hx52_0 hHeld ⊢
                refine pu_ 0 112 (msk 30 1) HT_.out ?_ ?_ ?_ ?_ ?_
                rotate_left
                · intro w'; go_simp; with_reducible rfl
                rotate_left
                · simp only [Act.put, sq, i64_w, i32_w]; rfl
                refine pu_ 1 113 (msk 30 3) HT_.out ?_ ?_ ?_ ?_ ?_
                rotate_left
                · intro w'; go_simp; with_reducible rfl
                rotate_left
                · simp only [Act.put, sq, i64_w, i32_w]; rfl
                refine pu_ 2 114 (msk 30 7) HT_.out ?_ ?_ ?_ ?_ ?_
                rotate_left
                · intro w'; go_simp; with_reducible rfl
                rotate_left
                · simp only [Act.put, sq, i64_w, i32_w]; rfl
                refine pu_ 3 115 (msk 30 15) HT_.out ?_ ?_ ?_ ?_ ?_
                rotate_left
                · intro w'; go_simp; with_reducible rfl
                rotate_left
                · simp only [Act.put, sq, i64_w, i32_w]; rfl
                refine pu_ 4 116 (msk 30 31) HT_.out ?_ ?_ ?_ ?_ ?_
                rotate_left
                · intro w'; go_simp; with_reducible rfl
                rotate_left
                · simp only [Act.put, sq, i64_w, i32_w]; rfl
                refine pu_ 5 117 (msk 30 63) HT_.out ?_ ?_ ?_ ?_ ?_
                rotate_left
                · intro w'; go_simp; with_reducible rfl
                rotate_left
                · simp only [Act.put, sq, i64_w, i32_w]; rfl
                refine pu_ 6 118 (msk 30 127) HT_.out ?_ ?_ ?_ ?_ ?_
                rotate_left
                · intro w'; go_simp; with_reducible rfl
                rotate_left
                · simp only [Act.put, sq, i64_w, i32_w]; rfl
                refine pu_ 8 120 (msk 30 383) HT_.out ?_ ?_ ?_ ?_ ?_
                rotate_left
                · intro w'; go_simp; with_reducible rfl
                rotate_left
                · simp only [Act.put, sq, i64_w, i32_w]; rfl
                refine pu_ 9 121 (msk 30 895) HT_.out ?_ ?_ ?_ ?_ ?_
                rotate_left
                · intro w'; go_simp; with_reducible rfl
                rotate_left
                · simp only [Act.put, sq, i64_w, i32_w]; rfl
                refine pu_ 10 122 (msk 30 1919) HT_.out ?_ ?_ ?_ ?_ ?_
                rotate_left
                · intro w'; go_simp; with_reducible rfl
                rotate_left
                · simp only [Act.put, sq, i64_w, i32_w]; rfl
                refine pu_ 12 124 (msk 30 6015) HT_.out ?_ ?_ ?_ ?_ ?_
                rotate_left
                · intro w'; go_simp; with_reducible rfl
                rotate_left
                · simp only [Act.put, sq, i64_w, i32_w]; rfl
                refine pu_ 16 128 (msk 30 71551) HT_.out ?_ ?_ ?_ ?_ ?_
                rotate_left
                · intro w'; go_simp; with_reducible rfl
                rotate_left
                · simp only [Act.put, sq, i64_w, i32_w]; rfl
                refine pu_ 17 129 (msk 30 202623) HT_.out ?_ ?_ ?_ ?_ ?_
                rotate_left
                · intro w'; go_simp; with_reducible rfl
                rotate_left
                · simp only [Act.put, sq, i64_w, i32_w]; rfl
                refine pu_ 18 130 (msk 30 464767) HT_.out ?_ ?_ ?_ ?_ ?_
                rotate_left
                · intro w'; go_simp; with_reducible rfl
                rotate_left
                · simp only [Act.put, sq, i64_w, i32_w]; rfl
                refine pu_ 20 132 (msk 30 1513343) HT_.out ?_ ?_ ?_ ?_ ?_
                rotate_left
                · intro w'; go_simp; with_reducible rfl
                rotate_left
                · simp only [Act.put, sq, i64_w, i32_w]; rfl
                refine pu_ 24 136 (msk 30 18290559) HT_.out ?_ ?_ ?_ ?_ ?_
                rotate_left
                · intro w'; go_simp; with_reducible rfl
                rotate_left
                · simp only [Act.put, sq, i64_w, i32_w]; rfl
                refine tk_ 7 119 (msk 30 18290687) HT_.out HW_.out hHeld ?_ ?_ ?_ ?_ ?_
                rotate_left
                · rintro w' ⟨s0, s1, s2, s3, s4⟩; go_simp; with_reducible rfl
                rotate_left
                · simp only [Act.put, sq, i64_w, i32_w]; rfl
                refine tk_ 11 123 (msk 30 18292735) HT_.out HW_.out hHeld ?_ ?_ ?_ ?_ ?_
                rotate_left
                · rintro w' ⟨s0, s1, s2, s3, s4⟩; go_simp; with_reducible rfl
                rotate_left
                · simp only [Act.put, sq, i64_w, i32_w]; rfl
                refine pu_ 13 125 (msk 30 18300927) HT_.out ?_ ?_ ?_ ?_ ?_
                rotate_left
                · intro w'; go_simp; with_reducible rfl
                rotate_left
                · simp only [Act.put, sq, i64_w, i32_w]; rfl
                refine tk_ 14 126 (msk 30 18317311) HT_.out HW_.out hHeld ?_ ?_ ?_ ?_ ?_
                rotate_left
                · rintro w' ⟨s0, s1, s2, s3, s4⟩; go_simp; with_reducible rfl
                rotate_left
                · simp only [Act.put, sq, i64_w, i32_w]; rfl
                refine pu_ 15 127 (msk 30 18350079) HT_.out ?_ ?_ ?_ ?_ ?_
                rotate_left
                · intro w'; go_simp; with_reducible rfl
                rotate_left
                · simp only [Act.put, sq, i64_w, i32_w]; rfl
                refine tk_ 19 131 (msk 30 18874367) HT_.out HW_.out hHeld ?_ ?_ ?_ ?_ ?_
                rotate_left
                · rintro w' ⟨s0, s1, s2, s3, s4⟩; go_simp; with_reducible rfl
                rotate_left
                · simp only [Act.put, sq, i64_w, i32_w]; rfl
                refine pu_ 21 133 (msk 30 20971519) HT_.out ?_ ?_ ?_ ?_ ?_
                rotate_left
                · intro w'; go_simp; with_reducible rfl
                rotate_left
                · simp only [Act.put, sq, i64_w, i32_w]; rfl
                refine tk_ 22 134 (msk 30 25165823) HT_.out HW_.out hHeld ?_ ?_ ?_ ?_ ?_
                rotate_left
                · rintro w' ⟨s0, s1, s2, s3, s4⟩; go_simp; with_reducible rfl
                rotate_left
                · simp only [Act.put, sq, i64_w, i32_w]; rfl
                refine pu_ 23 135 (msk 30 33554431) HT_.out ?_ ?_ ?_ ?_ ?_
                rotate_left
                · intro w'; go_simp; with_reducible rfl
                rotate_left
                · simp only [Act.put, sq, i64_w, i32_w]; rfl
                refine pu_ 25 137 (msk 30 67108863) HT_.out ?_ ?_ ?_ ?_ ?_
                rotate_left
                · intro w'; go_simp; with_reducible rfl
                rotate_left
                · simp only [Act.put, sq, i64_w, i32_w]; rfl
                refine last_ (i := 26) (N := none) (msk 30 134217727) rfl rfl (one_of HT_.out (by kernel_rfl)) (by decide) (fun K hK => ?_)
                refine skip_ (w1 := ?_) (by rfl) rfl ?_ ?_
                rotate_left
                · go_simp
                  rfl
                refine hK.out _ _ ?_
                clear hK K
                refine pu_ 27 138 (msk 30 268435455) HT_.out ?_ ?_ ?_ ?_ ?_
                rotate_left
                · intro w'; go_simp; with_reducible rfl
                rotate_left
                · simp only [Act.put, sq, i64_w, i32_w]; rfl
                refine last_ (i := 28) (N := none) (msk 30 536870911) rfl rfl (one_of HT_.out (by kernel_rfl)) (by decide) (fun K hK => ?_)
                refine skip_ (w1 := ?_) (by rfl) rfl ?_ ?_
                rotate_left
                · go_simp
                  rfl
                refine hK.out _ _ ?_
                clear hK K
                refine pu_ 29 13 (msk 30 1073741823) HT_.out ?_ ?_ ?_ ?_ ?_
                rotate_left
                · intro w'; go_simp; with_reducible rfl
                rotate_left
                · simp only [Act.put, sq, i64_w, i32_w]; rfl
                refine done_ (done_of HT_.out (by kernel_rfl)) ?_
                try go_wp2
                (try simp only [← hl10_5])
                (first | go_roundg k5 | (refine Handed.intro k5 ?measure ?_; rotate_left; go_step; (repeat apply Exists.intro); (refine ⟨?rel, ?fr_⟩); (case fr_ => (simp only [add_plain]; rfl))))
                case measure => have := HK1.out; have := HK2.out; have := HK3.out; have := HJ31.out; have := HK5.out; omega
                case rel => exact ⟨(y511), (y512), (true), (wrap64 (x69_5 + 1)), (by first | rfl | (simp; done) | (simp [*]; done)), (by first | rfl | (simp; done) | (simp [*]; done)), H', ⟨by have := HK1.out; have := HK2.out; have := HK3.out; have := HJ31.out; have := HK5.out; omega⟩, ⟨by (try simp only [hl10_1]); (try simp only [hl10_2]); (try simp only [hl10_3]); (try simp only [hl10_5]); (with_reducible repeat (first | apply Kd.R_alloc | apply Kd.R_drewN | apply Kd.R_drew)); exact Kd.R_mono (Kd.R_far (p := ⟨go52, (x69_5 : Int).toNat, none⟩) (Kd.R_far (p := ⟨go50, (x69_5 : Int).toNat, none⟩) (Kd.R_mono (Kd.R_mono HO_2.out (fun k_ hk => (⟨hk, fun e_ => hk.2.2.1 (by rw [e_]; rfl)⟩ : _ ∧ k_ ≠ go50))) (fun k_ hk => (⟨hk, fun e_ => hk.1.2.2.2 (by rw [e_]; rfl)⟩ : _ ∧ k_ ≠ go52))) (fun _ hk => hk.1.2) (.int .i64 (wrap64 ((wrap64 ((rd x10_5 x52_3) - (rd (rd_L3 l1 (rd l3 x52_3)) x52_3))) + (rd (rd_L3 l1 (rd l3 x52_3)) x69_5))))) (fun _ hk => hk.2) (.int .i64 (rd l3 x52_3))) (fun _ hk => ⟨hk.1.1.1, ⟨hk.1.1.2.1, ⟨hk.1.1.2.2.1, hk.1.1.2.2.2⟩⟩⟩)⟩, ⟨by (try simp only [hl10_1]); (try simp only [hl10_2]); (try simp only [hl10_3]); (try simp only [hl10_5]); (with_reducible repeat (first | apply Kd.R_alloc | apply Kd.R_drewN | apply Kd.R_drew)); exact Kd.R_mono (Kd.R_far (p := ⟨go52, (x69_5 : Int).toNat, none⟩) (Kd.R_far (p := ⟨go50, (x69_5 : Int).toNat, none⟩) (Kd.R_mono (Kd.R_mono HO_3.out (fun k_ hk => (⟨hk, fun e_ => hk.2.2.1 (by rw [e_]; rfl)⟩ : _ ∧ k_ ≠ go50))) (fun k_ hk => (⟨hk, fun e_ => hk.1.2.2.2 (by rw [e_]; rfl)⟩ : _ ∧ k_ ≠ go52))) (fun _ hk => hk.1.2) (.int .i64 (wrap64 ((wrap64 ((rd x10_5 x52_3) - (rd (rd_L3 l1 (rd l3 x52_3)) x52_3))) + (rd (rd_L3 l1 (rd l3 x52_3)) x69_5))))) (fun _ hk => hk.2) (.int .i64 (rd l3 x52_3))) (fun _ hk => ⟨hk.1.1.1, ⟨hk.1.1.2.1, ⟨hk.1.1.2.2.1, hk.1.1.2.2.2⟩⟩⟩)⟩, ⟨by (try simp only [hl10_1]); (try simp only [hl10_2]); (try simp only [hl10_3]); (try simp only [hl10_5]); (with_reducible repeat (first | apply Kd.R_alloc | apply Kd.R_drewN | apply Kd.R_drew)); exact Kd.R_mono (Kd.R_far (p := ⟨go52, (x69_5 : Int).toNat, none⟩) (Kd.R_mono HQ55.out (fun k_ hk => (⟨hk, fun e_ => hk.2.2.2 (by rw [e_]; rfl)⟩ : _ ∧ k_ ≠ go52))) (fun _ hk => hk.2) (.int .i64 (rd l3 x52_3))) (fun _ hk => ⟨hk.1.1, ⟨hk.1.2.1, ⟨hk.1.2.2.1, hk.1.2.2.2⟩⟩⟩)⟩, ⟨by (try simp only [hl10_1]); (try simp only [hl10_2]); (try simp only [hl10_3]); (try simp only [hl10_5]); (with_reducible repeat (first | apply Kd.R_alloc | apply Kd.R_drewN | apply Kd.R_drew)); exact Kd.R_mono HQ56.out (fun _ hk => ⟨hk.1.1, ⟨hk.1.2.1, ⟨hk.1.2.2.1, hk.1.2.2.2⟩⟩⟩)⟩, ⟨by repeat (first | (with_reducible first | exact HK.out | apply Kept.alloc | apply Kept.drewN | apply Kept.drew | refine Kept.setCell ?_ HMgo50.out _ | refine Kept.setCell ?_ HMgo52.out _) | exact HK.out)⟩, ⟨by repeat (first | (with_reducible first | exact HB.out | apply below_alloc | apply pw_below_drewN | apply below_drew1 | refine below_set ?_ GB50.out | refine below_set ?_ GB52.out) | exact HB.out)⟩⟩
    case rest =>
     clear HC27
     try clear c2
     try clear p2
     try clear c3
     try clear c4
     try clear p4
     try clear q4
     try clear hx4
     try clear c5
     try clear p6
     try clear c28
     try clear c28b0
     try clear c29
     try clear c29b0
     try clear c30
     try clear c31
     try clear c37
     try clear c37b0
     try clear c38
     try clear c39
     try clear c40
     try clear c41
     try clear c42
     try clear c42b0
     try clear c45
     try clear c46
     try clear c47
     try clear c48
     try clear c49
     try clear p49
     try clear q49
     try clear hx49
     try clear c59
     try clear hx498_0
     try clear hx499_0
     try clear p498
     try clear p499
     try clear q498
     try clear q499
     obtain ⟨kq, x10_26, x11_26, HA, HJ26, HO_2, HO_3, HO_10, HO_11, HK, HB⟩ := hcut
     have hl10_26 := (Kd.R_reads' HO_10.out).1
     rw [hl10_26] at HO_10
     (try simp only [hl10_26])
     (try simp only [hl10_26] at HO_2)
     (try simp only [hl10_26] at HO_3)
     (try simp only [hl10_26] at HO_11)
     cases kq with
     | zero => exact absurd HA.out (by simp [match_augment.j5])
     | succ kj26 =>
      have H := HA.out
      clear HA
      simp only [match_augment.j5] at H
      have H' := Aside0.mk H
      clear H
      go_wp2
      go_loopg [17, 145] kj26 (fun kq v17 v145 w' => ∃ (x17_3 : Int) (x145_3 : Int), v17 = .int .i64 x17_3 ∧ v145 = .int .i64 x145_3 ∧ Aside0 (match_augment.l4 kq a0 l2 l3 x10_26 x11_26 x17_3 (l1.length : Int) x145_3 = some (r1, r2, r3)) ∧ Aside0 (kq ≤ kj26) ∧ Aside0 (Kd.R (Kd.int .i64) 3 w' w0.heap.size (fun k_ => ((P2_ k_ ∨ P3_ k_) ∨ w.heap.size ≤ k_) ∧ some k_ ≠ (u9001_ : Value).ownBlock ∧ some k_ ≠ ((.slice Ao13 x10_26.length co13) : Value).ownBlock ∧ some k_ ≠ (v490 : Value).ownBlock) u9000_ l2) ∧ Aside0 (Kd.R (Kd.int .i64) 3 w' w0.heap.size (fun k_ => ((P2_ k_ ∨ P3_ k_) ∨ w.heap.size ≤ k_) ∧ some k_ ≠ (u9000_ : Value).ownBlock ∧ some k_ ≠ ((.slice Ao13 x10_26.length co13) : Value).ownBlock ∧ some k_ ≠ (v490 : Value).ownBlock) u9001_ l3) ∧ Aside0 (Kd.R (Kd.int .i64) 3 w' w0.heap.size (fun k_ => ((P2_ k_ ∨ P3_ k_) ∨ w.heap.size ≤ k_) ∧ some k_ ≠ (u9000_ : Value).ownBlock ∧ some k_ ≠ (u9001_ : Value).ownBlock ∧ some k_ ≠ (v490 : Value).ownBlock) (.slice Ao13 x10_26.length co13) x10_26) ∧ Aside0 (Kd.R (Kd.int .i64) 3 w' w0.heap.size (fun k_ => ((P2_ k_ ∨ P3_ k_) ∨ w.heap.size ≤ k_) ∧ some k_ ≠ (u9000_ : Value).ownBlock ∧ some k_ ≠ (u9001_ : Value).ownBlock ∧ some k_ ≠ ((.slice Ao13 x10_26.length co13) : Value).ownBlock) v490 x11_26) ∧ Aside0 (Kept w w' (fun k_ => P2_ k_ ∨ P3_ k_)) ∧ Aside0 (Below w0.heap.size w0 w'))
      case atStart => exact ⟨((-1)), (0), (by first | rfl | (simp; done) | (simp [*]; done)), (by first | rfl | (simp; done) | (simp [*]; done)), H', ⟨Nat.le_refl _⟩, ⟨by (try simp only [hl10_1]); (try simp only [hl10_26]); (with_reducible repeat (first | apply Kd.R_alloc | apply Kd.R_drewN | apply Kd.R_drew)); exact HO_2.out⟩, ⟨by (try simp only [hl10_1]); (try simp only [hl10_26]); (with_reducible repeat (first | apply Kd.R_alloc | apply Kd.R_drewN | apply Kd.R_drew)); exact HO_3.out⟩, ⟨by (try simp only [hl10_1]); (try simp only [hl10_26]); (with_reducible repeat (first | apply Kd.R_alloc | apply Kd.R_drewN | apply Kd.R_drew)); exact HO_10.out⟩, ⟨by (try simp only [hl10_1]); (try simp only [hl10_26]); (with_reducible repeat (first | apply Kd.R_alloc | apply Kd.R_drewN | apply Kd.R_drew)); exact HO_11.out⟩, ⟨by repeat (first | (with_reducible first | exact HK.out | apply Kept.alloc | apply Kept.drewN | apply Kept.drew) | exact HK.out)⟩, ⟨by repeat (first | (with_reducible first | exact HB.out | apply below_alloc | apply pw_below_drewN | apply below_drew1) | exact HB.out)⟩⟩
      case round =>
       as_aux_lemma =>
        clear H'
        try clear c2
        try clear p2
        try clear c3
        try clear c4
        try clear p4
        try clear q4
        try clear hx4
        try clear c5
        try clear p6
        try clear c28
        try clear c28b0
        try clear c29
        try clear c29b0
        try clear c30
        try clear c31
        try clear c37
        try clear c37b0
        try clear c38
        try clear c39
        try clear c40
        try clear c41
        try clear c42
        try clear c42b0
        try clear c45
        try clear c46
        try clear c47
        try clear c48
        try clear c49
        try clear p49
        try clear q49
        try clear hx49
        try clear c59
        try clear hx498_0
        try clear hx499_0
        try clear p2
        try clear p4
        try clear p49
        try clear p498
        try clear p499
        try clear p6
        try clear q4
        try clear q49
        try clear q498
        try clear q499
        obtain ⟨x17_3, x145_3, rfl, rfl, HA, HK3, HO_2, HO_3, HO_10, HO_11, HK, HB⟩ := hrel
        cases gk with
        | zero => exact absurd HA.out (by simp [match_augment.l4])
        | succ k3 =>
         have H := HA.out
         clear HA
         simp only [match_augment.l4] at H
         by_cases c60 : x145_3 < (l1.length : Int)
         case neg =>
          rw [if_neg c60] at H
          have c60b0 : decide (x145_3 < (l1.length : Int)) = false := decide_eq_false c60
          clear c60
          (try (have c60b0r := c60b0; simp only [hl10_1, hl10_26] at c60b0r))
          by_cases c80 : x17_3 < 0
          case pos =>
           rw [if_pos c80] at H
           have c80b0 : decide (x17_3 < 0) = true := decide_eq_true c80
           clear c80
           (try (have c80b0r := c80b0; simp only [hl10_1, hl10_26] at c80b0r))
           simp only [Option.some.injEq, Prod.mk.injEq] at H
           obtain ⟨rfl, rfl, rfl⟩ := H
           go_wp2
           go_ret
           exact ⟨by first | rfl | (simp [errW_none, errW_some] <;> rfl) | (simp [*, errW_none, errW_some] <;> rfl), (by first | exact (by (with_reducible repeat (first | apply Kd.R_alloc | apply Kd.R_drewN | apply Kd.R_drew)); exact Kd.R_mono HO_2.out (fun _ hk => hk.1)) | (simp only [hl10_1, hl10_26]; exact (by (with_reducible repeat (first | apply Kd.R_alloc | apply Kd.R_drewN | apply Kd.R_drew)); exact Kd.R_mono HO_2.out (fun _ hk => hk.1)))), (by first | exact (by (with_reducible repeat (first | apply Kd.R_alloc | apply Kd.R_drewN | apply Kd.R_drew)); exact Kd.R_mono HO_3.out (fun _ hk => hk.1)) | (simp only [hl10_1, hl10_26]; exact (by (with_reducible repeat (first | apply Kd.R_alloc | apply Kd.R_drewN | apply Kd.R_drew)); exact Kd.R_mono HO_3.out (fun _ hk => hk.1)))), by repeat (first | (with_reducible first | exact HB.out | apply below_alloc | apply pw_below_drewN | apply below_drew1) | exact HB.out), by repeat (first | (with_reducible first | exact HK.out | apply Kept.alloc | apply Kept.drewN | apply Kept.drew) | exact HK.out)⟩
          rw [if_neg c80] at H
          have c80b0 : decide (x17_3 < 0) = false := decide_eq_false c80
          clear c80
          (try (have c80b0r := c80b0; simp only [hl10_1, hl10_26] at c80b0r))
          have H' := Aside0.mk H
          clear H
          go_wp2
          go_loopg [19] k3 (fun kq v19 w' => ∃ (x2_4 : List Int) (x3_4 : List Int) (x19_4 : Int), v19 = .int .i64 x19_4 ∧ Aside0 (match_augment.l5 kq a0 x2_4 x3_4 x11_26 x19_4 = some (r1, r2, r3)) ∧ Aside0 (kq ≤ k3) ∧ Aside0 (Kd.R (Kd.int .i64) 3 w' w0.heap.size (fun k_ => ((P2_ k_ ∨ P3_ k_) ∨ w.heap.size ≤ k_) ∧ some k_ ≠ (u9001_ : Value).ownBlock ∧ some k_ ≠ (v490 : Value).ownBlock) u9000_ x2_4) ∧ Aside0 (Kd.R (Kd.int .i64) 3 w' w0.heap.size (fun k_ => ((P2_ k_ ∨ P3_ k_) ∨ w.heap.size ≤ k_) ∧ some k_ ≠ (u9000_ : Value).ownBlock ∧ some k_ ≠ (v490 : Value).ownBlock) u9001_ x3_4) ∧ Aside0 (Kd.R (Kd.int .i64) 3 w' w0.heap.size (fun k_ => ((P2_ k_ ∨ P3_ k_) ∨ w.heap.size ≤ k_) ∧ some k_ ≠ (u9000_ : Value).ownBlock ∧ some k_ ≠ (u9001_ : Value).ownBlock) v490 x11_26) ∧ Aside0 (Kept w w' (fun k_ => P2_ k_ ∨ P3_ k_)) ∧ Aside0 (Below w0.heap.size w0 w'))
          case atStart => exact ⟨(l2), (l3), (x17_3), (by first | rfl | (simp; done) | (simp [*]; done)), H', ⟨Nat.le_refl _⟩, ⟨by (try simp only [hl10_1]); (try simp only [hl10_26]); (with_reducible repeat (first | apply Kd.R_alloc | apply Kd.R_drewN | apply Kd.R_drew)); exact Kd.R_mono HO_2.out (fun _ hk => ⟨hk.1, ⟨hk.2.1, hk.2.2.2⟩⟩)⟩, ⟨by (try simp only [hl10_1]); (try simp only [hl10_26]); (with_reducible repeat (first | apply Kd.R_alloc | apply Kd.R_drewN | apply Kd.R_drew)); exact Kd.R_mono HO_3.out (fun _ hk => ⟨hk.1, ⟨hk.2.1, hk.2.2.2⟩⟩)⟩, ⟨by (try simp only [hl10_1]); (try simp only [hl10_26]); (with_reducible repeat (first | apply Kd.R_alloc | apply Kd.R_drewN | apply Kd.R_drew)); exact Kd.R_mono HO_11.out (fun _ hk => ⟨hk.1, ⟨hk.2.1, hk.2.2.1⟩⟩)⟩, ⟨by repeat (first | (with_reducible first | exact HK.out | apply Kept.alloc | apply Kept.drewN | apply Kept.drew) | exact HK.out)⟩, ⟨by repeat (first | (with_reducible first | exact HB.out | apply below_alloc | apply pw_below_drewN | apply below_drew1) | exact HB.out)⟩⟩
          case round =>
           as_aux_lemma =>
            clear H'
            try clear p2
            try clear p5
            try clear q5
            try clear hx5
            try clear c6
            try clear p6
            try clear c7
            try clear c8
            try clear p51
            try clear q51
            try clear hx51
            try clear c60
            try clear c60b0
            try clear c61
            try clear c62
            try clear c63
            try clear c63b0
            try clear c64
            try clear p64
            try clear c65
            try clear c65b0
            try clear c69
            try clear c70
            try clear c80
            try clear c80b0
            try clear hx513_0
            try clear hx514_0
            try clear p513
            try clear p514
            try clear q513
            try clear q514
            obtain ⟨x2_4, x3_4, x19_4, rfl, HA, HK4, HO_2, HO_3, HO_11, HK, HB⟩ := hrel
            cases gk with
            | zero => exact absurd HA.out (by simp [match_augment.l5])
            | succ k4 =>
             have H := HA.out
             clear HA
             simp only [match_augment.l5] at H
             by_cases c81 : 0 ≤ x19_4
             case neg => rw [if_neg c81] at H; exact absurd H (by simp)
             rw [if_pos c81] at H
             have c81b0 : decide (0 ≤ x19_4) = true := decide_eq_true c81
             clear c81
             (try (have c81b0r := c81b0; simp only [hl10_1, hl10_26] at c81b0r))
             by_cases c82 : x19_4 < (x11_26.length : Int)
             case neg => rw [if_neg c82] at H; exact absurd H (by simp)
             rw [if_pos c82] at H
             have c82b0 : decide (x19_4 < (x11_26.length : Int)) = true := decide_eq_true c82
             clear c82
             (try (have c82b0r := c82b0; simp only [hl10_1, hl10_26] at c82b0r))
             by_cases c83 : 0 ≤ (rd x11_26 x19_4)
             case neg => rw [if_neg c83] at H; exact absurd H (by simp)
             rw [if_pos c83] at H
             have c83b0 : decide (0 ≤ (rd x11_26 x19_4)) = true := decide_eq_true c83
             clear c83
             (try (have c83b0r := c83b0; simp only [hl10_1, hl10_26] at c83b0r))
             by_cases c84 : (rd x11_26 x19_4) < (x2_4.length : Int)
             case neg => rw [if_neg c84] at H; exact absurd H (by simp)
             rw [if_pos c84] at H
             have c84b0 : decide ((rd x11_26 x19_4) < (x2_4.length : Int)) = true := decide_eq_true c84
             clear c84
             (try (have c84b0r := c84b0; simp only [hl10_1, hl10_26] at c84b0r))
             obtain ⟨y519, hy519⟩ : ∃ y_ : List Int, y_ = (x2_4.set ((rd x11_26 x19_4) : Int).toNat x19_4) := ⟨_, rfl⟩
             replace H : (if x19_4 < (x3_4.length : Int) then ((some (x3_4.set (x19_4 : Int).toNat (rd x11_26 x19_4) : List Int)).bind fun y520 => (if (rd x11_26 x19_4) = a0 then (some (true, y519, y520)) else (match_augment.l5 k4 a0 y519 y520 x11_26 (rd x2_4 (rd x11_26 x19_4))))) else (none)) = some (r1, r2, r3) := by first | (rw [hy519]; with_reducible exact H) | (have H2_ := (Option.bind_some _ _).symm.trans H; rw [hy519]; with_reducible exact H2_) | (have H2_ := (Option.bind_some _ _).symm.trans H; with_reducible exact H2_) | with_reducible exact H | (rw [hy519]; exact H) | exact H
             have Ny519 := Aside0.mk hy519
             clear hy519
             by_cases c86 : x19_4 < (x3_4.length : Int)
             case neg => rw [if_neg c86] at H; exact absurd H (by simp)
             rw [if_pos c86] at H
             have c86b0 : decide (x19_4 < (x3_4.length : Int)) = true := decide_eq_true c86
             clear c86
             (try (have c86b0r := c86b0; simp only [hl10_1, hl10_26] at c86b0r))
             obtain ⟨y520, hy520⟩ : ∃ y_ : List Int, y_ = (x3_4.set (x19_4 : Int).toNat (rd x11_26 x19_4)) := ⟨_, rfl⟩
             replace H : (if (rd x11_26 x19_4) = a0 then (some (true, y519, y520)) else (match_augment.l5 k4 a0 y519 y520 x11_26 (rd x2_4 (rd x11_26 x19_4)))) = some (r1, r2, r3) := by first | (rw [hy520]; with_reducible exact H) | (have H2_ := (Option.bind_some _ _).symm.trans H; rw [hy520]; with_reducible exact H2_) | (have H2_ := (Option.bind_some _ _).symm.trans H; with_reducible exact H2_) | with_reducible exact H | (rw [hy520]; exact H) | exact H
             have Ny520 := Aside0.mk hy520
             clear hy520
             by_cases c88 : (rd x11_26 x19_4) = a0
             case pos =>
              rw [if_pos c88] at H
              have c88b0 : ((rd x11_26 x19_4) == a0) = true := beq_iff_eq.mpr c88
              have c88b1 : ((rd x11_26 x19_4) != a0) = false := bne_eq_false_iff_eq.mpr c88
              clear c88
              (try (have c88b0r := c88b0; simp only [hl10_1, hl10_26] at c88b0r))
              (try (have c88b1r := c88b1; simp only [hl10_1, hl10_26] at c88b1r))
              simp only [Option.some.injEq, Prod.mk.injEq] at H
              obtain ⟨rfl, rfl, rfl⟩ := H
              obtain ⟨Ao89, co89, eo89⟩ := Kd.R_slice HO_11.out
              subst eo89
              have p517 : 0 ≤ (x19_4 : Int) := of_decide_eq_true (by first | (with_reducible assumption) | assumption)
              have q517 : x19_4 < (x11_26.length : Int) := of_decide_eq_true (by first | (with_reducible assumption) | assumption)
              obtain ⟨ad517, e517, hx517_0⟩ := Kd.at_int (Kd.R_reads' HO_11.out).2.2 x19_4 p517 q517
              cases e517
              replace p517 := eq_true p517
              replace q517 := eq_true q517
              obtain ⟨Ao90, co90, eo90⟩ := Kd.R_slice HO_2.out
              subst eo90
              have p518 : 0 ≤ ((rd x11_26 x19_4) : Int) := of_decide_eq_true (by first | (with_reducible assumption) | assumption)
              have q518 : (rd x11_26 x19_4) < (x2_4.length : Int) := of_decide_eq_true (by first | (with_reducible assumption) | assumption)
              obtain ⟨ad518, e518, hx518_0⟩ := Kd.at_int (Kd.R_reads' HO_2.out).2.2 (rd x11_26 x19_4) p518 q518
              cases e518
              replace p518 := eq_true p518
              replace q518 := eq_true q518
              have p85 : 0 ≤ ((rd x11_26 x19_4) : Int) := of_decide_eq_true (by first | (with_reducible assumption) | assumption)
              have q85 : ((rd x11_26 x19_4) : Int) < ((x2_4.length : Int) : Int) := of_decide_eq_true (by first | (with_reducible assumption) | assumption)
              obtain ⟨go85, co85, eo85, gb85, gl85, cl85, HG85⟩ := Kd.R_form HO_2.out (by omega)
              (first | cases eo85 | (injection eo85 with ea_ en_ ec_; (first | subst ea_ | (injection ea_ with ea_; subst ea_)); subst ec_; clear en_))
              have GB85 := Aside0.mk gb85
              have GG85 := Aside0.mk HG85
              clear gb85 gl85 HG85
              have HMgo85 := Aside0.mk (show ((P2_ go85 ∨ P3_ go85) ∨ w.heap.size ≤ go85) from (HO_2.out.1 _ rfl).1)
              (first | simp only [add_plain] at hx518_0 | skip)
              obtain ⟨hx85_0, hf85_0⟩ := Kd.R_celln 0 HO_2.out ((rd x11_26 x19_4) : Int) p85 q85
              replace p85 := eq_true p85
              replace q85 := eq_true q85
              have HP91 := Kd.R_putg HO_2.out ((rd x11_26 x19_4) : Int) x19_4
              go_wp2_with (first | ((with_reducible refine gate_store (t := 3) (p := 194) rfl ?_); refine store_event (t := 3) (p := 194) (v := ?vo_w92) (w1 := (wr.setCell ⟨go85, ((rd x11_26 x19_4) : Int).toNat, none⟩ (.int .i64 x19_4))) ?hg ?ho ?hn ?hr ?_; (case ho => rfl); (case hg => rfl); (case hn => rfl); (case hr => first | (go_simp; done) | (go_simp; rfl)); intro w92 hw; have hg : wr.grownBy w92 (some go85) := (by rw [hw]; exact HP91.2); have hp_ : Kd.R (Kd.int .i64) 3 w92 w0.heap.size (fun k_ => ((P2_ k_ ∨ P3_ k_) ∨ w.heap.size ≤ k_) ∧ some k_ ≠ (u9001_ : Value).ownBlock ∧ some k_ ≠ (.slice (some ad517) x11_26.length co89 : Value).ownBlock) (.slice (some ⟨go85, 0, none⟩) x2_4.length co90) y519 := (by rw [hw, Ny519.out]; exact HP91.1); clear HP91; have n0_ := Aside0.mk (hp_); have n1_ := Aside0.mk (Kd.R_after (v := (.slice (some ⟨go85, 0, none⟩) x2_4.length co90)) (v1 := (.slice (some ⟨go85, 0, none⟩) x2_4.length co90)) (ok := (fun k_ => ((P2_ k_ ∨ P3_ k_) ∨ w.heap.size ≤ k_) ∧ some k_ ≠ (.slice (some ad517) x11_26.length co89 : Value).ownBlock)) (by (with_reducible repeat (first | apply Kd.R_alloc | apply Kd.R_drewN | apply Kd.R_drew)); exact Kd.R_mono HO_3.out (fun _ hk => ⟨⟨hk.1, hk.2.2⟩, hk.2.1⟩)) hg (.inl rfl)); have n2_ := Aside0.mk (Kd.R_after (v := (.slice (some ⟨go85, 0, none⟩) x2_4.length co90)) (v1 := (.slice (some ⟨go85, 0, none⟩) x2_4.length co90)) (ok := (fun k_ => ((P2_ k_ ∨ P3_ k_) ∨ w.heap.size ≤ k_) ∧ some k_ ≠ (u9001_ : Value).ownBlock)) (by (with_reducible repeat (first | apply Kd.R_alloc | apply Kd.R_drewN | apply Kd.R_drew)); exact Kd.R_mono HO_11.out (fun _ hk => ⟨⟨hk.1, hk.2.2⟩, hk.2.1⟩)) hg (.inl rfl)); have n3_ := Aside0.mk ((by rw [hw]; exact below_set (HB.out) GB85.out : Below w0.heap.size w0 w92)); have n4_ := Aside0.mk (Kept.of_grown (S := (fun k_ => P2_ k_ ∨ P3_ k_)) hg (by repeat (first | (with_reducible first | exact HK.out | apply Kept.alloc | apply Kept.drewN | apply Kept.drew) | exact HK.out)) (fun k_ e_ => (HO_2.out.1 k_ e_).1)); clear HO_2; clear HO_3; clear HO_11; clear HB; clear HK; have HO_2 := n0_; have HO_3 := n1_; have HO_11 := n2_; have HB := n3_; have HK := n4_; clear n0_ n1_ n2_ n3_ n4_; clear hg hw hp_; have p87 : 0 ≤ (x19_4 : Int) := of_decide_eq_true (by first | (with_reducible assumption) | assumption); have q87 : (x19_4 : Int) < ((x3_4.length : Int) : Int) := of_decide_eq_true (by first | (with_reducible assumption) | assumption); obtain ⟨go87, co87, eo87, gb87, gl87, cl87, HG87⟩ := Kd.R_form HO_3.out (by omega); (first | cases eo87 | (injection eo87 with ea_ en_ ec_; (first | subst ea_ | (injection ea_ with ea_; subst ea_)); subst ec_; clear en_)); have GB87 := Aside0.mk gb87; have GG87 := Aside0.mk HG87; clear gb87 gl87 HG87; have HMgo87 := Aside0.mk (show ((P2_ go87 ∨ P3_ go87) ∨ w.heap.size ≤ go87) from (HO_3.out.1 _ rfl).1.1); obtain ⟨hx87_0, hf87_0⟩ := Kd.R_celln 0 HO_3.out (x19_4 : Int) p87 q87; replace p87 := eq_true p87; replace q87 := eq_true q87; have n_ := Aside0.mk (Kd.R_mono (ok' := (fun k_ => ((P2_ k_ ∨ P3_ k_) ∨ w.heap.size ≤ k_) ∧ some k_ ≠ (.slice (some ⟨go85, 0, none⟩) x2_4.length co90 : Value).ownBlock ∧ some k_ ≠ (.slice (some ad517) x11_26.length co89 : Value).ownBlock)) HO_3.out (fun k_ hk => ⟨hk.1.1, ⟨hk.2, hk.1.2⟩⟩)); clear HO_3; have HO_3 := n_; clear n_; obtain ⟨hy93_, hz93_⟩ := Kd.R_celln 0 HO_3.out (x19_4 : Int) (of_decide_eq_true (by first | (with_reducible assumption) | assumption)) (of_decide_eq_true (by first | (with_reducible assumption) | assumption)); have HP93 := Kd.R_putg HO_3.out (x19_4 : Int) (rd x11_26 x19_4)) | ((with_reducible refine gate_store (t := 3) (p := 195) rfl ?_); refine store_event (t := 3) (p := 195) (v := ?vo_w94) (w1 := (w92.setCell ⟨go87, (x19_4 : Int).toNat, none⟩ (.int .i64 (rd x11_26 x19_4)))) ?hg ?ho ?hn ?hr ?_; (case ho => rfl); (case hg => rfl); (case hn => rfl); (case hr => first | (go_simp; done) | (go_simp; rfl)); intro w94 hw; have hg : w92.grownBy w94 (some go87) := (by rw [hw]; exact HP93.2); have hp_ : Kd.R (Kd.int .i64) 3 w94 w0.heap.size (fun k_ => ((P2_ k_ ∨ P3_ k_) ∨ w.heap.size ≤ k_) ∧ some k_ ≠ (.slice (some ⟨go85, 0, none⟩) x2_4.length co90 : Value).ownBlock ∧ some k_ ≠ (.slice (some ad517) x11_26.length co89 : Value).ownBlock) (.slice (some ⟨go87, 0, none⟩) x3_4.length co87) y520 := (by rw [hw, Ny520.out]; exact HP93.1); clear HP93; have n0_ := Aside0.mk (Kd.R_after (v := (.slice (some ⟨go87, 0, none⟩) x3_4.length co87)) (v1 := (.slice (some ⟨go87, 0, none⟩) x3_4.length co87)) (ok := (fun k_ => ((P2_ k_ ∨ P3_ k_) ∨ w.heap.size ≤ k_) ∧ some k_ ≠ (.slice (some ad517) x11_26.length co89 : Value).ownBlock)) (by (with_reducible repeat (first | apply Kd.R_alloc | apply Kd.R_drewN | apply Kd.R_drew)); exact Kd.R_mono HO_2.out (fun _ hk => ⟨⟨hk.1, hk.2.2⟩, hk.2.1⟩)) hg (.inl rfl)); have n1_ := Aside0.mk (hp_); have n2_ := Aside0.mk (Kd.R_after (v := (.slice (some ⟨go87, 0, none⟩) x3_4.length co87)) (v1 := (.slice (some ⟨go87, 0, none⟩) x3_4.length co87)) (ok := (fun k_ => ((P2_ k_ ∨ P3_ k_) ∨ w.heap.size ≤ k_) ∧ some k_ ≠ (.slice (some ⟨go85, 0, none⟩) x2_4.length co90 : Value).ownBlock)) (by (with_reducible repeat (first | apply Kd.R_alloc | apply Kd.R_drewN | apply Kd.R_drew)); exact Kd.R_mono HO_11.out (fun _ hk => ⟨⟨hk.1.1, hk.2⟩, hk.1.2⟩)) hg (.inl rfl)); have n3_ := Aside0.mk ((by rw [hw]; exact below_set (HB.out) GB87.out : Below w0.heap.size w0 w94)); have n4_ := Aside0.mk (Kept.of_grown (S := (fun k_ => P2_ k_ ∨ P3_ k_)) hg (by repeat (first | (with_reducible first | exact HK.out | apply Kept.alloc | apply Kept.drewN | apply Kept.drew) | exact HK.out)) (fun k_ e_ => (HO_3.out.1 k_ e_).1)); clear HO_2; clear HO_3; clear HO_11; clear HB; clear HK; have HO_2 := n0_; have HO_3 := n1_; have HO_11 := n2_; have HB := n3_; have HK := n4_; clear n0_ n1_ n2_ n3_ n4_; clear hg hw hp_))
              go_ret
              exact ⟨by first | rfl | (simp [errW_none, errW_some] <;> rfl) | (simp [*, errW_none, errW_some] <;> rfl), (by first | exact (by (with_reducible repeat (first | apply Kd.R_alloc | apply Kd.R_drewN | apply Kd.R_drew)); exact Kd.R_mono HO_2.out (fun _ hk => hk.1.1)) | (simp only [hl10_1, hl10_26]; exact (by (with_reducible repeat (first | apply Kd.R_alloc | apply Kd.R_drewN | apply Kd.R_drew)); exact Kd.R_mono HO_2.out (fun _ hk => hk.1.1)))), (by first | exact (by (with_reducible repeat (first | apply Kd.R_alloc | apply Kd.R_drewN | apply Kd.R_drew)); exact Kd.R_mono HO_3.out (fun _ hk => hk.1)) | (simp only [hl10_1, hl10_26]; exact (by (with_reducible repeat (first | apply Kd.R_alloc | apply Kd.R_drewN | apply Kd.R_drew)); exact Kd.R_mono HO_3.out (fun _ hk => hk.1)))), by repeat (first | (with_reducible first | exact HB.out | apply below_alloc | apply pw_below_drewN | apply below_drew1) | exact HB.out), by repeat (first | (with_reducible first | exact HK.out | apply Kept.alloc | apply Kept.drewN | apply Kept.drew) | exact HK.out)⟩
             rw [if_neg c88] at H
             have c88b0 : ((rd x11_26 x19_4) == a0) = false := beq_eq_false_iff_ne.mpr c88
             have c88b1 : ((rd x11_26 x19_4) != a0) = true := bne_iff_ne.mpr c88
             (try (have c88b0r := c88b0; simp only [hl10_1, hl10_26] at c88b0r))
             (try (have c88b1r := c88b1; simp only [hl10_1, hl10_26] at c88b1r))
             have H' := Aside0.mk H
             clear H
             obtain ⟨Ao95, co95, eo95⟩ := Kd.R_slice HO_11.out
             subst eo95
             have p517 : 0 ≤ (x19_4 : Int) := of_decide_eq_true (by first | (with_reducible assumption) | assumption)
             have q517 : x19_4 < (x11_26.length : Int) := of_decide_eq_true (by first | (with_reducible assumption) | assumption)
             obtain ⟨ad517, e517, hx517_0⟩ := Kd.at_int (Kd.R_reads' HO_11.out).2.2 x19_4 p517 q517
             cases e517
             replace p517 := eq_true p517
             replace q517 := eq_true q517
             obtain ⟨Ao96, co96, eo96⟩ := Kd.R_slice HO_2.out
             subst eo96
             have p518 : 0 ≤ ((rd x11_26 x19_4) : Int) := of_decide_eq_true (by first | (with_reducible assumption) | assumption)
             have q518 : (rd x11_26 x19_4) < (x2_4.length : Int) := of_decide_eq_true (by first | (with_reducible assumption) | assumption)
             obtain ⟨ad518, e518, hx518_0⟩ := Kd.at_int (Kd.R_reads' HO_2.out).2.2 (rd x11_26 x19_4) p518 q518
             cases e518
             replace p518 := eq_true p518
             replace q518 := eq_true q518
             have p85 : 0 ≤ ((rd x11_26 x19_4) : Int) := of_decide_eq_true (by first | (with_reducible assumption) | assumption)
             have q85 : ((rd x11_26 x19_4) : Int) < ((x2_4.length : Int) : Int) := of_decide_eq_true (by first | (with_reducible assumption) | assumption)
             obtain ⟨go85, co85, eo85, gb85, gl85, cl85, HG85⟩ := Kd.R_form HO_2.out (by omega)
             (first | cases eo85 | (injection eo85 with ea_ en_ ec_; (first | subst ea_ | (injection ea_ with ea_; subst ea_)); subst ec_; clear en_))
             have GB85 := Aside0.mk gb85
             have GG85 := Aside0.mk HG85
             clear gb85 gl85 HG85
             have HMgo85 := Aside0.mk (show ((P2_ go85 ∨ P3_ go85) ∨ w.heap.size ≤ go85) from (HO_2.out.1 _ rfl).1)
             (first | simp only [add_plain] at hx518_0 | skip)
             obtain ⟨hx85_0, hf85_0⟩ := Kd.R_celln 0 HO_2.out ((rd x11_26 x19_4) : Int) p85 q85
             replace p85 := eq_true p85
             replace q85 := eq_true q85
             have HP97 := Kd.R_putg HO_2.out ((rd x11_26 x19_4) : Int) x19_4
             go_wp2_with (first | ((with_reducible refine gate_store (t := 3) (p := 194) rfl ?_); refine store_event (t := 3) (p := 194) (v := ?vo_w98) (w1 := (wr.setCell ⟨go85, ((rd x11_26 x19_4) : Int).toNat, none⟩ (.int .i64 x19_4))) ?hg ?ho ?hn ?hr ?_; (case ho => rfl); (case hg => rfl); (case hn => rfl); (case hr => first | (go_simp; done) | (go_simp; rfl)); intro w98 hw; have hg : wr.grownBy w98 (some go85) := (by rw [hw]; exact HP97.2); have hp_ : Kd.R (Kd.int .i64) 3 w98 w0.heap.size (fun k_ => ((P2_ k_ ∨ P3_ k_) ∨ w.heap.size ≤ k_) ∧ some k_ ≠ (u9001_ : Value).ownBlock ∧ some k_ ≠ (.slice (some ad517) x11_26.length co95 : Value).ownBlock) (.slice (some ⟨go85, 0, none⟩) x2_4.length co96) y519 := (by rw [hw, Ny519.out]; exact HP97.1); clear HP97; have n0_ := Aside0.mk (hp_); have n1_ := Aside0.mk (Kd.R_after (v := (.slice (some ⟨go85, 0, none⟩) x2_4.length co96)) (v1 := (.slice (some ⟨go85, 0, none⟩) x2_4.length co96)) (ok := (fun k_ => ((P2_ k_ ∨ P3_ k_) ∨ w.heap.size ≤ k_) ∧ some k_ ≠ (.slice (some ad517) x11_26.length co95 : Value).ownBlock)) (by (with_reducible repeat (first | apply Kd.R_alloc | apply Kd.R_drewN | apply Kd.R_drew)); exact Kd.R_mono HO_3.out (fun _ hk => ⟨⟨hk.1, hk.2.2⟩, hk.2.1⟩)) hg (.inl rfl)); have n2_ := Aside0.mk (Kd.R_after (v := (.slice (some ⟨go85, 0, none⟩) x2_4.length co96)) (v1 := (.slice (some ⟨go85, 0, none⟩) x2_4.length co96)) (ok := (fun k_ => ((P2_ k_ ∨ P3_ k_) ∨ w.heap.size ≤ k_) ∧ some k_ ≠ (u9001_ : Value).ownBlock)) (by (with_reducible repeat (first | apply Kd.R_alloc | apply Kd.R_drewN | apply Kd.R_drew)); exact Kd.R_mono HO_11.out (fun _ hk => ⟨⟨hk.1, hk.2.2⟩, hk.2.1⟩)) hg (.inl rfl)); have n3_ := Aside0.mk ((by rw [hw]; exact below_set (HB.out) GB85.out : Below w0.heap.size w0 w98)); have n4_ := Aside0.mk (Kept.of_grown (S := (fun k_ => P2_ k_ ∨ P3_ k_)) hg (by repeat (first | (with_reducible first | exact HK.out | apply Kept.alloc | apply Kept.drewN | apply Kept.drew) | exact HK.out)) (fun k_ e_ => (HO_2.out.1 k_ e_).1)); clear HO_2; clear HO_3; clear HO_11; clear HB; clear HK; have HO_2 := n0_; have HO_3 := n1_; have HO_11 := n2_; have HB := n3_; have HK := n4_; clear n0_ n1_ n2_ n3_ n4_; clear hg hw hp_; have p87 : 0 ≤ (x19_4 : Int) := of_decide_eq_true (by first | (with_reducible assumption) | assumption); have q87 : (x19_4 : Int) < ((x3_4.length : Int) : Int) := of_decide_eq_true (by first | (with_reducible assumption) | assumption); obtain ⟨go87, co87, eo87, gb87, gl87, cl87, HG87⟩ := Kd.R_form HO_3.out (by omega); (first | cases eo87 | (injection eo87 with ea_ en_ ec_; (first | subst ea_ | (injection ea_ with ea_; subst ea_)); subst ec_; clear en_)); have GB87 := Aside0.mk gb87; have GG87 := Aside0.mk HG87; clear gb87 gl87 HG87; have HMgo87 := Aside0.mk (show ((P2_ go87 ∨ P3_ go87) ∨ w.heap.size ≤ go87) from (HO_3.out.1 _ rfl).1.1); obtain ⟨hx87_0, hf87_0⟩ := Kd.R_celln 0 HO_3.out (x19_4 : Int) p87 q87; replace p87 := eq_true p87; replace q87 := eq_true q87; have n_ := Aside0.mk (Kd.R_mono (ok' := (fun k_ => ((P2_ k_ ∨ P3_ k_) ∨ w.heap.size ≤ k_) ∧ some k_ ≠ (.slice (some ⟨go85, 0, none⟩) x2_4.length co96 : Value).ownBlock ∧ some k_ ≠ (.slice (some ad517) x11_26.length co95 : Value).ownBlock)) HO_3.out (fun k_ hk => ⟨hk.1.1, ⟨hk.2, hk.1.2⟩⟩)); clear HO_3; have HO_3 := n_; clear n_; obtain ⟨hy99_, hz99_⟩ := Kd.R_celln 0 HO_3.out (x19_4 : Int) (of_decide_eq_true (by first | (with_reducible assumption) | assumption)) (of_decide_eq_true (by first | (with_reducible assumption) | assumption)); have HP99 := Kd.R_putg HO_3.out (x19_4 : Int) (rd x11_26 x19_4)) | ((with_reducible refine gate_store (t := 3) (p := 195) rfl ?_); refine store_event (t := 3) (p := 195) (v := ?vo_w100) (w1 := (w98.setCell ⟨go87, (x19_4 : Int).toNat, none⟩ (.int .i64 (rd x11_26 x19_4)))) ?hg ?ho ?hn ?hr ?_; (case ho => rfl); (case hg => rfl); (case hn => rfl); (case hr => first | (go_simp; done) | (go_simp; rfl)); intro w100 hw; have hg : w98.grownBy w100 (some go87) := (by rw [hw]; exact HP99.2); have hp_ : Kd.R (Kd.int .i64) 3 w100 w0.heap.size (fun k_ => ((P2_ k_ ∨ P3_ k_) ∨ w.heap.size ≤ k_) ∧ some k_ ≠ (.slice (some ⟨go85, 0, none⟩) x2_4.length co96 : Value).ownBlock ∧ some k_ ≠ (.slice (some ad517) x11_26.length co95 : Value).ownBlock) (.slice (some ⟨go87, 0, none⟩) x3_4.length co87) y520 := (by rw [hw, Ny520.out]; exact HP99.1); clear HP99; have n0_ := Aside0.mk (Kd.R_after (v := (.slice (some ⟨go87, 0, none⟩) x3_4.length co87)) (v1 := (.slice (some ⟨go87, 0, none⟩) x3_4.length co87)) (ok := (fun k_ => ((P2_ k_ ∨ P3_ k_) ∨ w.heap.size ≤ k_) ∧ some k_ ≠ (.slice (some ad517) x11_26.length co95 : Value).ownBlock)) (by (with_reducible repeat (first | apply Kd.R_alloc | apply Kd.R_drewN | apply Kd.R_drew)); exact Kd.R_mono HO_2.out (fun _ hk => ⟨⟨hk.1, hk.2.2⟩, hk.2.1⟩)) hg (.inl rfl)); have n1_ := Aside0.mk (hp_); have n2_ := Aside0.mk (Kd.R_after (v := (.slice (some ⟨go87, 0, none⟩) x3_4.length co87)) (v1 := (.slice (some ⟨go87, 0, none⟩) x3_4.length co87)) (ok := (fun k_ => ((P2_ k_ ∨ P3_ k_) ∨ w.heap.size ≤ k_) ∧ some k_ ≠ (.slice (some ⟨go85, 0, none⟩) x2_4.length co96 : Value).ownBlock)) (by (with_reducible repeat (first | apply Kd.R_alloc | apply Kd.R_drewN | apply Kd.R_drew)); exact Kd.R_mono HO_11.out (fun _ hk => ⟨⟨hk.1.1, hk.2⟩, hk.1.2⟩)) hg (.inl rfl)); have n3_ := Aside0.mk ((by rw [hw]; exact below_set (HB.out) GB87.out : Below w0.heap.size w0 w100)); have n4_ := Aside0.mk (Kept.of_grown (S := (fun k_ => P2_ k_ ∨ P3_ k_)) hg (by repeat (first | (with_reducible first | exact HK.out | apply Kept.alloc | apply Kept.drewN | apply Kept.drew) | exact HK.out)) (fun k_ e_ => (HO_3.out.1 k_ e_).1)); clear HO_2; clear HO_3; clear HO_11; clear HB; clear HK; have HO_2 := n0_; have HO_3 := n1_; have HO_11 := n2_; have HB := n3_; have HK := n4_; clear n0_ n1_ n2_ n3_ n4_; clear hg hw hp_))
             (first | go_roundg k4 | (refine Handed.intro k4 ?measure ?_; rotate_left; go_step; (repeat apply Exists.intro); (refine ⟨?rel, ?fr_⟩); (case fr_ => (simp only [add_plain]; rfl))))
             case measure => have := HK1.out; have := HJ26.out; have := HK3.out; have := HK4.out; omega
             case rel => exact ⟨(y519), (y520), (rd x2_4 (rd x11_26 x19_4)), (by first | rfl | (simp; done) | (simp [*]; done)), H', ⟨by have := HK1.out; have := HJ26.out; have := HK3.out; have := HK4.out; omega⟩, ⟨by (try simp only [hl10_1]); (try simp only [hl10_26]); (with_reducible repeat (first | apply Kd.R_alloc | apply Kd.R_drewN | apply Kd.R_drew)); exact Kd.R_mono HO_2.out (fun _ hk => ⟨hk.1.1, ⟨hk.2, hk.1.2⟩⟩)⟩, ⟨by (try simp only [hl10_1]); (try simp only [hl10_26]); (with_reducible repeat (first | apply Kd.R_alloc | apply Kd.R_drewN | apply Kd.R_drew)); exact HO_3.out⟩, ⟨by (try simp only [hl10_1]); (try simp only [hl10_26]); (with_reducible repeat (first | apply Kd.R_alloc | apply Kd.R_drewN | apply Kd.R_drew)); exact Kd.R_mono HO_11.out (fun _ hk => ⟨hk.1.1, ⟨hk.1.2, hk.2⟩⟩)⟩, ⟨by repeat (first | (with_reducible first | exact HK.out | apply Kept.alloc | apply Kept.drewN | apply Kept.drew) | exact HK.out)⟩, ⟨by repeat (first | (with_reducible first | exact HB.out | apply below_alloc | apply pw_below_drewN | apply below_drew1) | exact HB.out)⟩⟩
         rw [if_pos c60] at H
         have c60b0 : decide (x145_3 < (l1.length : Int)) = true := decide_eq_true c60
         clear c60
         (try (have c60b0r := c60b0; simp only [hl10_1, hl10_26] at c60b0r))
         by_cases c61 : 0 ≤ x145_3
         case neg => rw [if_neg c61] at H; exact absurd H (by simp)
         rw [if_pos c61] at H
         have c61b0 : decide (0 ≤ x145_3) = true := decide_eq_true c61
         clear c61
         (try (have c61b0r := c61b0; simp only [hl10_1, hl10_26] at c61b0r))
         by_cases c62 : x145_3 < (l3.length : Int)
         case neg => rw [if_neg c62] at H; exact absurd H (by simp)
         rw [if_pos c62] at H
         have c62b0 : decide (x145_3 < (l3.length : Int)) = true := decide_eq_true c62
         clear c62
         (try (have c62b0r := c62b0; simp only [hl10_1, hl10_26] at c62b0r))
         by_cases c63 : (rd l3 x145_3) < 0
         case neg =>
          rw [if_neg c63] at H
          have c63b0 : decide ((rd l3 x145_3) < 0) = false := decide_eq_false c63
          clear c63
          (try (have c63b0r := c63b0; simp only [hl10_1, hl10_26] at c63b0r))
          have H' := Aside0.mk H
          clear H
          try go_wp2
          have n0_ := Aside0.mk (Kd.R_drew HO_2.out)
          have n1_ := Aside0.mk (Kd.R_drew HO_3.out)
          have n2_ := Aside0.mk (Kd.R_drew HO_10.out)
          have n3_ := Aside0.mk (Kd.R_drew HO_11.out)
          have n4_ := Aside0.mk (Kept.drew HK.out)
          have n5_ := Aside0.mk (below_drew1 HB.out)
          clear HO_2
          clear HO_3
          clear HO_10
          clear HO_11
          clear HK
          clear HB
          have HO_2 := n0_
          have HO_3 := n1_
          have HO_10 := n2_
          have HO_11 := n3_
          have HK := n4_
          have HB := n5_
          clear n0_ n1_ n2_ n3_ n4_ n5_
          obtain ⟨Ao79, co79, eo79⟩ := Kd.R_slice HO_3.out
          (first | subst eo79 | (injection eo79 with f1_ f2_ f3_; have f4_ := f1_.symm; have f5_ := f3_.symm; clear f1_ f2_ f3_; subst f4_; subst f5_))
          have p513 : 0 ≤ (x145_3 : Int) := of_decide_eq_true (by first | (with_reducible assumption) | assumption)
          have q513 : x145_3 < (l3.length : Int) := of_decide_eq_true (by first | (with_reducible assumption) | assumption)
          obtain ⟨ad513, e513, hx513_0⟩ := Kd.at_int (Kd.R_reads' HO_3.out).2.2 x145_3 p513 q513
          cases e513
          replace p513 := eq_true p513
          replace q513 := eq_true q513
          refine start_ (n := 27) (S := fun w' => w'.cell? (ad513.add (x145_3).toNat) = some (.int .i64 (rd l3 x145_3))) (ds := []) (msk 27 0) (by kernel_rfl) rfl rfl (hx513_0) (fun hHeld => ?_); refine with_tabW match_augment.tab29 match_augment.bits29 (fun HT_ HW_ => ?_)
          generalize wr.drew = w78 at HO_2 HO_3 HO_10 HO_11 HK HB hx513_0 hHeld ⊢
          refine pu_ 0 148 (msk 27 1) HT_.out ?_ ?_ ?_ ?_ ?_
          rotate_left
          · intro w'; go_simp; with_reducible rfl
          rotate_left
          · simp only [Act.put, sq, i64_w, i32_w]; rfl
          refine pu_ 1 149 (msk 27 3) HT_.out ?_ ?_ ?_ ?_ ?_
          rotate_left
          · intro w'; go_simp; with_reducible rfl
          rotate_left
          · simp only [Act.put, sq, i64_w, i32_w]; rfl
          refine pu_ 2 150 (msk 27 7) HT_.out ?_ ?_ ?_ ?_ ?_
          rotate_left
          · intro w'; go_simp; with_reducible rfl
          rotate_left
          · simp only [Act.put, sq, i64_w, i32_w]; rfl
          refine tk_ 3 151 (msk 27 15) HT_.out HW_.out hHeld ?_ ?_ ?_ ?_ ?_
          rotate_left
          · intro w' s0; go_simp; with_reducible rfl
          rotate_left
          · simp only [Act.put, sq, i64_w, i32_w]; rfl
          refine pu_ 4 152 (msk 27 31) HT_.out ?_ ?_ ?_ ?_ ?_
          rotate_left
          · intro w'; go_simp; with_reducible rfl
          rotate_left
          · simp only [Act.put, sq, i64_w, i32_w]; rfl
          refine pu_ 5 153 (msk 27 63) HT_.out ?_ ?_ ?_ ?_ ?_
          rotate_left
          · intro w'; go_simp; with_reducible rfl
          rotate_left
          · simp only [Act.put, sq, i64_w, i32_w]; rfl
          refine pv_ 6 154 (msk 27 127) HT_.out ?_ ?_ ?_
          rotate_left
          · simp only [Act.put, sq, i64_w, i32_w]; rfl
          refine pv_ 7 155 (msk 27 255) HT_.out ?_ ?_ ?_
          rotate_left
          · simp only [Act.put, sq, i64_w, i32_w]; rfl
          refine pv_ 8 156 (msk 27 511) HT_.out ?_ ?_ ?_
          rotate_left
          · simp only [Act.put, sq, i64_w, i32_w]; rfl
          refine pv_ 9 157 (msk 27 1023) HT_.out ?_ ?_ ?_
          rotate_left
          · simp only [Act.put, sq, i64_w, i32_w]; rfl
          refine pv_ 10 158 (msk 27 2047) HT_.out ?_ ?_ ?_
          rotate_left
          · simp only [Act.put, sq, i64_w, i32_w]; rfl
          refine pu_ 11 159 (msk 27 4095) HT_.out ?_ ?_ ?_ ?_ ?_
          rotate_left
          · intro w'; go_simp; with_reducible rfl
          rotate_left
          · simp only [Act.put, sq, i64_w, i32_w]; rfl
          refine pu_ 12 160 (msk 27 8191) HT_.out ?_ ?_ ?_ ?_ ?_
          rotate_left
          · intro w'; go_simp; with_reducible rfl
          rotate_left
          · simp only [Act.put, sq, i64_w, i32_w]; rfl
          refine pv_ 13 161 (msk 27 16383) HT_.out ?_ ?_ ?_
          rotate_left
          · simp only [Act.put, sq, i64_w, i32_w]; rfl
          refine pv_ 14 162 (msk 27 32767) HT_.out ?_ ?_ ?_
          rotate_left
          · simp only [Act.put, sq, i64_w, i32_w]; rfl
          refine pv_ 15 163 (msk 27 65535) HT_.out ?_ ?_ ?_
          rotate_left
          · simp only [Act.put, sq, i64_w, i32_w]; rfl
          refine pv_ 16 164 (msk 27 131071) HT_.out ?_ ?_ ?_
          rotate_left
          · simp only [Act.put, sq, i64_w, i32_w]; rfl
          refine pv_ 17 165 (msk 27 262143) HT_.out ?_ ?_ ?_
          rotate_left
          · simp only [Act.put, sq, i64_w, i32_w]; rfl
          refine pv_ 18 166 (msk 27 524287) HT_.out ?_ ?_ ?_
          rotate_left
          · simp only [Act.put, sq, i64_w, i32_w]; rfl
          refine pv_ 19 167 (msk 27 1048575) HT_.out ?_ ?_ ?_
          rotate_left
          · simp only [Act.put, sq, i64_w, i32_w]; rfl
          refine pv_ 20 168 (msk 27 2097151) HT_.out ?_ ?_ ?_
          rotate_left
          · simp only [Act.put, sq, i64_w, i32_w]; rfl
          refine pv_ 21 169 (msk 27 4194303) HT_.out ?_ ?_ ?_
          rotate_left
          · simp only [Act.put, sq, i64_w, i32_w]; rfl
          refine pv_ 22 170 (msk 27 8388607) HT_.out ?_ ?_ ?_
          rotate_left
          · simp only [Act.put, sq, i64_w, i32_w]; rfl
          refine pv_ 23 171 (msk 27 16777215) HT_.out ?_ ?_ ?_
          rotate_left
          · simp only [Act.put, sq, i64_w, i32_w]; rfl
          refine pv_ 24 172 (msk 27 33554431) HT_.out ?_ ?_ ?_
          rotate_left
          · simp only [Act.put, sq, i64_w, i32_w]; rfl
          refine pv_ 25 173 (msk 27 67108863) HT_.out ?_ ?_ ?_
          rotate_left
          · simp only [Act.put, sq, i64_w, i32_w]; rfl
          refine pu_ 26 174 (msk 27 134217727) HT_.out ?_ ?_ ?_ ?_ ?_
          rotate_left
          · intro w'; go_simp; with_reducible rfl
          rotate_left
          · simp only [Act.put, sq, i64_w, i32_w]; rfl
          refine done_ (done_of HT_.out (by kernel_rfl)) ?_
          try go_wp2
          (first | go_roundg k3 | (refine Handed.intro k3 ?measure ?_; rotate_left; go_step; (repeat apply Exists.intro); (refine ⟨?rel, ?fr_⟩); (case fr_ => (simp only [add_plain]; rfl))))
          case measure => have := HK1.out; have := HJ26.out; have := HK3.out; omega
          case rel => exact ⟨(x17_3), (wrap64 (x145_3 + 1)), (by first | rfl | (simp; done) | (simp [*]; done)), (by first | rfl | (simp; done) | (simp [*]; done)), H', ⟨by have := HK1.out; have := HJ26.out; have := HK3.out; omega⟩, ⟨by (try simp only [hl10_1]); (try simp only [hl10_26]); (with_reducible repeat (first | apply Kd.R_alloc | apply Kd.R_drewN | apply Kd.R_drew)); exact HO_2.out⟩, ⟨by (try simp only [hl10_1]); (try simp only [hl10_26]); (with_reducible repeat (first | apply Kd.R_alloc | apply Kd.R_drewN | apply Kd.R_drew)); exact HO_3.out⟩, ⟨by (try simp only [hl10_1]); (try simp only [hl10_26]); (with_reducible repeat (first | apply Kd.R_alloc | apply Kd.R_drewN | apply Kd.R_drew)); exact HO_10.out⟩, ⟨by (try simp only [hl10_1]); (try simp only [hl10_26]); (with_reducible repeat (first | apply Kd.R_alloc | apply Kd.R_drewN | apply Kd.R_drew)); exact HO_11.out⟩, ⟨by repeat (first | (with_reducible first | exact HK.out | apply Kept.alloc | apply Kept.drewN | apply Kept.drew) | exact HK.out)⟩, ⟨by repeat (first | (with_reducible first | exact HB.out | apply below_alloc | apply pw_below_drewN | apply below_drew1) | exact HB.out)⟩⟩
         rw [if_pos c63] at H
         have c63b0 : decide ((rd l3 x145_3) < 0) = true := decide_eq_true c63
         clear c63
         (try (have c63b0r := c63b0; simp only [hl10_1, hl10_26] at c63b0r))
         by_cases c64 : x145_3 < (x10_26.length : Int)
         case neg => rw [if_neg c64] at H; exact absurd H (by simp)
         rw [if_pos c64] at H
         have c64b0 : decide (x145_3 < (x10_26.length : Int)) = true := decide_eq_true c64
         clear c64
         (try (have c64b0r := c64b0; simp only [hl10_1, hl10_26] at c64b0r))
         by_cases c65 : (rd x10_26 x145_3) > (-536870912)
         case neg =>
          rw [if_neg c65] at H
          have c65b0 : decide ((-536870912) < (rd x10_26 x145_3)) = false := decide_eq_false c65
          clear c65
          (try (have c65b0r := c65b0; simp only [hl10_1, hl10_26] at c65b0r))
          have H' := Aside0.mk H
          clear H
          try go_wp2
          have n0_ := Aside0.mk (Kd.R_drew HO_2.out)
          have n1_ := Aside0.mk (Kd.R_drew HO_3.out)
          have n2_ := Aside0.mk (Kd.R_drew HO_10.out)
          have n3_ := Aside0.mk (Kd.R_drew HO_11.out)
          have n4_ := Aside0.mk (Kept.drew HK.out)
          have n5_ := Aside0.mk (below_drew1 HB.out)
          clear HO_2
          clear HO_3
          clear HO_10
          clear HO_11
          clear HK
          clear HB
          have HO_2 := n0_
          have HO_3 := n1_
          have HO_10 := n2_
          have HO_11 := n3_
          have HK := n4_
          have HB := n5_
          clear n0_ n1_ n2_ n3_ n4_ n5_
          obtain ⟨Ao77, co77, eo77⟩ := Kd.R_slice HO_3.out
          (first | subst eo77 | (injection eo77 with f1_ f2_ f3_; have f4_ := f1_.symm; have f5_ := f3_.symm; clear f1_ f2_ f3_; subst f4_; subst f5_))
          have p513 : 0 ≤ (x145_3 : Int) := of_decide_eq_true (by first | (with_reducible assumption) | assumption)
          have q513 : x145_3 < (l3.length : Int) := of_decide_eq_true (by first | (with_reducible assumption) | assumption)
          obtain ⟨ad513, e513, hx513_0⟩ := Kd.at_int (Kd.R_reads' HO_3.out).2.2 x145_3 p513 q513
          cases e513
          replace p513 := eq_true p513
          replace q513 := eq_true q513
          have p514 : 0 ≤ (x145_3 : Int) := of_decide_eq_true (by first | (with_reducible assumption) | assumption)
          have q514 : x145_3 < (x10_26.length : Int) := of_decide_eq_true (by first | (with_reducible assumption) | assumption)
          obtain ⟨ad514, e514, hx514_0⟩ := Kd.at_int (Kd.R_reads' HO_10.out).2.2 x145_3 p514 q514
          cases e514
          replace p514 := eq_true p514
          replace q514 := eq_true q514
          refine start_ (n := 27) (S := fun w' => w'.cell? (ad513.add (x145_3).toNat) = some (.int .i64 (rd l3 x145_3)) ∧ w'.cell? (ad514.add (x145_3).toNat) = some (.int .i64 (rd x10_26 x145_3))) (ds := []) (msk 27 0) (by kernel_rfl) rfl rfl ⟨hx513_0, hx514_0⟩ (fun hHeld => ?_); refine with_tabW match_augment.tab29 match_augment.bits29 (fun HT_ HW_ => ?_)
          generalize wr.drew = w76 at HO_2 HO_3 HO_10 HO_11 HK HB hx513_0 hx514_0 hHeld ⊢
          refine pu_ 0 148 (msk 27 1) HT_.out ?_ ?_ ?_ ?_ ?_
          rotate_left
          · intro w'; go_simp; with_reducible rfl
          rotate_left
          · simp only [Act.put, sq, i64_w, i32_w]; rfl
          refine pu_ 1 149 (msk 27 3) HT_.out ?_ ?_ ?_ ?_ ?_
          rotate_left
          · intro w'; go_simp; with_reducible rfl
          rotate_left
          · simp only [Act.put, sq, i64_w, i32_w]; rfl
          refine pu_ 2 150 (msk 27 7) HT_.out ?_ ?_ ?_ ?_ ?_
          rotate_left
          · intro w'; go_simp; with_reducible rfl
          rotate_left
          · simp only [Act.put, sq, i64_w, i32_w]; rfl
          refine tk_ 3 151 (msk 27 15) HT_.out HW_.out hHeld ?_ ?_ ?_ ?_ ?_
          rotate_left
          · rintro w' ⟨s0, s1⟩; go_simp; with_reducible rfl
          rotate_left
          · simp only [Act.put, sq, i64_w, i32_w]; rfl
          refine pu_ 4 152 (msk 27 31) HT_.out ?_ ?_ ?_ ?_ ?_
          rotate_left
          · intro w'; go_simp; with_reducible rfl
          rotate_left
          · simp only [Act.put, sq, i64_w, i32_w]; rfl
          refine pu_ 5 153 (msk 27 63) HT_.out ?_ ?_ ?_ ?_ ?_
          rotate_left
          · intro w'; go_simp; with_reducible rfl
          rotate_left
          · simp only [Act.put, sq, i64_w, i32_w]; rfl
          refine pu_ 6 154 (msk 27 127) HT_.out ?_ ?_ ?_ ?_ ?_
          rotate_left
          · intro w'; go_simp; with_reducible rfl
          rotate_left
          · simp only [Act.put, sq, i64_w, i32_w]; rfl
          refine pu_ 7 155 (msk 27 255) HT_.out ?_ ?_ ?_ ?_ ?_
          rotate_left
          · intro w'; go_simp; with_reducible rfl
          rotate_left
          · simp only [Act.put, sq, i64_w, i32_w]; rfl
          refine pu_ 8 156 (msk 27 511) HT_.out ?_ ?_ ?_ ?_ ?_
          rotate_left
          · intro w'; go_simp; with_reducible rfl
          rotate_left
          · simp only [Act.put, sq, i64_w, i32_w]; rfl
          refine tk_ 9 157 (msk 27 1023) HT_.out HW_.out hHeld ?_ ?_ ?_ ?_ ?_
          rotate_left
          · rintro w' ⟨s0, s1⟩; go_simp; with_reducible rfl
          rotate_left
          · simp only [Act.put, sq, i64_w, i32_w]; rfl
          refine pu_ 10 158 (msk 27 2047) HT_.out ?_ ?_ ?_ ?_ ?_
          rotate_left
          · intro w'; go_simp; with_reducible rfl
          rotate_left
          · simp only [Act.put, sq, i64_w, i32_w]; rfl
          refine pu_ 11 159 (msk 27 4095) HT_.out ?_ ?_ ?_ ?_ ?_
          rotate_left
          · intro w'; go_simp; with_reducible rfl
          rotate_left
          · simp only [Act.put, sq, i64_w, i32_w]; rfl
          refine pu_ 12 160 (msk 27 8191) HT_.out ?_ ?_ ?_ ?_ ?_
          rotate_left
          · intro w'; go_simp; with_reducible rfl
          rotate_left
          · simp only [Act.put, sq, i64_w, i32_w]; rfl
          refine pv_ 13 161 (msk 27 16383) HT_.out ?_ ?_ ?_
          rotate_left
          · simp only [Act.put, sq, i64_w, i32_w]; rfl
          refine pv_ 14 162 (msk 27 32767) HT_.out ?_ ?_ ?_
          rotate_left
          · simp only [Act.put, sq, i64_w, i32_w]; rfl
          refine pv_ 15 163 (msk 27 65535) HT_.out ?_ ?_ ?_
          rotate_left
          · simp only [Act.put, sq, i64_w, i32_w]; rfl
          refine pv_ 16 164 (msk 27 131071) HT_.out ?_ ?_ ?_
          rotate_left
          · simp only [Act.put, sq, i64_w, i32_w]; rfl
          refine pv_ 17 165 (msk 27 262143) HT_.out ?_ ?_ ?_
          rotate_left
          · simp only [Act.put, sq, i64_w, i32_w]; rfl
          refine pv_ 18 166 (msk 27 524287) HT_.out ?_ ?_ ?_
          rotate_left
          · simp only [Act.put, sq, i64_w, i32_w]; rfl
          refine pv_ 19 167 (msk 27 1048575) HT_.out ?_ ?_ ?_
          rotate_left
          · simp only [Act.put, sq, i64_w, i32_w]; rfl
          refine pv_ 20 168 (msk 27 2097151) HT_.out ?_ ?_ ?_
          rotate_left
          · simp only [Act.put, sq, i64_w, i32_w]; rfl
          refine pv_ 21 169 (msk 27 4194303) HT_.out ?_ ?_ ?_
          rotate_left
          · simp only [Act.put, sq, i64_w, i32_w]; rfl
          refine pv_ 22 170 (msk 27 8388607) HT_.out ?_ ?_ ?_
          rotate_left
          · simp only [Act.put, sq, i64_w, i32_w]; rfl
          refine pv_ 23 171 (msk 27 16777215) HT_.out ?_ ?_ ?_
          rotate_left
          · simp only [Act.put, sq, i64_w, i32_w]; rfl
          refine pv_ 24 172 (msk 27 33554431) HT_.out ?_ ?_ ?_
          rotate_left
          · simp only [Act.put, sq, i64_w, i32_w]; rfl
          refine pv_ 25 173 (msk 27 67108863) HT_.out ?_ ?_ ?_
          rotate_left
          · simp only [Act.put, sq, i64_w, i32_w]; rfl
          refine pu_ 26 174 (msk 27 134217727) HT_.out ?_ ?_ ?_ ?_ ?_
          rotate_left
          · intro w'; go_simp; with_reducible rfl
          rotate_left
          · simp only [Act.put, sq, i64_w, i32_w]; rfl
          refine done_ (done_of HT_.out (by kernel_rfl)) ?_
          try go_wp2
          (first | go_roundg k3 | (refine Handed.intro k3 ?measure ?_; rotate_left; go_step; (repeat apply Exists.intro); (refine ⟨?rel, ?fr_⟩); (case fr_ => (simp only [add_plain]; rfl))))
          case measure => have := HK1.out; have := HJ26.out; have := HK3.out; omega
          case rel => exact ⟨(x17_3), (wrap64 (x145_3 + 1)), (by first | rfl | (simp; done) | (simp [*]; done)), (by first | rfl | (simp; done) | (simp [*]; done)), H', ⟨by have := HK1.out; have := HJ26.out; have := HK3.out; omega⟩, ⟨by (try simp only [hl10_1]); (try simp only [hl10_26]); (with_reducible repeat (first | apply Kd.R_alloc | apply Kd.R_drewN | apply Kd.R_drew)); exact HO_2.out⟩, ⟨by (try simp only [hl10_1]); (try simp only [hl10_26]); (with_reducible repeat (first | apply Kd.R_alloc | apply Kd.R_drewN | apply Kd.R_drew)); exact HO_3.out⟩, ⟨by (try simp only [hl10_1]); (try simp only [hl10_26]); (with_reducible repeat (first | apply Kd.R_alloc | apply Kd.R_drewN | apply Kd.R_drew)); exact HO_10.out⟩, ⟨by (try simp only [hl10_1]); (try simp only [hl10_26]); (with_reducible repeat (first | apply Kd.R_alloc | apply Kd.R_drewN | apply Kd.R_drew)); exact HO_11.out⟩, ⟨by repeat (first | (with_reducible first | exact HK.out | apply Kept.alloc | apply Kept.drewN | apply Kept.drew) | exact HK.out)⟩, ⟨by repeat (first | (with_reducible first | exact HB.out | apply below_alloc | apply pw_below_drewN | apply below_drew1) | exact HB.out)⟩⟩
         rw [if_pos c65] at H
         have c65b0 : decide ((-536870912) < (rd x10_26 x145_3)) = true := decide_eq_true c65
         clear c65
         (try (have c65b0r := c65b0; simp only [hl10_1, hl10_26] at c65b0r))
         by_cases c66 : x17_3 < 0
         case pos =>
          rw [if_pos c66] at H
          have c66b0 : decide (x17_3 < 0) = true := decide_eq_true c66
          clear c66
          (try (have c66b0r := c66b0; simp only [hl10_1, hl10_26] at c66b0r))
          have H' := Aside0.mk H
          clear H
          try go_wp2
          have n0_ := Aside0.mk (Kd.R_drew HO_2.out)
          have n1_ := Aside0.mk (Kd.R_drew HO_3.out)
          have n2_ := Aside0.mk (Kd.R_drew HO_10.out)
          have n3_ := Aside0.mk (Kd.R_drew HO_11.out)
          have n4_ := Aside0.mk (Kept.drew HK.out)
          have n5_ := Aside0.mk (below_drew1 HB.out)
          clear HO_2
          clear HO_3
          clear HO_10
          clear HO_11
          clear HK
          clear HB
          have HO_2 := n0_
          have HO_3 := n1_
          have HO_10 := n2_
          have HO_11 := n3_
          have HK := n4_
          have HB := n5_
          clear n0_ n1_ n2_ n3_ n4_ n5_
          obtain ⟨Ao68, co68, eo68⟩ := Kd.R_slice HO_3.out
          (first | subst eo68 | (injection eo68 with f1_ f2_ f3_; have f4_ := f1_.symm; have f5_ := f3_.symm; clear f1_ f2_ f3_; subst f4_; subst f5_))
          have p513 : 0 ≤ (x145_3 : Int) := of_decide_eq_true (by first | (with_reducible assumption) | assumption)
          have q513 : x145_3 < (l3.length : Int) := of_decide_eq_true (by first | (with_reducible assumption) | assumption)
          obtain ⟨ad513, e513, hx513_0⟩ := Kd.at_int (Kd.R_reads' HO_3.out).2.2 x145_3 p513 q513
          cases e513
          replace p513 := eq_true p513
          replace q513 := eq_true q513
          have p514 : 0 ≤ (x145_3 : Int) := of_decide_eq_true (by first | (with_reducible assumption) | assumption)
          have q514 : x145_3 < (x10_26.length : Int) := of_decide_eq_true (by first | (with_reducible assumption) | assumption)
          obtain ⟨ad514, e514, hx514_0⟩ := Kd.at_int (Kd.R_reads' HO_10.out).2.2 x145_3 p514 q514
          cases e514
          replace p514 := eq_true p514
          replace q514 := eq_true q514
          refine start_ (n := 27) (S := fun w' => w'.cell? (ad513.add (x145_3).toNat) = some (.int .i64 (rd l3 x145_3)) ∧ w'.cell? (ad514.add (x145_3).toNat) = some (.int .i64 (rd x10_26 x145_3))) (ds := []) (msk 27 0) (by kernel_rfl) rfl rfl ⟨hx513_0, hx514_0⟩ (fun hHeld => ?_); refine with_tabW match_augment.tab29 match_augment.bits29 (fun HT_ HW_ => ?_)
          generalize wr.drew = w67 at HO_2 HO_3 HO_10 HO_11 HK HB hx513_0 hx514_0 hHeld ⊢
          refine pu_ 0 148 (msk 27 1) HT_.out ?_ ?_ ?_ ?_ ?_
          rotate_left
          · intro w'; go_simp; with_reducible rfl
          rotate_left
          · simp only [Act.put, sq, i64_w, i32_w]; rfl
          refine pu_ 1 149 (msk 27 3) HT_.out ?_ ?_ ?_ ?_ ?_
          rotate_left
          · intro w'; go_simp; with_reducible rfl
          rotate_left
          · simp only [Act.put, sq, i64_w, i32_w]; rfl
          refine pu_ 2 150 (msk 27 7) HT_.out ?_ ?_ ?_ ?_ ?_
          rotate_left
          · intro w'; go_simp; with_reducible rfl
          rotate_left
          · simp only [Act.put, sq, i64_w, i32_w]; rfl
          refine tk_ 3 151 (msk 27 15) HT_.out HW_.out hHeld ?_ ?_ ?_ ?_ ?_
          rotate_left
          · rintro w' ⟨s0, s1⟩; go_simp; with_reducible rfl
          rotate_left
          · simp only [Act.put, sq, i64_w, i32_w]; rfl
          refine pu_ 4 152 (msk 27 31) HT_.out ?_ ?_ ?_ ?_ ?_
          rotate_left
          · intro w'; go_simp; with_reducible rfl
          rotate_left
          · simp only [Act.put, sq, i64_w, i32_w]; rfl
          refine pu_ 5 153 (msk 27 63) HT_.out ?_ ?_ ?_ ?_ ?_
          rotate_left
          · intro w'; go_simp; with_reducible rfl
          rotate_left
          · simp only [Act.put, sq, i64_w, i32_w]; rfl
          refine pu_ 6 154 (msk 27 127) HT_.out ?_ ?_ ?_ ?_ ?_
          rotate_left
          · intro w'; go_simp; with_reducible rfl
          rotate_left
          · simp only [Act.put, sq, i64_w, i32_w]; rfl
          refine pu_ 7 155 (msk 27 255) HT_.out ?_ ?_ ?_ ?_ ?_
          rotate_left
          · intro w'; go_simp; with_reducible rfl
          rotate_left
          · simp only [Act.put, sq, i64_w, i32_w]; rfl
          refine pu_ 8 156 (msk 27 511) HT_.out ?_ ?_ ?_ ?_ ?_
          rotate_left
          · intro w'; go_simp; with_reducible rfl
          rotate_left
          · simp only [Act.put, sq, i64_w, i32_w]; rfl
          refine tk_ 9 157 (msk 27 1023) HT_.out HW_.out hHeld ?_ ?_ ?_ ?_ ?_
          rotate_left
          · rintro w' ⟨s0, s1⟩; go_simp; with_reducible rfl
          rotate_left
          · simp only [Act.put, sq, i64_w, i32_w]; rfl
          refine pu_ 10 158 (msk 27 2047) HT_.out ?_ ?_ ?_ ?_ ?_
          rotate_left
          · intro w'; go_simp; with_reducible rfl
          rotate_left
          · simp only [Act.put, sq, i64_w, i32_w]; rfl
          refine pu_ 11 159 (msk 27 4095) HT_.out ?_ ?_ ?_ ?_ ?_
          rotate_left
          · intro w'; go_simp; with_reducible rfl
          rotate_left
          · simp only [Act.put, sq, i64_w, i32_w]; rfl
          refine pu_ 12 160 (msk 27 8191) HT_.out ?_ ?_ ?_ ?_ ?_
          rotate_left
          · intro w'; go_simp; with_reducible rfl
          rotate_left
          · simp only [Act.put, sq, i64_w, i32_w]; rfl
          refine pu_ 13 161 (msk 27 16383) HT_.out ?_ ?_ ?_ ?_ ?_
          rotate_left
          · intro w'; go_simp; with_reducible rfl
          rotate_left
          · simp only [Act.put, sq, i64_w, i32_w]; rfl
          refine pu_ 14 162 (msk 27 32767) HT_.out ?_ ?_ ?_ ?_ ?_
          rotate_left
          · intro w'; go_simp; with_reducible rfl
          rotate_left
          · simp only [Act.put, sq, i64_w, i32_w]; rfl
          refine pu_ 15 163 (msk 27 65535) HT_.out ?_ ?_ ?_ ?_ ?_
          rotate_left
          · intro w'; go_simp; with_reducible rfl
          rotate_left
          · simp only [Act.put, sq, i64_w, i32_w]; rfl
          refine pv_ 16 164 (msk 27 131071) HT_.out ?_ ?_ ?_
          rotate_left
          · simp only [Act.put, sq, i64_w, i32_w]; rfl
          refine pv_ 17 165 (msk 27 262143) HT_.out ?_ ?_ ?_
          rotate_left
          · simp only [Act.put, sq, i64_w, i32_w]; rfl
          refine pv_ 18 166 (msk 27 524287) HT_.out ?_ ?_ ?_
          rotate_left
          · simp only [Act.put, sq, i64_w, i32_w]; rfl
          refine pv_ 19 167 (msk 27 1048575) HT_.out ?_ ?_ ?_
          rotate_left
          · simp only [Act.put, sq, i64_w, i32_w]; rfl
          refine pv_ 20 168 (msk 27 2097151) HT_.out ?_ ?_ ?_
          rotate_left
          · simp only [Act.put, sq, i64_w, i32_w]; rfl
          refine pv_ 21 169 (msk 27 4194303) HT_.out ?_ ?_ ?_
          rotate_left
          · simp only [Act.put, sq, i64_w, i32_w]; rfl
          refine pv_ 22 170 (msk 27 8388607) HT_.out ?_ ?_ ?_
          rotate_left
          · simp only [Act.put, sq, i64_w, i32_w]; rfl
          refine pv_ 23 171 (msk 27 16777215) HT_.out ?_ ?_ ?_
          rotate_left
          · simp only [Act.put, sq, i64_w, i32_w]; rfl
          refine pv_ 24 172 (msk 27 33554431) HT_.out ?_ ?_ ?_
          rotate_left
          · simp only [Act.put, sq, i64_w, i32_w]; rfl
          refine pu_ 25 173 (msk 27 67108863) HT_.out ?_ ?_ ?_ ?_ ?_
          rotate_left
          · intro w'; go_simp; with_reducible rfl
          rotate_left
          · simp only [Act.put, sq, i64_w, i32_w]; rfl
          refine pu_ 26 174 (msk 27 134217727) HT_.out ?_ ?_ ?_ ?_ ?_
          rotate_left
          · intro w'; go_simp; with_reducible rfl
          rotate_left
          · simp only [Act.put, sq, i64_w, i32_w]; rfl
          refine done_ (done_of HT_.out (by kernel_rfl)) ?_
          try go_wp2
          (first | go_roundg k3 | (refine Handed.intro k3 ?measure ?_; rotate_left; go_step; (repeat apply Exists.intro); (refine ⟨?rel, ?fr_⟩); (case fr_ => (simp only [add_plain]; rfl))))
          case measure => have := HK1.out; have := HJ26.out; have := HK3.out; omega
          case rel => exact ⟨(x145_3), (wrap64 (x145_3 + 1)), (by first | rfl | (simp; done) | (simp [*]; done)), (by first | rfl | (simp; done) | (simp [*]; done)), H', ⟨by have := HK1.out; have := HJ26.out; have := HK3.out; omega⟩, ⟨by (try simp only [hl10_1]); (try simp only [hl10_26]); (with_reducible repeat (first | apply Kd.R_alloc | apply Kd.R_drewN | apply Kd.R_drew)); exact HO_2.out⟩, ⟨by (try simp only [hl10_1]); (try simp only [hl10_26]); (with_reducible repeat (first | apply Kd.R_alloc | apply Kd.R_drewN | apply Kd.R_drew)); exact HO_3.out⟩, ⟨by (try simp only [hl10_1]); (try simp only [hl10_26]); (with_reducible repeat (first | apply Kd.R_alloc | apply Kd.R_drewN | apply Kd.R_drew)); exact HO_10.out⟩, ⟨by (try simp only [hl10_1]); (try simp only [hl10_26]); (with_reducible repeat (first | apply Kd.R_alloc | apply Kd.R_drewN | apply Kd.R_drew)); exact HO_11.out⟩, ⟨by repeat (first | (with_reducible first | exact HK.out | apply Kept.alloc | apply Kept.drewN | apply Kept.drew) | exact HK.out)⟩, ⟨by repeat (first | (with_reducible first | exact HB.out | apply below_alloc | apply pw_below_drewN | apply below_drew1) | exact HB.out)⟩⟩
         rw [if_neg c66] at H
         have c66b0 : decide (x17_3 < 0) = false := decide_eq_false c66
         clear c66
         (try (have c66b0r := c66b0; simp only [hl10_1, hl10_26] at c66b0r))
         by_cases c69 : 0 ≤ x17_3
         case neg => rw [if_neg c69] at H; exact absurd H (by simp)
         rw [if_pos c69] at H
         have c69b0 : decide (0 ≤ x17_3) = true := decide_eq_true c69
         clear c69
         (try (have c69b0r := c69b0; simp only [hl10_1, hl10_26] at c69b0r))
         by_cases c70 : x17_3 < (x10_26.length : Int)
         case neg => rw [if_neg c70] at H; exact absurd H (by simp)
         rw [if_pos c70] at H
         have c70b0 : decide (x17_3 < (x10_26.length : Int)) = true := decide_eq_true c70
         clear c70
         (try (have c70b0r := c70b0; simp only [hl10_1, hl10_26] at c70b0r))
         by_cases c71 : (rd x10_26 x145_3) > (rd x10_26 x17_3)
         case pos =>
          rw [if_pos c71] at H
          have c71b0 : decide ((rd x10_26 x17_3) < (rd x10_26 x145_3)) = true := decide_eq_true c71
          clear c71
          (try (have c71b0r := c71b0; simp only [hl10_1, hl10_26] at c71b0r))
          have H' := Aside0.mk H
          clear H
          try go_wp2
          have n0_ := Aside0.mk (Kd.R_drew HO_2.out)
          have n1_ := Aside0.mk (Kd.R_drew HO_3.out)
          have n2_ := Aside0.mk (Kd.R_drew HO_10.out)
          have n3_ := Aside0.mk (Kd.R_drew HO_11.out)
          have n4_ := Aside0.mk (Kept.drew HK.out)
          have n5_ := Aside0.mk (below_drew1 HB.out)
          clear HO_2
          clear HO_3
          clear HO_10
          clear HO_11
          clear HK
          clear HB
          have HO_2 := n0_
          have HO_3 := n1_
          have HO_10 := n2_
          have HO_11 := n3_
          have HK := n4_
          have HB := n5_
          clear n0_ n1_ n2_ n3_ n4_ n5_
          obtain ⟨Ao73, co73, eo73⟩ := Kd.R_slice HO_3.out
          (first | subst eo73 | (injection eo73 with f1_ f2_ f3_; have f4_ := f1_.symm; have f5_ := f3_.symm; clear f1_ f2_ f3_; subst f4_; subst f5_))
          have p513 : 0 ≤ (x145_3 : Int) := of_decide_eq_true (by first | (with_reducible assumption) | assumption)
          have q513 : x145_3 < (l3.length : Int) := of_decide_eq_true (by first | (with_reducible assumption) | assumption)
          obtain ⟨ad513, e513, hx513_0⟩ := Kd.at_int (Kd.R_reads' HO_3.out).2.2 x145_3 p513 q513
          cases e513
          replace p513 := eq_true p513
          replace q513 := eq_true q513
          have p514 : 0 ≤ (x145_3 : Int) := of_decide_eq_true (by first | (with_reducible assumption) | assumption)
          have q514 : x145_3 < (x10_26.length : Int) := of_decide_eq_true (by first | (with_reducible assumption) | assumption)
          obtain ⟨ad514, e514, hx514_0⟩ := Kd.at_int (Kd.R_reads' HO_10.out).2.2 x145_3 p514 q514
          cases e514
          replace p514 := eq_true p514
          replace q514 := eq_true q514
          have p515 : 0 ≤ (x145_3 : Int) := of_decide_eq_true (by first | (with_reducible assumption) | assumption)
          have q515 : x145_3 < (x10_26.length : Int) := of_decide_eq_true (by first | (with_reducible assumption) | assumption)
          obtain ⟨ad515, e515, hx515_0⟩ := Kd.at_int (Kd.R_reads' HO_10.out).2.2 x145_3 p515 q515
          obtain rfl : ad514 = ad515 := (by injection e515)
          replace p515 := eq_true p515
          replace q515 := eq_true q515
          have p516 : 0 ≤ (x17_3 : Int) := of_decide_eq_true (by first | (with_reducible assumption) | assumption)
          have q516 : x17_3 < (x10_26.length : Int) := of_decide_eq_true (by first | (with_reducible assumption) | assumption)
          obtain ⟨ad516, e516, hx516_0⟩ := Kd.at_int (Kd.R_reads' HO_10.out).2.2 x17_3 p516 q516
          obtain rfl : ad514 = ad516 := (by injection e516)
          replace p516 := eq_true p516
          replace q516 := eq_true q516
          refine start_ (n := 27) (S := fun w' => w'.cell? (ad513.add (x145_3).toNat) = some (.int .i64 (rd l3 x145_3)) ∧ w'.cell? (ad514.add (x145_3).toNat) = some (.int .i64 (rd x10_26 x145_3)) ∧ w'.cell? (ad514.add (x145_3).toNat) = some (.int .i64 (rd x10_26 x145_3)) ∧ w'.cell? (ad514.add (x17_3).toNat) = some (.int .i64 (rd x10_26 x17_3))) (ds := []) (msk 27 0) (by kernel_rfl) rfl rfl ⟨hx513_0, hx514_0, hx515_0, hx516_0⟩ (fun hHeld => ?_); refine with_tabW match_augment.tab29 match_augment.bits29 (fun HT_ HW_ => ?_)
          generalize wr.drew = w72 at HO_2 HO_3 HO_10 HO_11 HK HB hx513_0 hx514_0 hx515_0 hx516_0 hHeld ⊢
          refine pu_ 0 148 (msk 27 1) HT_.out ?_ ?_ ?_ ?_ ?_
          rotate_left
          · intro w'; go_simp; with_reducible rfl
          rotate_left
          · simp only [Act.put, sq, i64_w, i32_w]; rfl
          refine pu_ 1 149 (msk 27 3) HT_.out ?_ ?_ ?_ ?_ ?_
          rotate_left
          · intro w'; go_simp; with_reducible rfl
          rotate_left
          · simp only [Act.put, sq, i64_w, i32_w]; rfl
          refine pu_ 2 150 (msk 27 7) HT_.out ?_ ?_ ?_ ?_ ?_
          rotate_left
          · intro w'; go_simp; with_reducible rfl
          rotate_left
          · simp only [Act.put, sq, i64_w, i32_w]; rfl
          refine tk_ 3 151 (msk 27 15) HT_.out HW_.out hHeld ?_ ?_ ?_ ?_ ?_
          rotate_left
          · rintro w' ⟨s0, s1, s2, s3⟩; go_simp; with_reducible rfl
          rotate_left
          · simp only [Act.put, sq, i64_w, i32_w]; rfl
          refine pu_ 4 152 (msk 27 31) HT_.out ?_ ?_ ?_ ?_ ?_
          rotate_left
          · intro w'; go_simp; with_reducible rfl
          rotate_left
          · simp only [Act.put, sq, i64_w, i32_w]; rfl
          refine pu_ 5 153 (msk 27 63) HT_.out ?_ ?_ ?_ ?_ ?_
          rotate_left
          · intro w'; go_simp; with_reducible rfl
          rotate_left
          · simp only [Act.put, sq, i64_w, i32_w]; rfl
          refine pu_ 6 154 (msk 27 127) HT_.out ?_ ?_ ?_ ?_ ?_
          rotate_left
          · intro w'; go_simp; with_reducible rfl
          rotate_left
          · simp only [Act.put, sq, i64_w, i32_w]; rfl
          refine pu_ 7 155 (msk 27 255) HT_.out ?_ ?_ ?_ ?_ ?_
          rotate_left
          · intro w'; go_simp; with_reducible rfl
          rotate_left
          · simp only [Act.put, sq, i64_w, i32_w]; rfl
          refine pu_ 8 156 (msk 27 511) HT_.out ?_ ?_ ?_ ?_ ?_
          rotate_left
          · intro w'; go_simp; with_reducible rfl
          rotate_left
          · simp only [Act.put, sq, i64_w, i32_w]; rfl
          refine tk_ 9 157 (msk 27 1023) HT_.out HW_.out hHeld ?_ ?_ ?_ ?_ ?_
          rotate_left
          · rintro w' ⟨s0, s1, s2, s3⟩; go_simp; with_reducible rfl
          rotate_left
          · simp only [Act.put, sq, i64_w, i32_w]; rfl
          refine pu_ 10 158 (msk 27 2047) HT_.out ?_ ?_ ?_ ?_ ?_
          rotate_left
          · intro w'; go_simp; with_reducible rfl
          rotate_left
          · simp only [Act.put, sq, i64_w, i32_w]; rfl
          refine pu_ 11 159 (msk 27 4095) HT_.out ?_ ?_ ?_ ?_ ?_
          rotate_left
          · intro w'; go_simp; with_reducible rfl
          rotate_left
          · simp only [Act.put, sq, i64_w, i32_w]; rfl
          refine pu_ 12 160 (msk 27 8191) HT_.out ?_ ?_ ?_ ?_ ?_
          rotate_left
          · intro w'; go_simp; with_reducible rfl
          rotate_left
          · simp only [Act.put, sq, i64_w, i32_w]; rfl
          refine pu_ 13 161 (msk 27 16383) HT_.out ?_ ?_ ?_ ?_ ?_
          rotate_left
          · intro w'; go_simp; with_reducible rfl
          rotate_left
          · simp only [Act.put, sq, i64_w, i32_w]; rfl
          refine pu_ 14 162 (msk 27 32767) HT_.out ?_ ?_ ?_ ?_ ?_
          rotate_left
          · intro w'; go_simp; with_reducible rfl
          rotate_left
          · simp only [Act.put, sq, i64_w, i32_w]; rfl
          refine pu_ 15 163 (msk 27 65535) HT_.out ?_ ?_ ?_ ?_ ?_
          rotate_left
          · intro w'; go_simp; with_reducible rfl
          rotate_left
          · simp only [Act.put, sq, i64_w, i32_w]; rfl
          refine pu_ 16 164 (msk 27 131071) HT_.out ?_ ?_ ?_ ?_ ?_
          rotate_left
          · intro w'; go_simp; with_reducible rfl
          rotate_left
          · simp only [Act.put, sq, i64_w, i32_w]; rfl
          refine pu_ 17 165 (msk 27 262143) HT_.out ?_ ?_ ?_ ?_ ?_
          rotate_left
          · intro w'; go_simp; with_reducible rfl
          rotate_left
          · simp only [Act.put, sq, i64_w, i32_w]; rfl
          refine pu_ 18 166 (msk 27 524287) HT_.out ?_ ?_ ?_ ?_ ?_
          rotate_left
          · intro w'; go_simp; with_reducible rfl
          rotate_left
          · simp only [Act.put, sq, i64_w, i32_w]; rfl
          refine pu_ 20 168 (msk 27 1572863) HT_.out ?_ ?_ ?_ ?_ ?_
          rotate_left
          · intro w'; go_simp; with_reducible rfl
          rotate_left
          · simp only [Act.put, sq, i64_w, i32_w]; rfl
          refine pu_ 21 169 (msk 27 3670015) HT_.out ?_ ?_ ?_ ?_ ?_
          rotate_left
          · intro w'; go_simp; with_reducible rfl
          rotate_left
          · simp only [Act.put, sq, i64_w, i32_w]; rfl
          refine pu_ 22 170 (msk 27 7864319) HT_.out ?_ ?_ ?_ ?_ ?_
          rotate_left
          · intro w'; go_simp; with_reducible rfl
          rotate_left
          · simp only [Act.put, sq, i64_w, i32_w]; rfl
          refine tk_ 19 167 (msk 27 8388607) HT_.out HW_.out hHeld ?_ ?_ ?_ ?_ ?_
          rotate_left
          · rintro w' ⟨s0, s1, s2, s3⟩; go_simp; with_reducible rfl
          rotate_left
          · simp only [Act.put, sq, i64_w, i32_w]; rfl
          refine tk_ 23 171 (msk 27 16777215) HT_.out HW_.out hHeld ?_ ?_ ?_ ?_ ?_
          rotate_left
          · rintro w' ⟨s0, s1, s2, s3⟩; go_simp; with_reducible rfl
          rotate_left
          · simp only [Act.put, sq, i64_w, i32_w]; rfl
          refine pu_ 24 172 (msk 27 33554431) HT_.out ?_ ?_ ?_ ?_ ?_
          rotate_left
          · intro w'; go_simp; with_reducible rfl
          rotate_left
          · simp only [Act.put, sq, i64_w, i32_w]; rfl
          refine pu_ 25 173 (msk 27 67108863) HT_.out ?_ ?_ ?_ ?_ ?_
          rotate_left
          · intro w'; go_simp; with_reducible rfl
          rotate_left
          · simp only [Act.put, sq, i64_w, i32_w]; rfl
          refine pu_ 26 174 (msk 27 134217727) HT_.out ?_ ?_ ?_ ?_ ?_
          rotate_left
          · intro w'; go_simp; with_reducible rfl
          rotate_left
          · simp only [Act.put, sq, i64_w, i32_w]; rfl
          refine done_ (done_of HT_.out (by kernel_rfl)) ?_
          try go_wp2
          (first | go_roundg k3 | (refine Handed.intro k3 ?measure ?_; rotate_left; go_step; (repeat apply Exists.intro); (refine ⟨?rel, ?fr_⟩); (case fr_ => (simp only [add_plain]; rfl))))
          case measure => have := HK1.out; have := HJ26.out; have := HK3.out; omega
          case rel => exact ⟨(x145_3), (wrap64 (x145_3 + 1)), (by first | rfl | (simp; done) | (simp [*]; done)), (by first | rfl | (simp; done) | (simp [*]; done)), H', ⟨by have := HK1.out; have := HJ26.out; have := HK3.out; omega⟩, ⟨by (try simp only [hl10_1]); (try simp only [hl10_26]); (with_reducible repeat (first | apply Kd.R_alloc | apply Kd.R_drewN | apply Kd.R_drew)); exact HO_2.out⟩, ⟨by (try simp only [hl10_1]); (try simp only [hl10_26]); (with_reducible repeat (first | apply Kd.R_alloc | apply Kd.R_drewN | apply Kd.R_drew)); exact HO_3.out⟩, ⟨by (try simp only [hl10_1]); (try simp only [hl10_26]); (with_reducible repeat (first | apply Kd.R_alloc | apply Kd.R_drewN | apply Kd.R_drew)); exact HO_10.out⟩, ⟨by (try simp only [hl10_1]); (try simp only [hl10_26]); (with_reducible repeat (first | apply Kd.R_alloc | apply Kd.R_drewN | apply Kd.R_drew)); exact HO_11.out⟩, ⟨by repeat (first | (with_reducible first | exact HK.out | apply Kept.alloc | apply Kept.drewN | apply Kept.drew) | exact HK.out)⟩, ⟨by repeat (first | (with_reducible first | exact HB.out | apply below_alloc | apply pw_below_drewN | apply below_drew1) | exact HB.out)⟩⟩
         rw [if_neg c71] at H
         have c71b0 : decide ((rd x10_26 x17_3) < (rd x10_26 x145_3)) = false := decide_eq_false c71
         clear c71
         (try (have c71b0r := c71b0; simp only [hl10_1, hl10_26] at c71b0r))
         have H' := Aside0.mk H
         clear H
         try go_wp2
         have n0_ := Aside0.mk (Kd.R_drew HO_2.out)
         have n1_ := Aside0.mk (Kd.R_drew HO_3.out)
         have n2_ := Aside0.mk (Kd.R_drew HO_10.out)
         have n3_ := Aside0.mk (Kd.R_drew HO_11.out)
         have n4_ := Aside0.mk (Kept.drew HK.out)
         have n5_ := Aside0.mk (below_drew1 HB.out)
         clear HO_2
         clear HO_3
         clear HO_10
         clear HO_11
         clear HK
         clear HB
         have HO_2 := n0_
         have HO_3 := n1_
         have HO_10 := n2_
         have HO_11 := n3_
         have HK := n4_
         have HB := n5_
         clear n0_ n1_ n2_ n3_ n4_ n5_
         obtain ⟨Ao75, co75, eo75⟩ := Kd.R_slice HO_3.out
         (first | subst eo75 | (injection eo75 with f1_ f2_ f3_; have f4_ := f1_.symm; have f5_ := f3_.symm; clear f1_ f2_ f3_; subst f4_; subst f5_))
         have p513 : 0 ≤ (x145_3 : Int) := of_decide_eq_true (by first | (with_reducible assumption) | assumption)
         have q513 : x145_3 < (l3.length : Int) := of_decide_eq_true (by first | (with_reducible assumption) | assumption)
         obtain ⟨ad513, e513, hx513_0⟩ := Kd.at_int (Kd.R_reads' HO_3.out).2.2 x145_3 p513 q513
         cases e513
         replace p513 := eq_true p513
         replace q513 := eq_true q513
         have p514 : 0 ≤ (x145_3 : Int) := of_decide_eq_true (by first | (with_reducible assumption) | assumption)
         have q514 : x145_3 < (x10_26.length : Int) := of_decide_eq_true (by first | (with_reducible assumption) | assumption)
         obtain ⟨ad514, e514, hx514_0⟩ := Kd.at_int (Kd.R_reads' HO_10.out).2.2 x145_3 p514 q514
         cases e514
         replace p514 := eq_true p514
         replace q514 := eq_true q514
         have p515 : 0 ≤ (x145_3 : Int) := of_decide_eq_true (by first | (with_reducible assumption) | assumption)
         have q515 : x145_3 < (x10_26.length : Int) := of_decide_eq_true (by first | (with_reducible assumption) | assumption)
         obtain ⟨ad515, e515, hx515_0⟩ := Kd.at_int (Kd.R_reads' HO_10.out).2.2 x145_3 p515 q515
         obtain rfl : ad514 = ad515 := (by injection e515)
         replace p515 := eq_true p515
         replace q515 := eq_true q515
         have p516 : 0 ≤ (x17_3 : Int) := of_decide_eq_true (by first | (with_reducible assumption) | assumption)
         have q516 : x17_3 < (x10_26.length : Int) := of_decide_eq_true (by first | (with_reducible assumption) | assumption)
         obtain ⟨ad516, e516, hx516_0⟩ := Kd.at_int (Kd.R_reads' HO_10.out).2.2 x17_3 p516 q516
         obtain rfl : ad514 = ad516 := (by injection e516)
         replace p516 := eq_true p516
         replace q516 := eq_true q516
         refine start_ (n := 27) (S := fun w' => w'.cell? (ad513.add (x145_3).toNat) = some (.int .i64 (rd l3 x145_3)) ∧ w'.cell? (ad514.add (x145_3).toNat) = some (.int .i64 (rd x10_26 x145_3)) ∧ w'.cell? (ad514.add (x145_3).toNat) = some (.int .i64 (rd x10_26 x145_3)) ∧ w'.cell? (ad514.add (x17_3).toNat) = some (.int .i64 (rd x10_26 x17_3))) (ds := []) (msk 27 0) (by kernel_rfl) rfl rfl ⟨hx513_0, hx514_0, hx515_0, hx516_0⟩ (fun hHeld => ?_); refine with_tabW match_augment.tab29 match_augment.bits29 (fun HT_ HW_ => ?_)
         generalize wr.drew = w74 at HO_2 HO_3 HO_10 HO_11 HK HB hx513_0 hx514_0 hx515_0 hx516_0 hHeld ⊢
         refine pu_ 0 148 (msk 27 1) HT_.out ?_ ?_ ?_ ?_ ?_
         rotate_left
         · intro w'; go_simp; with_reducible rfl
         rotate_left
         · simp only [Act.put, sq, i64_w, i32_w]; rfl
         refine pu_ 1 149 (msk 27 3) HT_.out ?_ ?_ ?_ ?_ ?_
         rotate_left
         · intro w'; go_simp; with_reducible rfl
         rotate_left
         · simp only [Act.put, sq, i64_w, i32_w]; rfl
         refine pu_ 2 150 (msk 27 7) HT_.out ?_ ?_ ?_ ?_ ?_
         rotate_left
         · intro w'; go_simp; with_reducible rfl
         rotate_left
         · simp only [Act.put, sq, i64_w, i32_w]; rfl
         refine tk_ 3 151 (msk 27 15) HT_.out HW_.out hHeld ?_ ?_ ?_ ?_ ?_
         rotate_left
         · rintro w' ⟨s0, s1, s2, s3⟩; go_simp; with_reducible rfl
         rotate_left
         · simp only [Act.put, sq, i64_w, i32_w]; rfl
         refine pu_ 4 152 (msk 27 31) HT_.out ?_ ?_ ?_ ?_ ?_
         rotate_left
         · intro w'; go_simp; with_reducible rfl
         rotate_left
         · simp only [Act.put, sq, i64_w, i32_w]; rfl
         refine pu_ 5 153 (msk 27 63) HT_.out ?_ ?_ ?_ ?_ ?_
         rotate_left
         · intro w'; go_simp; with_reducible rfl
         rotate_left
         · simp only [Act.put, sq, i64_w, i32_w]; rfl
         refine pu_ 6 154 (msk 27 127) HT_.out ?_ ?_ ?_ ?_ ?_
         rotate_left
         · intro w'; go_simp; with_reducible rfl
         rotate_left
         · simp only [Act.put, sq, i64_w, i32_w]; rfl
         refine pu_ 7 155 (msk 27 255) HT_.out ?_ ?_ ?_ ?_ ?_
         rotate_left
         · intro w'; go_simp; with_reducible rfl
         rotate_left
         · simp only [Act.put, sq, i64_w, i32_w]; rfl
         refine pu_ 8 156 (msk 27 511) HT_.out ?_ ?_ ?_ ?_ ?_
         rotate_left
         · intro w'; go_simp; with_reducible rfl
         rotate_left
         · simp only [Act.put, sq, i64_w, i32_w]; rfl
         refine tk_ 9 157 (msk 27 1023) HT_.out HW_.out hHeld ?_ ?_ ?_ ?_ ?_
         rotate_left
         · rintro w' ⟨s0, s1, s2, s3⟩; go_simp; with_reducible rfl
         rotate_left
         · simp only [Act.put, sq, i64_w, i32_w]; rfl
         refine pu_ 10 158 (msk 27 2047) HT_.out ?_ ?_ ?_ ?_ ?_
         rotate_left
         · intro w'; go_simp; with_reducible rfl
         rotate_left
         · simp only [Act.put, sq, i64_w, i32_w]; rfl
         refine pu_ 11 159 (msk 27 4095) HT_.out ?_ ?_ ?_ ?_ ?_
         rotate_left
         · intro w'; go_simp; with_reducible rfl
         rotate_left
         · simp only [Act.put, sq, i64_w, i32_w]; rfl
         refine pu_ 12 160 (msk 27 8191) HT_.out ?_ ?_ ?_ ?_ ?_
         rotate_left
         · intro w'; go_simp; with_reducible rfl
         rotate_left
         · simp only [Act.put, sq, i64_w, i32_w]; rfl
         refine pu_ 13 161 (msk 27 16383) HT_.out ?_ ?_ ?_ ?_ ?_
         rotate_left
         · intro w'; go_simp; with_reducible rfl
         rotate_left
         · simp only [Act.put, sq, i64_w, i32_w]; rfl
         refine pu_ 14 162 (msk 27 32767) HT_.out ?_ ?_ ?_ ?_ ?_
         rotate_left
         · intro w'; go_simp; with_reducible rfl
         rotate_left
         · simp only [Act.put, sq, i64_w, i32_w]; rfl
         refine pu_ 15 163 (msk 27 65535) HT_.out ?_ ?_ ?_ ?_ ?_
         rotate_left
         · intro w'; go_simp; with_reducible rfl
         rotate_left
         · simp only [Act.put, sq, i64_w, i32_w]; rfl
         refine pu_ 16 164 (msk 27 131071) HT_.out ?_ ?_ ?_ ?_ ?_
         rotate_left
         · intro w'; go_simp; with_reducible rfl
         rotate_left
         · simp only [Act.put, sq, i64_w, i32_w]; rfl
         refine pu_ 17 165 (msk 27 262143) HT_.out ?_ ?_ ?_ ?_ ?_
         rotate_left
         · intro w'; go_simp; with_reducible rfl
         rotate_left
         · simp only [Act.put, sq, i64_w, i32_w]; rfl
         refine pu_ 18 166 (msk 27 524287) HT_.out ?_ ?_ ?_ ?_ ?_
         rotate_left
         · intro w'; go_simp; with_reducible rfl
         rotate_left
         · simp only [Act.put, sq, i64_w, i32_w]; rfl
         refine pu_ 20 168 (msk 27 1572863) HT_.out ?_ ?_ ?_ ?_ ?_
         rotate_left
         · intro w'; go_simp; with_reducible rfl
         rotate_left
         · simp only [Act.put, sq, i64_w, i32_w]; rfl
         refine pu_ 21 169 (msk 27 3670015) HT_.out ?_ ?_ ?_ ?_ ?_
         rotate_left
         · intro w'; go_simp; with_reducible rfl
         rotate_left
         · simp only [Act.put, sq, i64_w, i32_w]; rfl
         refine pu_ 22 170 (msk 27 7864319) HT_.out ?_ ?_ ?_ ?_ ?_
         rotate_left
         · intro w'; go_simp; with_reducible rfl
         rotate_left
         · simp only [Act.put, sq, i64_w, i32_w]; rfl
         refine tk_ 19 167 (msk 27 8388607) HT_.out HW_.out hHeld ?_ ?_ ?_ ?_ ?_
         rotate_left
         · rintro w' ⟨s0, s1, s2, s3⟩; go_simp; with_reducible rfl
         rotate_left
         · simp only [Act.put, sq, i64_w, i32_w]; rfl
         refine tk_ 23 171 (msk 27 16777215) HT_.out HW_.out hHeld ?_ ?_ ?_ ?_ ?_
         rotate_left
         · rintro w' ⟨s0, s1, s2, s3⟩; go_simp; with_reducible rfl
         rotate_left
         · simp only [Act.put, sq, i64_w, i32_w]; rfl
         refine pu_ 24 172 (msk 27 33554431) HT_.out ?_ ?_ ?_ ?_ ?_
         rotate_left
         · intro w'; go_simp; with_reducible rfl
         rotate_left
         · simp only [Act.put, sq, i64_w, i32_w]; rfl
         refine pu_ 25 173 (msk 27 67108863) HT_.out ?_ ?_ ?_ ?_ ?_
         rotate_left
         · intro w'; go_simp; with_reducible rfl
         rotate_left
         · simp only [Act.put, sq, i64_w, i32_w]; rfl
         refine pu_ 26 174 (msk 27 134217727) HT_.out ?_ ?_ ?_ ?_ ?_
         rotate_left
         · intro w'; go_simp; with_reducible rfl
         rotate_left
         · simp only [Act.put, sq, i64_w, i32_w]; rfl
         refine done_ (done_of HT_.out (by kernel_rfl)) ?_
         try go_wp2
         (first | go_roundg k3 | (refine Handed.intro k3 ?measure ?_; rotate_left; go_step; (repeat apply Exists.intro); (refine ⟨?rel, ?fr_⟩); (case fr_ => (simp only [add_plain]; rfl))))
         case measure => have := HK1.out; have := HJ26.out; have := HK3.out; omega
         case rel => exact ⟨(x17_3), (wrap64 (x145_3 + 1)), (by first | rfl | (simp; done) | (simp [*]; done)), (by first | rfl | (simp; done) | (simp [*]; done)), H', ⟨by have := HK1.out; have := HJ26.out; have := HK3.out; omega⟩, ⟨by (try simp only [hl10_1]); (try simp only [hl10_26]); (with_reducible repeat (first | apply Kd.R_alloc | apply Kd.R_drewN | apply Kd.R_drew)); exact HO_2.out⟩, ⟨by (try simp only [hl10_1]); (try simp only [hl10_26]); (with_reducible repeat (first | apply Kd.R_alloc | apply Kd.R_drewN | apply Kd.R_drew)); exact HO_3.out⟩, ⟨by (try simp only [hl10_1]); (try simp only [hl10_26]); (with_reducible repeat (first | apply Kd.R_alloc | apply Kd.R_drewN | apply Kd.R_drew)); exact HO_10.out⟩, ⟨by (try simp only [hl10_1]); (try simp only [hl10_26]); (with_reducible repeat (first | apply Kd.R_alloc | apply Kd.R_drewN | apply Kd.R_drew)); exact HO_11.out⟩, ⟨by repeat (first | (with_reducible first | exact HK.out | apply Kept.alloc | apply Kept.drewN | apply Kept.drew) | exact HK.out)⟩, ⟨by repeat (first | (with_reducible first | exact HB.out | apply below_alloc | apply pw_below_drewN | apply below_drew1) | exact HB.out)⟩⟩

end Go.Proofs.Ytlaneafplmbcnaa.PO
