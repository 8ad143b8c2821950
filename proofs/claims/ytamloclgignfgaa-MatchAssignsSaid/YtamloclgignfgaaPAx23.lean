/- What the Go functions of this part compute, as Lean functions, and that the machine's calls come to just that; written for this claim by a program of the session (gen.sh, after the kit's printer). -/
import Derived.Test.YtamloclgignfgaaPAx0
import Derived.Test.YtamloclgignfgaaSq
namespace Go.Proofs.Ytamloclgignfgaa.PA
open Go.RowKit Go.Proofs.YtamloclgignfgaaW.PrintWords Go.Proofs.YtamloclgignfgaaW.PrintLast Go.Proofs.YtamloclgignfgaaW.PrintMore
attribute [local go_sem] max2_int min2_int max_two min_two max_three min_three max_four min_four   -- for this text's walks alone
set_option linter.unusedVariables false
set_option linter.unusedSimpArgs false

/-! ### orreryref19_Better: function 25 -/
mutual
def orreryref19_Better.l0 : Nat → List (List Int) → List Int → Int → List (List Int) → Int → Option (Bool)
  | 0, _, _, _, _, _ => none
  | k + 1, x0, x1, x5, x6, x7 => if x7 < x5 then (orreryref19_Better.l1 k x0 x1 x5 x6 x7 (([] : List Int)) 0) else (orreryref19_Better.l2 k x5 x6 0)
def orreryref19_Better.l1 : Nat → List (List Int) → List Int → Int → List (List Int) → Int → List Int → Int → Option (Bool)
  | 0, _, _, _, _, _, _, _ => none
  | k + 1, x0, x1, x5, x6, x7, x8, x9 => if x9 < x5 then (if 0 ≤ x7 then (if x7 < (x0.length : Int) then (if 0 ≤ x9 then (if x9 < (x1.length : Int) then (if 0 ≤ (rd x1 x9) then (if (rd x1 x9) < ((rd_L3 x0 x7).length : Int) then (if (rd (rd_L3 x0 x7) (rd x1 x9)) ≥ 0 then (orreryref19_Better.j2 k x0 x1 x5 x6 x7 x8 x9 (-1000000) (x7 != x9)) else (orreryref19_Better.j2 k x0 x1 x5 x6 x7 x8 x9 (-1000000) false)) else (none)) else (none)) else (none)) else (none)) else (none)) else (none)) else (if x6.length < 5864062014805 then (orreryref19_Better.l0 k x0 x1 x5 (x6 ++ [x8]) (wrap64 (x7 + 1))) else (none))
def orreryref19_Better.j2 : Nat → List (List Int) → List Int → Int → List (List Int) → Int → List Int → Int → Int → Bool → Option (Bool)
  | 0, _, _, _, _, _, _, _, _, _ => none
  | k + 1, x0, x1, x5, x6, x7, x8, x9, x10, x43 => if x43 = true then (if 0 ≤ x7 then (if x7 < (x0.length : Int) then (if 0 ≤ x9 then (if x9 < (x1.length : Int) then (if 0 ≤ (rd x1 x9) then (if (rd x1 x9) < ((rd_L3 x0 x7).length : Int) then (if x9 < (x0.length : Int) then (if (rd x1 x9) < ((rd_L3 x0 x9).length : Int) then (if x7 = x9 then (if x8.length < 17592186044416 then (orreryref19_Better.l1 k x0 x1 x5 x6 x7 (x8 ++ [0]) (wrap64 (x9 + 1))) else (none)) else (if x8.length < 17592186044416 then (orreryref19_Better.l1 k x0 x1 x5 x6 x7 (x8 ++ [wrap64 ((rd (rd_L3 x0 x7) (rd x1 x9)) - (rd (rd_L3 x0 x9) (rd x1 x9)))]) (wrap64 (x9 + 1))) else (none))) else (none)) else (none)) else (none)) else (none)) else (none)) else (none)) else (none)) else (none)) else (if x7 = x9 then (if x8.length < 17592186044416 then (orreryref19_Better.l1 k x0 x1 x5 x6 x7 (x8 ++ [0]) (wrap64 (x9 + 1))) else (none)) else (if x8.length < 17592186044416 then (orreryref19_Better.l1 k x0 x1 x5 x6 x7 (x8 ++ [x10]) (wrap64 (x9 + 1))) else (none)))
def orreryref19_Better.l2 : Nat → Int → List (List Int) → Int → Option (Bool)
  | 0, _, _, _ => none
  | k + 1, x5, x6, x11 => if x11 < x5 then (orreryref19_Better.l3 k x5 x6 x11 0) else (some false)
def orreryref19_Better.l3 : Nat → Int → List (List Int) → Int → Int → Option (Bool)
  | 0, _, _, _, _ => none
  | k + 1, x5, x6, x11, x12 => if x12 < x5 then (orreryref19_Better.l4 k x5 x6 x11 x12 0) else (orreryref19_Better.l2 k x5 x6 (wrap64 (x11 + 1)))
def orreryref19_Better.l4 : Nat → Int → List (List Int) → Int → Int → Int → Option (Bool)
  | 0, _, _, _, _, _ => none
  | k + 1, x5, x6, x11, x12, x13 => if x13 < x5 then (if 0 ≤ x12 then (if x12 < (x6.length : Int) then (if 0 ≤ x11 then (if x11 < ((rd_L3 x6 x12).length : Int) then (if (rd (rd_L3 x6 x12) x11) > (-500000) then (if x11 < (x6.length : Int) then (if 0 ≤ x13 then (if x13 < ((rd_L3 x6 x11).length : Int) then (if (rd (rd_L3 x6 x11) x13) > (-500000) then (if x13 < ((rd_L3 x6 x12).length : Int) then (orreryref19_Better.j6 k x5 x6 x11 x12 x13 (decide ((wrap64 ((rd (rd_L3 x6 x12) x11) + (rd (rd_L3 x6 x11) x13))) > (rd (rd_L3 x6 x12) x13)))) else (none)) else (orreryref19_Better.j6 k x5 x6 x11 x12 x13 false)) else (none)) else (none)) else (none)) else (orreryref19_Better.j6 k x5 x6 x11 x12 x13 false)) else (none)) else (none)) else (none)) else (none)) else (orreryref19_Better.l3 k x5 x6 x11 (wrap64 (x12 + 1)))
def orreryref19_Better.j6 : Nat → Int → List (List Int) → Int → Int → Int → Bool → Option (Bool)
  | 0, _, _, _, _, _, _ => none
  | k + 1, x5, x6, x11, x12, x13, x133 => if x133 = true then (if 0 ≤ x12 then (if x12 < (x6.length : Int) then (if 0 ≤ x11 then (if x11 < ((rd_L3 x6 x12).length : Int) then (if x11 < (x6.length : Int) then (if 0 ≤ x13 then (if x13 < ((rd_L3 x6 x11).length : Int) then (if x13 < ((rd_L3 x6 x12).length : Int) then ((some (x6.set (x12 : Int).toNat ((rd_L3 x6 x12).set (x13 : Int).toNat (wrap64 ((rd (rd_L3 x6 x12) x11) + (rd (rd_L3 x6 x11) x13)))) : List (List Int))).bind fun y442 => (if x12 = x13 then (if x13 < ((rd_L3 y442 x12).length : Int) then (if (rd (rd_L3 y442 x12) x13) > 0 then (some true) else (orreryref19_Better.l4 k x5 y442 x11 x12 (wrap64 (x13 + 1)))) else (none)) else (orreryref19_Better.l4 k x5 y442 x11 x12 (wrap64 (x13 + 1))))) else (none)) else (none)) else (none)) else (none)) else (none)) else (none)) else (none)) else (none)) else (if x12 = x13 then (if 0 ≤ x12 then (if x12 < (x6.length : Int) then (if 0 ≤ x13 then (if x13 < ((rd_L3 x6 x12).length : Int) then (if (rd (rd_L3 x6 x12) x13) > 0 then (some true) else (orreryref19_Better.l4 k x5 x6 x11 x12 (wrap64 (x13 + 1)))) else (none)) else (none)) else (none)) else (none)) else (orreryref19_Better.l4 k x5 x6 x11 x12 (wrap64 (x13 + 1))))
end
def orreryref19_Better.f (k : Nat) (l0 : List (List Int)) (l1 : List Int) : Option (Bool) := orreryref19_Better.l0 k l0 l1 (l0.length : Int) (([] : List (List Int))) 0
theorem orreryref19_Better.mono_l : ∀ k, (∀ y0 y1 y2 y3 y4, LeO (orreryref19_Better.l0 k y0 y1 y2 y3 y4) (orreryref19_Better.l0 (k + 1) y0 y1 y2 y3 y4)) ∧ (∀ y0 y1 y2 y3 y4 y5 y6, LeO (orreryref19_Better.l1 k y0 y1 y2 y3 y4 y5 y6) (orreryref19_Better.l1 (k + 1) y0 y1 y2 y3 y4 y5 y6)) ∧ (∀ y0 y1 y2 y3 y4 y5 y6 y7 y8, LeO (orreryref19_Better.j2 k y0 y1 y2 y3 y4 y5 y6 y7 y8) (orreryref19_Better.j2 (k + 1) y0 y1 y2 y3 y4 y5 y6 y7 y8)) ∧ (∀ y0 y1 y2, LeO (orreryref19_Better.l2 k y0 y1 y2) (orreryref19_Better.l2 (k + 1) y0 y1 y2)) ∧ (∀ y0 y1 y2 y3, LeO (orreryref19_Better.l3 k y0 y1 y2 y3) (orreryref19_Better.l3 (k + 1) y0 y1 y2 y3)) ∧ (∀ y0 y1 y2 y3 y4, LeO (orreryref19_Better.l4 k y0 y1 y2 y3 y4) (orreryref19_Better.l4 (k + 1) y0 y1 y2 y3 y4)) ∧ (∀ y0 y1 y2 y3 y4 y5, LeO (orreryref19_Better.j6 k y0 y1 y2 y3 y4 y5) (orreryref19_Better.j6 (k + 1) y0 y1 y2 y3 y4 y5))
  | 0 => ⟨fun _ _ _ _ _ r h => by simp [orreryref19_Better.l0] at h, fun _ _ _ _ _ _ _ r h => by simp [orreryref19_Better.l1] at h, fun _ _ _ _ _ _ _ _ _ r h => by simp [orreryref19_Better.j2] at h, fun _ _ _ r h => by simp [orreryref19_Better.l2] at h, fun _ _ _ _ r h => by simp [orreryref19_Better.l3] at h, fun _ _ _ _ _ r h => by simp [orreryref19_Better.l4] at h, fun _ _ _ _ _ _ r h => by simp [orreryref19_Better.j6] at h⟩
  | k + 1 => by
    obtain ⟨ih0, ih1, ih2, ih3, ih4, ih5, ih6⟩ := orreryref19_Better.mono_l k
    refine ⟨?_, ?_, ?_, ?_, ?_, ?_, ?_⟩
    · intro y0 y1 y2 y3 y4
      unfold orreryref19_Better.l0
      repeat' first
      | (with_reducible exact ih0 _ _ _ _ _)
      | (with_reducible exact ih1 _ _ _ _ _ _ _)
      | (with_reducible exact ih2 _ _ _ _ _ _ _ _ _)
      | (with_reducible exact ih3 _ _ _)
      | (with_reducible exact ih4 _ _ _ _)
      | (with_reducible exact ih5 _ _ _ _ _)
      | (with_reducible exact ih6 _ _ _ _ _ _)
      | (with_reducible exact LeO.refl _)
      | (with_reducible exact LeO.none _)
      | (with_reducible refine LeO.ite ?_ ?_)
      | (with_reducible refine LeO.bind ?_ (fun _ => ?_))
      | exact ih0 _ _ _ _ _
      | exact ih1 _ _ _ _ _ _ _
      | exact ih2 _ _ _ _ _ _ _ _ _
      | exact ih3 _ _ _
      | exact ih4 _ _ _ _
      | exact ih5 _ _ _ _ _
      | exact ih6 _ _ _ _ _ _
      | exact LeO.none _
      | refine LeO.ite ?_ ?_
      | refine LeO.bind ?_ (fun _ => ?_)
    · intro y0 y1 y2 y3 y4 y5 y6
      unfold orreryref19_Better.l1
      repeat' first
      | (with_reducible exact ih0 _ _ _ _ _)
      | (with_reducible exact ih1 _ _ _ _ _ _ _)
      | (with_reducible exact ih2 _ _ _ _ _ _ _ _ _)
      | (with_reducible exact ih3 _ _ _)
      | (with_reducible exact ih4 _ _ _ _)
      | (with_reducible exact ih5 _ _ _ _ _)
      | (with_reducible exact ih6 _ _ _ _ _ _)
      | (with_reducible exact LeO.refl _)
      | (with_reducible exact LeO.none _)
      | (with_reducible refine LeO.ite ?_ ?_)
      | (with_reducible refine LeO.bind ?_ (fun _ => ?_))
      | exact ih0 _ _ _ _ _
      | exact ih1 _ _ _ _ _ _ _
      | exact ih2 _ _ _ _ _ _ _ _ _
      | exact ih3 _ _ _
      | exact ih4 _ _ _ _
      | exact ih5 _ _ _ _ _
      | exact ih6 _ _ _ _ _ _
      | exact LeO.none _
      | refine LeO.ite ?_ ?_
      | refine LeO.bind ?_ (fun _ => ?_)
    · intro y0 y1 y2 y3 y4 y5 y6 y7 y8
      unfold orreryref19_Better.j2
      repeat' first
      | (with_reducible exact ih0 _ _ _ _ _)
      | (with_reducible exact ih1 _ _ _ _ _ _ _)
      | (with_reducible exact ih2 _ _ _ _ _ _ _ _ _)
      | (with_reducible exact ih3 _ _ _)
      | (with_reducible exact ih4 _ _ _ _)
      | (with_reducible exact ih5 _ _ _ _ _)
      | (with_reducible exact ih6 _ _ _ _ _ _)
      | (with_reducible exact LeO.refl _)
      | (with_reducible exact LeO.none _)
      | (with_reducible refine LeO.ite ?_ ?_)
      | (with_reducible refine LeO.bind ?_ (fun _ => ?_))
      | exact ih0 _ _ _ _ _
      | exact ih1 _ _ _ _ _ _ _
      | exact ih2 _ _ _ _ _ _ _ _ _
      | exact ih3 _ _ _
      | exact ih4 _ _ _ _
      | exact ih5 _ _ _ _ _
      | exact ih6 _ _ _ _ _ _
      | exact LeO.none _
      | refine LeO.ite ?_ ?_
      | refine LeO.bind ?_ (fun _ => ?_)
    · intro y0 y1 y2
      unfold orreryref19_Better.l2
      repeat' first
      | (with_reducible exact ih0 _ _ _ _ _)
      | (with_reducible exact ih1 _ _ _ _ _ _ _)
      | (with_reducible exact ih2 _ _ _ _ _ _ _ _ _)
      | (with_reducible exact ih3 _ _ _)
      | (with_reducible exact ih4 _ _ _ _)
      | (with_reducible exact ih5 _ _ _ _ _)
      | (with_reducible exact ih6 _ _ _ _ _ _)
      | (with_reducible exact LeO.refl _)
      | (with_reducible exact LeO.none _)
      | (with_reducible refine LeO.ite ?_ ?_)
      | (with_reducible refine LeO.bind ?_ (fun _ => ?_))
      | exact ih0 _ _ _ _ _
      | exact ih1 _ _ _ _ _ _ _
      | exact ih2 _ _ _ _ _ _ _ _ _
      | exact ih3 _ _ _
      | exact ih4 _ _ _ _
      | exact ih5 _ _ _ _ _
      | exact ih6 _ _ _ _ _ _
      | exact LeO.none _
      | refine LeO.ite ?_ ?_
      | refine LeO.bind ?_ (fun _ => ?_)
    · intro y0 y1 y2 y3
      unfold orreryref19_Better.l3
      repeat' first
      | (with_reducible exact ih0 _ _ _ _ _)
      | (with_reducible exact ih1 _ _ _ _ _ _ _)
      | (with_reducible exact ih2 _ _ _ _ _ _ _ _ _)
      | (with_reducible exact ih3 _ _ _)
      | (with_reducible exact ih4 _ _ _ _)
      | (with_reducible exact ih5 _ _ _ _ _)
      | (with_reducible exact ih6 _ _ _ _ _ _)
      | (with_reducible exact LeO.refl _)
      | (with_reducible exact LeO.none _)
      | (with_reducible refine LeO.ite ?_ ?_)
      | (with_reducible refine LeO.bind ?_ (fun _ => ?_))
      | exact ih0 _ _ _ _ _
      | exact ih1 _ _ _ _ _ _ _
      | exact ih2 _ _ _ _ _ _ _ _ _
      | exact ih3 _ _ _
      | exact ih4 _ _ _ _
      | exact ih5 _ _ _ _ _
      | exact ih6 _ _ _ _ _ _
      | exact LeO.none _
      | refine LeO.ite ?_ ?_
      | refine LeO.bind ?_ (fun _ => ?_)
    · intro y0 y1 y2 y3 y4
      unfold orreryref19_Better.l4
      repeat' first
      | (with_reducible exact ih0 _ _ _ _ _)
      | (with_reducible exact ih1 _ _ _ _ _ _ _)
      | (with_reducible exact ih2 _ _ _ _ _ _ _ _ _)
      | (with_reducible exact ih3 _ _ _)
      | (with_reducible exact ih4 _ _ _ _)
      | (with_reducible exact ih5 _ _ _ _ _)
      | (with_reducible exact ih6 _ _ _ _ _ _)
      | (with_reducible exact LeO.refl _)
      | (with_reducible exact LeO.none _)
      | (with_reducible refine LeO.ite ?_ ?_)
      | (with_reducible refine LeO.bind ?_ (fun _ => ?_))
      | exact ih0 _ _ _ _ _
      | exact ih1 _ _ _ _ _ _ _
      | exact ih2 _ _ _ _ _ _ _ _ _
      | exact ih3 _ _ _
      | exact ih4 _ _ _ _
      | exact ih5 _ _ _ _ _
      | exact ih6 _ _ _ _ _ _
      | exact LeO.none _
      | refine LeO.ite ?_ ?_
      | refine LeO.bind ?_ (fun _ => ?_)
    · intro y0 y1 y2 y3 y4 y5
      unfold orreryref19_Better.j6
      repeat' first
      | (with_reducible exact ih0 _ _ _ _ _)
      | (with_reducible exact ih1 _ _ _ _ _ _ _)
      | (with_reducible exact ih2 _ _ _ _ _ _ _ _ _)
      | (with_reducible exact ih3 _ _ _)
      | (with_reducible exact ih4 _ _ _ _)
      | (with_reducible exact ih5 _ _ _ _ _)
      | (with_reducible exact ih6 _ _ _ _ _ _)
      | (with_reducible exact LeO.refl _)
      | (with_reducible exact LeO.none _)
      | (with_reducible refine LeO.ite ?_ ?_)
      | (with_reducible refine LeO.bind ?_ (fun _ => ?_))
      | exact ih0 _ _ _ _ _
      | exact ih1 _ _ _ _ _ _ _
      | exact ih2 _ _ _ _ _ _ _ _ _
      | exact ih3 _ _ _
      | exact ih4 _ _ _ _
      | exact ih5 _ _ _ _ _
      | exact ih6 _ _ _ _ _ _
      | exact LeO.none _
      | refine LeO.ite ?_ ?_
      | refine LeO.bind ?_ (fun _ => ?_)
theorem orreryref19_Better.mono : ∀ a0 a1 k, LeO (orreryref19_Better.f k a0 a1) (orreryref19_Better.f (k + 1) a0 a1) := by
 intro a0 a1 k
 obtain ⟨ih0, ih1, ih2, ih3, ih4, ih5, ih6⟩ := orreryref19_Better.mono_l k
 unfold orreryref19_Better.f
 repeat' first
     | (with_reducible exact ih0 _ _ _ _ _)
     | (with_reducible exact ih1 _ _ _ _ _ _ _)
     | (with_reducible exact ih2 _ _ _ _ _ _ _ _ _)
     | (with_reducible exact ih3 _ _ _)
     | (with_reducible exact ih4 _ _ _ _)
     | (with_reducible exact ih5 _ _ _ _ _)
     | (with_reducible exact ih6 _ _ _ _ _ _)
     | (with_reducible exact LeO.refl _)
     | (with_reducible exact LeO.none _)
     | (with_reducible refine LeO.ite ?_ ?_)
     | (with_reducible refine LeO.bind ?_ (fun _ => ?_))
     | exact ih0 _ _ _ _ _
     | exact ih1 _ _ _ _ _ _ _
     | exact ih2 _ _ _ _ _ _ _ _ _
     | exact ih3 _ _ _
     | exact ih4 _ _ _ _
     | exact ih5 _ _ _ _ _
     | exact ih6 _ _ _ _ _ _
     | exact LeO.none _
     | refine LeO.ite ?_ ?_
     | refine LeO.bind ?_ (fun _ => ?_)
def orreryref19_Better.T11 : Bool × List (List Nat × List Nat) := (true, [([], []), ([], []), ([0, 1], [0, 1]), ([2], [2]), ([], []), ([], []), ([4, 5], [4, 5]), ([6], [6]), ([3, 7], [3, 7]), ([8], [8]), ([9], [9]), ([10], [10]), ([11], [11]), ([11], [11]), ([12, 13, 11], [11, 12, 13]), ([11, 14], [11, 14])])
def orreryref19_Better.B11 : List Nat := [0, 0, 3, 7, 0, 0, 48, 112, 255, 511, 1023, 2047, 4095, 4095, 16383, 32767]
theorem orreryref19_Better.tab11 : rtab .any (opsOf Try.f25 11) = orreryref19_Better.T11 := by kernel_rfl
theorem orreryref19_Better.bits11 : waitsOk orreryref19_Better.T11.2 orreryref19_Better.B11 = true := by kernel_rfl
def orreryref19_Better.T12 : Bool × List (List Nat × List Nat) := (true, [([], []), ([], []), ([0, 1], [0, 1]), ([2], [2]), ([], []), ([], []), ([4, 5], [4, 5]), ([6], [6]), ([3, 7], [3, 7]), ([8], [8]), ([], []), ([], []), ([10, 11], [10, 11]), ([12], [12]), ([], []), ([], []), ([14, 15], [14, 15]), ([16], [16]), ([13, 17], [13, 17]), ([18], [18]), ([9, 19], [9, 19]), ([20, 0, 1, 2, 3, 4, 5, 6, 7, 8, 9, 10, 11, 12, 13, 14, 15, 16, 17, 18, 19, 20], [20])])
def orreryref19_Better.B12 : List Nat := [0, 0, 3, 7, 0, 0, 48, 112, 255, 511, 0, 0, 3072, 7168, 0, 0, 49152, 114688, 261120, 523264, 1048575, 2097151]
theorem orreryref19_Better.tab12 : rtab .any (opsOf Try.f25 12) = orreryref19_Better.T12 := by kernel_rfl
theorem orreryref19_Better.bits12 : waitsOk orreryref19_Better.T12.2 orreryref19_Better.B12 = true := by kernel_rfl
def orreryref19_Better.T26 : Bool × List (List Nat × List Nat) := (true, [([], []), ([], []), ([0, 1], [0, 1]), ([2], [2]), ([], []), ([3, 4], [3, 4]), ([5], [5]), ([6], [6]), ([7], [7]), ([8], [8]), ([8], [8]), ([9, 10, 8], [8, 9, 10]), ([11, 8], [8, 11]), ([8], [8]), ([12, 13, 8], [8, 12, 13]), ([14, 8], [8, 14]), ([15, 8], [8, 15]), ([8, 16], [8, 16]), ([17, 8], [17]), ([18], [18]), ([18], [18]), ([19, 20, 18], [18, 19, 20]), ([21, 18], [18, 21]), ([18], [18]), ([22, 23, 18], [18, 22, 23]), ([24, 18], [18, 24]), ([18], [18]), ([18], [18]), ([26, 27, 18], [18, 26, 27]), ([28, 18], [18, 28]), ([18], [18]), ([29, 30, 18], [18, 29, 30]), ([31, 18], [18, 31]), ([25, 32, 18], [18, 25, 32]), ([18], [18]), ([18], [18]), ([34, 35, 18], [18, 34, 35]), ([36, 18], [18, 36]), ([18], [18]), ([37, 38, 18], [18, 37, 38]), ([39, 18], [18, 39]), ([33, 40, 18], [18, 33, 40]), ([18, 41], [18, 41])])
def orreryref19_Better.B26 : List Nat := [0, 0, 3, 7, 0, 31, 63, 127, 255, 511, 511, 2047, 4095, 511, 16383, 32767, 65535, 131071, 262143, 524287, 524287, 2097151, 4194303, 524287, 16777215, 33554431, 524287, 524287, 201850879, 470286335, 524287, 2080899071, 4228382719, 8589934591, 524287, 524287, 51540131839, 120259608575, 524287, 532576468991, 1082332282879, 2199023255551, 4398046511103]
theorem orreryref19_Better.tab26 : rtab .any (opsOf Try.f25 26) = orreryref19_Better.T26 := by kernel_rfl
theorem orreryref19_Better.bits26 : waitsOk orreryref19_Better.T26.2 orreryref19_Better.B26 = true := by kernel_rfl
def orreryref19_Better.T27 : Bool × List (List Nat × List Nat) := (true, [([], []), ([], []), ([0, 1], [0, 1]), ([2], [2]), ([], []), ([], []), ([], []), ([5, 6], [5, 6]), ([7], [7]), ([], []), ([8, 9], [8, 9]), ([10], [10]), ([], []), ([], []), ([12, 13], [12, 13]), ([14], [14]), ([], []), ([15, 16], [15, 16]), ([17], [17]), ([11, 18], [11, 18]), ([3, 4, 0, 1, 2, 3, 4, 5, 6, 7, 8, 9, 10, 11, 12, 13, 14, 15, 16, 17, 18, 19], [3, 4]), ([20, 19, 0, 1, 2, 3, 4, 5, 6, 7, 8, 9, 10, 11, 12, 13, 14, 15, 16, 17, 18, 19], [19, 20])])
def orreryref19_Better.B27 : List Nat := [0, 0, 3, 7, 0, 0, 0, 96, 224, 0, 992, 2016, 0, 0, 12288, 28672, 0, 126976, 258048, 524256, 1048575, 2097151]
theorem orreryref19_Better.tab27 : rtab .any (opsOf Try.f25 27) = orreryref19_Better.T27 := by kernel_rfl
theorem orreryref19_Better.bits27 : waitsOk orreryref19_Better.T27.2 orreryref19_Better.B27 = true := by kernel_rfl
set_option maxHeartbeats 8000000 in
set_option maxRecDepth 100000 in
theorem orreryref19_Better.calls (k : Nat) (A0 : Option Addr) (c0 : Nat) (l0 : List (List Int)) (A1 : Option Addr) (c1 : Nat) (l1 : List Int) (r : Bool) (w : World) (hr0 : Kd.C (Kd.slice 3 (Kd.int .i64)) w A0 l0.length l0) (hc0 : l0.length ≤ c0) (hr1 : Kd.C (Kd.int .i64) w A1 l1.length l1) (hc1 : l1.length ≤ c1) (h : orreryref19_Better.f k l0 l1 = some r) :
    Calls Try.prog 25 #[.slice A0 l0.length c0, .slice A1 l1.length c1] w fun e w' => e = .returned (.bool r) ∧ Below w.heap.size w w' := by
 have HR0 := Aside0.mk hr0
 have HC0 := Aside0.mk hc0
 clear hr0 hc0
 have HR1 := Aside0.mk hr1
 have HC1 := Aside0.mk hc1
 clear hr1 hc1
 have HB := Aside0.mk (Below.refl w.heap.size w)
 have H : (orreryref19_Better.l0 k l0 l1 (l0.length : Int) (([] : List (List Int))) 0) = some r := h
 clear h
 obtain ⟨y395, hy395⟩ : ∃ y_ : List (List Int), y_ = (([] : List (List Int))) := ⟨_, rfl⟩
 replace H : (orreryref19_Better.l0 k l0 l1 (l0.length : Int) y395 0) = some r := by first | (rw [hy395]; with_reducible exact H) | (have H2_ := (Option.bind_some _ _).symm.trans H; rw [hy395]; with_reducible exact H2_) | (have H2_ := (Option.bind_some _ _).symm.trans H; with_reducible exact H2_) | with_reducible exact H | (rw [hy395]; exact H) | exact H
 have Ny395 := Aside0.mk hy395
 clear hy395
 have H' := Aside0.mk H
 clear H
 go_enter Try.func25, Try.ntmps25
 go_wp2_with (first | ((with_reducible refine gate_dst (N := 16) rfl ?_); refine Kd.S_lit (Kd.slice 3 (Kd.int .i64)) _ 23 ?hg (N := 16) ?hd (xs := ([] : List (List Int))) (inner := []) (ok := fun _ => True) (okp := fun _ => True) ?hr ?hp (fun _ hk => hk) trivial (Below.refl _ _) (Nat.le_refl _) (by simp) ?_; (case hd => rfl); (case hg => rfl); (case hr => first | (go_simp; done) | (go_simp; rfl)); (case hp => exact (Reps.none _ _)); intro v396 w3 ho4 hb hg_ hnew_; clear hg_ hnew_; (first | rw [← Ny395.out] at ho4 | (simp only [Int.reduceToNat] at ho4; rw [← Ny395.out] at ho4)); have n0_ := Aside0.mk (Kd.S_lower ho4 (below_size (by repeat (first | (with_reducible first | exact HB.out | apply below_alloc | apply pw_below_drewN | apply below_drew1) | exact HB.out)))); have n1_ := Aside0.mk (below_step (by repeat (first | (with_reducible first | exact HB.out | apply below_alloc | apply pw_below_drewN | apply below_drew1) | exact HB.out)) hb); clear HB; have HO397 := n0_; have HB := n1_; clear n0_ n1_; clear hb ho4))
 go_loopg [6, 7] k (fun kq v6 v7 w' => ∃ (x6_1 : List (List Int)) (x7_1 : Int), v7 = .int .i64 x7_1 ∧ Aside0 (orreryref19_Better.l0 kq l0 l1 (l0.length : Int) x6_1 x7_1 = some r) ∧ Aside0 (kq ≤ k) ∧ Aside0 (Kd.S (Kd.slice 3 (Kd.int .i64)) 23 w' w.heap.size (fun _ => True) v6 x6_1) ∧ Aside0 (Below w.heap.size w w'))
 case atStart => exact ⟨(y395), (0), (by first | rfl | (simp; done) | (simp [*]; done)), H', ⟨Nat.le_refl _⟩, ⟨by (with_reducible repeat (first | apply Kd.S_alloc | apply Kd.S_drewN | apply Kd.S_drew)); exact HO397.out⟩, ⟨by repeat (first | (with_reducible first | exact HB.out | apply below_alloc | apply pw_below_drewN | apply below_drew1) | exact HB.out)⟩⟩
 case round =>
  as_aux_lemma =>
   clear H'
   try clear c1
   try clear c2
   try clear p2
   obtain ⟨x6_1, x7_1, rfl, HA, HK1, HO_6, HB⟩ := hrel
   cases gk with
   | zero => exact absurd HA.out (by simp [orreryref19_Better.l0])
   | succ k1 =>
    have H := HA.out
    clear HA
    simp only [orreryref19_Better.l0] at H
    by_cases c5 : x7_1 < (l0.length : Int)
    case pos =>
     rw [if_pos c5] at H
     have c5b0 : decide (x7_1 < (l0.length : Int)) = true := decide_eq_true c5
     clear c5
     obtain ⟨y398, hy398⟩ : ∃ y_ : List Int, y_ = (([] : List Int)) := ⟨_, rfl⟩
     replace H : (orreryref19_Better.l1 k1 l0 l1 (l0.length : Int) x6_1 x7_1 y398 0) = some r := by first | (rw [hy398]; with_reducible exact H) | (have H2_ := (Option.bind_some _ _).symm.trans H; rw [hy398]; with_reducible exact H2_) | (have H2_ := (Option.bind_some _ _).symm.trans H; with_reducible exact H2_) | with_reducible exact H | (rw [hy398]; exact H) | exact H
     have Ny398 := Aside0.mk hy398
     clear hy398
     have H' := Aside0.mk H
     clear H
     go_wp2_with (first | ((with_reducible refine gate_dst (N := 22) rfl ?_); refine Kd.R_lit (Kd.int .i64) _ 3 ?hg (N := 22) ?hd (xs := ([] : List Int)) (inner := []) (ok := fun _ => True) (okp := fun _ => True) ?hr ?hp (fun _ hk => hk) trivial (Below.refl _ _) (Nat.le_refl _) (by simp) ?_; (case hd => rfl); (case hg => rfl); (case hr => first | (go_simp; done) | (go_simp; rfl)); (case hp => exact (Reps.none _ _)); intro v399 w6 ho7 hb hg_ hnew_; clear hg_ hnew_; (first | rw [← Ny398.out] at ho7 | (simp only [Int.reduceToNat] at ho7; rw [← Ny398.out] at ho7)); have n0_ := Aside0.mk (Kd.S_elder' (by (with_reducible repeat (first | apply Kd.S_alloc | apply Kd.S_drewN | apply Kd.S_drew)); exact HO_6.out) (Kd.R_base ho7) hb); have n1_ := Aside0.mk (Kd.R_lower ho7 (below_size (by repeat (first | (with_reducible first | exact HB.out | apply below_alloc | apply pw_below_drewN | apply below_drew1) | exact HB.out)))); have n2_ := Aside0.mk (below_step (by repeat (first | (with_reducible first | exact HB.out | apply below_alloc | apply pw_below_drewN | apply below_drew1) | exact HB.out)) hb); clear HO_6; clear HB; have HO_6 := n0_; have HO400 := n1_; have HB := n2_; clear n0_ n1_ n2_; clear hb ho7))
     go_loopg [8, 9] k1 (fun kq v8 v9 w' => ∃ (x8_2 : List Int) (x9_2 : Int), v9 = .int .i64 x9_2 ∧ Aside0 (orreryref19_Better.l1 kq l0 l1 (l0.length : Int) x6_1 x7_1 x8_2 x9_2 = some r) ∧ Aside0 (kq ≤ k1) ∧ Aside0 (Kd.S (Kd.slice 3 (Kd.int .i64)) 23 w' w.heap.size (fun k_ => some k_ ≠ (v8 : Value).ownBlock) u6 x6_1) ∧ Aside0 (Kd.R (Kd.int .i64) 3 w' w.heap.size (fun _ => True) v8 x8_2) ∧ Aside0 (Below w.heap.size w w'))
     case atStart => exact ⟨(y398), (0), (by first | rfl | (simp; done) | (simp [*]; done)), H', ⟨Nat.le_refl _⟩, ⟨by (with_reducible repeat (first | apply Kd.S_alloc | apply Kd.S_drewN | apply Kd.S_drew)); exact Kd.S_mono HO_6.out (fun _ hk => hk.2)⟩, ⟨by (with_reducible repeat (first | apply Kd.R_alloc | apply Kd.R_drewN | apply Kd.R_drew)); exact HO400.out⟩, ⟨by repeat (first | (with_reducible first | exact HB.out | apply below_alloc | apply pw_below_drewN | apply below_drew1) | exact HB.out)⟩⟩
     case round =>
      as_aux_lemma =>
       clear H'
       try clear c1
       try clear c2
       try clear p2
       try clear c5
       try clear c5b0
       try clear p2
       obtain ⟨x8_2, x9_2, rfl, HA, HK2, HO_6, HO_8, HB⟩ := hrel
       cases gk with
       | zero => exact absurd HA.out (by simp [orreryref19_Better.l1])
       | succ k2 =>
        have H := HA.out
        clear HA
        simp only [orreryref19_Better.l1] at H
        by_cases c8 : x9_2 < (l0.length : Int)
        case neg =>
         rw [if_neg c8] at H
         have c8b0 : decide (x9_2 < (l0.length : Int)) = false := decide_eq_false c8
         clear c8
         by_cases c40 : x6_1.length < 5864062014805
         case neg => rw [if_neg c40] at H; exact absurd H (by simp)
         rw [if_pos c40] at H
         have LMc40 := Aside0.mk c40
         clear c40
         obtain ⟨y401, hy401⟩ : ∃ y_ : List (List Int), y_ = (x6_1 ++ [x8_2]) := ⟨_, rfl⟩
         replace H : (orreryref19_Better.l0 k2 l0 l1 (l0.length : Int) y401 (wrap64 (x7_1 + 1))) = some r := by first | (rw [hy401]; with_reducible exact H) | (have H2_ := (Option.bind_some _ _).symm.trans H; rw [hy401]; with_reducible exact H2_) | (have H2_ := (Option.bind_some _ _).symm.trans H; with_reducible exact H2_) | with_reducible exact H | (rw [hy401]; exact H) | exact H
         have Ny401 := Aside0.mk hy401
         clear hy401
         have H' := Aside0.mk H
         clear H
         obtain ⟨Ao42, co42, eo42⟩ := Kd.R_slice HO_8.out
         subst eo42
         go_wp2_with (first | ((with_reducible refine gate_builtin (b := .append) (xs := #[.tmp 72, .tmp 74]) rfl ?_); at_builtin; refine Kd.S_append (Kd.slice 3 (Kd.int .i64)) (w0 := w) w.heap.size rfl (.tmp 72) (.tmp 74) 28 23 (.slice none 0 0) 24 rfl Try.underlying28 info23 rfl (by decide) (by omega) u6 x6_1 x8_2 [.slice Ao42 x8_2.length co42] (fun _ => True) (fun k_ => some k_ = (.slice Ao42 x8_2.length co42 : Value).ownBlock) rfl rfl ?aP (fun k_ hk_ => ((Kd.R_mono (ok' := fun k_ => ((fun _ => True)) k_ ∧ some k_ ≠ (u6 : Value).ownBlock) (Kd.R_apart' (HO_8.out) (Kd.S_typed HO_6.out) (by decide)) (fun k_ hk => ⟨trivial, hk.2⟩))).1 k_ hk_.symm) ?aF ?aO ?aB ?aS ?aL ?_; (case aP => exact Kd.M_row (Kd.R_mono (Kd.R_tight rfl (Kd.R_mono (ok' := fun k_ => ((fun _ => True)) k_ ∧ some k_ ≠ (u6 : Value).ownBlock) (Kd.R_apart' (HO_8.out) (Kd.S_typed HO_6.out) (by decide)) (fun k_ hk => ⟨trivial, hk.2⟩))) (fun _ h_ => h_))); (case aB => exact (by repeat (first | (with_reducible first | exact HB.out | apply below_alloc | apply pw_below_drewN | apply below_drew1) | exact HB.out))); (case aF => exact (fun _ _ => trivial)); (case aO => exact (by (with_reducible repeat (first | apply Kd.S_alloc | apply Kd.S_drewN | apply Kd.S_drew)); exact Kd.S_mono HO_6.out (fun k_ hk => ⟨trivial, fun e_ => hk e_⟩))); (case aS => exact (below_size (by repeat (first | (with_reducible first | exact HB.out | apply below_alloc | apply pw_below_drewN | apply below_drew1) | exact HB.out)))); (case aL => have := LMc40.out; omega); intro v402 w41 ho hb hg hat; rw [← Ny401.out] at ho; have n0_ := Aside0.mk (hb); have n1_ := Aside0.mk (ho); clear HB; clear HO_6; clear HO_8; have HB := n0_; have HO403 := n1_; clear n0_ n1_; clear ho hb hg hat))
         (first | go_roundg k2 | (refine Handed.intro k2 ?measure ?_; rotate_left; go_step; (repeat apply Exists.intro); (refine ⟨?rel, ?fr_⟩); (case fr_ => (simp only [add_plain]; rfl))))
         case measure => have := HK1.out; have := HK2.out; omega
         case rel => exact ⟨(y401), (wrap64 (x7_1 + 1)), (by first | rfl | (simp; done) | (simp [*]; done)), H', ⟨by have := HK1.out; have := HK2.out; omega⟩, ⟨by (with_reducible repeat (first | apply Kd.S_alloc | apply Kd.S_drewN | apply Kd.S_drew)); exact HO403.out⟩, ⟨by repeat (first | (with_reducible first | exact HB.out | apply below_alloc | apply pw_below_drewN | apply below_drew1) | exact HB.out)⟩⟩
        rw [if_pos c8] at H
        have c8b0 : decide (x9_2 < (l0.length : Int)) = true := decide_eq_true c8
        clear c8
        have HC9 := Aside0.mk H
        clear H
        go_upto_region 11 with (fail)
        go_cut [43] (fun v43 wc => ∃ (kq : Nat) (x43_8 : Bool), v43 = .bool x43_8 ∧ Aside0 (orreryref19_Better.j2 kq l0 l1 (l0.length : Int) x6_1 x7_1 x8_2 x9_2 (-1000000) x43_8 = some r) ∧ Aside0 (kq ≤ k2) ∧ Aside0 (Kd.S (Kd.slice 3 (Kd.int .i64)) 23 wc w.heap.size (fun k_ => some k_ ≠ (u8 : Value).ownBlock) u6 x6_1) ∧ Aside0 (Kd.R (Kd.int .i64) 3 wc w.heap.size (fun _ => True) u8 x8_2) ∧ Aside0 (Below w.heap.size w wc))
        case first =>
         have H := HC9.out
         clear HC9
         by_cases c10 : 0 ≤ x7_1
         case neg => rw [if_neg c10] at H; exact absurd H (by simp)
         rw [if_pos c10] at H
         have c10b0 : decide (0 ≤ x7_1) = true := decide_eq_true c10
         clear c10
         (first | rw [c10b0] | (simp only [i64_w, i32_w]; rw [c10b0]) | skip)
         by_cases c11 : x7_1 < (l0.length : Int)
         case neg => rw [if_neg c11] at H; exact absurd H (by simp)
         rw [if_pos c11] at H
         have c11b0 : decide (x7_1 < (l0.length : Int)) = true := decide_eq_true c11
         clear c11
         by_cases c12 : 0 ≤ x9_2
         case neg => rw [if_neg c12] at H; exact absurd H (by simp)
         rw [if_pos c12] at H
         have c12b0 : decide (0 ≤ x9_2) = true := decide_eq_true c12
         clear c12
         by_cases c13 : x9_2 < (l1.length : Int)
         case neg => rw [if_neg c13] at H; exact absurd H (by simp)
         rw [if_pos c13] at H
         have c13b0 : decide (x9_2 < (l1.length : Int)) = true := decide_eq_true c13
         clear c13
         by_cases c14 : 0 ≤ (rd l1 x9_2)
         case neg => rw [if_neg c14] at H; exact absurd H (by simp)
         rw [if_pos c14] at H
         have c14b0 : decide (0 ≤ (rd l1 x9_2)) = true := decide_eq_true c14
         clear c14
         by_cases c15 : (rd l1 x9_2) < ((rd_L3 l0 x7_1).length : Int)
         case neg => rw [if_neg c15] at H; exact absurd H (by simp)
         rw [if_pos c15] at H
         have c15b0 : decide ((rd l1 x9_2) < ((rd_L3 l0 x7_1).length : Int)) = true := decide_eq_true c15
         clear c15
         by_cases c16 : (rd (rd_L3 l0 x7_1) (rd l1 x9_2)) ≥ 0
         case neg =>
          rw [if_neg c16] at H
          have c16b0 : decide (0 ≤ (rd (rd_L3 l0 x7_1) (rd l1 x9_2))) = false := decide_eq_false c16
          clear c16
          have H' := Aside0.mk H
          clear H
          try go_wp2
          have n0_ := Aside0.mk (Kd.S_drew HO_6.out)
          have n1_ := Aside0.mk (Kd.R_drew HO_8.out)
          have n2_ := Aside0.mk (below_drew1 HB.out)
          clear HO_6
          clear HO_8
          clear HB
          have HO_6 := n0_
          have HO_8 := n1_
          have HB := n2_
          clear n0_ n1_ n2_
          have p404 : 0 ≤ (x7_1 : Int) := of_decide_eq_true (by first | (with_reducible assumption) | assumption)
          have q404 : x7_1 < (l0.length : Int) := of_decide_eq_true (by first | (with_reducible assumption) | assumption)
          obtain ⟨ad404, A404_0, c404_0, e404, hx404_0, hl404_0, hi404_0⟩ := at_L3 HR0.out x7_1 p404 q404
          have hw404_0 := hx404_0
          cases e404
          replace hx404_0 := (HB.out.cell (World.block_lt_of_cell? w _ hx404_0)).trans hx404_0
          have HR404_0 := Aside0.mk hi404_0
          have HC404_0 := Aside0.mk hl404_0
          clear hi404_0 hl404_0
          replace p404 := eq_true p404
          replace q404 := eq_true q404
          have p405 : 0 ≤ (x9_2 : Int) := of_decide_eq_true (by first | (with_reducible assumption) | assumption)
          have q405 : x9_2 < (l1.length : Int) := of_decide_eq_true (by first | (with_reducible assumption) | assumption)
          obtain ⟨ad405, e405, hx405_0⟩ := Kd.at_int HR1.out x9_2 p405 q405
          have hw405_0 := hx405_0
          cases e405
          replace hx405_0 := (HB.out.cell (World.block_lt_of_cell? w _ hx405_0)).trans hx405_0
          replace p405 := eq_true p405
          replace q405 := eq_true q405
          have p406 : 0 ≤ ((rd l1 x9_2) : Int) := of_decide_eq_true (by first | (with_reducible assumption) | assumption)
          have q406 : (rd l1 x9_2) < ((rd_L3 l0 x7_1).length : Int) := of_decide_eq_true (by first | (with_reducible assumption) | assumption)
          obtain ⟨ad406, e406, hx406_0⟩ := Kd.at_int HR404_0.out (rd l1 x9_2) p406 q406
          have hw406_0 := hx406_0
          cases e406
          replace hx406_0 := (HB.out.cell (World.block_lt_of_cell? w _ hx406_0)).trans hx406_0
          replace p406 := eq_true p406
          replace q406 := eq_true q406
          refine start_ (n := 16) (S := fun w' => w'.cell? (ad404.add (x7_1).toNat) = some (.slice (some ad406) (rd_L3 l0 x7_1).length c404_0) ∧ w'.cell? (ad405.add (x9_2).toNat) = some (.int .i64 (rd l1 x9_2)) ∧ w'.cell? (ad406.add ((rd l1 x9_2)).toNat) = some (.int .i64 (rd (rd_L3 l0 x7_1) (rd l1 x9_2)))) (ds := []) (msk 16 0) (by kernel_rfl) rfl rfl ⟨((HB.out.cell (World.block_lt_of_cell? w _ hw404_0)).trans hw404_0), ((HB.out.cell (World.block_lt_of_cell? w _ hw405_0)).trans hw405_0), ((HB.out.cell (World.block_lt_of_cell? w _ hw406_0)).trans hw406_0)⟩ (fun hHeld => ?_); refine with_tabW orreryref19_Better.tab11 orreryref19_Better.bits11 (fun HT_ HW_ => ?_)
          generalize wr.drew = w18 at HO_6 HO_8 HB HR404_0 hx404_0 hx405_0 hx406_0 hHeld ⊢
          refine pu_ 0 28 (msk 16 1) HT_.out ?_ ?_ ?_ ?_ ?_
          rotate_left
          · intro w'; go_simp; with_reducible rfl
          rotate_left
          · simp only [Act.put, sq, i64_w, i32_w]; rfl
          refine pu_ 1 29 (msk 16 3) HT_.out ?_ ?_ ?_ ?_ ?_
          rotate_left
          · intro w'; go_simp; with_reducible rfl
          rotate_left
          · simp only [Act.put, sq, i64_w, i32_w]; rfl
          refine pu_ 2 30 (msk 16 7) HT_.out ?_ ?_ ?_ ?_ ?_
          rotate_left
          · intro w'; go_simp; with_reducible rfl
          rotate_left
          · simp only [Act.put, sq, i64_w, i32_w]; rfl
          refine pu_ 4 32 (msk 16 23) HT_.out ?_ ?_ ?_ ?_ ?_
          rotate_left
          · intro w'; go_simp; with_reducible rfl
          rotate_left
          · simp only [Act.put, sq, i64_w, i32_w]; rfl
          refine pu_ 5 33 (msk 16 55) HT_.out ?_ ?_ ?_ ?_ ?_
          rotate_left
          · intro w'; go_simp; with_reducible rfl
          rotate_left
          · simp only [Act.put, sq, i64_w, i32_w]; rfl
          refine pu_ 6 34 (msk 16 119) HT_.out ?_ ?_ ?_ ?_ ?_
          rotate_left
          · intro w'; go_simp; with_reducible rfl
          rotate_left
          · simp only [Act.put, sq, i64_w, i32_w]; rfl
          refine tk_ 3 31 (msk 16 127) HT_.out HW_.out hHeld ?_ ?_ ?_ ?_ ?_
          rotate_left
          · rintro w' ⟨s0, s1, s2⟩; go_simp; with_reducible rfl
          rotate_left
          · simp only [Act.put, sq, i64_w, i32_w]; rfl
          refine tk_ 7 35 (msk 16 255) HT_.out HW_.out hHeld ?_ ?_ ?_ ?_ ?_
          rotate_left
          · rintro w' ⟨s0, s1, s2⟩; go_simp; with_reducible rfl
          rotate_left
          · simp only [Act.put, sq, i64_w, i32_w]; rfl
          refine pu_ 8 36 (msk 16 511) HT_.out ?_ ?_ ?_ ?_ ?_
          rotate_left
          · intro w'; go_simp; with_reducible rfl
          rotate_left
          · simp only [Act.put, sq, i64_w, i32_w]; rfl
          refine tk_ 9 37 (msk 16 1023) HT_.out HW_.out hHeld ?_ ?_ ?_ ?_ ?_
          rotate_left
          · rintro w' ⟨s0, s1, s2⟩; go_simp; with_reducible rfl
          rotate_left
          · simp only [Act.put, sq, i64_w, i32_w]; rfl
          refine pu_ 10 38 (msk 16 2047) HT_.out ?_ ?_ ?_ ?_ ?_
          rotate_left
          · intro w'; go_simp; with_reducible rfl
          rotate_left
          · simp only [Act.put, sq, i64_w, i32_w]; rfl
          refine pu_ 11 39 (msk 16 4095) HT_.out ?_ ?_ ?_ ?_ ?_
          rotate_left
          · intro w'; go_simp; with_reducible rfl
          rotate_left
          · simp only [Act.put, sq, i64_w, i32_w]; rfl
          refine pv_ 12 40 (msk 16 8191) HT_.out ?_ ?_ ?_
          rotate_left
          · simp only [Act.put, sq, i64_w, i32_w]; rfl
          refine pv_ 13 41 (msk 16 16383) HT_.out ?_ ?_ ?_
          rotate_left
          · simp only [Act.put, sq, i64_w, i32_w]; rfl
          refine pv_ 14 42 (msk 16 32767) HT_.out ?_ ?_ ?_
          rotate_left
          · simp only [Act.put, sq, i64_w, i32_w]; rfl
          refine pu_ 15 43 (msk 16 65535) HT_.out ?_ ?_ ?_ ?_ ?_
          rotate_left
          · intro w'; go_simp; with_reducible rfl
          rotate_left
          · simp only [Act.put, sq, i64_w, i32_w]; rfl
          refine done_ (done_of HT_.out (by kernel_rfl)) ?_
          try go_wp2
          go_meet
          case rel => exact ⟨_, (false), (by first | rfl | (simp; done) | (simp [*]; done)), H', ⟨by have := HK1.out; have := HK2.out; first | omega | exact Nat.le_refl _⟩, ⟨by (with_reducible repeat (first | apply Kd.S_alloc | apply Kd.S_drewN | apply Kd.S_drew)); exact HO_6.out⟩, ⟨by (with_reducible repeat (first | apply Kd.R_alloc | apply Kd.R_drewN | apply Kd.R_drew)); exact HO_8.out⟩, ⟨by repeat (first | (with_reducible first | exact HB.out | apply below_alloc | apply pw_below_drewN | apply below_drew1) | exact HB.out)⟩⟩
         rw [if_pos c16] at H
         have c16b0 : decide (0 ≤ (rd (rd_L3 l0 x7_1) (rd l1 x9_2))) = true := decide_eq_true c16
         clear c16
         have H' := Aside0.mk H
         clear H
         try go_wp2
         have n0_ := Aside0.mk (Kd.S_drew HO_6.out)
         have n1_ := Aside0.mk (Kd.R_drew HO_8.out)
         have n2_ := Aside0.mk (below_drew1 HB.out)
         clear HO_6
         clear HO_8
         clear HB
         have HO_6 := n0_
         have HO_8 := n1_
         have HB := n2_
         clear n0_ n1_ n2_
         have p404 : 0 ≤ (x7_1 : Int) := of_decide_eq_true (by first | (with_reducible assumption) | assumption)
         have q404 : x7_1 < (l0.length : Int) := of_decide_eq_true (by first | (with_reducible assumption) | assumption)
         obtain ⟨ad404, A404_0, c404_0, e404, hx404_0, hl404_0, hi404_0⟩ := at_L3 HR0.out x7_1 p404 q404
         have hw404_0 := hx404_0
         cases e404
         replace hx404_0 := (HB.out.cell (World.block_lt_of_cell? w _ hx404_0)).trans hx404_0
         have HR404_0 := Aside0.mk hi404_0
         have HC404_0 := Aside0.mk hl404_0
         clear hi404_0 hl404_0
         replace p404 := eq_true p404
         replace q404 := eq_true q404
         have p405 : 0 ≤ (x9_2 : Int) := of_decide_eq_true (by first | (with_reducible assumption) | assumption)
         have q405 : x9_2 < (l1.length : Int) := of_decide_eq_true (by first | (with_reducible assumption) | assumption)
         obtain ⟨ad405, e405, hx405_0⟩ := Kd.at_int HR1.out x9_2 p405 q405
         have hw405_0 := hx405_0
         cases e405
         replace hx405_0 := (HB.out.cell (World.block_lt_of_cell? w _ hx405_0)).trans hx405_0
         replace p405 := eq_true p405
         replace q405 := eq_true q405
         have p406 : 0 ≤ ((rd l1 x9_2) : Int) := of_decide_eq_true (by first | (with_reducible assumption) | assumption)
         have q406 : (rd l1 x9_2) < ((rd_L3 l0 x7_1).length : Int) := of_decide_eq_true (by first | (with_reducible assumption) | assumption)
         obtain ⟨ad406, e406, hx406_0⟩ := Kd.at_int HR404_0.out (rd l1 x9_2) p406 q406
         have hw406_0 := hx406_0
         cases e406
         replace hx406_0 := (HB.out.cell (World.block_lt_of_cell? w _ hx406_0)).trans hx406_0
         replace p406 := eq_true p406
         replace q406 := eq_true q406
         refine start_ (n := 16) (S := fun w' => w'.cell? (ad404.add (x7_1).toNat) = some (.slice (some ad406) (rd_L3 l0 x7_1).length c404_0) ∧ w'.cell? (ad405.add (x9_2).toNat) = some (.int .i64 (rd l1 x9_2)) ∧ w'.cell? (ad406.add ((rd l1 x9_2)).toNat) = some (.int .i64 (rd (rd_L3 l0 x7_1) (rd l1 x9_2)))) (ds := []) (msk 16 0) (by kernel_rfl) rfl rfl ⟨((HB.out.cell (World.block_lt_of_cell? w _ hw404_0)).trans hw404_0), ((HB.out.cell (World.block_lt_of_cell? w _ hw405_0)).trans hw405_0), ((HB.out.cell (World.block_lt_of_cell? w _ hw406_0)).trans hw406_0)⟩ (fun hHeld => ?_); refine with_tabW orreryref19_Better.tab11 orreryref19_Better.bits11 (fun HT_ HW_ => ?_)
         generalize wr.drew = w17 at HO_6 HO_8 HB HR404_0 hx404_0 hx405_0 hx406_0 hHeld ⊢
         refine pu_ 0 28 (msk 16 1) HT_.out ?_ ?_ ?_ ?_ ?_
         rotate_left
         · intro w'; go_simp; with_reducible rfl
         rotate_left
         · simp only [Act.put, sq, i64_w, i32_w]; rfl
         refine pu_ 1 29 (msk 16 3) HT_.out ?_ ?_ ?_ ?_ ?_
         rotate_left
         · intro w'; go_simp; with_reducible rfl
         rotate_left
         · simp only [Act.put, sq, i64_w, i32_w]; rfl
         refine pu_ 2 30 (msk 16 7) HT_.out ?_ ?_ ?_ ?_ ?_
         rotate_left
         · intro w'; go_simp; with_reducible rfl
         rotate_left
         · simp only [Act.put, sq, i64_w, i32_w]; rfl
         refine pu_ 4 32 (msk 16 23) HT_.out ?_ ?_ ?_ ?_ ?_
         rotate_left
         · intro w'; go_simp; with_reducible rfl
         rotate_left
         · simp only [Act.put, sq, i64_w, i32_w]; rfl
         refine pu_ 5 33 (msk 16 55) HT_.out ?_ ?_ ?_ ?_ ?_
         rotate_left
         · intro w'; go_simp; with_reducible rfl
         rotate_left
         · simp only [Act.put, sq, i64_w, i32_w]; rfl
         refine pu_ 6 34 (msk 16 119) HT_.out ?_ ?_ ?_ ?_ ?_
         rotate_left
         · intro w'; go_simp; with_reducible rfl
         rotate_left
         · simp only [Act.put, sq, i64_w, i32_w]; rfl
         refine tk_ 3 31 (msk 16 127) HT_.out HW_.out hHeld ?_ ?_ ?_ ?_ ?_
         rotate_left
         · rintro w' ⟨s0, s1, s2⟩; go_simp; with_reducible rfl
         rotate_left
         · simp only [Act.put, sq, i64_w, i32_w]; rfl
         refine tk_ 7 35 (msk 16 255) HT_.out HW_.out hHeld ?_ ?_ ?_ ?_ ?_
         rotate_left
         · rintro w' ⟨s0, s1, s2⟩; go_simp; with_reducible rfl
         rotate_left
         · simp only [Act.put, sq, i64_w, i32_w]; rfl
         refine pu_ 8 36 (msk 16 511) HT_.out ?_ ?_ ?_ ?_ ?_
         rotate_left
         · intro w'; go_simp; with_reducible rfl
         rotate_left
         · simp only [Act.put, sq, i64_w, i32_w]; rfl
         refine tk_ 9 37 (msk 16 1023) HT_.out HW_.out hHeld ?_ ?_ ?_ ?_ ?_
         rotate_left
         · rintro w' ⟨s0, s1, s2⟩; go_simp; with_reducible rfl
         rotate_left
         · simp only [Act.put, sq, i64_w, i32_w]; rfl
         refine pu_ 10 38 (msk 16 2047) HT_.out ?_ ?_ ?_ ?_ ?_
         rotate_left
         · intro w'; go_simp; with_reducible rfl
         rotate_left
         · simp only [Act.put, sq, i64_w, i32_w]; rfl
         refine pu_ 11 39 (msk 16 4095) HT_.out ?_ ?_ ?_ ?_ ?_
         rotate_left
         · intro w'; go_simp; with_reducible rfl
         rotate_left
         · simp only [Act.put, sq, i64_w, i32_w]; rfl
         refine pu_ 12 40 (msk 16 8191) HT_.out ?_ ?_ ?_ ?_ ?_
         rotate_left
         · intro w'; go_simp; with_reducible rfl
         rotate_left
         · simp only [Act.put, sq, i64_w, i32_w]; rfl
         refine pu_ 13 41 (msk 16 16383) HT_.out ?_ ?_ ?_ ?_ ?_
         rotate_left
         · intro w'; go_simp; with_reducible rfl
         rotate_left
         · simp only [Act.put, sq, i64_w, i32_w]; rfl
         refine pu_ 14 42 (msk 16 32767) HT_.out ?_ ?_ ?_ ?_ ?_
         rotate_left
         · intro w'; go_simp; with_reducible rfl
         rotate_left
         · simp only [Act.put, sq, i64_w, i32_w]; rfl
         refine pu_ 15 43 (msk 16 65535) HT_.out ?_ ?_ ?_ ?_ ?_
         rotate_left
         · intro w'; go_simp; with_reducible rfl
         rotate_left
         · simp only [Act.put, sq, i64_w, i32_w]; rfl
         refine done_ (done_of HT_.out (by kernel_rfl)) ?_
         try go_wp2
         go_meet
         case rel => exact ⟨_, ((x7_1 != x9_2)), (by first | rfl | (simp; done) | (simp [*]; done)), H', ⟨by have := HK1.out; have := HK2.out; first | omega | exact Nat.le_refl _⟩, ⟨by (with_reducible repeat (first | apply Kd.S_alloc | apply Kd.S_drewN | apply Kd.S_drew)); exact HO_6.out⟩, ⟨by (with_reducible repeat (first | apply Kd.R_alloc | apply Kd.R_drewN | apply Kd.R_drew)); exact HO_8.out⟩, ⟨by repeat (first | (with_reducible first | exact HB.out | apply below_alloc | apply pw_below_drewN | apply below_drew1) | exact HB.out)⟩⟩
        case rest =>
         clear HC9
         try clear c1
         try clear c2
         try clear p2
         try clear c4
         try clear p4
         try clear q4
         try clear hx4
         try clear c5
         try clear c5b0
         try clear c8
         try clear c8b0
         try clear c10
         try clear c10b0
         try clear c11
         try clear c11b0
         try clear c12
         try clear c12b0
         try clear c13
         try clear c13b0
         try clear c14
         try clear c14b0
         try clear c15
         try clear c15b0
         try clear c16
         try clear c16b0
         try clear hx404_0
         try clear hx405_0
         try clear hx406_0
         try clear p2
         try clear p404
         try clear p405
         try clear p406
         try clear q404
         try clear q405
         try clear q406
         obtain ⟨kq, x43_8, rfl, HA, HJ8, HO_6, HO_8, HB⟩ := hcut
         cases kq with
         | zero => exact absurd HA.out (by simp [orreryref19_Better.j2])
         | succ kj8 =>
          have H := HA.out
          clear HA
          simp only [orreryref19_Better.j2] at H
          by_cases c19 : x43_8 = true
          case neg =>
           replace c19 := Bool.eq_false_iff.mpr c19
           subst c19
           have H1 : (if x7_1 = x9_2 then (if x8_2.length < 17592186044416 then (orreryref19_Better.l1 kj8 l0 l1 (l0.length : Int) x6_1 x7_1 (x8_2 ++ [0]) (wrap64 (x9_2 + 1))) else (none)) else (if x8_2.length < 17592186044416 then (orreryref19_Better.l1 kj8 l0 l1 (l0.length : Int) x6_1 x7_1 (x8_2 ++ [(-1000000)]) (wrap64 (x9_2 + 1))) else (none))) = some r := by rw [if_neg (show ¬ (false = true) by decide)] at H; exact H
           clear H
           have H := H1
           clear H1
           by_cases c35 : x7_1 = x9_2
           case pos =>
            rw [if_pos c35] at H
            have c35b0 : (x7_1 == x9_2) = true := beq_iff_eq.mpr c35
            have c35b1 : (x7_1 != x9_2) = false := bne_eq_false_iff_eq.mpr c35
            clear c35
            by_cases c36 : x8_2.length < 17592186044416
            case neg => rw [if_neg c36] at H; exact absurd H (by simp)
            rw [if_pos c36] at H
            have LMc36 := Aside0.mk c36
            clear c36
            obtain ⟨y419, hy419⟩ : ∃ y_ : List Int, y_ = (x8_2 ++ [0]) := ⟨_, rfl⟩
            replace H : (orreryref19_Better.l1 kj8 l0 l1 (l0.length : Int) x6_1 x7_1 y419 (wrap64 (x9_2 + 1))) = some r := by first | (rw [hy419]; with_reducible exact H) | (have H2_ := (Option.bind_some _ _).symm.trans H; rw [hy419]; with_reducible exact H2_) | (have H2_ := (Option.bind_some _ _).symm.trans H; with_reducible exact H2_) | with_reducible exact H | (rw [hy419]; exact H) | exact H
            have Ny419 := Aside0.mk hy419
            clear hy419
            have H' := Aside0.mk H
            clear H
            go_wp2_with (first | ((with_reducible refine gate_builtin (b := .append) (xs := #[.tmp 68, .tmp 70]) rfl ?_); at_builtin; refine Kd.R_append (Kd.int .i64) (w0 := w) w.heap.size rfl (.tmp 68) (.tmp 70) 23 3 (.int .i64 0) 8 rfl Try.underlying23 info3 rfl (by decide) (by omega) u8 x8_2 0 [.int .i64 0] (fun _ => True) (fun _ => False) rfl rfl ?aP (fun _ hk => hk.elim) ?aF ?aO ?aB ?aS ?aL ?_; (case aP => exact rfl); (case aB => exact (by repeat (first | (with_reducible first | exact HB.out | apply below_alloc | apply pw_below_drewN | apply below_drew1) | exact HB.out))); (case aF => exact (fun _ _ => trivial)); (case aO => exact (by (with_reducible repeat (first | apply Kd.R_alloc | apply Kd.R_drewN | apply Kd.R_drew)); exact HO_8.out)); (case aS => exact (below_size (by repeat (first | (with_reducible first | exact HB.out | apply below_alloc | apply pw_below_drewN | apply below_drew1) | exact HB.out)))); (case aL => have := LMc36.out; omega); intro v420 w37 ho hb hg hat; rw [← Ny419.out] at ho; have n0_ := Aside0.mk (Kd.S_after (ok := (fun _ => True)) (by (with_reducible repeat (first | apply Kd.S_alloc | apply Kd.S_drewN | apply Kd.S_drew)); exact Kd.S_mono HO_6.out (fun _ hk => ⟨trivial, hk⟩)) hg hat); have n1_ := Aside0.mk (hb); have n2_ := Aside0.mk (ho); clear HO_6; clear HB; clear HO_8; have HO_6 := n0_; have HB := n1_; have HO421 := n2_; clear n0_ n1_ n2_; clear ho hb hg hat))
            (first | go_roundg kj8 | (refine Handed.intro kj8 ?measure ?_; rotate_left; go_step; (repeat apply Exists.intro); (refine ⟨?rel, ?fr_⟩); (case fr_ => (simp only [add_plain]; rfl))))
            case measure => have := HK1.out; have := HK2.out; have := HJ8.out; omega
            case rel => exact ⟨(y419), (wrap64 (x9_2 + 1)), (by first | rfl | (simp; done) | (simp [*]; done)), H', ⟨by have := HK1.out; have := HK2.out; have := HJ8.out; omega⟩, ⟨by (with_reducible repeat (first | apply Kd.S_alloc | apply Kd.S_drewN | apply Kd.S_drew)); exact Kd.S_mono HO_6.out (fun _ hk => hk.2)⟩, ⟨by (with_reducible repeat (first | apply Kd.R_alloc | apply Kd.R_drewN | apply Kd.R_drew)); exact HO421.out⟩, ⟨by repeat (first | (with_reducible first | exact HB.out | apply below_alloc | apply pw_below_drewN | apply below_drew1) | exact HB.out)⟩⟩
           rw [if_neg c35] at H
           have c35b0 : (x7_1 == x9_2) = false := beq_eq_false_iff_ne.mpr c35
           have c35b1 : (x7_1 != x9_2) = true := bne_iff_ne.mpr c35
           by_cases c38 : x8_2.length < 17592186044416
           case neg => rw [if_neg c38] at H; exact absurd H (by simp)
           rw [if_pos c38] at H
           have LMc38 := Aside0.mk c38
           clear c38
           obtain ⟨y422, hy422⟩ : ∃ y_ : List Int, y_ = (x8_2 ++ [(-1000000)]) := ⟨_, rfl⟩
           replace H : (orreryref19_Better.l1 kj8 l0 l1 (l0.length : Int) x6_1 x7_1 y422 (wrap64 (x9_2 + 1))) = some r := by first | (rw [hy422]; with_reducible exact H) | (have H2_ := (Option.bind_some _ _).symm.trans H; rw [hy422]; with_reducible exact H2_) | (have H2_ := (Option.bind_some _ _).symm.trans H; with_reducible exact H2_) | with_reducible exact H | (rw [hy422]; exact H) | exact H
           have Ny422 := Aside0.mk hy422
           clear hy422
           have H' := Aside0.mk H
           clear H
           go_wp2_with (first | ((with_reducible refine gate_builtin (b := .append) (xs := #[.tmp 68, .tmp 70]) rfl ?_); at_builtin; refine Kd.R_append (Kd.int .i64) (w0 := w) w.heap.size rfl (.tmp 68) (.tmp 70) 23 3 (.int .i64 0) 8 rfl Try.underlying23 info3 rfl (by decide) (by omega) u8 x8_2 (-1000000) [.int .i64 (-1000000)] (fun _ => True) (fun _ => False) rfl rfl ?aP (fun _ hk => hk.elim) ?aF ?aO ?aB ?aS ?aL ?_; (case aP => exact rfl); (case aB => exact (by repeat (first | (with_reducible first | exact HB.out | apply below_alloc | apply pw_below_drewN | apply below_drew1) | exact HB.out))); (case aF => exact (fun _ _ => trivial)); (case aO => exact (by (with_reducible repeat (first | apply Kd.R_alloc | apply Kd.R_drewN | apply Kd.R_drew)); exact HO_8.out)); (case aS => exact (below_size (by repeat (first | (with_reducible first | exact HB.out | apply below_alloc | apply pw_below_drewN | apply below_drew1) | exact HB.out)))); (case aL => have := LMc38.out; omega); intro v423 w39 ho hb hg hat; rw [← Ny422.out] at ho; have n0_ := Aside0.mk (Kd.S_after (ok := (fun _ => True)) (by (with_reducible repeat (first | apply Kd.S_alloc | apply Kd.S_drewN | apply Kd.S_drew)); exact Kd.S_mono HO_6.out (fun _ hk => ⟨trivial, hk⟩)) hg hat); have n1_ := Aside0.mk (hb); have n2_ := Aside0.mk (ho); clear HO_6; clear HB; clear HO_8; have HO_6 := n0_; have HB := n1_; have HO424 := n2_; clear n0_ n1_ n2_; clear ho hb hg hat))
           (first | go_roundg kj8 | (refine Handed.intro kj8 ?measure ?_; rotate_left; go_step; (repeat apply Exists.intro); (refine ⟨?rel, ?fr_⟩); (case fr_ => (simp only [add_plain]; rfl))))
           case measure => have := HK1.out; have := HK2.out; have := HJ8.out; omega
           case rel => exact ⟨(y422), (wrap64 (x9_2 + 1)), (by first | rfl | (simp; done) | (simp [*]; done)), H', ⟨by have := HK1.out; have := HK2.out; have := HJ8.out; omega⟩, ⟨by (with_reducible repeat (first | apply Kd.S_alloc | apply Kd.S_drewN | apply Kd.S_drew)); exact Kd.S_mono HO_6.out (fun _ hk => hk.2)⟩, ⟨by (with_reducible repeat (first | apply Kd.R_alloc | apply Kd.R_drewN | apply Kd.R_drew)); exact HO424.out⟩, ⟨by repeat (first | (with_reducible first | exact HB.out | apply below_alloc | apply pw_below_drewN | apply below_drew1) | exact HB.out)⟩⟩
          subst c19
          have H1 : (if 0 ≤ x7_1 then (if x7_1 < (l0.length : Int) then (if 0 ≤ x9_2 then (if x9_2 < (l1.length : Int) then (if 0 ≤ (rd l1 x9_2) then (if (rd l1 x9_2) < ((rd_L3 l0 x7_1).length : Int) then (if x9_2 < (l0.length : Int) then (if (rd l1 x9_2) < ((rd_L3 l0 x9_2).length : Int) then (if x7_1 = x9_2 then (if x8_2.length < 17592186044416 then (orreryref19_Better.l1 kj8 l0 l1 (l0.length : Int) x6_1 x7_1 (x8_2 ++ [0]) (wrap64 (x9_2 + 1))) else (none)) else (if x8_2.length < 17592186044416 then (orreryref19_Better.l1 kj8 l0 l1 (l0.length : Int) x6_1 x7_1 (x8_2 ++ [wrap64 ((rd (rd_L3 l0 x7_1) (rd l1 x9_2)) - (rd (rd_L3 l0 x9_2) (rd l1 x9_2)))]) (wrap64 (x9_2 + 1))) else (none))) else (none)) else (none)) else (none)) else (none)) else (none)) else (none)) else (none)) else (none)) = some r := by rw [if_pos rfl] at H; exact H
          clear H
          have H := H1
          clear H1
          by_cases c20 : 0 ≤ x7_1
          case neg => rw [if_neg c20] at H; exact absurd H (by simp)
          rw [if_pos c20] at H
          have c20b0 : decide (0 ≤ x7_1) = true := decide_eq_true c20
          clear c20
          by_cases c21 : x7_1 < (l0.length : Int)
          case neg => rw [if_neg c21] at H; exact absurd H (by simp)
          rw [if_pos c21] at H
          have c21b0 : decide (x7_1 < (l0.length : Int)) = true := decide_eq_true c21
          clear c21
          by_cases c22 : 0 ≤ x9_2
          case neg => rw [if_neg c22] at H; exact absurd H (by simp)
          rw [if_pos c22] at H
          have c22b0 : decide (0 ≤ x9_2) = true := decide_eq_true c22
          clear c22
          by_cases c23 : x9_2 < (l1.length : Int)
          case neg => rw [if_neg c23] at H; exact absurd H (by simp)
          rw [if_pos c23] at H
          have c23b0 : decide (x9_2 < (l1.length : Int)) = true := decide_eq_true c23
          clear c23
          by_cases c24 : 0 ≤ (rd l1 x9_2)
          case neg => rw [if_neg c24] at H; exact absurd H (by simp)
          rw [if_pos c24] at H
          have c24b0 : decide (0 ≤ (rd l1 x9_2)) = true := decide_eq_true c24
          clear c24
          by_cases c25 : (rd l1 x9_2) < ((rd_L3 l0 x7_1).length : Int)
          case neg => rw [if_neg c25] at H; exact absurd H (by simp)
          rw [if_pos c25] at H
          have c25b0 : decide ((rd l1 x9_2) < ((rd_L3 l0 x7_1).length : Int)) = true := decide_eq_true c25
          clear c25
          by_cases c26 : x9_2 < (l0.length : Int)
          case neg => rw [if_neg c26] at H; exact absurd H (by simp)
          rw [if_pos c26] at H
          have c26b0 : decide (x9_2 < (l0.length : Int)) = true := decide_eq_true c26
          clear c26
          by_cases c27 : (rd l1 x9_2) < ((rd_L3 l0 x9_2).length : Int)
          case neg => rw [if_neg c27] at H; exact absurd H (by simp)
          rw [if_pos c27] at H
          have c27b0 : decide ((rd l1 x9_2) < ((rd_L3 l0 x9_2).length : Int)) = true := decide_eq_true c27
          clear c27
          by_cases c28 : x7_1 = x9_2
          case pos =>
           rw [if_pos c28] at H
           have c28b0 : (x7_1 == x9_2) = true := beq_iff_eq.mpr c28
           have c28b1 : (x7_1 != x9_2) = false := bne_eq_false_iff_eq.mpr c28
           clear c28
           by_cases c29 : x8_2.length < 17592186044416
           case neg => rw [if_neg c29] at H; exact absurd H (by simp)
           rw [if_pos c29] at H
           have LMc29 := Aside0.mk c29
           clear c29
           obtain ⟨y413, hy413⟩ : ∃ y_ : List Int, y_ = (x8_2 ++ [0]) := ⟨_, rfl⟩
           replace H : (orreryref19_Better.l1 kj8 l0 l1 (l0.length : Int) x6_1 x7_1 y413 (wrap64 (x9_2 + 1))) = some r := by first | (rw [hy413]; with_reducible exact H) | (have H2_ := (Option.bind_some _ _).symm.trans H; rw [hy413]; with_reducible exact H2_) | (have H2_ := (Option.bind_some _ _).symm.trans H; with_reducible exact H2_) | with_reducible exact H | (rw [hy413]; exact H) | exact H
           have Ny413 := Aside0.mk hy413
           clear hy413
           have H' := Aside0.mk H
           clear H
           try go_wp2
           have n0_ := Aside0.mk (Kd.S_drew HO_6.out)
           have n1_ := Aside0.mk (Kd.R_drew HO_8.out)
           have n2_ := Aside0.mk (below_drew1 HB.out)
           clear HO_6
           clear HO_8
           clear HB
           have HO_6 := n0_
           have HO_8 := n1_
           have HB := n2_
           clear n0_ n1_ n2_
           have p407 : 0 ≤ (x7_1 : Int) := of_decide_eq_true (by first | (with_reducible assumption) | assumption)
           have q407 : x7_1 < (l0.length : Int) := of_decide_eq_true (by first | (with_reducible assumption) | assumption)
           obtain ⟨ad407, A407_0, c407_0, e407, hx407_0, hl407_0, hi407_0⟩ := at_L3 HR0.out x7_1 p407 q407
           have hw407_0 := hx407_0
           cases e407
           replace hx407_0 := (HB.out.cell (World.block_lt_of_cell? w _ hx407_0)).trans hx407_0
           have HR407_0 := Aside0.mk hi407_0
           have HC407_0 := Aside0.mk hl407_0
           clear hi407_0 hl407_0
           replace p407 := eq_true p407
           replace q407 := eq_true q407
           have p408 : 0 ≤ (x9_2 : Int) := of_decide_eq_true (by first | (with_reducible assumption) | assumption)
           have q408 : x9_2 < (l1.length : Int) := of_decide_eq_true (by first | (with_reducible assumption) | assumption)
           obtain ⟨ad408, e408, hx408_0⟩ := Kd.at_int HR1.out x9_2 p408 q408
           have hw408_0 := hx408_0
           cases e408
           replace hx408_0 := (HB.out.cell (World.block_lt_of_cell? w _ hx408_0)).trans hx408_0
           replace p408 := eq_true p408
           replace q408 := eq_true q408
           have p409 : 0 ≤ ((rd l1 x9_2) : Int) := of_decide_eq_true (by first | (with_reducible assumption) | assumption)
           have q409 : (rd l1 x9_2) < ((rd_L3 l0 x7_1).length : Int) := of_decide_eq_true (by first | (with_reducible assumption) | assumption)
           obtain ⟨ad409, e409, hx409_0⟩ := Kd.at_int HR407_0.out (rd l1 x9_2) p409 q409
           have hw409_0 := hx409_0
           cases e409
           replace hx409_0 := (HB.out.cell (World.block_lt_of_cell? w _ hx409_0)).trans hx409_0
           replace p409 := eq_true p409
           replace q409 := eq_true q409
           have p410 : 0 ≤ (x9_2 : Int) := of_decide_eq_true (by first | (with_reducible assumption) | assumption)
           have q410 : x9_2 < (l0.length : Int) := of_decide_eq_true (by first | (with_reducible assumption) | assumption)
           obtain ⟨ad410, A410_0, c410_0, e410, hx410_0, hl410_0, hi410_0⟩ := at_L3 HR0.out x9_2 p410 q410
           have hw410_0 := hx410_0
           obtain rfl : ad407 = ad410 := (by injection e410)
           replace hx410_0 := (HB.out.cell (World.block_lt_of_cell? w _ hx410_0)).trans hx410_0
           have HR410_0 := Aside0.mk hi410_0
           have HC410_0 := Aside0.mk hl410_0
           clear hi410_0 hl410_0
           replace p410 := eq_true p410
           replace q410 := eq_true q410
           have p411 : 0 ≤ (x9_2 : Int) := of_decide_eq_true (by first | (with_reducible assumption) | assumption)
           have q411 : x9_2 < (l1.length : Int) := of_decide_eq_true (by first | (with_reducible assumption) | assumption)
           obtain ⟨ad411, e411, hx411_0⟩ := Kd.at_int HR1.out x9_2 p411 q411
           have hw411_0 := hx411_0
           obtain rfl : ad408 = ad411 := (by injection e411)
           replace hx411_0 := (HB.out.cell (World.block_lt_of_cell? w _ hx411_0)).trans hx411_0
           replace p411 := eq_true p411
           replace q411 := eq_true q411
           have p412 : 0 ≤ ((rd l1 x9_2) : Int) := of_decide_eq_true (by first | (with_reducible assumption) | assumption)
           have q412 : (rd l1 x9_2) < ((rd_L3 l0 x9_2).length : Int) := of_decide_eq_true (by first | (with_reducible assumption) | assumption)
           obtain ⟨ad412, e412, hx412_0⟩ := Kd.at_int HR410_0.out (rd l1 x9_2) p412 q412
           have hw412_0 := hx412_0
           cases e412
           replace hx412_0 := (HB.out.cell (World.block_lt_of_cell? w _ hx412_0)).trans hx412_0
           replace p412 := eq_true p412
           replace q412 := eq_true q412
           refine start_ (n := 22) (S := fun w' => w'.cell? (ad407.add (x7_1).toNat) = some (.slice (some ad409) (rd_L3 l0 x7_1).length c407_0) ∧ w'.cell? (ad408.add (x9_2).toNat) = some (.int .i64 (rd l1 x9_2)) ∧ w'.cell? (ad409.add ((rd l1 x9_2)).toNat) = some (.int .i64 (rd (rd_L3 l0 x7_1) (rd l1 x9_2))) ∧ w'.cell? (ad407.add (x9_2).toNat) = some (.slice (some ad412) (rd_L3 l0 x9_2).length c410_0) ∧ w'.cell? (ad408.add (x9_2).toNat) = some (.int .i64 (rd l1 x9_2)) ∧ w'.cell? (ad412.add ((rd l1 x9_2)).toNat) = some (.int .i64 (rd (rd_L3 l0 x9_2) (rd l1 x9_2)))) (ds := []) (msk 22 0) (by kernel_rfl) rfl rfl ⟨((HB.out.cell (World.block_lt_of_cell? w _ hw407_0)).trans hw407_0), ((HB.out.cell (World.block_lt_of_cell? w _ hw408_0)).trans hw408_0), ((HB.out.cell (World.block_lt_of_cell? w _ hw409_0)).trans hw409_0), ((HB.out.cell (World.block_lt_of_cell? w _ hw410_0)).trans hw410_0), ((HB.out.cell (World.block_lt_of_cell? w _ hw411_0)).trans hw411_0), ((HB.out.cell (World.block_lt_of_cell? w _ hw412_0)).trans hw412_0)⟩ (fun hHeld => ?_); refine with_tabW orreryref19_Better.tab12 orreryref19_Better.bits12 (fun HT_ HW_ => ?_)
           generalize wc.drew = w30 at HO_6 HO_8 HB HR407_0 HR410_0 hx407_0 hx408_0 hx409_0 hx410_0 hx411_0 hx412_0 hHeld ⊢
           refine pu_ 0 44 (msk 22 1) HT_.out ?_ ?_ ?_ ?_ ?_
           rotate_left
           · intro w'; go_simp; with_reducible rfl
           rotate_left
           · simp only [Act.put, sq, i64_w, i32_w]; rfl
           refine pu_ 1 45 (msk 22 3) HT_.out ?_ ?_ ?_ ?_ ?_
           rotate_left
           · intro w'; go_simp; with_reducible rfl
           rotate_left
           · simp only [Act.put, sq, i64_w, i32_w]; rfl
           refine pu_ 2 46 (msk 22 7) HT_.out ?_ ?_ ?_ ?_ ?_
           rotate_left
           · intro w'; go_simp; with_reducible rfl
           rotate_left
           · simp only [Act.put, sq, i64_w, i32_w]; rfl
           refine pu_ 4 48 (msk 22 23) HT_.out ?_ ?_ ?_ ?_ ?_
           rotate_left
           · intro w'; go_simp; with_reducible rfl
           rotate_left
           · simp only [Act.put, sq, i64_w, i32_w]; rfl
           refine pu_ 5 49 (msk 22 55) HT_.out ?_ ?_ ?_ ?_ ?_
           rotate_left
           · intro w'; go_simp; with_reducible rfl
           rotate_left
           · simp only [Act.put, sq, i64_w, i32_w]; rfl
           refine pu_ 6 50 (msk 22 119) HT_.out ?_ ?_ ?_ ?_ ?_
           rotate_left
           · intro w'; go_simp; with_reducible rfl
           rotate_left
           · simp only [Act.put, sq, i64_w, i32_w]; rfl
           refine pu_ 10 54 (msk 22 1143) HT_.out ?_ ?_ ?_ ?_ ?_
           rotate_left
           · intro w'; go_simp; with_reducible rfl
           rotate_left
           · simp only [Act.put, sq, i64_w, i32_w]; rfl
           refine pu_ 11 55 (msk 22 3191) HT_.out ?_ ?_ ?_ ?_ ?_
           rotate_left
           · intro w'; go_simp; with_reducible rfl
           rotate_left
           · simp only [Act.put, sq, i64_w, i32_w]; rfl
           refine pu_ 12 56 (msk 22 7287) HT_.out ?_ ?_ ?_ ?_ ?_
           rotate_left
           · intro w'; go_simp; with_reducible rfl
           rotate_left
           · simp only [Act.put, sq, i64_w, i32_w]; rfl
           refine pu_ 14 58 (msk 22 23671) HT_.out ?_ ?_ ?_ ?_ ?_
           rotate_left
           · intro w'; go_simp; with_reducible rfl
           rotate_left
           · simp only [Act.put, sq, i64_w, i32_w]; rfl
           refine pu_ 15 59 (msk 22 56439) HT_.out ?_ ?_ ?_ ?_ ?_
           rotate_left
           · intro w'; go_simp; with_reducible rfl
           rotate_left
           · simp only [Act.put, sq, i64_w, i32_w]; rfl
           refine pu_ 16 60 (msk 22 121975) HT_.out ?_ ?_ ?_ ?_ ?_
           rotate_left
           · intro w'; go_simp; with_reducible rfl
           rotate_left
           · simp only [Act.put, sq, i64_w, i32_w]; rfl
           refine tk_ 3 47 (msk 22 121983) HT_.out HW_.out hHeld ?_ ?_ ?_ ?_ ?_
           rotate_left
           · rintro w' ⟨s0, s1, s2, s3, s4, s5⟩; go_simp; with_reducible rfl
           rotate_left
           · simp only [Act.put, sq, i64_w, i32_w]; rfl
           refine tk_ 7 51 (msk 22 122111) HT_.out HW_.out hHeld ?_ ?_ ?_ ?_ ?_
           rotate_left
           · rintro w' ⟨s0, s1, s2, s3, s4, s5⟩; go_simp; with_reducible rfl
           rotate_left
           · simp only [Act.put, sq, i64_w, i32_w]; rfl
           refine pu_ 8 52 (msk 22 122367) HT_.out ?_ ?_ ?_ ?_ ?_
           rotate_left
           · intro w'; go_simp; with_reducible rfl
           rotate_left
           · simp only [Act.put, sq, i64_w, i32_w]; rfl
           refine tk_ 9 53 (msk 22 122879) HT_.out HW_.out hHeld ?_ ?_ ?_ ?_ ?_
           rotate_left
           · rintro w' ⟨s0, s1, s2, s3, s4, s5⟩; go_simp; with_reducible rfl
           rotate_left
           · simp only [Act.put, sq, i64_w, i32_w]; rfl
           refine tk_ 13 57 (msk 22 131071) HT_.out HW_.out hHeld ?_ ?_ ?_ ?_ ?_
           rotate_left
           · rintro w' ⟨s0, s1, s2, s3, s4, s5⟩; go_simp; with_reducible rfl
           rotate_left
           · simp only [Act.put, sq, i64_w, i32_w]; rfl
           refine tk_ 17 61 (msk 22 262143) HT_.out HW_.out hHeld ?_ ?_ ?_ ?_ ?_
           rotate_left
           · rintro w' ⟨s0, s1, s2, s3, s4, s5⟩; go_simp; with_reducible rfl
           rotate_left
           · simp only [Act.put, sq, i64_w, i32_w]; rfl
           refine pu_ 18 62 (msk 22 524287) HT_.out ?_ ?_ ?_ ?_ ?_
           rotate_left
           · intro w'; go_simp; with_reducible rfl
           rotate_left
           · simp only [Act.put, sq, i64_w, i32_w]; rfl
           refine tk_ 19 63 (msk 22 1048575) HT_.out HW_.out hHeld ?_ ?_ ?_ ?_ ?_
           rotate_left
           · rintro w' ⟨s0, s1, s2, s3, s4, s5⟩; go_simp; with_reducible rfl
           rotate_left
           · simp only [Act.put, sq, i64_w, i32_w]; rfl
           refine pu_ 20 64 (msk 22 2097151) HT_.out ?_ ?_ ?_ ?_ ?_
           rotate_left
           · intro w'; go_simp; with_reducible rfl
           rotate_left
           · simp only [Act.put, sq, i64_w, i32_w]; rfl
           refine pu_ 21 10 (msk 22 4194303) HT_.out ?_ ?_ ?_ ?_ ?_
           rotate_left
           · intro w'; go_simp; with_reducible rfl
           rotate_left
           · simp only [Act.put, sq, i64_w, i32_w]; rfl
           refine done_ (done_of HT_.out (by kernel_rfl)) ?_
           try go_wp2_with (first | ((with_reducible refine gate_builtin (b := .append) (xs := #[.tmp 68, .tmp 70]) rfl ?_); at_builtin; refine Kd.R_append (Kd.int .i64) (w0 := w) w.heap.size rfl (.tmp 68) (.tmp 70) 23 3 (.int .i64 0) 8 rfl Try.underlying23 info3 rfl (by decide) (by omega) u8 x8_2 0 [.int .i64 0] (fun _ => True) (fun _ => False) rfl rfl ?aP (fun _ hk => hk.elim) ?aF ?aO ?aB ?aS ?aL ?_; (case aP => exact rfl); (case aB => exact (by repeat (first | (with_reducible first | exact HB.out | apply below_alloc | apply pw_below_drewN | apply below_drew1) | exact HB.out))); (case aF => exact (fun _ _ => trivial)); (case aO => exact (by (with_reducible repeat (first | apply Kd.R_alloc | apply Kd.R_drewN | apply Kd.R_drew)); exact HO_8.out)); (case aS => exact (below_size (by repeat (first | (with_reducible first | exact HB.out | apply below_alloc | apply pw_below_drewN | apply below_drew1) | exact HB.out)))); (case aL => have := LMc29.out; omega); intro v414 w31 ho hb hg hat; rw [← Ny413.out] at ho; have n0_ := Aside0.mk (Kd.S_after (ok := (fun _ => True)) (by (with_reducible repeat (first | apply Kd.S_alloc | apply Kd.S_drewN | apply Kd.S_drew)); exact Kd.S_mono HO_6.out (fun _ hk => ⟨trivial, hk⟩)) hg hat); have n1_ := Aside0.mk (hb); have n2_ := Aside0.mk (ho); clear HO_6; clear HB; clear HO_8; have HO_6 := n0_; have HB := n1_; have HO415 := n2_; clear n0_ n1_ n2_; clear ho hb hg hat))
           (first | go_roundg kj8 | (refine Handed.intro kj8 ?measure ?_; rotate_left; go_step; (repeat apply Exists.intro); (refine ⟨?rel, ?fr_⟩); (case fr_ => (simp only [add_plain]; rfl))))
           case measure => have := HK1.out; have := HK2.out; have := HJ8.out; omega
           case rel => exact ⟨(y413), (wrap64 (x9_2 + 1)), (by first | rfl | (simp; done) | (simp [*]; done)), H', ⟨by have := HK1.out; have := HK2.out; have := HJ8.out; omega⟩, ⟨by (with_reducible repeat (first | apply Kd.S_alloc | apply Kd.S_drewN | apply Kd.S_drew)); exact Kd.S_mono HO_6.out (fun _ hk => hk.2)⟩, ⟨by (with_reducible repeat (first | apply Kd.R_alloc | apply Kd.R_drewN | apply Kd.R_drew)); exact HO415.out⟩, ⟨by repeat (first | (with_reducible first | exact HB.out | apply below_alloc | apply pw_below_drewN | apply below_drew1) | exact HB.out)⟩⟩
          rw [if_neg c28] at H
          have c28b0 : (x7_1 == x9_2) = false := beq_eq_false_iff_ne.mpr c28
          have c28b1 : (x7_1 != x9_2) = true := bne_iff_ne.mpr c28
          by_cases c32 : x8_2.length < 17592186044416
          case neg => rw [if_neg c32] at H; exact absurd H (by simp)
          rw [if_pos c32] at H
          have LMc32 := Aside0.mk c32
          clear c32
          obtain ⟨y416, hy416⟩ : ∃ y_ : List Int, y_ = (x8_2 ++ [wrap64 ((rd (rd_L3 l0 x7_1) (rd l1 x9_2)) - (rd (rd_L3 l0 x9_2) (rd l1 x9_2)))]) := ⟨_, rfl⟩
          replace H : (orreryref19_Better.l1 kj8 l0 l1 (l0.length : Int) x6_1 x7_1 y416 (wrap64 (x9_2 + 1))) = some r := by first | (rw [hy416]; with_reducible exact H) | (have H2_ := (Option.bind_some _ _).symm.trans H; rw [hy416]; with_reducible exact H2_) | (have H2_ := (Option.bind_some _ _).symm.trans H; with_reducible exact H2_) | with_reducible exact H | (rw [hy416]; exact H) | exact H
          have Ny416 := Aside0.mk hy416
          clear hy416
          have H' := Aside0.mk H
          clear H
          try go_wp2
          have n0_ := Aside0.mk (Kd.S_drew HO_6.out)
          have n1_ := Aside0.mk (Kd.R_drew HO_8.out)
          have n2_ := Aside0.mk (below_drew1 HB.out)
          clear HO_6
          clear HO_8
          clear HB
          have HO_6 := n0_
          have HO_8 := n1_
          have HB := n2_
          clear n0_ n1_ n2_
          have p407 : 0 ≤ (x7_1 : Int) := of_decide_eq_true (by first | (with_reducible assumption) | assumption)
          have q407 : x7_1 < (l0.length : Int) := of_decide_eq_true (by first | (with_reducible assumption) | assumption)
          obtain ⟨ad407, A407_0, c407_0, e407, hx407_0, hl407_0, hi407_0⟩ := at_L3 HR0.out x7_1 p407 q407
          have hw407_0 := hx407_0
          cases e407
          replace hx407_0 := (HB.out.cell (World.block_lt_of_cell? w _ hx407_0)).trans hx407_0
          have HR407_0 := Aside0.mk hi407_0
          have HC407_0 := Aside0.mk hl407_0
          clear hi407_0 hl407_0
          replace p407 := eq_true p407
          replace q407 := eq_true q407
          have p408 : 0 ≤ (x9_2 : Int) := of_decide_eq_true (by first | (with_reducible assumption) | assumption)
          have q408 : x9_2 < (l1.length : Int) := of_decide_eq_true (by first | (with_reducible assumption) | assumption)
          obtain ⟨ad408, e408, hx408_0⟩ := Kd.at_int HR1.out x9_2 p408 q408
          have hw408_0 := hx408_0
          cases e408
          replace hx408_0 := (HB.out.cell (World.block_lt_of_cell? w _ hx408_0)).trans hx408_0
          replace p408 := eq_true p408
          replace q408 := eq_true q408
          have p409 : 0 ≤ ((rd l1 x9_2) : Int) := of_decide_eq_true (by first | (with_reducible assumption) | assumption)
          have q409 : (rd l1 x9_2) < ((rd_L3 l0 x7_1).length : Int) := of_decide_eq_true (by first | (with_reducible assumption) | assumption)
          obtain ⟨ad409, e409, hx409_0⟩ := Kd.at_int HR407_0.out (rd l1 x9_2) p409 q409
          have hw409_0 := hx409_0
          cases e409
          replace hx409_0 := (HB.out.cell (World.block_lt_of_cell? w _ hx409_0)).trans hx409_0
          replace p409 := eq_true p409
          replace q409 := eq_true q409
          have p410 : 0 ≤ (x9_2 : Int) := of_decide_eq_true (by first | (with_reducible assumption) | assumption)
          have q410 : x9_2 < (l0.length : Int) := of_decide_eq_true (by first | (with_reducible assumption) | assumption)
          obtain ⟨ad410, A410_0, c410_0, e410, hx410_0, hl410_0, hi410_0⟩ := at_L3 HR0.out x9_2 p410 q410
          have hw410_0 := hx410_0
          obtain rfl : ad407 = ad410 := (by injection e410)
          replace hx410_0 := (HB.out.cell (World.block_lt_of_cell? w _ hx410_0)).trans hx410_0
          have HR410_0 := Aside0.mk hi410_0
          have HC410_0 := Aside0.mk hl410_0
          clear hi410_0 hl410_0
          replace p410 := eq_true p410
          replace q410 := eq_true q410
          have p411 : 0 ≤ (x9_2 : Int) := of_decide_eq_true (by first | (with_reducible assumption) | assumption)
          have q411 : x9_2 < (l1.length : Int) := of_decide_eq_true (by first | (with_reducible assumption) | assumption)
          obtain ⟨ad411, e411, hx411_0⟩ := Kd.at_int HR1.out x9_2 p411 q411
          have hw411_0 := hx411_0
          obtain rfl : ad408 = ad411 := (by injection e411)
          replace hx411_0 := (HB.out.cell (World.block_lt_of_cell? w _ hx411_0)).trans hx411_0
          replace p411 := eq_true p411
          replace q411 := eq_true q411
          have p412 : 0 ≤ ((rd l1 x9_2) : Int) := of_decide_eq_true (by first | (with_reducible assumption) | assumption)
          have q412 : (rd l1 x9_2) < ((rd_L3 l0 x9_2).length : Int) := of_decide_eq_true (by first | (with_reducible assumption) | assumption)
          obtain ⟨ad412, e412, hx412_0⟩ := Kd.at_int HR410_0.out (rd l1 x9_2) p412 q412
          have hw412_0 := hx412_0
          cases e412
          replace hx412_0 := (HB.out.cell (World.block_lt_of_cell? w _ hx412_0)).trans hx412_0
          replace p412 := eq_true p412
          replace q412 := eq_true q412
          refine start_ (n := 22) (S := fun w' => w'.cell? (ad407.add (x7_1).toNat) = some (.slice (some ad409) (rd_L3 l0 x7_1).length c407_0) ∧ w'.cell? (ad408.add (x9_2).toNat) = some (.int .i64 (rd l1 x9_2)) ∧ w'.cell? (ad409.add ((rd l1 x9_2)).toNat) = some (.int .i64 (rd (rd_L3 l0 x7_1) (rd l1 x9_2))) ∧ w'.cell? (ad407.add (x9_2).toNat) = some (.slice (some ad412) (rd_L3 l0 x9_2).length c410_0) ∧ w'.cell? (ad408.add (x9_2).toNat) = some (.int .i64 (rd l1 x9_2)) ∧ w'.cell? (ad412.add ((rd l1 x9_2)).toNat) = some (.int .i64 (rd (rd_L3 l0 x9_2) (rd l1 x9_2)))) (ds := []) (msk 22 0) (by kernel_rfl) rfl rfl ⟨((HB.out.cell (World.block_lt_of_cell? w _ hw407_0)).trans hw407_0), ((HB.out.cell (World.block_lt_of_cell? w _ hw408_0)).trans hw408_0), ((HB.out.cell (World.block_lt_of_cell? w _ hw409_0)).trans hw409_0), ((HB.out.cell (World.block_lt_of_cell? w _ hw410_0)).trans hw410_0), ((HB.out.cell (World.block_lt_of_cell? w _ hw411_0)).trans hw411_0), ((HB.out.cell (World.block_lt_of_cell? w _ hw412_0)).trans hw412_0)⟩ (fun hHeld => ?_); refine with_tabW orreryref19_Better.tab12 orreryref19_Better.bits12 (fun HT_ HW_ => ?_)
          generalize wc.drew = w33 at HO_6 HO_8 HB HR407_0 HR410_0 hx407_0 hx408_0 hx409_0 hx410_0 hx411_0 hx412_0 hHeld ⊢
          refine pu_ 0 44 (msk 22 1) HT_.out ?_ ?_ ?_ ?_ ?_
          rotate_left
          · intro w'; go_simp; with_reducible rfl
          rotate_left
          · simp only [Act.put, sq, i64_w, i32_w]; rfl
          refine pu_ 1 45 (msk 22 3) HT_.out ?_ ?_ ?_ ?_ ?_
          rotate_left
          · intro w'; go_simp; with_reducible rfl
          rotate_left
          · simp only [Act.put, sq, i64_w, i32_w]; rfl
          refine pu_ 2 46 (msk 22 7) HT_.out ?_ ?_ ?_ ?_ ?_
          rotate_left
          · intro w'; go_simp; with_reducible rfl
          rotate_left
          · simp only [Act.put, sq, i64_w, i32_w]; rfl
          refine pu_ 4 48 (msk 22 23) HT_.out ?_ ?_ ?_ ?_ ?_
          rotate_left
          · intro w'; go_simp; with_reducible rfl
          rotate_left
          · simp only [Act.put, sq, i64_w, i32_w]; rfl
          refine pu_ 5 49 (msk 22 55) HT_.out ?_ ?_ ?_ ?_ ?_
          rotate_left
          · intro w'; go_simp; with_reducible rfl
          rotate_left
          · simp only [Act.put, sq, i64_w, i32_w]; rfl
          refine pu_ 6 50 (msk 22 119) HT_.out ?_ ?_ ?_ ?_ ?_
          rotate_left
          · intro w'; go_simp; with_reducible rfl
          rotate_left
          · simp only [Act.put, sq, i64_w, i32_w]; rfl
          refine pu_ 10 54 (msk 22 1143) HT_.out ?_ ?_ ?_ ?_ ?_
          rotate_left
          · intro w'; go_simp; with_reducible rfl
          rotate_left
          · simp only [Act.put, sq, i64_w, i32_w]; rfl
          refine pu_ 11 55 (msk 22 3191) HT_.out ?_ ?_ ?_ ?_ ?_
          rotate_left
          · intro w'; go_simp; with_reducible rfl
          rotate_left
          · simp only [Act.put, sq, i64_w, i32_w]; rfl
          refine pu_ 12 56 (msk 22 7287) HT_.out ?_ ?_ ?_ ?_ ?_
          rotate_left
          · intro w'; go_simp; with_reducible rfl
          rotate_left
          · simp only [Act.put, sq, i64_w, i32_w]; rfl
          refine pu_ 14 58 (msk 22 23671) HT_.out ?_ ?_ ?_ ?_ ?_
          rotate_left
          · intro w'; go_simp; with_reducible rfl
          rotate_left
          · simp only [Act.put, sq, i64_w, i32_w]; rfl
          refine pu_ 15 59 (msk 22 56439) HT_.out ?_ ?_ ?_ ?_ ?_
          rotate_left
          · intro w'; go_simp; with_reducible rfl
          rotate_left
          · simp only [Act.put, sq, i64_w, i32_w]; rfl
          refine pu_ 16 60 (msk 22 121975) HT_.out ?_ ?_ ?_ ?_ ?_
          rotate_left
          · intro w'; go_simp; with_reducible rfl
          rotate_left
          · simp only [Act.put, sq, i64_w, i32_w]; rfl
          refine tk_ 3 47 (msk 22 121983) HT_.out HW_.out hHeld ?_ ?_ ?_ ?_ ?_
          rotate_left
          · rintro w' ⟨s0, s1, s2, s3, s4, s5⟩; go_simp; with_reducible rfl
          rotate_left
          · simp only [Act.put, sq, i64_w, i32_w]; rfl
          refine tk_ 7 51 (msk 22 122111) HT_.out HW_.out hHeld ?_ ?_ ?_ ?_ ?_
          rotate_left
          · rintro w' ⟨s0, s1, s2, s3, s4, s5⟩; go_simp; with_reducible rfl
          rotate_left
          · simp only [Act.put, sq, i64_w, i32_w]; rfl
          refine pu_ 8 52 (msk 22 122367) HT_.out ?_ ?_ ?_ ?_ ?_
          rotate_left
          · intro w'; go_simp; with_reducible rfl
          rotate_left
          · simp only [Act.put, sq, i64_w, i32_w]; rfl
          refine tk_ 9 53 (msk 22 122879) HT_.out HW_.out hHeld ?_ ?_ ?_ ?_ ?_
          rotate_left
          · rintro w' ⟨s0, s1, s2, s3, s4, s5⟩; go_simp; with_reducible rfl
          rotate_left
          · simp only [Act.put, sq, i64_w, i32_w]; rfl
          refine tk_ 13 57 (msk 22 131071) HT_.out HW_.out hHeld ?_ ?_ ?_ ?_ ?_
          rotate_left
          · rintro w' ⟨s0, s1, s2, s3, s4, s5⟩; go_simp; with_reducible rfl
          rotate_left
          · simp only [Act.put, sq, i64_w, i32_w]; rfl
          refine tk_ 17 61 (msk 22 262143) HT_.out HW_.out hHeld ?_ ?_ ?_ ?_ ?_
          rotate_left
          · rintro w' ⟨s0, s1, s2, s3, s4, s5⟩; go_simp; with_reducible rfl
          rotate_left
          · simp only [Act.put, sq, i64_w, i32_w]; rfl
          refine pu_ 18 62 (msk 22 524287) HT_.out ?_ ?_ ?_ ?_ ?_
          rotate_left
          · intro w'; go_simp; with_reducible rfl
          rotate_left
          · simp only [Act.put, sq, i64_w, i32_w]; rfl
          refine tk_ 19 63 (msk 22 1048575) HT_.out HW_.out hHeld ?_ ?_ ?_ ?_ ?_
          rotate_left
          · rintro w' ⟨s0, s1, s2, s3, s4, s5⟩; go_simp; with_reducible rfl
          rotate_left
          · simp only [Act.put, sq, i64_w, i32_w]; rfl
          refine pu_ 20 64 (msk 22 2097151) HT_.out ?_ ?_ ?_ ?_ ?_
          rotate_left
          · intro w'; go_simp; with_reducible rfl
          rotate_left
          · simp only [Act.put, sq, i64_w, i32_w]; rfl
          refine pu_ 21 10 (msk 22 4194303) HT_.out ?_ ?_ ?_ ?_ ?_
          rotate_left
          · intro w'; go_simp; with_reducible rfl
          rotate_left
          · simp only [Act.put, sq, i64_w, i32_w]; rfl
          refine done_ (done_of HT_.out (by kernel_rfl)) ?_
          try go_wp2_with (first | ((with_reducible refine gate_builtin (b := .append) (xs := #[.tmp 68, .tmp 70]) rfl ?_); at_builtin; refine Kd.R_append (Kd.int .i64) (w0 := w) w.heap.size rfl (.tmp 68) (.tmp 70) 23 3 (.int .i64 0) 8 rfl Try.underlying23 info3 rfl (by decide) (by omega) u8 x8_2 (wrap64 ((rd (rd_L3 l0 x7_1) (rd l1 x9_2)) - (rd (rd_L3 l0 x9_2) (rd l1 x9_2)))) [.int .i64 (wrap64 ((rd (rd_L3 l0 x7_1) (rd l1 x9_2)) - (rd (rd_L3 l0 x9_2) (rd l1 x9_2))))] (fun _ => True) (fun _ => False) rfl rfl ?aP (fun _ hk => hk.elim) ?aF ?aO ?aB ?aS ?aL ?_; (case aP => exact rfl); (case aB => exact (by repeat (first | (with_reducible first | exact HB.out | apply below_alloc | apply pw_below_drewN | apply below_drew1) | exact HB.out))); (case aF => exact (fun _ _ => trivial)); (case aO => exact (by (with_reducible repeat (first | apply Kd.R_alloc | apply Kd.R_drewN | apply Kd.R_drew)); exact HO_8.out)); (case aS => exact (below_size (by repeat (first | (with_reducible first | exact HB.out | apply below_alloc | apply pw_below_drewN | apply below_drew1) | exact HB.out)))); (case aL => have := LMc32.out; omega); intro v417 w34 ho hb hg hat; rw [← Ny416.out] at ho; have n0_ := Aside0.mk (Kd.S_after (ok := (fun _ => True)) (by (with_reducible repeat (first | apply Kd.S_alloc | apply Kd.S_drewN | apply Kd.S_drew)); exact Kd.S_mono HO_6.out (fun _ hk => ⟨trivial, hk⟩)) hg hat); have n1_ := Aside0.mk (hb); have n2_ := Aside0.mk (ho); clear HO_6; clear HB; clear HO_8; have HO_6 := n0_; have HB := n1_; have HO418 := n2_; clear n0_ n1_ n2_; clear ho hb hg hat))
          (first | go_roundg kj8 | (refine Handed.intro kj8 ?measure ?_; rotate_left; go_step; (repeat apply Exists.intro); (refine ⟨?rel, ?fr_⟩); (case fr_ => (simp only [add_plain]; rfl))))
          case measure => have := HK1.out; have := HK2.out; have := HJ8.out; omega
          case rel => exact ⟨(y416), (wrap64 (x9_2 + 1)), (by first | rfl | (simp; done) | (simp [*]; done)), H', ⟨by have := HK1.out; have := HK2.out; have := HJ8.out; omega⟩, ⟨by (with_reducible repeat (first | apply Kd.S_alloc | apply Kd.S_drewN | apply Kd.S_drew)); exact Kd.S_mono HO_6.out (fun _ hk => hk.2)⟩, ⟨by (with_reducible repeat (first | apply Kd.R_alloc | apply Kd.R_drewN | apply Kd.R_drew)); exact HO418.out⟩, ⟨by repeat (first | (with_reducible first | exact HB.out | apply below_alloc | apply pw_below_drewN | apply below_drew1) | exact HB.out)⟩⟩
    rw [if_neg c5] at H
    have c5b0 : decide (x7_1 < (l0.length : Int)) = false := decide_eq_false c5
    clear c5
    have H' := Aside0.mk H
    clear H
    go_wp2
    go_loopg [11] k1 (fun kq v11 w' => ∃ (x6_2 : List (List Int)) (x11_2 : Int), v11 = .int .i64 x11_2 ∧ Aside0 (orreryref19_Better.l2 kq (l0.length : Int) x6_2 x11_2 = some r) ∧ Aside0 (kq ≤ k1) ∧ Aside0 (Kd.S (Kd.slice 3 (Kd.int .i64)) 23 w' w.heap.size (fun _ => True) u6 x6_2) ∧ Aside0 (Below w.heap.size w w'))
    case atStart => exact ⟨(x6_1), (0), (by first | rfl | (simp; done) | (simp [*]; done)), H', ⟨Nat.le_refl _⟩, ⟨by (with_reducible repeat (first | apply Kd.S_alloc | apply Kd.S_drewN | apply Kd.S_drew)); exact HO_6.out⟩, ⟨by repeat (first | (with_reducible first | exact HB.out | apply below_alloc | apply pw_below_drewN | apply below_drew1) | exact HB.out)⟩⟩
    case round =>
     as_aux_lemma =>
      clear H'
      try clear c1
      try clear c2
      try clear p2
      try clear c3
      try clear c4
      try clear p4
      try clear q4
      try clear hx4
      try clear c5
      try clear c5b0
      try clear p6
      try clear c8
      try clear c8b0
      try clear c19
      try clear c20
      try clear c21
      try clear c22
      try clear c23
      try clear c24
      try clear c25
      try clear c26
      try clear c27
      try clear c28
      try clear c28b0
      try clear c28b1
      try clear c29
      try clear c32
      try clear c35
      try clear c35b0
      try clear c35b1
      try clear c36
      try clear c38
      try clear c40
      try clear p40
      try clear q40
      try clear hx40
      try clear c41
      try clear p41
      try clear q41
      try clear hx41
      try clear hx407_0
      try clear hx408_0
      try clear hx409_0
      try clear hx410_0
      try clear hx411_0
      try clear hx412_0
      try clear p407
      try clear p408
      try clear p409
      try clear p410
      try clear p411
      try clear p412
      try clear q407
      try clear q408
      try clear q409
      try clear q410
      try clear q411
      try clear q412
      obtain ⟨x6_2, x11_2, rfl, HA, HK2, HO_6, HB⟩ := hrel
      cases gk with
      | zero => exact absurd HA.out (by simp [orreryref19_Better.l2])
      | succ k2 =>
       have H := HA.out
       clear HA
       simp only [orreryref19_Better.l2] at H
       by_cases c43 : x11_2 < (l0.length : Int)
       case neg =>
        rw [if_neg c43] at H
        have c43b0 : decide (x11_2 < (l0.length : Int)) = false := decide_eq_false c43
        clear c43
        obtain rfl := Option.some.inj H
        go_wp2
        go_ret
        exact ⟨by first | rfl | (simp [errW_none, errW_some] <;> rfl) | (simp [*, errW_none, errW_some] <;> rfl), by repeat (first | (with_reducible first | exact HB.out | apply below_alloc | apply pw_below_drewN | apply below_drew1) | exact HB.out)⟩
       rw [if_pos c43] at H
       have c43b0 : decide (x11_2 < (l0.length : Int)) = true := decide_eq_true c43
       clear c43
       have H' := Aside0.mk H
       clear H
       go_wp2
       go_loopg [12] k2 (fun kq v12 w' => ∃ (x6_3 : List (List Int)) (x12_3 : Int), v12 = .int .i64 x12_3 ∧ Aside0 (orreryref19_Better.l3 kq (l0.length : Int) x6_3 x11_2 x12_3 = some r) ∧ Aside0 (kq ≤ k2) ∧ Aside0 (Kd.S (Kd.slice 3 (Kd.int .i64)) 23 w' w.heap.size (fun _ => True) u6 x6_3) ∧ Aside0 (Below w.heap.size w w'))
       case atStart => exact ⟨(x6_2), (0), (by first | rfl | (simp; done) | (simp [*]; done)), H', ⟨Nat.le_refl _⟩, ⟨by (with_reducible repeat (first | apply Kd.S_alloc | apply Kd.S_drewN | apply Kd.S_drew)); exact HO_6.out⟩, ⟨by repeat (first | (with_reducible first | exact HB.out | apply below_alloc | apply pw_below_drewN | apply below_drew1) | exact HB.out)⟩⟩
       case round =>
        as_aux_lemma =>
         clear H'
         try clear c1
         try clear c2
         try clear p2
         try clear c3
         try clear c4
         try clear p4
         try clear q4
         try clear hx4
         try clear c5
         try clear c5b0
         try clear p6
         try clear c8
         try clear c8b0
         try clear c19
         try clear c20
         try clear c21
         try clear c22
         try clear c23
         try clear c24
         try clear c25
         try clear c26
         try clear c27
         try clear c28
         try clear c28b0
         try clear c28b1
         try clear c29
         try clear c32
         try clear c35
         try clear c35b0
         try clear c35b1
         try clear c36
         try clear c38
         try clear c40
         try clear p40
         try clear q40
         try clear hx40
         try clear c41
         try clear p41
         try clear q41
         try clear hx41
         try clear c43
         try clear c43b0
         try clear hx407_0
         try clear hx408_0
         try clear hx409_0
         try clear hx410_0
         try clear hx411_0
         try clear hx412_0
         try clear p2
         try clear p4
         try clear p40
         try clear p407
         try clear p408
         try clear p409
         try clear p41
         try clear p410
         try clear p411
         try clear p412
         try clear p6
         try clear q4
         try clear q40
         try clear q407
         try clear q408
         try clear q409
         try clear q41
         try clear q410
         try clear q411
         try clear q412
         obtain ⟨x6_3, x12_3, rfl, HA, HK3, HO_6, HB⟩ := hrel
         cases gk with
         | zero => exact absurd HA.out (by simp [orreryref19_Better.l3])
         | succ k3 =>
          have H := HA.out
          clear HA
          simp only [orreryref19_Better.l3] at H
          by_cases c44 : x12_3 < (l0.length : Int)
          case neg =>
           rw [if_neg c44] at H
           have c44b0 : decide (x12_3 < (l0.length : Int)) = false := decide_eq_false c44
           clear c44
           have H' := Aside0.mk H
           clear H
           go_wp2
           (first | go_roundg k3 | (refine Handed.intro k3 ?measure ?_; rotate_left; go_step; (repeat apply Exists.intro); (refine ⟨?rel, ?fr_⟩); (case fr_ => (simp only [add_plain]; rfl))))
           case measure => have := HK1.out; have := HK2.out; have := HK3.out; omega
           case rel => exact ⟨(x6_3), (wrap64 (x11_2 + 1)), (by first | rfl | (simp; done) | (simp [*]; done)), H', ⟨by have := HK1.out; have := HK2.out; have := HK3.out; omega⟩, ⟨by (with_reducible repeat (first | apply Kd.S_alloc | apply Kd.S_drewN | apply Kd.S_drew)); exact HO_6.out⟩, ⟨by repeat (first | (with_reducible first | exact HB.out | apply below_alloc | apply pw_below_drewN | apply below_drew1) | exact HB.out)⟩⟩
          rw [if_pos c44] at H
          have c44b0 : decide (x12_3 < (l0.length : Int)) = true := decide_eq_true c44
          clear c44
          have H' := Aside0.mk H
          clear H
          go_wp2
          go_loopg [13] k3 (fun kq v13 w' => ∃ (x6_4 : List (List Int)) (x13_4 : Int), v13 = .int .i64 x13_4 ∧ Aside0 (orreryref19_Better.l4 kq (l0.length : Int) x6_4 x11_2 x12_3 x13_4 = some r) ∧ Aside0 (kq ≤ k3) ∧ Aside0 (Kd.S (Kd.slice 3 (Kd.int .i64)) 23 w' w.heap.size (fun _ => True) u6 x6_4) ∧ Aside0 (Below w.heap.size w w'))
          case atStart => exact ⟨(x6_3), (0), (by first | rfl | (simp; done) | (simp [*]; done)), H', ⟨Nat.le_refl _⟩, ⟨by (with_reducible repeat (first | apply Kd.S_alloc | apply Kd.S_drewN | apply Kd.S_drew)); exact HO_6.out⟩, ⟨by repeat (first | (with_reducible first | exact HB.out | apply below_alloc | apply pw_below_drewN | apply below_drew1) | exact HB.out)⟩⟩
          case round =>
           as_aux_lemma =>
            clear H'
            try clear c1
            try clear c2
            try clear p2
            try clear c3
            try clear c4
            try clear p4
            try clear q4
            try clear hx4
            try clear c5
            try clear c5b0
            try clear p6
            try clear c8
            try clear c8b0
            try clear c19
            try clear c20
            try clear c21
            try clear c22
            try clear c23
            try clear c24
            try clear c25
            try clear c26
            try clear c27
            try clear c28
            try clear c28b0
            try clear c28b1
            try clear c29
            try clear c32
            try clear c35
            try clear c35b0
            try clear c35b1
            try clear c36
            try clear c38
            try clear c40
            try clear p40
            try clear q40
            try clear hx40
            try clear c41
            try clear p41
            try clear q41
            try clear hx41
            try clear c43
            try clear c43b0
            try clear c44
            try clear c44b0
            try clear hx407_0
            try clear hx408_0
            try clear hx409_0
            try clear hx410_0
            try clear hx411_0
            try clear hx412_0
            try clear p2
            try clear p4
            try clear p40
            try clear p407
            try clear p408
            try clear p409
            try clear p41
            try clear p410
            try clear p411
            try clear p412
            try clear p6
            try clear q4
            try clear q40
            try clear q407
            try clear q408
            try clear q409
            try clear q41
            try clear q410
            try clear q411
            try clear q412
            obtain ⟨x6_4, x13_4, rfl, HA, HK4, HO_6, HB⟩ := hrel
            cases gk with
            | zero => exact absurd HA.out (by simp [orreryref19_Better.l4])
            | succ k4 =>
             have H := HA.out
             clear HA
             simp only [orreryref19_Better.l4] at H
             by_cases c45 : x13_4 < (l0.length : Int)
             case neg =>
              rw [if_neg c45] at H
              have c45b0 : decide (x13_4 < (l0.length : Int)) = false := decide_eq_false c45
              clear c45
              have H' := Aside0.mk H
              clear H
              go_wp2
              (first | go_roundg k4 | (refine Handed.intro k4 ?measure ?_; rotate_left; go_step; (repeat apply Exists.intro); (refine ⟨?rel, ?fr_⟩); (case fr_ => (simp only [add_plain]; rfl))))
              case measure => have := HK1.out; have := HK2.out; have := HK3.out; have := HK4.out; omega
              case rel => exact ⟨(x6_4), (wrap64 (x12_3 + 1)), (by first | rfl | (simp; done) | (simp [*]; done)), H', ⟨by have := HK1.out; have := HK2.out; have := HK3.out; have := HK4.out; omega⟩, ⟨by (with_reducible repeat (first | apply Kd.S_alloc | apply Kd.S_drewN | apply Kd.S_drew)); exact HO_6.out⟩, ⟨by repeat (first | (with_reducible first | exact HB.out | apply below_alloc | apply pw_below_drewN | apply below_drew1) | exact HB.out)⟩⟩
             rw [if_pos c45] at H
             have c45b0 : decide (x13_4 < (l0.length : Int)) = true := decide_eq_true c45
             clear c45
             have HC46 := Aside0.mk H
             clear H
             go_upto_region 26 with (fail)
             go_cut [133] (fun v133 wc => ∃ (kq : Nat) (x133_45 : Bool), v133 = .bool x133_45 ∧ Aside0 (orreryref19_Better.j6 kq (l0.length : Int) x6_4 x11_2 x12_3 x13_4 x133_45 = some r) ∧ Aside0 (kq ≤ k4) ∧ Aside0 (Kd.S (Kd.slice 3 (Kd.int .i64)) 23 wc w.heap.size (fun _ => True) u6 x6_4) ∧ Aside0 (Below w.heap.size w wc))
             case first =>
              have H := HC46.out
              clear HC46
              by_cases c47 : 0 ≤ x12_3
              case neg => rw [if_neg c47] at H; exact absurd H (by simp)
              rw [if_pos c47] at H
              have c47b0 : decide (0 ≤ x12_3) = true := decide_eq_true c47
              clear c47
              (first | rw [c47b0] | (simp only [i64_w, i32_w]; rw [c47b0]) | skip)
              by_cases c48 : x12_3 < (x6_4.length : Int)
              case neg => rw [if_neg c48] at H; exact absurd H (by simp)
              rw [if_pos c48] at H
              have c48b0 : decide (x12_3 < (x6_4.length : Int)) = true := decide_eq_true c48
              clear c48
              by_cases c49 : 0 ≤ x11_2
              case neg => rw [if_neg c49] at H; exact absurd H (by simp)
              rw [if_pos c49] at H
              have c49b0 : decide (0 ≤ x11_2) = true := decide_eq_true c49
              clear c49
              by_cases c50 : x11_2 < ((rd_L3 x6_4 x12_3).length : Int)
              case neg => rw [if_neg c50] at H; exact absurd H (by simp)
              rw [if_pos c50] at H
              have c50b0 : decide (x11_2 < ((rd_L3 x6_4 x12_3).length : Int)) = true := decide_eq_true c50
              clear c50
              by_cases c51 : (rd (rd_L3 x6_4 x12_3) x11_2) > (-500000)
              case neg =>
               rw [if_neg c51] at H
               have c51b0 : decide ((-500000) < (rd (rd_L3 x6_4 x12_3) x11_2)) = false := decide_eq_false c51
               clear c51
               have H' := Aside0.mk H
               clear H
               try go_wp2
               have n0_ := Aside0.mk (Kd.S_drew HO_6.out)
               have n1_ := Aside0.mk (below_drew1 HB.out)
               clear HO_6
               clear HB
               have HO_6 := n0_
               have HB := n1_
               clear n0_ n1_
               obtain ⟨Ao62, co62, eo62⟩ := Kd.S_slice HO_6.out
               (first | subst eo62 | (injection eo62 with f1_ f2_ f3_; have f4_ := f1_.symm; have f5_ := f3_.symm; clear f1_ f2_ f3_; subst f4_; subst f5_))
               have p425 : 0 ≤ (x12_3 : Int) := of_decide_eq_true (by first | (with_reducible assumption) | assumption)
               have q425 : x12_3 < (x6_4.length : Int) := of_decide_eq_true (by first | (with_reducible assumption) | assumption)
               obtain ⟨ad425, A425_0, c425_0, e425, hx425_0, hl425_0, hi425_0⟩ := at_L3 (Kd.S_reads' HO_6.out).2.2 x12_3 p425 q425
               cases e425
               obtain ⟨ce425, hce425, hMe425, hcc425⟩ := Kd.S_get HO_6.out [] x12_3 p425 (by first | exact q425 | exact of_decide_eq_true (by first | (with_reducible assumption) | assumption) | (have e_ := (Kd.S_reads' HO_6.out).1; omega))
               obtain ⟨ve425_0, rfl, ge425_0⟩ := hMe425
               have hv425_0 := hcc425 0 _ rfl
               rw [Nat.add_zero, show ((Kd.slice 3 (Kd.int .i64))).sz = 1 from rfl, Nat.mul_one] at hv425_0
               replace hv425_0 := Option.some.inj (hv425_0.symm.trans hx425_0)
               rw [hv425_0] at ge425_0
               have HL425_0 := Aside0.mk (show Kd.R (Kd.int .i64) 3 _ _ _ _ (rd_L3 x6_4 x12_3) from ge425_0)
               clear hv425_0 ge425_0
               have HX425_0 := Aside0.mk hx425_0
               clear hcc425 hce425
               have HR425_0 := Aside0.mk hi425_0
               have HC425_0 := Aside0.mk hl425_0
               clear hi425_0 hl425_0
               replace p425 := eq_true p425
               replace q425 := eq_true q425
               have p426 : 0 ≤ (x11_2 : Int) := of_decide_eq_true (by first | (with_reducible assumption) | assumption)
               have q426 : x11_2 < ((rd_L3 x6_4 x12_3).length : Int) := of_decide_eq_true (by first | (with_reducible assumption) | assumption)
               obtain ⟨ad426, e426, hx426_0⟩ := Kd.at_int (by repeat (first | (with_reducible exact HR425_0.out) | (with_reducible refine Kd.C_alloc ?_ _) | (with_reducible refine Kd.C_drewN ?_ _) | (with_reducible refine Kd.C_drew ?_) | exact HR425_0.out)) x11_2 p426 q426
               cases e426
               replace p426 := eq_true p426
               replace q426 := eq_true q426
               refine start_ (n := 43) (S := fun w' => w'.cell? (ad425.add (x12_3).toNat) = some (.slice (some ad426) (rd_L3 x6_4 x12_3).length c425_0) ∧ w'.cell? (ad426.add (x11_2).toNat) = some (.int .i64 (rd (rd_L3 x6_4 x12_3) x11_2))) (ds := []) (msk 43 0) (by kernel_rfl) rfl rfl ⟨hx425_0, hx426_0⟩ (fun hHeld => ?_); refine with_tabW orreryref19_Better.tab26 orreryref19_Better.bits26 (fun HT_ HW_ => ?_)
               generalize wr.drew = w61 at HO_6 HB HL425_0 HR425_0 HX425_0 hx425_0 hx426_0 hHeld ⊢
               refine pu_ 0 91 (msk 43 1) HT_.out ?_ ?_ ?_ ?_ ?_
               rotate_left
               · intro w'; go_simp; with_reducible rfl
               rotate_left
               · simp only [Act.put, sq, i64_w, i32_w]; rfl
               refine pu_ 1 92 (msk 43 3) HT_.out ?_ ?_ ?_ ?_ ?_
               rotate_left
               · intro w'; go_simp; with_reducible rfl
               rotate_left
               · simp only [Act.put, sq, i64_w, i32_w]; rfl
               refine pu_ 2 93 (msk 43 7) HT_.out ?_ ?_ ?_ ?_ ?_
               rotate_left
               · intro w'; go_simp; with_reducible rfl
               rotate_left
               · simp only [Act.put, sq, i64_w, i32_w]; rfl
               refine pu_ 4 95 (msk 43 23) HT_.out ?_ ?_ ?_ ?_ ?_
               rotate_left
               · intro w'; go_simp; with_reducible rfl
               rotate_left
               · simp only [Act.put, sq, i64_w, i32_w]; rfl
               refine tk_ 3 94 (msk 43 31) HT_.out HW_.out hHeld ?_ ?_ ?_ ?_ ?_
               rotate_left
               · rintro w' ⟨s0, s1⟩; go_simp; with_reducible rfl
               rotate_left
               · simp only [Act.put, sq, i64_w, i32_w]; rfl
               refine pu_ 5 96 (msk 43 63) HT_.out ?_ ?_ ?_ ?_ ?_
               rotate_left
               · intro w'; go_simp; with_reducible rfl
               rotate_left
               · simp only [Act.put, sq, i64_w, i32_w]; rfl
               refine tk_ 6 97 (msk 43 127) HT_.out HW_.out hHeld ?_ ?_ ?_ ?_ ?_
               rotate_left
               · rintro w' ⟨s0, s1⟩; go_simp; with_reducible rfl
               rotate_left
               · simp only [Act.put, sq, i64_w, i32_w]; rfl
               refine pu_ 7 98 (msk 43 255) HT_.out ?_ ?_ ?_ ?_ ?_
               rotate_left
               · intro w'; go_simp; with_reducible rfl
               rotate_left
               · simp only [Act.put, sq, i64_w, i32_w]; rfl
               refine pu_ 8 99 (msk 43 511) HT_.out ?_ ?_ ?_ ?_ ?_
               rotate_left
               · intro w'; go_simp; with_reducible rfl
               rotate_left
               · simp only [Act.put, sq, i64_w, i32_w]; rfl
               refine pv_ 9 100 (msk 43 1023) HT_.out ?_ ?_ ?_
               rotate_left
               · simp only [Act.put, sq, i64_w, i32_w]; rfl
               refine pv_ 10 101 (msk 43 2047) HT_.out ?_ ?_ ?_
               rotate_left
               · simp only [Act.put, sq, i64_w, i32_w]; rfl
               refine pv_ 11 102 (msk 43 4095) HT_.out ?_ ?_ ?_
               rotate_left
               · simp only [Act.put, sq, i64_w, i32_w]; rfl
               refine pv_ 12 103 (msk 43 8191) HT_.out ?_ ?_ ?_
               rotate_left
               · simp only [Act.put, sq, i64_w, i32_w]; rfl
               refine pv_ 13 104 (msk 43 16383) HT_.out ?_ ?_ ?_
               rotate_left
               · simp only [Act.put, sq, i64_w, i32_w]; rfl
               refine pv_ 14 105 (msk 43 32767) HT_.out ?_ ?_ ?_
               rotate_left
               · simp only [Act.put, sq, i64_w, i32_w]; rfl
               refine pv_ 15 106 (msk 43 65535) HT_.out ?_ ?_ ?_
               rotate_left
               · simp only [Act.put, sq, i64_w, i32_w]; rfl
               refine pv_ 16 107 (msk 43 131071) HT_.out ?_ ?_ ?_
               rotate_left
               · simp only [Act.put, sq, i64_w, i32_w]; rfl
               refine pu_ 17 108 (msk 43 262143) HT_.out ?_ ?_ ?_ ?_ ?_
               rotate_left
               · intro w'; go_simp; with_reducible rfl
               rotate_left
               · simp only [Act.put, sq, i64_w, i32_w]; rfl
               refine pu_ 18 109 (msk 43 524287) HT_.out ?_ ?_ ?_ ?_ ?_
               rotate_left
               · intro w'; go_simp; with_reducible rfl
               rotate_left
               · simp only [Act.put, sq, i64_w, i32_w]; rfl
               refine pv_ 19 110 (msk 43 1048575) HT_.out ?_ ?_ ?_
               rotate_left
               · simp only [Act.put, sq, i64_w, i32_w]; rfl
               refine pv_ 20 111 (msk 43 2097151) HT_.out ?_ ?_ ?_
               rotate_left
               · simp only [Act.put, sq, i64_w, i32_w]; rfl
               refine pv_ 21 112 (msk 43 4194303) HT_.out ?_ ?_ ?_
               rotate_left
               · simp only [Act.put, sq, i64_w, i32_w]; rfl
               refine pv_ 22 113 (msk 43 8388607) HT_.out ?_ ?_ ?_
               rotate_left
               · simp only [Act.put, sq, i64_w, i32_w]; rfl
               refine pv_ 23 114 (msk 43 16777215) HT_.out ?_ ?_ ?_
               rotate_left
               · simp only [Act.put, sq, i64_w, i32_w]; rfl
               refine pv_ 24 115 (msk 43 33554431) HT_.out ?_ ?_ ?_
               rotate_left
               · simp only [Act.put, sq, i64_w, i32_w]; rfl
               refine pv_ 25 116 (msk 43 67108863) HT_.out ?_ ?_ ?_
               rotate_left
               · simp only [Act.put, sq, i64_w, i32_w]; rfl
               refine pv_ 26 117 (msk 43 134217727) HT_.out ?_ ?_ ?_
               rotate_left
               · simp only [Act.put, sq, i64_w, i32_w]; rfl
               refine pv_ 27 118 (msk 43 268435455) HT_.out ?_ ?_ ?_
               rotate_left
               · simp only [Act.put, sq, i64_w, i32_w]; rfl
               refine pv_ 28 119 (msk 43 536870911) HT_.out ?_ ?_ ?_
               rotate_left
               · simp only [Act.put, sq, i64_w, i32_w]; rfl
               refine pv_ 29 120 (msk 43 1073741823) HT_.out ?_ ?_ ?_
               rotate_left
               · simp only [Act.put, sq, i64_w, i32_w]; rfl
               refine pv_ 30 121 (msk 43 2147483647) HT_.out ?_ ?_ ?_
               rotate_left
               · simp only [Act.put, sq, i64_w, i32_w]; rfl
               refine pv_ 31 122 (msk 43 4294967295) HT_.out ?_ ?_ ?_
               rotate_left
               · simp only [Act.put, sq, i64_w, i32_w]; rfl
               refine pv_ 32 123 (msk 43 8589934591) HT_.out ?_ ?_ ?_
               rotate_left
               · simp only [Act.put, sq, i64_w, i32_w]; rfl
               refine pv_ 33 124 (msk 43 17179869183) HT_.out ?_ ?_ ?_
               rotate_left
               · simp only [Act.put, sq, i64_w, i32_w]; rfl
               refine pv_ 34 125 (msk 43 34359738367) HT_.out ?_ ?_ ?_
               rotate_left
               · simp only [Act.put, sq, i64_w, i32_w]; rfl
               refine pv_ 35 126 (msk 43 68719476735) HT_.out ?_ ?_ ?_
               rotate_left
               · simp only [Act.put, sq, i64_w, i32_w]; rfl
               refine pv_ 36 127 (msk 43 137438953471) HT_.out ?_ ?_ ?_
               rotate_left
               · simp only [Act.put, sq, i64_w, i32_w]; rfl
               refine pv_ 37 128 (msk 43 274877906943) HT_.out ?_ ?_ ?_
               rotate_left
               · simp only [Act.put, sq, i64_w, i32_w]; rfl
               refine pv_ 38 129 (msk 43 549755813887) HT_.out ?_ ?_ ?_
               rotate_left
               · simp only [Act.put, sq, i64_w, i32_w]; rfl
               refine pv_ 39 130 (msk 43 1099511627775) HT_.out ?_ ?_ ?_
               rotate_left
               · simp only [Act.put, sq, i64_w, i32_w]; rfl
               refine pv_ 40 131 (msk 43 2199023255551) HT_.out ?_ ?_ ?_
               rotate_left
               · simp only [Act.put, sq, i64_w, i32_w]; rfl
               refine pv_ 41 132 (msk 43 4398046511103) HT_.out ?_ ?_ ?_
               rotate_left
               · simp only [Act.put, sq, i64_w, i32_w]; rfl
               refine pu_ 42 133 (msk 43 8796093022207) HT_.out ?_ ?_ ?_ ?_ ?_
               rotate_left
               · intro w'; go_simp; with_reducible rfl
               rotate_left
               · simp only [Act.put, sq, i64_w, i32_w]; rfl
               refine done_ (done_of HT_.out (by kernel_rfl)) ?_
               try go_wp2
               go_meet
               case rel => exact ⟨_, (false), (by first | rfl | (simp; done) | (simp [*]; done)), H', ⟨by have := HK1.out; have := HK2.out; have := HK3.out; have := HK4.out; first | omega | exact Nat.le_refl _⟩, ⟨by (with_reducible repeat (first | apply Kd.S_alloc | apply Kd.S_drewN | apply Kd.S_drew)); exact HO_6.out⟩, ⟨by repeat (first | (with_reducible first | exact HB.out | apply below_alloc | apply pw_below_drewN | apply below_drew1) | exact HB.out)⟩⟩
              rw [if_pos c51] at H
              have c51b0 : decide ((-500000) < (rd (rd_L3 x6_4 x12_3) x11_2)) = true := decide_eq_true c51
              clear c51
              by_cases c52 : x11_2 < (x6_4.length : Int)
              case neg => rw [if_neg c52] at H; exact absurd H (by simp)
              rw [if_pos c52] at H
              have c52b0 : decide (x11_2 < (x6_4.length : Int)) = true := decide_eq_true c52
              clear c52
              by_cases c53 : 0 ≤ x13_4
              case neg => rw [if_neg c53] at H; exact absurd H (by simp)
              rw [if_pos c53] at H
              have c53b0 : decide (0 ≤ x13_4) = true := decide_eq_true c53
              clear c53
              by_cases c54 : x13_4 < ((rd_L3 x6_4 x11_2).length : Int)
              case neg => rw [if_neg c54] at H; exact absurd H (by simp)
              rw [if_pos c54] at H
              have c54b0 : decide (x13_4 < ((rd_L3 x6_4 x11_2).length : Int)) = true := decide_eq_true c54
              clear c54
              by_cases c55 : (rd (rd_L3 x6_4 x11_2) x13_4) > (-500000)
              case neg =>
               rw [if_neg c55] at H
               have c55b0 : decide ((-500000) < (rd (rd_L3 x6_4 x11_2) x13_4)) = false := decide_eq_false c55
               clear c55
               have H' := Aside0.mk H
               clear H
               try go_wp2
               have n0_ := Aside0.mk (Kd.S_drew HO_6.out)
               have n1_ := Aside0.mk (below_drew1 HB.out)
               clear HO_6
               clear HB
               have HO_6 := n0_
               have HB := n1_
               clear n0_ n1_
               obtain ⟨Ao60, co60, eo60⟩ := Kd.S_slice HO_6.out
               (first | subst eo60 | (injection eo60 with f1_ f2_ f3_; have f4_ := f1_.symm; have f5_ := f3_.symm; clear f1_ f2_ f3_; subst f4_; subst f5_))
               have p425 : 0 ≤ (x12_3 : Int) := of_decide_eq_true (by first | (with_reducible assumption) | assumption)
               have q425 : x12_3 < (x6_4.length : Int) := of_decide_eq_true (by first | (with_reducible assumption) | assumption)
               obtain ⟨ad425, A425_0, c425_0, e425, hx425_0, hl425_0, hi425_0⟩ := at_L3 (Kd.S_reads' HO_6.out).2.2 x12_3 p425 q425
               cases e425
               obtain ⟨ce425, hce425, hMe425, hcc425⟩ := Kd.S_get HO_6.out [] x12_3 p425 (by first | exact q425 | exact of_decide_eq_true (by first | (with_reducible assumption) | assumption) | (have e_ := (Kd.S_reads' HO_6.out).1; omega))
               obtain ⟨ve425_0, rfl, ge425_0⟩ := hMe425
               have hv425_0 := hcc425 0 _ rfl
               rw [Nat.add_zero, show ((Kd.slice 3 (Kd.int .i64))).sz = 1 from rfl, Nat.mul_one] at hv425_0
               replace hv425_0 := Option.some.inj (hv425_0.symm.trans hx425_0)
               rw [hv425_0] at ge425_0
               have HL425_0 := Aside0.mk (show Kd.R (Kd.int .i64) 3 _ _ _ _ (rd_L3 x6_4 x12_3) from ge425_0)
               clear hv425_0 ge425_0
               have HX425_0 := Aside0.mk hx425_0
               clear hcc425 hce425
               have HR425_0 := Aside0.mk hi425_0
               have HC425_0 := Aside0.mk hl425_0
               clear hi425_0 hl425_0
               replace p425 := eq_true p425
               replace q425 := eq_true q425
               have p426 : 0 ≤ (x11_2 : Int) := of_decide_eq_true (by first | (with_reducible assumption) | assumption)
               have q426 : x11_2 < ((rd_L3 x6_4 x12_3).length : Int) := of_decide_eq_true (by first | (with_reducible assumption) | assumption)
               obtain ⟨ad426, e426, hx426_0⟩ := Kd.at_int (by repeat (first | (with_reducible exact HR425_0.out) | (with_reducible refine Kd.C_alloc ?_ _) | (with_reducible refine Kd.C_drewN ?_ _) | (with_reducible refine Kd.C_drew ?_) | exact HR425_0.out)) x11_2 p426 q426
               cases e426
               replace p426 := eq_true p426
               replace q426 := eq_true q426
               have p427 : 0 ≤ (x11_2 : Int) := of_decide_eq_true (by first | (with_reducible assumption) | assumption)
               have q427 : x11_2 < (x6_4.length : Int) := of_decide_eq_true (by first | (with_reducible assumption) | assumption)
               obtain ⟨ad427, A427_0, c427_0, e427, hx427_0, hl427_0, hi427_0⟩ := at_L3 (Kd.S_reads' HO_6.out).2.2 x11_2 p427 q427
               obtain rfl : ad425 = ad427 := (by injection e427)
               obtain ⟨ce427, hce427, hMe427, hcc427⟩ := Kd.S_get HO_6.out [] x11_2 p427 (by first | exact q427 | exact of_decide_eq_true (by first | (with_reducible assumption) | assumption) | (have e_ := (Kd.S_reads' HO_6.out).1; omega))
               obtain ⟨ve427_0, rfl, ge427_0⟩ := hMe427
               have hv427_0 := hcc427 0 _ rfl
               rw [Nat.add_zero, show ((Kd.slice 3 (Kd.int .i64))).sz = 1 from rfl, Nat.mul_one] at hv427_0
               replace hv427_0 := Option.some.inj (hv427_0.symm.trans hx427_0)
               rw [hv427_0] at ge427_0
               have HL427_0 := Aside0.mk (show Kd.R (Kd.int .i64) 3 _ _ _ _ (rd_L3 x6_4 x11_2) from ge427_0)
               clear hv427_0 ge427_0
               have HX427_0 := Aside0.mk hx427_0
               clear hcc427 hce427
               have HR427_0 := Aside0.mk hi427_0
               have HC427_0 := Aside0.mk hl427_0
               clear hi427_0 hl427_0
               replace p427 := eq_true p427
               replace q427 := eq_true q427
               have p428 : 0 ≤ (x13_4 : Int) := of_decide_eq_true (by first | (with_reducible assumption) | assumption)
               have q428 : x13_4 < ((rd_L3 x6_4 x11_2).length : Int) := of_decide_eq_true (by first | (with_reducible assumption) | assumption)
               obtain ⟨ad428, e428, hx428_0⟩ := Kd.at_int (by repeat (first | (with_reducible exact HR427_0.out) | (with_reducible refine Kd.C_alloc ?_ _) | (with_reducible refine Kd.C_drewN ?_ _) | (with_reducible refine Kd.C_drew ?_) | exact HR427_0.out)) x13_4 p428 q428
               cases e428
               replace p428 := eq_true p428
               replace q428 := eq_true q428
               refine start_ (n := 43) (S := fun w' => w'.cell? (ad425.add (x12_3).toNat) = some (.slice (some ad426) (rd_L3 x6_4 x12_3).length c425_0) ∧ w'.cell? (ad426.add (x11_2).toNat) = some (.int .i64 (rd (rd_L3 x6_4 x12_3) x11_2)) ∧ w'.cell? (ad425.add (x11_2).toNat) = some (.slice (some ad428) (rd_L3 x6_4 x11_2).length c427_0) ∧ w'.cell? (ad428.add (x13_4).toNat) = some (.int .i64 (rd (rd_L3 x6_4 x11_2) x13_4))) (ds := []) (msk 43 0) (by kernel_rfl) rfl rfl ⟨hx425_0, hx426_0, hx427_0, hx428_0⟩ (fun hHeld => ?_); refine with_tabW orreryref19_Better.tab26 orreryref19_Better.bits26 (fun HT_ HW_ => ?_)
               generalize wr.drew = w59 at HO_6 HB HL425_0 HL427_0 HR425_0 HR427_0 HX425_0 HX427_0 hx425_0 hx426_0 hx427_0 hx428_0 hHeld ⊢
               refine pu_ 0 91 (msk 43 1) HT_.out ?_ ?_ ?_ ?_ ?_
               rotate_left
               · intro w'; go_simp; with_reducible rfl
               rotate_left
               · simp only [Act.put, sq, i64_w, i32_w]; rfl
               refine pu_ 1 92 (msk 43 3) HT_.out ?_ ?_ ?_ ?_ ?_
               rotate_left
               · intro w'; go_simp; with_reducible rfl
               rotate_left
               · simp only [Act.put, sq, i64_w, i32_w]; rfl
               refine pu_ 2 93 (msk 43 7) HT_.out ?_ ?_ ?_ ?_ ?_
               rotate_left
               · intro w'; go_simp; with_reducible rfl
               rotate_left
               · simp only [Act.put, sq, i64_w, i32_w]; rfl
               refine pu_ 4 95 (msk 43 23) HT_.out ?_ ?_ ?_ ?_ ?_
               rotate_left
               · intro w'; go_simp; with_reducible rfl
               rotate_left
               · simp only [Act.put, sq, i64_w, i32_w]; rfl
               refine tk_ 3 94 (msk 43 31) HT_.out HW_.out hHeld ?_ ?_ ?_ ?_ ?_
               rotate_left
               · rintro w' ⟨s0, s1, s2, s3⟩; go_simp; with_reducible rfl
               rotate_left
               · simp only [Act.put, sq, i64_w, i32_w]; rfl
               refine pu_ 5 96 (msk 43 63) HT_.out ?_ ?_ ?_ ?_ ?_
               rotate_left
               · intro w'; go_simp; with_reducible rfl
               rotate_left
               · simp only [Act.put, sq, i64_w, i32_w]; rfl
               refine tk_ 6 97 (msk 43 127) HT_.out HW_.out hHeld ?_ ?_ ?_ ?_ ?_
               rotate_left
               · rintro w' ⟨s0, s1, s2, s3⟩; go_simp; with_reducible rfl
               rotate_left
               · simp only [Act.put, sq, i64_w, i32_w]; rfl
               refine pu_ 7 98 (msk 43 255) HT_.out ?_ ?_ ?_ ?_ ?_
               rotate_left
               · intro w'; go_simp; with_reducible rfl
               rotate_left
               · simp only [Act.put, sq, i64_w, i32_w]; rfl
               refine pu_ 8 99 (msk 43 511) HT_.out ?_ ?_ ?_ ?_ ?_
               rotate_left
               · intro w'; go_simp; with_reducible rfl
               rotate_left
               · simp only [Act.put, sq, i64_w, i32_w]; rfl
               refine pu_ 9 100 (msk 43 1023) HT_.out ?_ ?_ ?_ ?_ ?_
               rotate_left
               · intro w'; go_simp; with_reducible rfl
               rotate_left
               · simp only [Act.put, sq, i64_w, i32_w]; rfl
               refine pu_ 10 101 (msk 43 2047) HT_.out ?_ ?_ ?_ ?_ ?_
               rotate_left
               · intro w'; go_simp; with_reducible rfl
               rotate_left
               · simp only [Act.put, sq, i64_w, i32_w]; rfl
               refine pu_ 11 102 (msk 43 4095) HT_.out ?_ ?_ ?_ ?_ ?_
               rotate_left
               · intro w'; go_simp; with_reducible rfl
               rotate_left
               · simp only [Act.put, sq, i64_w, i32_w]; rfl
               refine pu_ 13 104 (msk 43 12287) HT_.out ?_ ?_ ?_ ?_ ?_
               rotate_left
               · intro w'; go_simp; with_reducible rfl
               rotate_left
               · simp only [Act.put, sq, i64_w, i32_w]; rfl
               refine tk_ 12 103 (msk 43 16383) HT_.out HW_.out hHeld ?_ ?_ ?_ ?_ ?_
               rotate_left
               · rintro w' ⟨s0, s1, s2, s3⟩; go_simp; with_reducible rfl
               rotate_left
               · simp only [Act.put, sq, i64_w, i32_w]; rfl
               refine pu_ 14 105 (msk 43 32767) HT_.out ?_ ?_ ?_ ?_ ?_
               rotate_left
               · intro w'; go_simp; with_reducible rfl
               rotate_left
               · simp only [Act.put, sq, i64_w, i32_w]; rfl
               refine tk_ 15 106 (msk 43 65535) HT_.out HW_.out hHeld ?_ ?_ ?_ ?_ ?_
               rotate_left
               · rintro w' ⟨s0, s1, s2, s3⟩; go_simp; with_reducible rfl
               rotate_left
               · simp only [Act.put, sq, i64_w, i32_w]; rfl
               refine pu_ 16 107 (msk 43 131071) HT_.out ?_ ?_ ?_ ?_ ?_
               rotate_left
               · intro w'; go_simp; with_reducible rfl
               rotate_left
               · simp only [Act.put, sq, i64_w, i32_w]; rfl
               refine pu_ 17 108 (msk 43 262143) HT_.out ?_ ?_ ?_ ?_ ?_
               rotate_left
               · intro w'; go_simp; with_reducible rfl
               rotate_left
               · simp only [Act.put, sq, i64_w, i32_w]; rfl
               refine pu_ 18 109 (msk 43 524287) HT_.out ?_ ?_ ?_ ?_ ?_
               rotate_left
               · intro w'; go_simp; with_reducible rfl
               rotate_left
               · simp only [Act.put, sq, i64_w, i32_w]; rfl
               refine pv_ 19 110 (msk 43 1048575) HT_.out ?_ ?_ ?_
               rotate_left
               · simp only [Act.put, sq, i64_w, i32_w]; rfl
               refine pv_ 20 111 (msk 43 2097151) HT_.out ?_ ?_ ?_
               rotate_left
               · simp only [Act.put, sq, i64_w, i32_w]; rfl
               refine pv_ 21 112 (msk 43 4194303) HT_.out ?_ ?_ ?_
               rotate_left
               · simp only [Act.put, sq, i64_w, i32_w]; rfl
               refine pv_ 22 113 (msk 43 8388607) HT_.out ?_ ?_ ?_
               rotate_left
               · simp only [Act.put, sq, i64_w, i32_w]; rfl
               refine pv_ 23 114 (msk 43 16777215) HT_.out ?_ ?_ ?_
               rotate_left
               · simp only [Act.put, sq, i64_w, i32_w]; rfl
               refine pv_ 24 115 (msk 43 33554431) HT_.out ?_ ?_ ?_
               rotate_left
               · simp only [Act.put, sq, i64_w, i32_w]; rfl
               refine pv_ 25 116 (msk 43 67108863) HT_.out ?_ ?_ ?_
               rotate_left
               · simp only [Act.put, sq, i64_w, i32_w]; rfl
               refine pv_ 26 117 (msk 43 134217727) HT_.out ?_ ?_ ?_
               rotate_left
               · simp only [Act.put, sq, i64_w, i32_w]; rfl
               refine pv_ 27 118 (msk 43 268435455) HT_.out ?_ ?_ ?_
               rotate_left
               · simp only [Act.put, sq, i64_w, i32_w]; rfl
               refine pv_ 28 119 (msk 43 536870911) HT_.out ?_ ?_ ?_
               rotate_left
               · simp only [Act.put, sq, i64_w, i32_w]; rfl
               refine pv_ 29 120 (msk 43 1073741823) HT_.out ?_ ?_ ?_
               rotate_left
               · simp only [Act.put, sq, i64_w, i32_w]; rfl
               refine pv_ 30 121 (msk 43 2147483647) HT_.out ?_ ?_ ?_
               rotate_left
               · simp only [Act.put, sq, i64_w, i32_w]; rfl
               refine pv_ 31 122 (msk 43 4294967295) HT_.out ?_ ?_ ?_
               rotate_left
               · simp only [Act.put, sq, i64_w, i32_w]; rfl
               refine pv_ 32 123 (msk 43 8589934591) HT_.out ?_ ?_ ?_
               rotate_left
               · simp only [Act.put, sq, i64_w, i32_w]; rfl
               refine pv_ 33 124 (msk 43 17179869183) HT_.out ?_ ?_ ?_
               rotate_left
               · simp only [Act.put, sq, i64_w, i32_w]; rfl
               refine pv_ 34 125 (msk 43 34359738367) HT_.out ?_ ?_ ?_
               rotate_left
               · simp only [Act.put, sq, i64_w, i32_w]; rfl
               refine pv_ 35 126 (msk 43 68719476735) HT_.out ?_ ?_ ?_
               rotate_left
               · simp only [Act.put, sq, i64_w, i32_w]; rfl
               refine pv_ 36 127 (msk 43 137438953471) HT_.out ?_ ?_ ?_
               rotate_left
               · simp only [Act.put, sq, i64_w, i32_w]; rfl
               refine pv_ 37 128 (msk 43 274877906943) HT_.out ?_ ?_ ?_
               rotate_left
               · simp only [Act.put, sq, i64_w, i32_w]; rfl
               refine pv_ 38 129 (msk 43 549755813887) HT_.out ?_ ?_ ?_
               rotate_left
               · simp only [Act.put, sq, i64_w, i32_w]; rfl
               refine pv_ 39 130 (msk 43 1099511627775) HT_.out ?_ ?_ ?_
               rotate_left
               · simp only [Act.put, sq, i64_w, i32_w]; rfl
               refine pv_ 40 131 (msk 43 2199023255551) HT_.out ?_ ?_ ?_
               rotate_left
               · simp only [Act.put, sq, i64_w, i32_w]; rfl
               refine pv_ 41 132 (msk 43 4398046511103) HT_.out ?_ ?_ ?_
               rotate_left
               · simp only [Act.put, sq, i64_w, i32_w]; rfl
               refine pu_ 42 133 (msk 43 8796093022207) HT_.out ?_ ?_ ?_ ?_ ?_
               rotate_left
               · intro w'; go_simp; with_reducible rfl
               rotate_left
               · simp only [Act.put, sq, i64_w, i32_w]; rfl
               refine done_ (done_of HT_.out (by kernel_rfl)) ?_
               try go_wp2
               go_meet
               case rel => exact ⟨_, (false), (by first | rfl | (simp; done) | (simp [*]; done)), H', ⟨by have := HK1.out; have := HK2.out; have := HK3.out; have := HK4.out; first | omega | exact Nat.le_refl _⟩, ⟨by (with_reducible repeat (first | apply Kd.S_alloc | apply Kd.S_drewN | apply Kd.S_drew)); exact HO_6.out⟩, ⟨by repeat (first | (with_reducible first | exact HB.out | apply below_alloc | apply pw_below_drewN | apply below_drew1) | exact HB.out)⟩⟩
              rw [if_pos c55] at H
              have c55b0 : decide ((-500000) < (rd (rd_L3 x6_4 x11_2) x13_4)) = true := decide_eq_true c55
              clear c55
              by_cases c56 : x13_4 < ((rd_L3 x6_4 x12_3).length : Int)
              case neg => rw [if_neg c56] at H; exact absurd H (by simp)
              rw [if_pos c56] at H
              have c56b0 : decide (x13_4 < ((rd_L3 x6_4 x12_3).length : Int)) = true := decide_eq_true c56
              clear c56
              have H' := Aside0.mk H
              clear H
              try go_wp2
              have n0_ := Aside0.mk (Kd.S_drew HO_6.out)
              have n1_ := Aside0.mk (below_drew1 HB.out)
              clear HO_6
              clear HB
              have HO_6 := n0_
              have HB := n1_
              clear n0_ n1_
              obtain ⟨Ao58, co58, eo58⟩ := Kd.S_slice HO_6.out
              (first | subst eo58 | (injection eo58 with f1_ f2_ f3_; have f4_ := f1_.symm; have f5_ := f3_.symm; clear f1_ f2_ f3_; subst f4_; subst f5_))
              have p425 : 0 ≤ (x12_3 : Int) := of_decide_eq_true (by first | (with_reducible assumption) | assumption)
              have q425 : x12_3 < (x6_4.length : Int) := of_decide_eq_true (by first | (with_reducible assumption) | assumption)
              obtain ⟨ad425, A425_0, c425_0, e425, hx425_0, hl425_0, hi425_0⟩ := at_L3 (Kd.S_reads' HO_6.out).2.2 x12_3 p425 q425
              cases e425
              obtain ⟨ce425, hce425, hMe425, hcc425⟩ := Kd.S_get HO_6.out [] x12_3 p425 (by first | exact q425 | exact of_decide_eq_true (by first | (with_reducible assumption) | assumption) | (have e_ := (Kd.S_reads' HO_6.out).1; omega))
              obtain ⟨ve425_0, rfl, ge425_0⟩ := hMe425
              have hv425_0 := hcc425 0 _ rfl
              rw [Nat.add_zero, show ((Kd.slice 3 (Kd.int .i64))).sz = 1 from rfl, Nat.mul_one] at hv425_0
              replace hv425_0 := Option.some.inj (hv425_0.symm.trans hx425_0)
              rw [hv425_0] at ge425_0
              have HL425_0 := Aside0.mk (show Kd.R (Kd.int .i64) 3 _ _ _ _ (rd_L3 x6_4 x12_3) from ge425_0)
              clear hv425_0 ge425_0
              have HX425_0 := Aside0.mk hx425_0
              clear hcc425 hce425
              have HR425_0 := Aside0.mk hi425_0
              have HC425_0 := Aside0.mk hl425_0
              clear hi425_0 hl425_0
              replace p425 := eq_true p425
              replace q425 := eq_true q425
              have p426 : 0 ≤ (x11_2 : Int) := of_decide_eq_true (by first | (with_reducible assumption) | assumption)
              have q426 : x11_2 < ((rd_L3 x6_4 x12_3).length : Int) := of_decide_eq_true (by first | (with_reducible assumption) | assumption)
              obtain ⟨ad426, e426, hx426_0⟩ := Kd.at_int (by repeat (first | (with_reducible exact HR425_0.out) | (with_reducible refine Kd.C_alloc ?_ _) | (with_reducible refine Kd.C_drewN ?_ _) | (with_reducible refine Kd.C_drew ?_) | exact HR425_0.out)) x11_2 p426 q426
              cases e426
              replace p426 := eq_true p426
              replace q426 := eq_true q426
              have p427 : 0 ≤ (x11_2 : Int) := of_decide_eq_true (by first | (with_reducible assumption) | assumption)
              have q427 : x11_2 < (x6_4.length : Int) := of_decide_eq_true (by first | (with_reducible assumption) | assumption)
              obtain ⟨ad427, A427_0, c427_0, e427, hx427_0, hl427_0, hi427_0⟩ := at_L3 (Kd.S_reads' HO_6.out).2.2 x11_2 p427 q427
              obtain rfl : ad425 = ad427 := (by injection e427)
              obtain ⟨ce427, hce427, hMe427, hcc427⟩ := Kd.S_get HO_6.out [] x11_2 p427 (by first | exact q427 | exact of_decide_eq_true (by first | (with_reducible assumption) | assumption) | (have e_ := (Kd.S_reads' HO_6.out).1; omega))
              obtain ⟨ve427_0, rfl, ge427_0⟩ := hMe427
              have hv427_0 := hcc427 0 _ rfl
              rw [Nat.add_zero, show ((Kd.slice 3 (Kd.int .i64))).sz = 1 from rfl, Nat.mul_one] at hv427_0
              replace hv427_0 := Option.some.inj (hv427_0.symm.trans hx427_0)
              rw [hv427_0] at ge427_0
              have HL427_0 := Aside0.mk (show Kd.R (Kd.int .i64) 3 _ _ _ _ (rd_L3 x6_4 x11_2) from ge427_0)
              clear hv427_0 ge427_0
              have HX427_0 := Aside0.mk hx427_0
              clear hcc427 hce427
              have HR427_0 := Aside0.mk hi427_0
              have HC427_0 := Aside0.mk hl427_0
              clear hi427_0 hl427_0
              replace p427 := eq_true p427
              replace q427 := eq_true q427
              have p428 : 0 ≤ (x13_4 : Int) := of_decide_eq_true (by first | (with_reducible assumption) | assumption)
              have q428 : x13_4 < ((rd_L3 x6_4 x11_2).length : Int) := of_decide_eq_true (by first | (with_reducible assumption) | assumption)
              obtain ⟨ad428, e428, hx428_0⟩ := Kd.at_int (by repeat (first | (with_reducible exact HR427_0.out) | (with_reducible refine Kd.C_alloc ?_ _) | (with_reducible refine Kd.C_drewN ?_ _) | (with_reducible refine Kd.C_drew ?_) | exact HR427_0.out)) x13_4 p428 q428
              cases e428
              replace p428 := eq_true p428
              replace q428 := eq_true q428
              have p429 : 0 ≤ (x12_3 : Int) := of_decide_eq_true (by first | (with_reducible assumption) | assumption)
              have q429 : x12_3 < (x6_4.length : Int) := of_decide_eq_true (by first | (with_reducible assumption) | assumption)
              obtain ⟨ad429, A429_0, c429_0, e429, hx429_0, hl429_0, hi429_0⟩ := at_L3 (Kd.S_reads' HO_6.out).2.2 x12_3 p429 q429
              obtain rfl : ad425 = ad429 := (by injection e429)
              obtain ⟨ce429, hce429, hMe429, hcc429⟩ := Kd.S_get HO_6.out [] x12_3 p429 (by first | exact q429 | exact of_decide_eq_true (by first | (with_reducible assumption) | assumption) | (have e_ := (Kd.S_reads' HO_6.out).1; omega))
              obtain ⟨ve429_0, rfl, ge429_0⟩ := hMe429
              have hv429_0 := hcc429 0 _ rfl
              rw [Nat.add_zero, show ((Kd.slice 3 (Kd.int .i64))).sz = 1 from rfl, Nat.mul_one] at hv429_0
              replace hv429_0 := Option.some.inj (hv429_0.symm.trans hx429_0)
              rw [hv429_0] at ge429_0
              have HL429_0 := Aside0.mk (show Kd.R (Kd.int .i64) 3 _ _ _ _ (rd_L3 x6_4 x12_3) from ge429_0)
              clear hv429_0 ge429_0
              have HX429_0 := Aside0.mk hx429_0
              clear hcc429 hce429
              have HR429_0 := Aside0.mk hi429_0
              have HC429_0 := Aside0.mk hl429_0
              clear hi429_0 hl429_0
              replace p429 := eq_true p429
              replace q429 := eq_true q429
              have ea_ := Option.some.inj (hx425_0.symm.trans hx429_0)
              injection ea_ with ea_ en_ ec_
              subst ea_
              subst ec_
              clear en_
              have p430 : 0 ≤ (x11_2 : Int) := of_decide_eq_true (by first | (with_reducible assumption) | assumption)
              have q430 : x11_2 < ((rd_L3 x6_4 x12_3).length : Int) := of_decide_eq_true (by first | (with_reducible assumption) | assumption)
              obtain ⟨ad430, e430, hx430_0⟩ := Kd.at_int (by repeat (first | (with_reducible exact HR429_0.out) | (with_reducible refine Kd.C_alloc ?_ _) | (with_reducible refine Kd.C_drewN ?_ _) | (with_reducible refine Kd.C_drew ?_) | exact HR429_0.out)) x11_2 p430 q430
              cases e430
              replace p430 := eq_true p430
              replace q430 := eq_true q430
              have p431 : 0 ≤ (x11_2 : Int) := of_decide_eq_true (by first | (with_reducible assumption) | assumption)
              have q431 : x11_2 < (x6_4.length : Int) := of_decide_eq_true (by first | (with_reducible assumption) | assumption)
              obtain ⟨ad431, A431_0, c431_0, e431, hx431_0, hl431_0, hi431_0⟩ := at_L3 (Kd.S_reads' HO_6.out).2.2 x11_2 p431 q431
              obtain rfl : ad425 = ad431 := (by injection e431)
              obtain ⟨ce431, hce431, hMe431, hcc431⟩ := Kd.S_get HO_6.out [] x11_2 p431 (by first | exact q431 | exact of_decide_eq_true (by first | (with_reducible assumption) | assumption) | (have e_ := (Kd.S_reads' HO_6.out).1; omega))
              obtain ⟨ve431_0, rfl, ge431_0⟩ := hMe431
              have hv431_0 := hcc431 0 _ rfl
              rw [Nat.add_zero, show ((Kd.slice 3 (Kd.int .i64))).sz = 1 from rfl, Nat.mul_one] at hv431_0
              replace hv431_0 := Option.some.inj (hv431_0.symm.trans hx431_0)
              rw [hv431_0] at ge431_0
              have HL431_0 := Aside0.mk (show Kd.R (Kd.int .i64) 3 _ _ _ _ (rd_L3 x6_4 x11_2) from ge431_0)
              clear hv431_0 ge431_0
              have HX431_0 := Aside0.mk hx431_0
              clear hcc431 hce431
              have HR431_0 := Aside0.mk hi431_0
              have HC431_0 := Aside0.mk hl431_0
              clear hi431_0 hl431_0
              replace p431 := eq_true p431
              replace q431 := eq_true q431
              have ea_ := Option.some.inj (hx427_0.symm.trans hx431_0)
              injection ea_ with ea_ en_ ec_
              subst ea_
              subst ec_
              clear en_
              have p432 : 0 ≤ (x13_4 : Int) := of_decide_eq_true (by first | (with_reducible assumption) | assumption)
              have q432 : x13_4 < ((rd_L3 x6_4 x11_2).length : Int) := of_decide_eq_true (by first | (with_reducible assumption) | assumption)
              obtain ⟨ad432, e432, hx432_0⟩ := Kd.at_int (by repeat (first | (with_reducible exact HR431_0.out) | (with_reducible refine Kd.C_alloc ?_ _) | (with_reducible refine Kd.C_drewN ?_ _) | (with_reducible refine Kd.C_drew ?_) | exact HR431_0.out)) x13_4 p432 q432
              cases e432
              replace p432 := eq_true p432
              replace q432 := eq_true q432
              have p433 : 0 ≤ (x12_3 : Int) := of_decide_eq_true (by first | (with_reducible assumption) | assumption)
              have q433 : x12_3 < (x6_4.length : Int) := of_decide_eq_true (by first | (with_reducible assumption) | assumption)
              obtain ⟨ad433, A433_0, c433_0, e433, hx433_0, hl433_0, hi433_0⟩ := at_L3 (Kd.S_reads' HO_6.out).2.2 x12_3 p433 q433
              obtain rfl : ad425 = ad433 := (by injection e433)
              obtain ⟨ce433, hce433, hMe433, hcc433⟩ := Kd.S_get HO_6.out [] x12_3 p433 (by first | exact q433 | exact of_decide_eq_true (by first | (with_reducible assumption) | assumption) | (have e_ := (Kd.S_reads' HO_6.out).1; omega))
              obtain ⟨ve433_0, rfl, ge433_0⟩ := hMe433
              have hv433_0 := hcc433 0 _ rfl
              rw [Nat.add_zero, show ((Kd.slice 3 (Kd.int .i64))).sz = 1 from rfl, Nat.mul_one] at hv433_0
              replace hv433_0 := Option.some.inj (hv433_0.symm.trans hx433_0)
              rw [hv433_0] at ge433_0
              have HL433_0 := Aside0.mk (show Kd.R (Kd.int .i64) 3 _ _ _ _ (rd_L3 x6_4 x12_3) from ge433_0)
              clear hv433_0 ge433_0
              have HX433_0 := Aside0.mk hx433_0
              clear hcc433 hce433
              have HR433_0 := Aside0.mk hi433_0
              have HC433_0 := Aside0.mk hl433_0
              clear hi433_0 hl433_0
              replace p433 := eq_true p433
              replace q433 := eq_true q433
              have ea_ := Option.some.inj (hx425_0.symm.trans hx433_0)
              injection ea_ with ea_ en_ ec_
              subst ea_
              subst ec_
              clear en_
              have p434 : 0 ≤ (x13_4 : Int) := of_decide_eq_true (by first | (with_reducible assumption) | assumption)
              have q434 : x13_4 < ((rd_L3 x6_4 x12_3).length : Int) := of_decide_eq_true (by first | (with_reducible assumption) | assumption)
              obtain ⟨ad434, e434, hx434_0⟩ := Kd.at_int (by repeat (first | (with_reducible exact HR433_0.out) | (with_reducible refine Kd.C_alloc ?_ _) | (with_reducible refine Kd.C_drewN ?_ _) | (with_reducible refine Kd.C_drew ?_) | exact HR433_0.out)) x13_4 p434 q434
              cases e434
              replace p434 := eq_true p434
              replace q434 := eq_true q434
              refine start_ (n := 43) (S := fun w' => w'.cell? (ad425.add (x12_3).toNat) = some (.slice (some ad426) (rd_L3 x6_4 x12_3).length c425_0) ∧ w'.cell? (ad426.add (x11_2).toNat) = some (.int .i64 (rd (rd_L3 x6_4 x12_3) x11_2)) ∧ w'.cell? (ad425.add (x11_2).toNat) = some (.slice (some ad428) (rd_L3 x6_4 x11_2).length c427_0) ∧ w'.cell? (ad428.add (x13_4).toNat) = some (.int .i64 (rd (rd_L3 x6_4 x11_2) x13_4)) ∧ w'.cell? (ad425.add (x12_3).toNat) = some (.slice (some ad426) (rd_L3 x6_4 x12_3).length c425_0) ∧ w'.cell? (ad426.add (x11_2).toNat) = some (.int .i64 (rd (rd_L3 x6_4 x12_3) x11_2)) ∧ w'.cell? (ad425.add (x11_2).toNat) = some (.slice (some ad428) (rd_L3 x6_4 x11_2).length c427_0) ∧ w'.cell? (ad428.add (x13_4).toNat) = some (.int .i64 (rd (rd_L3 x6_4 x11_2) x13_4)) ∧ w'.cell? (ad425.add (x12_3).toNat) = some (.slice (some ad426) (rd_L3 x6_4 x12_3).length c425_0) ∧ w'.cell? (ad426.add (x13_4).toNat) = some (.int .i64 (rd (rd_L3 x6_4 x12_3) x13_4))) (ds := []) (msk 43 0) (by kernel_rfl) rfl rfl ⟨hx425_0, hx426_0, hx427_0, hx428_0, hx429_0, hx430_0, hx431_0, hx432_0, hx433_0, hx434_0⟩ (fun hHeld => ?_); refine with_tabW orreryref19_Better.tab26 orreryref19_Better.bits26 (fun HT_ HW_ => ?_)
              generalize wr.drew = w57 at HO_6 HB HL425_0 HL427_0 HL429_0 HL431_0 HL433_0 HR425_0 HR427_0 HR429_0 HR431_0 HR433_0 HX425_0 HX427_0 HX429_0 HX431_0 HX433_0 hx425_0 hx426_0 hx427_0 hx428_0 hx429_0 hx430_0 hx431_0 hx432_0 hx433_0 hx434_0 hHeld ⊢
              refine pu_ 0 91 (msk 43 1) HT_.out ?_ ?_ ?_ ?_ ?_
              rotate_left
              · intro w'; go_simp; with_reducible rfl
              rotate_left
              · simp only [Act.put, sq, i64_w, i32_w]; rfl
              refine pu_ 1 92 (msk 43 3) HT_.out ?_ ?_ ?_ ?_ ?_
              rotate_left
              · intro w'; go_simp; with_reducible rfl
              rotate_left
              · simp only [Act.put, sq, i64_w, i32_w]; rfl
              refine pu_ 2 93 (msk 43 7) HT_.out ?_ ?_ ?_ ?_ ?_
              rotate_left
              · intro w'; go_simp; with_reducible rfl
              rotate_left
              · simp only [Act.put, sq, i64_w, i32_w]; rfl
              refine pu_ 4 95 (msk 43 23) HT_.out ?_ ?_ ?_ ?_ ?_
              rotate_left
              · intro w'; go_simp; with_reducible rfl
              rotate_left
              · simp only [Act.put, sq, i64_w, i32_w]; rfl
              refine tk_ 3 94 (msk 43 31) HT_.out HW_.out hHeld ?_ ?_ ?_ ?_ ?_
              rotate_left
              · rintro w' ⟨s0, s1, s2, s3, s4, s5, s6, s7, s8, s9⟩; go_simp; with_reducible rfl
              rotate_left
              · simp only [Act.put, sq, i64_w, i32_w]; rfl
              refine pu_ 5 96 (msk 43 63) HT_.out ?_ ?_ ?_ ?_ ?_
              rotate_left
              · intro w'; go_simp; with_reducible rfl
              rotate_left
              · simp only [Act.put, sq, i64_w, i32_w]; rfl
              refine tk_ 6 97 (msk 43 127) HT_.out HW_.out hHeld ?_ ?_ ?_ ?_ ?_
              rotate_left
              · rintro w' ⟨s0, s1, s2, s3, s4, s5, s6, s7, s8, s9⟩; go_simp; with_reducible rfl
              rotate_left
              · simp only [Act.put, sq, i64_w, i32_w]; rfl
              refine pu_ 7 98 (msk 43 255) HT_.out ?_ ?_ ?_ ?_ ?_
              rotate_left
              · intro w'; go_simp; with_reducible rfl
              rotate_left
              · simp only [Act.put, sq, i64_w, i32_w]; rfl
              refine pu_ 8 99 (msk 43 511) HT_.out ?_ ?_ ?_ ?_ ?_
              rotate_left
              · intro w'; go_simp; with_reducible rfl
              rotate_left
              · simp only [Act.put, sq, i64_w, i32_w]; rfl
              refine pu_ 9 100 (msk 43 1023) HT_.out ?_ ?_ ?_ ?_ ?_
              rotate_left
              · intro w'; go_simp; with_reducible rfl
              rotate_left
              · simp only [Act.put, sq, i64_w, i32_w]; rfl
              refine pu_ 10 101 (msk 43 2047) HT_.out ?_ ?_ ?_ ?_ ?_
              rotate_left
              · intro w'; go_simp; with_reducible rfl
              rotate_left
              · simp only [Act.put, sq, i64_w, i32_w]; rfl
              refine pu_ 11 102 (msk 43 4095) HT_.out ?_ ?_ ?_ ?_ ?_
              rotate_left
              · intro w'; go_simp; with_reducible rfl
              rotate_left
              · simp only [Act.put, sq, i64_w, i32_w]; rfl
              refine pu_ 13 104 (msk 43 12287) HT_.out ?_ ?_ ?_ ?_ ?_
              rotate_left
              · intro w'; go_simp; with_reducible rfl
              rotate_left
              · simp only [Act.put, sq, i64_w, i32_w]; rfl
              refine tk_ 12 103 (msk 43 16383) HT_.out HW_.out hHeld ?_ ?_ ?_ ?_ ?_
              rotate_left
              · rintro w' ⟨s0, s1, s2, s3, s4, s5, s6, s7, s8, s9⟩; go_simp; with_reducible rfl
              rotate_left
              · simp only [Act.put, sq, i64_w, i32_w]; rfl
              refine pu_ 14 105 (msk 43 32767) HT_.out ?_ ?_ ?_ ?_ ?_
              rotate_left
              · intro w'; go_simp; with_reducible rfl
              rotate_left
              · simp only [Act.put, sq, i64_w, i32_w]; rfl
              refine tk_ 15 106 (msk 43 65535) HT_.out HW_.out hHeld ?_ ?_ ?_ ?_ ?_
              rotate_left
              · rintro w' ⟨s0, s1, s2, s3, s4, s5, s6, s7, s8, s9⟩; go_simp; with_reducible rfl
              rotate_left
              · simp only [Act.put, sq, i64_w, i32_w]; rfl
              refine pu_ 16 107 (msk 43 131071) HT_.out ?_ ?_ ?_ ?_ ?_
              rotate_left
              · intro w'; go_simp; with_reducible rfl
              rotate_left
              · simp only [Act.put, sq, i64_w, i32_w]; rfl
              refine pu_ 17 108 (msk 43 262143) HT_.out ?_ ?_ ?_ ?_ ?_
              rotate_left
              · intro w'; go_simp; with_reducible rfl
              rotate_left
              · simp only [Act.put, sq, i64_w, i32_w]; rfl
              refine pu_ 18 109 (msk 43 524287) HT_.out ?_ ?_ ?_ ?_ ?_
              rotate_left
              · intro w'; go_simp; with_reducible rfl
              rotate_left
              · simp only [Act.put, sq, i64_w, i32_w]; rfl
              refine pu_ 19 110 (msk 43 1048575) HT_.out ?_ ?_ ?_ ?_ ?_
              rotate_left
              · intro w'; go_simp; with_reducible rfl
              rotate_left
              · simp only [Act.put, sq, i64_w, i32_w]; rfl
              refine pu_ 20 111 (msk 43 2097151) HT_.out ?_ ?_ ?_ ?_ ?_
              rotate_left
              · intro w'; go_simp; with_reducible rfl
              rotate_left
              · simp only [Act.put, sq, i64_w, i32_w]; rfl
              refine pu_ 21 112 (msk 43 4194303) HT_.out ?_ ?_ ?_ ?_ ?_
              rotate_left
              · intro w'; go_simp; with_reducible rfl
              rotate_left
              · simp only [Act.put, sq, i64_w, i32_w]; rfl
              refine pu_ 23 114 (msk 43 12582911) HT_.out ?_ ?_ ?_ ?_ ?_
              rotate_left
              · intro w'; go_simp; with_reducible rfl
              rotate_left
              · simp only [Act.put, sq, i64_w, i32_w]; rfl
              refine pu_ 26 117 (msk 43 79691775) HT_.out ?_ ?_ ?_ ?_ ?_
              rotate_left
              · intro w'; go_simp; with_reducible rfl
              rotate_left
              · simp only [Act.put, sq, i64_w, i32_w]; rfl
              refine pu_ 27 118 (msk 43 213909503) HT_.out ?_ ?_ ?_ ?_ ?_
              rotate_left
              · intro w'; go_simp; with_reducible rfl
              rotate_left
              · simp only [Act.put, sq, i64_w, i32_w]; rfl
              refine pu_ 28 119 (msk 43 482344959) HT_.out ?_ ?_ ?_ ?_ ?_
              rotate_left
              · intro w'; go_simp; with_reducible rfl
              rotate_left
              · simp only [Act.put, sq, i64_w, i32_w]; rfl
              refine pu_ 30 121 (msk 43 1556086783) HT_.out ?_ ?_ ?_ ?_ ?_
              rotate_left
              · intro w'; go_simp; with_reducible rfl
              rotate_left
              · simp only [Act.put, sq, i64_w, i32_w]; rfl
              refine pu_ 34 125 (msk 43 18735955967) HT_.out ?_ ?_ ?_ ?_ ?_
              rotate_left
              · intro w'; go_simp; with_reducible rfl
              rotate_left
              · simp only [Act.put, sq, i64_w, i32_w]; rfl
              refine pu_ 35 126 (msk 43 53095694335) HT_.out ?_ ?_ ?_ ?_ ?_
              rotate_left
              · intro w'; go_simp; with_reducible rfl
              rotate_left
              · simp only [Act.put, sq, i64_w, i32_w]; rfl
              refine pu_ 36 127 (msk 43 121815171071) HT_.out ?_ ?_ ?_ ?_ ?_
              rotate_left
              · intro w'; go_simp; with_reducible rfl
              rotate_left
              · simp only [Act.put, sq, i64_w, i32_w]; rfl
              refine pu_ 38 129 (msk 43 396693078015) HT_.out ?_ ?_ ?_ ?_ ?_
              rotate_left
              · intro w'; go_simp; with_reducible rfl
              rotate_left
              · simp only [Act.put, sq, i64_w, i32_w]; rfl
              refine tk_ 22 113 (msk 43 396697272319) HT_.out HW_.out hHeld ?_ ?_ ?_ ?_ ?_
              rotate_left
              · rintro w' ⟨s0, s1, s2, s3, s4, s5, s6, s7, s8, s9⟩; go_simp; with_reducible rfl
              rotate_left
              · simp only [Act.put, sq, i64_w, i32_w]; rfl
              refine pu_ 24 115 (msk 43 396714049535) HT_.out ?_ ?_ ?_ ?_ ?_
              rotate_left
              · intro w'; go_simp; with_reducible rfl
              rotate_left
              · simp only [Act.put, sq, i64_w, i32_w]; rfl
              refine tk_ 25 116 (msk 43 396747603967) HT_.out HW_.out hHeld ?_ ?_ ?_ ?_ ?_
              rotate_left
              · rintro w' ⟨s0, s1, s2, s3, s4, s5, s6, s7, s8, s9⟩; go_simp; with_reducible rfl
              rotate_left
              · simp only [Act.put, sq, i64_w, i32_w]; rfl
              refine tk_ 29 120 (msk 43 397284474879) HT_.out HW_.out hHeld ?_ ?_ ?_ ?_ ?_
              rotate_left
              · rintro w' ⟨s0, s1, s2, s3, s4, s5, s6, s7, s8, s9⟩; go_simp; with_reducible rfl
              rotate_left
              · simp only [Act.put, sq, i64_w, i32_w]; rfl
              refine pu_ 31 122 (msk 43 399431958527) HT_.out ?_ ?_ ?_ ?_ ?_
              rotate_left
              · intro w'; go_simp; with_reducible rfl
              rotate_left
              · simp only [Act.put, sq, i64_w, i32_w]; rfl
              refine tk_ 32 123 (msk 43 403726925823) HT_.out HW_.out hHeld ?_ ?_ ?_ ?_ ?_
              rotate_left
              · rintro w' ⟨s0, s1, s2, s3, s4, s5, s6, s7, s8, s9⟩; go_simp; with_reducible rfl
              rotate_left
              · simp only [Act.put, sq, i64_w, i32_w]; rfl
              refine pu_ 33 124 (msk 43 412316860415) HT_.out ?_ ?_ ?_ ?_ ?_
              rotate_left
              · intro w'; go_simp; with_reducible rfl
              rotate_left
              · simp only [Act.put, sq, i64_w, i32_w]; rfl
              refine tk_ 37 128 (msk 43 549755813887) HT_.out HW_.out hHeld ?_ ?_ ?_ ?_ ?_
              rotate_left
              · rintro w' ⟨s0, s1, s2, s3, s4, s5, s6, s7, s8, s9⟩; go_simp; with_reducible rfl
              rotate_left
              · simp only [Act.put, sq, i64_w, i32_w]; rfl
              refine pu_ 39 130 (msk 43 1099511627775) HT_.out ?_ ?_ ?_ ?_ ?_
              rotate_left
              · intro w'; go_simp; with_reducible rfl
              rotate_left
              · simp only [Act.put, sq, i64_w, i32_w]; rfl
              refine tk_ 40 131 (msk 43 2199023255551) HT_.out HW_.out hHeld ?_ ?_ ?_ ?_ ?_
              rotate_left
              · rintro w' ⟨s0, s1, s2, s3, s4, s5, s6, s7, s8, s9⟩; go_simp; with_reducible rfl
              rotate_left
              · simp only [Act.put, sq, i64_w, i32_w]; rfl
              refine pu_ 41 132 (msk 43 4398046511103) HT_.out ?_ ?_ ?_ ?_ ?_
              rotate_left
              · intro w'; go_simp; with_reducible rfl
              rotate_left
              · simp only [Act.put, sq, i64_w, i32_w]; rfl
              refine pu_ 42 133 (msk 43 8796093022207) HT_.out ?_ ?_ ?_ ?_ ?_
              rotate_left
              · intro w'; go_simp; with_reducible rfl
              rotate_left
              · simp only [Act.put, sq, i64_w, i32_w]; rfl
              refine done_ (done_of HT_.out (by kernel_rfl)) ?_
              try go_wp2
              go_meet
              case rel => exact ⟨_, (decide ((wrap64 ((rd (rd_L3 x6_4 x12_3) x11_2) + (rd (rd_L3 x6_4 x11_2) x13_4))) > (rd (rd_L3 x6_4 x12_3) x13_4))), (by first | rfl | (simp; done) | (simp [*]; done)), H', ⟨by have := HK1.out; have := HK2.out; have := HK3.out; have := HK4.out; first | omega | exact Nat.le_refl _⟩, ⟨by (with_reducible repeat (first | apply Kd.S_alloc | apply Kd.S_drewN | apply Kd.S_drew)); exact HO_6.out⟩, ⟨by repeat (first | (with_reducible first | exact HB.out | apply below_alloc | apply pw_below_drewN | apply below_drew1) | exact HB.out)⟩⟩
             case rest =>
              clear HC46
              try clear p2
              try clear c4
              try clear p4
              try clear q4
              try clear hx4
              try clear c5
              try clear c42
              try clear p42
              try clear q42
              try clear hx42
              try clear c47
              try clear c48
              try clear c49
              try clear c50
              try clear c51
              try clear c51b0
              try clear c52
              try clear c53
              try clear c54
              try clear hx425_0
              try clear hx426_0
              try clear hx427_0
              try clear hx428_0
              try clear p425
              try clear p426
              try clear p427
              try clear p428
              try clear q425
              try clear q426
              try clear q427
              try clear q428
              obtain ⟨kq, x133_45, rfl, HA, HJ45, HO_6, HB⟩ := hcut
              cases kq with
              | zero => exact absurd HA.out (by simp [orreryref19_Better.j6])
              | succ kj45 =>
               have H := HA.out
               clear HA
               simp only [orreryref19_Better.j6] at H
               by_cases c63 : x133_45 = true
               case neg =>
                replace c63 := Bool.eq_false_iff.mpr c63
                subst c63
                have H1 : (if x12_3 = x13_4 then (if 0 ≤ x12_3 then (if x12_3 < (x6_4.length : Int) then (if 0 ≤ x13_4 then (if x13_4 < ((rd_L3 x6_4 x12_3).length : Int) then (if (rd (rd_L3 x6_4 x12_3) x13_4) > 0 then (some true) else (orreryref19_Better.l4 kj45 (l0.length : Int) x6_4 x11_2 x12_3 (wrap64 (x13_4 + 1)))) else (none)) else (none)) else (none)) else (none)) else (orreryref19_Better.l4 kj45 (l0.length : Int) x6_4 x11_2 x12_3 (wrap64 (x13_4 + 1)))) = some r := by rw [if_neg (show ¬ (false = true) by decide)] at H; exact H
                clear H
                have H := H1
                clear H1
                by_cases c90 : x12_3 = x13_4
                case neg =>
                 rw [if_neg c90] at H
                 have c90b0 : (x12_3 == x13_4) = false := beq_eq_false_iff_ne.mpr c90
                 have c90b1 : (x12_3 != x13_4) = true := bne_iff_ne.mpr c90
                 have H' := Aside0.mk H
                 clear H
                 go_wp2
                 (first | go_roundg kj45 | (refine Handed.intro kj45 ?measure ?_; rotate_left; go_step; (repeat apply Exists.intro); (refine ⟨?rel, ?fr_⟩); (case fr_ => (simp only [add_plain]; rfl))))
                 case measure => have := HK1.out; have := HK2.out; have := HK3.out; have := HK4.out; have := HJ45.out; omega
                 case rel => exact ⟨(x6_4), (wrap64 (x13_4 + 1)), (by first | rfl | (simp; done) | (simp [*]; done)), H', ⟨by have := HK1.out; have := HK2.out; have := HK3.out; have := HK4.out; have := HJ45.out; omega⟩, ⟨by (with_reducible repeat (first | apply Kd.S_alloc | apply Kd.S_drewN | apply Kd.S_drew)); exact HO_6.out⟩, ⟨by repeat (first | (with_reducible first | exact HB.out | apply below_alloc | apply pw_below_drewN | apply below_drew1) | exact HB.out)⟩⟩
                rw [if_pos c90] at H
                have c90b0 : (x12_3 == x13_4) = true := beq_iff_eq.mpr c90
                have c90b1 : (x12_3 != x13_4) = false := bne_eq_false_iff_eq.mpr c90
                clear c90
                by_cases c91 : 0 ≤ x12_3
                case neg => rw [if_neg c91] at H; exact absurd H (by simp)
                rw [if_pos c91] at H
                have c91b0 : decide (0 ≤ x12_3) = true := decide_eq_true c91
                clear c91
                by_cases c92 : x12_3 < (x6_4.length : Int)
                case neg => rw [if_neg c92] at H; exact absurd H (by simp)
                rw [if_pos c92] at H
                have c92b0 : decide (x12_3 < (x6_4.length : Int)) = true := decide_eq_true c92
                clear c92
                by_cases c93 : 0 ≤ x13_4
                case neg => rw [if_neg c93] at H; exact absurd H (by simp)
                rw [if_pos c93] at H
                have c93b0 : decide (0 ≤ x13_4) = true := decide_eq_true c93
                clear c93
                by_cases c94 : x13_4 < ((rd_L3 x6_4 x12_3).length : Int)
                case neg => rw [if_neg c94] at H; exact absurd H (by simp)
                rw [if_pos c94] at H
                have c94b0 : decide (x13_4 < ((rd_L3 x6_4 x12_3).length : Int)) = true := decide_eq_true c94
                clear c94
                by_cases c95 : (rd (rd_L3 x6_4 x12_3) x13_4) > 0
                case pos =>
                 rw [if_pos c95] at H
                 have c95b0 : decide (0 < (rd (rd_L3 x6_4 x12_3) x13_4)) = true := decide_eq_true c95
                 clear c95
                 obtain rfl := Option.some.inj H
                 obtain ⟨Ao96, co96, eo96⟩ := Kd.S_slice HO_6.out
                 subst eo96
                 have p445 : 0 ≤ (x12_3 : Int) := of_decide_eq_true (by first | (with_reducible assumption) | assumption)
                 have q445 : x12_3 < (x6_4.length : Int) := of_decide_eq_true (by first | (with_reducible assumption) | assumption)
                 obtain ⟨ad445, A445_0, c445_0, e445, hx445_0, hl445_0, hi445_0⟩ := at_L3 (Kd.S_reads' HO_6.out).2.2 x12_3 p445 q445
                 cases e445
                 obtain ⟨ce445, hce445, hMe445, hcc445⟩ := Kd.S_get HO_6.out [] x12_3 p445 (by first | exact q445 | exact of_decide_eq_true (by first | (with_reducible assumption) | assumption) | (have e_ := (Kd.S_reads' HO_6.out).1; omega))
                 obtain ⟨ve445_0, rfl, ge445_0⟩ := hMe445
                 have hv445_0 := hcc445 0 _ rfl
                 rw [Nat.add_zero, show ((Kd.slice 3 (Kd.int .i64))).sz = 1 from rfl, Nat.mul_one] at hv445_0
                 replace hv445_0 := Option.some.inj (hv445_0.symm.trans hx445_0)
                 rw [hv445_0] at ge445_0
                 have HL445_0 := Aside0.mk (show Kd.R (Kd.int .i64) 3 _ _ _ _ (rd_L3 x6_4 x12_3) from ge445_0)
                 clear hv445_0 ge445_0
                 have HX445_0 := Aside0.mk hx445_0
                 clear hcc445 hce445
                 have HR445_0 := Aside0.mk hi445_0
                 have HC445_0 := Aside0.mk hl445_0
                 clear hi445_0 hl445_0
                 replace p445 := eq_true p445
                 replace q445 := eq_true q445
                 have p446 : 0 ≤ (x13_4 : Int) := of_decide_eq_true (by first | (with_reducible assumption) | assumption)
                 have q446 : x13_4 < ((rd_L3 x6_4 x12_3).length : Int) := of_decide_eq_true (by first | (with_reducible assumption) | assumption)
                 obtain ⟨ad446, e446, hx446_0⟩ := Kd.at_int (by repeat (first | (with_reducible exact HR445_0.out) | (with_reducible refine Kd.C_alloc ?_ _) | (with_reducible refine Kd.C_drewN ?_ _) | (with_reducible refine Kd.C_drew ?_) | exact HR445_0.out)) x13_4 p446 q446
                 cases e446
                 replace p446 := eq_true p446
                 replace q446 := eq_true q446
                 go_wp2
                 go_ret
                 exact ⟨by first | rfl | (simp [errW_none, errW_some] <;> rfl) | (simp [*, errW_none, errW_some] <;> rfl), by repeat (first | (with_reducible first | exact HB.out | apply below_alloc | apply pw_below_drewN | apply below_drew1) | exact HB.out)⟩
                rw [if_neg c95] at H
                have c95b0 : decide (0 < (rd (rd_L3 x6_4 x12_3) x13_4)) = false := decide_eq_false c95
                clear c95
                have H' := Aside0.mk H
                clear H
                obtain ⟨Ao97, co97, eo97⟩ := Kd.S_slice HO_6.out
                subst eo97
                have p445 : 0 ≤ (x12_3 : Int) := of_decide_eq_true (by first | (with_reducible assumption) | assumption)
                have q445 : x12_3 < (x6_4.length : Int) := of_decide_eq_true (by first | (with_reducible assumption) | assumption)
                obtain ⟨ad445, A445_0, c445_0, e445, hx445_0, hl445_0, hi445_0⟩ := at_L3 (Kd.S_reads' HO_6.out).2.2 x12_3 p445 q445
                cases e445
                obtain ⟨ce445, hce445, hMe445, hcc445⟩ := Kd.S_get HO_6.out [] x12_3 p445 (by first | exact q445 | exact of_decide_eq_true (by first | (with_reducible assumption) | assumption) | (have e_ := (Kd.S_reads' HO_6.out).1; omega))
                obtain ⟨ve445_0, rfl, ge445_0⟩ := hMe445
                have hv445_0 := hcc445 0 _ rfl
                rw [Nat.add_zero, show ((Kd.slice 3 (Kd.int .i64))).sz = 1 from rfl, Nat.mul_one] at hv445_0
                replace hv445_0 := Option.some.inj (hv445_0.symm.trans hx445_0)
                rw [hv445_0] at ge445_0
                have HL445_0 := Aside0.mk (show Kd.R (Kd.int .i64) 3 _ _ _ _ (rd_L3 x6_4 x12_3) from ge445_0)
                clear hv445_0 ge445_0
                have HX445_0 := Aside0.mk hx445_0
                clear hcc445 hce445
                have HR445_0 := Aside0.mk hi445_0
                have HC445_0 := Aside0.mk hl445_0
                clear hi445_0 hl445_0
                replace p445 := eq_true p445
                replace q445 := eq_true q445
                have p446 : 0 ≤ (x13_4 : Int) := of_decide_eq_true (by first | (with_reducible assumption) | assumption)
                have q446 : x13_4 < ((rd_L3 x6_4 x12_3).length : Int) := of_decide_eq_true (by first | (with_reducible assumption) | assumption)
                obtain ⟨ad446, e446, hx446_0⟩ := Kd.at_int (by repeat (first | (with_reducible exact HR445_0.out) | (with_reducible refine Kd.C_alloc ?_ _) | (with_reducible refine Kd.C_drewN ?_ _) | (with_reducible refine Kd.C_drew ?_) | exact HR445_0.out)) x13_4 p446 q446
                cases e446
                replace p446 := eq_true p446
                replace q446 := eq_true q446
                go_wp2
                (first | go_roundg kj45 | (refine Handed.intro kj45 ?measure ?_; rotate_left; go_step; (repeat apply Exists.intro); (refine ⟨?rel, ?fr_⟩); (case fr_ => (simp only [add_plain]; rfl))))
                case measure => have := HK1.out; have := HK2.out; have := HK3.out; have := HK4.out; have := HJ45.out; omega
                case rel => exact ⟨(x6_4), (wrap64 (x13_4 + 1)), (by first | rfl | (simp; done) | (simp [*]; done)), H', ⟨by have := HK1.out; have := HK2.out; have := HK3.out; have := HK4.out; have := HJ45.out; omega⟩, ⟨by (with_reducible repeat (first | apply Kd.S_alloc | apply Kd.S_drewN | apply Kd.S_drew)); exact HO_6.out⟩, ⟨by repeat (first | (with_reducible first | exact HB.out | apply below_alloc | apply pw_below_drewN | apply below_drew1) | exact HB.out)⟩⟩
               subst c63
               have H1 : (if 0 ≤ x12_3 then (if x12_3 < (x6_4.length : Int) then (if 0 ≤ x11_2 then (if x11_2 < ((rd_L3 x6_4 x12_3).length : Int) then (if x11_2 < (x6_4.length : Int) then (if 0 ≤ x13_4 then (if x13_4 < ((rd_L3 x6_4 x11_2).length : Int) then (if x13_4 < ((rd_L3 x6_4 x12_3).length : Int) then ((some (x6_4.set (x12_3 : Int).toNat ((rd_L3 x6_4 x12_3).set (x13_4 : Int).toNat (wrap64 ((rd (rd_L3 x6_4 x12_3) x11_2) + (rd (rd_L3 x6_4 x11_2) x13_4)))) : List (List Int))).bind fun y442 => (if x12_3 = x13_4 then (if x13_4 < ((rd_L3 y442 x12_3).length : Int) then (if (rd (rd_L3 y442 x12_3) x13_4) > 0 then (some true) else (orreryref19_Better.l4 kj45 (l0.length : Int) y442 x11_2 x12_3 (wrap64 (x13_4 + 1)))) else (none)) else (orreryref19_Better.l4 kj45 (l0.length : Int) y442 x11_2 x12_3 (wrap64 (x13_4 + 1))))) else (none)) else (none)) else (none)) else (none)) else (none)) else (none)) else (none)) else (none)) = some r := by rw [if_pos rfl] at H; exact H
               clear H
               have H := H1
               clear H1
               by_cases c64 : 0 ≤ x12_3
               case neg => rw [if_neg c64] at H; exact absurd H (by simp)
               rw [if_pos c64] at H
               have c64b0 : decide (0 ≤ x12_3) = true := decide_eq_true c64
               clear c64
               by_cases c65 : x12_3 < (x6_4.length : Int)
               case neg => rw [if_neg c65] at H; exact absurd H (by simp)
               rw [if_pos c65] at H
               have c65b0 : decide (x12_3 < (x6_4.length : Int)) = true := decide_eq_true c65
               clear c65
               by_cases c66 : 0 ≤ x11_2
               case neg => rw [if_neg c66] at H; exact absurd H (by simp)
               rw [if_pos c66] at H
               have c66b0 : decide (0 ≤ x11_2) = true := decide_eq_true c66
               clear c66
               by_cases c67 : x11_2 < ((rd_L3 x6_4 x12_3).length : Int)
               case neg => rw [if_neg c67] at H; exact absurd H (by simp)
               rw [if_pos c67] at H
               have c67b0 : decide (x11_2 < ((rd_L3 x6_4 x12_3).length : Int)) = true := decide_eq_true c67
               clear c67
               by_cases c68 : x11_2 < (x6_4.length : Int)
               case neg => rw [if_neg c68] at H; exact absurd H (by simp)
               rw [if_pos c68] at H
               have c68b0 : decide (x11_2 < (x6_4.length : Int)) = true := decide_eq_true c68
               clear c68
               by_cases c69 : 0 ≤ x13_4
               case neg => rw [if_neg c69] at H; exact absurd H (by simp)
               rw [if_pos c69] at H
               have c69b0 : decide (0 ≤ x13_4) = true := decide_eq_true c69
               clear c69
               by_cases c70 : x13_4 < ((rd_L3 x6_4 x11_2).length : Int)
               case neg => rw [if_neg c70] at H; exact absurd H (by simp)
               rw [if_pos c70] at H
               have c70b0 : decide (x13_4 < ((rd_L3 x6_4 x11_2).length : Int)) = true := decide_eq_true c70
               clear c70
               by_cases c71 : x13_4 < ((rd_L3 x6_4 x12_3).length : Int)
               case neg => rw [if_neg c71] at H; exact absurd H (by simp)
               rw [if_pos c71] at H
               have c71b0 : decide (x13_4 < ((rd_L3 x6_4 x12_3).length : Int)) = true := decide_eq_true c71
               clear c71
               obtain ⟨y440, hy440⟩ : ∃ y_ : List Int, y_ = ((rd_L3 x6_4 x12_3).set (x13_4 : Int).toNat (wrap64 ((rd (rd_L3 x6_4 x12_3) x11_2) + (rd (rd_L3 x6_4 x11_2) x13_4)))) := ⟨_, rfl⟩
               replace H : ((some (x6_4.set (x12_3 : Int).toNat y440 : List (List Int))).bind fun y442 => (if x12_3 = x13_4 then (if x13_4 < ((rd_L3 y442 x12_3).length : Int) then (if (rd (rd_L3 y442 x12_3) x13_4) > 0 then (some true) else (orreryref19_Better.l4 kj45 (l0.length : Int) y442 x11_2 x12_3 (wrap64 (x13_4 + 1)))) else (none)) else (orreryref19_Better.l4 kj45 (l0.length : Int) y442 x11_2 x12_3 (wrap64 (x13_4 + 1))))) = some r := by first | (rw [hy440]; with_reducible exact H) | (have H2_ := (Option.bind_some _ _).symm.trans H; rw [hy440]; with_reducible exact H2_) | (have H2_ := (Option.bind_some _ _).symm.trans H; with_reducible exact H2_) | with_reducible exact H | (rw [hy440]; exact H) | exact H
               have Ny440 := Aside0.mk hy440
               clear hy440
               obtain ⟨y442, hy442⟩ : ∃ y_ : List (List Int), y_ = (x6_4.set (x12_3 : Int).toNat y440) := ⟨_, rfl⟩
               replace H : (if x12_3 = x13_4 then (if x13_4 < ((rd_L3 y442 x12_3).length : Int) then (if (rd (rd_L3 y442 x12_3) x13_4) > 0 then (some true) else (orreryref19_Better.l4 kj45 (l0.length : Int) y442 x11_2 x12_3 (wrap64 (x13_4 + 1)))) else (none)) else (orreryref19_Better.l4 kj45 (l0.length : Int) y442 x11_2 x12_3 (wrap64 (x13_4 + 1)))) = some r := by first | (rw [hy442]; with_reducible exact H) | (have H2_ := (Option.bind_some _ _).symm.trans H; rw [hy442]; with_reducible exact H2_) | (have H2_ := (Option.bind_some _ _).symm.trans H; with_reducible exact H2_) | with_reducible exact H | (rw [hy442]; exact H) | exact H
               have Ny442 := Aside0.mk hy442
               clear hy442
               by_cases c73 : x12_3 = x13_4
               case neg =>
                rw [if_neg c73] at H
                have c73b0 : (x12_3 == x13_4) = false := beq_eq_false_iff_ne.mpr c73
                have c73b1 : (x12_3 != x13_4) = true := bne_iff_ne.mpr c73
                have H' := Aside0.mk H
                clear H
                try go_wp2
                have n0_ := Aside0.mk (Kd.S_drew HO_6.out)
                have n1_ := Aside0.mk (below_drew1 HB.out)
                clear HO_6
                clear HB
                have HO_6 := n0_
                have HB := n1_
                clear n0_ n1_
                obtain ⟨Ao87, co87, eo87⟩ := Kd.S_slice HO_6.out
                (first | subst eo87 | (injection eo87 with f1_ f2_ f3_; have f4_ := f1_.symm; have f5_ := f3_.symm; clear f1_ f2_ f3_; subst f4_; subst f5_))
                have p435 : 0 ≤ (x12_3 : Int) := of_decide_eq_true (by first | (with_reducible assumption) | assumption)
                have q435 : x12_3 < (x6_4.length : Int) := of_decide_eq_true (by first | (with_reducible assumption) | assumption)
                obtain ⟨ad435, A435_0, c435_0, e435, hx435_0, hl435_0, hi435_0⟩ := at_L3 (Kd.S_reads' HO_6.out).2.2 x12_3 p435 q435
                cases e435
                obtain ⟨ce435, hce435, hMe435, hcc435⟩ := Kd.S_get HO_6.out [] x12_3 p435 (by first | exact q435 | exact of_decide_eq_true (by first | (with_reducible assumption) | assumption) | (have e_ := (Kd.S_reads' HO_6.out).1; omega))
                obtain ⟨ve435_0, rfl, ge435_0⟩ := hMe435
                have hv435_0 := hcc435 0 _ rfl
                rw [Nat.add_zero, show ((Kd.slice 3 (Kd.int .i64))).sz = 1 from rfl, Nat.mul_one] at hv435_0
                replace hv435_0 := Option.some.inj (hv435_0.symm.trans hx435_0)
                rw [hv435_0] at ge435_0
                have HL435_0 := Aside0.mk (show Kd.R (Kd.int .i64) 3 _ _ _ _ (rd_L3 x6_4 x12_3) from ge435_0)
                clear hv435_0 ge435_0
                have HX435_0 := Aside0.mk hx435_0
                clear hcc435 hce435
                have HR435_0 := Aside0.mk hi435_0
                have HC435_0 := Aside0.mk hl435_0
                clear hi435_0 hl435_0
                replace p435 := eq_true p435
                replace q435 := eq_true q435
                have p436 : 0 ≤ (x12_3 : Int) := of_decide_eq_true (by first | (with_reducible assumption) | assumption)
                have q436 : x12_3 < (x6_4.length : Int) := of_decide_eq_true (by first | (with_reducible assumption) | assumption)
                obtain ⟨ad436, A436_0, c436_0, e436, hx436_0, hl436_0, hi436_0⟩ := at_L3 (Kd.S_reads' HO_6.out).2.2 x12_3 p436 q436
                obtain rfl : ad435 = ad436 := (by injection e436)
                obtain ⟨ce436, hce436, hMe436, hcc436⟩ := Kd.S_get HO_6.out [] x12_3 p436 (by first | exact q436 | exact of_decide_eq_true (by first | (with_reducible assumption) | assumption) | (have e_ := (Kd.S_reads' HO_6.out).1; omega))
                obtain ⟨ve436_0, rfl, ge436_0⟩ := hMe436
                have hv436_0 := hcc436 0 _ rfl
                rw [Nat.add_zero, show ((Kd.slice 3 (Kd.int .i64))).sz = 1 from rfl, Nat.mul_one] at hv436_0
                replace hv436_0 := Option.some.inj (hv436_0.symm.trans hx436_0)
                rw [hv436_0] at ge436_0
                have HL436_0 := Aside0.mk (show Kd.R (Kd.int .i64) 3 _ _ _ _ (rd_L3 x6_4 x12_3) from ge436_0)
                clear hv436_0 ge436_0
                have HX436_0 := Aside0.mk hx436_0
                clear hcc436 hce436
                have HR436_0 := Aside0.mk hi436_0
                have HC436_0 := Aside0.mk hl436_0
                clear hi436_0 hl436_0
                replace p436 := eq_true p436
                replace q436 := eq_true q436
                have ea_ := Option.some.inj (hx435_0.symm.trans hx436_0)
                injection ea_ with ea_ en_ ec_
                subst ea_
                subst ec_
                clear en_
                have p437 : 0 ≤ (x11_2 : Int) := of_decide_eq_true (by first | (with_reducible assumption) | assumption)
                have q437 : x11_2 < ((rd_L3 x6_4 x12_3).length : Int) := of_decide_eq_true (by first | (with_reducible assumption) | assumption)
                obtain ⟨ad437, e437, hx437_0⟩ := Kd.at_int (by repeat (first | (with_reducible exact HR436_0.out) | (with_reducible refine Kd.C_alloc ?_ _) | (with_reducible refine Kd.C_drewN ?_ _) | (with_reducible refine Kd.C_drew ?_) | exact HR436_0.out)) x11_2 p437 q437
                cases e437
                replace p437 := eq_true p437
                replace q437 := eq_true q437
                have p438 : 0 ≤ (x11_2 : Int) := of_decide_eq_true (by first | (with_reducible assumption) | assumption)
                have q438 : x11_2 < (x6_4.length : Int) := of_decide_eq_true (by first | (with_reducible assumption) | assumption)
                obtain ⟨ad438, A438_0, c438_0, e438, hx438_0, hl438_0, hi438_0⟩ := at_L3 (Kd.S_reads' HO_6.out).2.2 x11_2 p438 q438
                obtain rfl : ad435 = ad438 := (by injection e438)
                obtain ⟨ce438, hce438, hMe438, hcc438⟩ := Kd.S_get HO_6.out [] x11_2 p438 (by first | exact q438 | exact of_decide_eq_true (by first | (with_reducible assumption) | assumption) | (have e_ := (Kd.S_reads' HO_6.out).1; omega))
                obtain ⟨ve438_0, rfl, ge438_0⟩ := hMe438
                have hv438_0 := hcc438 0 _ rfl
                rw [Nat.add_zero, show ((Kd.slice 3 (Kd.int .i64))).sz = 1 from rfl, Nat.mul_one] at hv438_0
                replace hv438_0 := Option.some.inj (hv438_0.symm.trans hx438_0)
                rw [hv438_0] at ge438_0
                have HL438_0 := Aside0.mk (show Kd.R (Kd.int .i64) 3 _ _ _ _ (rd_L3 x6_4 x11_2) from ge438_0)
                clear hv438_0 ge438_0
                have HX438_0 := Aside0.mk hx438_0
                clear hcc438 hce438
                have HR438_0 := Aside0.mk hi438_0
                have HC438_0 := Aside0.mk hl438_0
                clear hi438_0 hl438_0
                replace p438 := eq_true p438
                replace q438 := eq_true q438
                have p439 : 0 ≤ (x13_4 : Int) := of_decide_eq_true (by first | (with_reducible assumption) | assumption)
                have q439 : x13_4 < ((rd_L3 x6_4 x11_2).length : Int) := of_decide_eq_true (by first | (with_reducible assumption) | assumption)
                obtain ⟨ad439, e439, hx439_0⟩ := Kd.at_int (by repeat (first | (with_reducible exact HR438_0.out) | (with_reducible refine Kd.C_alloc ?_ _) | (with_reducible refine Kd.C_drewN ?_ _) | (with_reducible refine Kd.C_drew ?_) | exact HR438_0.out)) x13_4 p439 q439
                cases e439
                replace p439 := eq_true p439
                replace q439 := eq_true q439
                have p72 : 0 ≤ (x13_4 : Int) := of_decide_eq_true (by first | (with_reducible assumption) | assumption)
                have q72 : (x13_4 : Int) < (((rd_L3 x6_4 x12_3).length : Int) : Int) := of_decide_eq_true (by first | (with_reducible assumption) | assumption)
                obtain ⟨go72, co72, eo72, gb72, gl72, cl72, HG72⟩ := Kd.R_form HL435_0.out (by omega)
                (first | cases eo72 | (injection eo72 with ea_ en_ ec_; (first | subst ea_ | (injection ea_ with ea_; subst ea_)); subst ec_; clear en_))
                have GB72 := Aside0.mk gb72
                have GG72 := Aside0.mk HG72
                clear gb72 gl72 HG72
                (first | simp only [add_plain] at hx437_0 | skip)
                obtain ⟨hx72_0, hf72_0⟩ := Kd.R_celln 0 HL435_0.out (x13_4 : Int) p72 q72
                replace p72 := eq_true p72
                replace q72 := eq_true q72
                have hq88 : (x12_3 : Int) < (x6_4.length : Int) := (by have h_ : (x12_3 : Int) < ((x6_4.length : Int) : Int) := of_decide_eq_true (by first | (with_reducible assumption) | assumption); first | exact h_ | (have e_ := (Kd.S_reads' HO_6.out).1; omega) | simpa only [List.length_set, List.length_set] using h_)
                obtain ⟨oki88, ce88, hcl88, hM88, hcc88, hok88, hbk88⟩ := Kd.S_borrow HO_6.out [] (x12_3 : Int) (of_decide_eq_true (by first | (with_reducible assumption) | assumption)) hq88
                obtain ⟨ve88_0, rfl, ge88_0⟩ := hM88
                have hv88 := hcc88 0 _ rfl
                rw [Nat.add_zero, show ((Kd.slice 3 (Kd.int .i64))).sz = 1 from rfl, Nat.mul_one] at hv88
                replace hv88 := Option.some.inj (hv88.symm.trans HX435_0.out)
                subst hv88
                clear hcc88 hcl88
                replace ge88_0 := (show Kd.R (Kd.int .i64) 3 _ _ _ _ (rd_L3 x6_4 x12_3) from ge88_0)
                have HP88 := Kd.R_putg ge88_0 (x13_4 : Int) (wrap64 ((rd (rd_L3 x6_4 x12_3) x11_2) + (rd (rd_L3 x6_4 x11_2) x13_4)))
                rw [← Ny440.out] at HP88
                have HS88 := hbk88 HP88.2 (fun k_ e_ => by injection e_ with e_; subst e_; exact ge88_0.1 _ rfl) (x' := y440) (Kd.M_row HP88.1)
                rw [← Ny442.out] at HS88
                have HQ88 := Aside0.mk HS88
                clear HP88 HS88 hbk88 hok88
                refine start_ (n := 22) (S := fun w' => w'.cell? (ad435.add (x12_3).toNat) = some (.slice (some (⟨go72, 0, none⟩ : Addr)) (rd_L3 x6_4 x12_3).length c435_0) ∧ w'.cell? (ad435.add (x12_3).toNat) = some (.slice (some (⟨go72, 0, none⟩ : Addr)) (rd_L3 x6_4 x12_3).length c435_0) ∧ w'.cell? ⟨go72, (x11_2).toNat, none⟩ = some (.int .i64 (rd (rd_L3 x6_4 x12_3) x11_2)) ∧ w'.cell? (ad435.add (x11_2).toNat) = some (.slice (some ad439) (rd_L3 x6_4 x11_2).length c438_0) ∧ w'.cell? (ad439.add (x13_4).toNat) = some (.int .i64 (rd (rd_L3 x6_4 x11_2) x13_4))) (ds := [21]) (msk 22 0) (by kernel_rfl) rfl rfl ⟨hx435_0, hx436_0, hx437_0, hx438_0, hx439_0⟩ (fun hHeld => ?_); refine with_tabW orreryref19_Better.tab27 orreryref19_Better.bits27 (fun HT_ HW_ => ?_)
                generalize wc.drew = w86 at HO_6 HB GG72 HL435_0 HL436_0 HL438_0 HQ88 HR435_0 HR436_0 HR438_0 HX435_0 HX436_0 HX438_0 hf72_0 hx435_0 hx436_0 hx437_0 hx438_0 hx439_0 hx72_0 hHeld ⊢
                refine pu_ 0 134 (msk 22 1) HT_.out ?_ ?_ ?_ ?_ ?_
                rotate_left
                · intro w'; go_simp; with_reducible rfl
                rotate_left
                · simp only [Act.put, sq, i64_w, i32_w]; rfl
                refine pu_ 1 135 (msk 22 3) HT_.out ?_ ?_ ?_ ?_ ?_
                rotate_left
                · intro w'; go_simp; with_reducible rfl
                rotate_left
                · simp only [Act.put, sq, i64_w, i32_w]; rfl
                refine pu_ 2 136 (msk 22 7) HT_.out ?_ ?_ ?_ ?_ ?_
                rotate_left
                · intro w'; go_simp; with_reducible rfl
                rotate_left
                · simp only [Act.put, sq, i64_w, i32_w]; rfl
                refine pu_ 4 138 (msk 22 23) HT_.out ?_ ?_ ?_ ?_ ?_
                rotate_left
                · intro w'; go_simp; with_reducible rfl
                rotate_left
                · simp only [Act.put, sq, i64_w, i32_w]; rfl
                refine pu_ 5 139 (msk 22 55) HT_.out ?_ ?_ ?_ ?_ ?_
                rotate_left
                · intro w'; go_simp; with_reducible rfl
                rotate_left
                · simp only [Act.put, sq, i64_w, i32_w]; rfl
                refine pu_ 6 140 (msk 22 119) HT_.out ?_ ?_ ?_ ?_ ?_
                rotate_left
                · intro w'; go_simp; with_reducible rfl
                rotate_left
                · simp only [Act.put, sq, i64_w, i32_w]; rfl
                refine pu_ 7 141 (msk 22 247) HT_.out ?_ ?_ ?_ ?_ ?_
                rotate_left
                · intro w'; go_simp; with_reducible rfl
                rotate_left
                · simp only [Act.put, sq, i64_w, i32_w]; rfl
                refine pu_ 9 143 (msk 22 759) HT_.out ?_ ?_ ?_ ?_ ?_
                rotate_left
                · intro w'; go_simp; with_reducible rfl
                rotate_left
                · simp only [Act.put, sq, i64_w, i32_w]; rfl
                refine pu_ 12 146 (msk 22 4855) HT_.out ?_ ?_ ?_ ?_ ?_
                rotate_left
                · intro w'; go_simp; with_reducible rfl
                rotate_left
                · simp only [Act.put, sq, i64_w, i32_w]; rfl
                refine pu_ 13 147 (msk 22 13047) HT_.out ?_ ?_ ?_ ?_ ?_
                rotate_left
                · intro w'; go_simp; with_reducible rfl
                rotate_left
                · simp only [Act.put, sq, i64_w, i32_w]; rfl
                refine pu_ 14 148 (msk 22 29431) HT_.out ?_ ?_ ?_ ?_ ?_
                rotate_left
                · intro w'; go_simp; with_reducible rfl
                rotate_left
                · simp only [Act.put, sq, i64_w, i32_w]; rfl
                refine pu_ 16 150 (msk 22 94967) HT_.out ?_ ?_ ?_ ?_ ?_
                rotate_left
                · intro w'; go_simp; with_reducible rfl
                rotate_left
                · simp only [Act.put, sq, i64_w, i32_w]; rfl
                refine tk_ 3 137 (msk 22 94975) HT_.out HW_.out hHeld ?_ ?_ ?_ ?_ ?_
                rotate_left
                · rintro w' ⟨s0, s1, s2, s3, s4⟩; go_simp; with_reducible rfl
                rotate_left
                · simp only [Act.put, sq, i64_w, i32_w]; rfl
                refine tk_ 8 142 (msk 22 95231) HT_.out HW_.out hHeld ?_ ?_ ?_ ?_ ?_
                rotate_left
                · rintro w' ⟨s0, s1, s2, s3, s4⟩; go_simp; with_reducible rfl
                rotate_left
                · simp only [Act.put, sq, i64_w, i32_w]; rfl
                refine pu_ 10 144 (msk 22 96255) HT_.out ?_ ?_ ?_ ?_ ?_
                rotate_left
                · intro w'; go_simp; with_reducible rfl
                rotate_left
                · simp only [Act.put, sq, i64_w, i32_w]; rfl
                refine tk_ 11 145 (msk 22 98303) HT_.out HW_.out hHeld ?_ ?_ ?_ ?_ ?_
                rotate_left
                · rintro w' ⟨s0, s1, s2, s3, s4⟩; go_simp; with_reducible rfl
                rotate_left
                · simp only [Act.put, sq, i64_w, i32_w]; rfl
                refine tk_ 15 149 (msk 22 131071) HT_.out HW_.out hHeld ?_ ?_ ?_ ?_ ?_
                rotate_left
                · rintro w' ⟨s0, s1, s2, s3, s4⟩; go_simp; with_reducible rfl
                rotate_left
                · simp only [Act.put, sq, i64_w, i32_w]; rfl
                refine pu_ 17 151 (msk 22 262143) HT_.out ?_ ?_ ?_ ?_ ?_
                rotate_left
                · intro w'; go_simp; with_reducible rfl
                rotate_left
                · simp only [Act.put, sq, i64_w, i32_w]; rfl
                refine tk_ 18 152 (msk 22 524287) HT_.out HW_.out hHeld ?_ ?_ ?_ ?_ ?_
                rotate_left
                · rintro w' ⟨s0, s1, s2, s3, s4⟩; go_simp; with_reducible rfl
                rotate_left
                · simp only [Act.put, sq, i64_w, i32_w]; rfl
                refine pu_ 19 153 (msk 22 1048575) HT_.out ?_ ?_ ?_ ?_ ?_
                rotate_left
                · intro w'; go_simp; with_reducible rfl
                rotate_left
                · simp only [Act.put, sq, i64_w, i32_w]; rfl
                refine pu_ 20 154 (msk 22 2097151) HT_.out ?_ ?_ ?_ ?_ ?_
                rotate_left
                · intro w'; go_simp; with_reducible rfl
                rotate_left
                · simp only [Act.put, sq, i64_w, i32_w]; rfl
                refine last_ (i := 21) (N := none) (msk 22 4194303) rfl rfl (one_of HT_.out (by kernel_rfl)) (by decide) (fun K hK => ?_)
                refine skip_ (w1 := ?_) (by rfl) rfl ?_ ?_
                rotate_left
                · go_simp
                  rfl
                refine hK.out _ _ ?_
                clear hK K
                refine done_ (done_of HT_.out (by kernel_rfl)) ?_
                try go_wp2
                (first | go_roundg kj45 | (refine Handed.intro kj45 ?measure ?_; rotate_left; go_step; (repeat apply Exists.intro); (refine ⟨?rel, ?fr_⟩); (case fr_ => (simp only [add_plain]; rfl))))
                case measure => have := HK1.out; have := HK2.out; have := HK3.out; have := HK4.out; have := HJ45.out; omega
                case rel => exact ⟨(y442), (wrap64 (x13_4 + 1)), (by first | rfl | (simp; done) | (simp [*]; done)), H', ⟨by have := HK1.out; have := HK2.out; have := HK3.out; have := HK4.out; have := HJ45.out; omega⟩, ⟨by (with_reducible repeat (first | apply Kd.S_alloc | apply Kd.S_drewN | apply Kd.S_drew)); exact HQ88.out⟩, ⟨by repeat (first | (with_reducible first | exact HB.out | apply below_alloc | apply pw_below_drewN | apply below_drew1 | refine below_set ?_ GB72.out) | exact HB.out)⟩⟩
               rw [if_pos c73] at H
               have c73b0 : (x12_3 == x13_4) = true := beq_iff_eq.mpr c73
               have c73b1 : (x12_3 != x13_4) = false := bne_eq_false_iff_eq.mpr c73
               clear c73
               by_cases c74 : x13_4 < ((rd_L3 y442 x12_3).length : Int)
               case neg => rw [if_neg c74] at H; exact absurd H (by simp)
               rw [if_pos c74] at H
               have c74b0 : decide (x13_4 < ((rd_L3 y442 x12_3).length : Int)) = true := decide_eq_true c74
               clear c74
               by_cases c75 : (rd (rd_L3 y442 x12_3) x13_4) > 0
               case pos =>
                rw [if_pos c75] at H
                have c75b0 : decide (0 < (rd (rd_L3 y442 x12_3) x13_4)) = true := decide_eq_true c75
                clear c75
                obtain rfl := Option.some.inj H
                try go_wp2
                have n0_ := Aside0.mk (Kd.S_drew HO_6.out)
                have n1_ := Aside0.mk (below_drew1 HB.out)
                clear HO_6
                clear HB
                have HO_6 := n0_
                have HB := n1_
                clear n0_ n1_
                obtain ⟨Ao77, co77, eo77⟩ := Kd.S_slice HO_6.out
                (first | subst eo77 | (injection eo77 with f1_ f2_ f3_; have f4_ := f1_.symm; have f5_ := f3_.symm; clear f1_ f2_ f3_; subst f4_; subst f5_))
                have p435 : 0 ≤ (x12_3 : Int) := of_decide_eq_true (by first | (with_reducible assumption) | assumption)
                have q435 : x12_3 < (x6_4.length : Int) := of_decide_eq_true (by first | (with_reducible assumption) | assumption)
                obtain ⟨ad435, A435_0, c435_0, e435, hx435_0, hl435_0, hi435_0⟩ := at_L3 (Kd.S_reads' HO_6.out).2.2 x12_3 p435 q435
                cases e435
                obtain ⟨ce435, hce435, hMe435, hcc435⟩ := Kd.S_get HO_6.out [] x12_3 p435 (by first | exact q435 | exact of_decide_eq_true (by first | (with_reducible assumption) | assumption) | (have e_ := (Kd.S_reads' HO_6.out).1; omega))
                obtain ⟨ve435_0, rfl, ge435_0⟩ := hMe435
                have hv435_0 := hcc435 0 _ rfl
                rw [Nat.add_zero, show ((Kd.slice 3 (Kd.int .i64))).sz = 1 from rfl, Nat.mul_one] at hv435_0
                replace hv435_0 := Option.some.inj (hv435_0.symm.trans hx435_0)
                rw [hv435_0] at ge435_0
                have HL435_0 := Aside0.mk (show Kd.R (Kd.int .i64) 3 _ _ _ _ (rd_L3 x6_4 x12_3) from ge435_0)
                clear hv435_0 ge435_0
                have HX435_0 := Aside0.mk hx435_0
                clear hcc435 hce435
                have HR435_0 := Aside0.mk hi435_0
                have HC435_0 := Aside0.mk hl435_0
                clear hi435_0 hl435_0
                replace p435 := eq_true p435
                replace q435 := eq_true q435
                have p436 : 0 ≤ (x12_3 : Int) := of_decide_eq_true (by first | (with_reducible assumption) | assumption)
                have q436 : x12_3 < (x6_4.length : Int) := of_decide_eq_true (by first | (with_reducible assumption) | assumption)
                obtain ⟨ad436, A436_0, c436_0, e436, hx436_0, hl436_0, hi436_0⟩ := at_L3 (Kd.S_reads' HO_6.out).2.2 x12_3 p436 q436
                obtain rfl : ad435 = ad436 := (by injection e436)
                obtain ⟨ce436, hce436, hMe436, hcc436⟩ := Kd.S_get HO_6.out [] x12_3 p436 (by first | exact q436 | exact of_decide_eq_true (by first | (with_reducible assumption) | assumption) | (have e_ := (Kd.S_reads' HO_6.out).1; omega))
                obtain ⟨ve436_0, rfl, ge436_0⟩ := hMe436
                have hv436_0 := hcc436 0 _ rfl
                rw [Nat.add_zero, show ((Kd.slice 3 (Kd.int .i64))).sz = 1 from rfl, Nat.mul_one] at hv436_0
                replace hv436_0 := Option.some.inj (hv436_0.symm.trans hx436_0)
                rw [hv436_0] at ge436_0
                have HL436_0 := Aside0.mk (show Kd.R (Kd.int .i64) 3 _ _ _ _ (rd_L3 x6_4 x12_3) from ge436_0)
                clear hv436_0 ge436_0
                have HX436_0 := Aside0.mk hx436_0
                clear hcc436 hce436
                have HR436_0 := Aside0.mk hi436_0
                have HC436_0 := Aside0.mk hl436_0
                clear hi436_0 hl436_0
                replace p436 := eq_true p436
                replace q436 := eq_true q436
                have ea_ := Option.some.inj (hx435_0.symm.trans hx436_0)
                injection ea_ with ea_ en_ ec_
                subst ea_
                subst ec_
                clear en_
                have p437 : 0 ≤ (x11_2 : Int) := of_decide_eq_true (by first | (with_reducible assumption) | assumption)
                have q437 : x11_2 < ((rd_L3 x6_4 x12_3).length : Int) := of_decide_eq_true (by first | (with_reducible assumption) | assumption)
                obtain ⟨ad437, e437, hx437_0⟩ := Kd.at_int (by repeat (first | (with_reducible exact HR436_0.out) | (with_reducible refine Kd.C_alloc ?_ _) | (with_reducible refine Kd.C_drewN ?_ _) | (with_reducible refine Kd.C_drew ?_) | exact HR436_0.out)) x11_2 p437 q437
                cases e437
                replace p437 := eq_true p437
                replace q437 := eq_true q437
                have p438 : 0 ≤ (x11_2 : Int) := of_decide_eq_true (by first | (with_reducible assumption) | assumption)
                have q438 : x11_2 < (x6_4.length : Int) := of_decide_eq_true (by first | (with_reducible assumption) | assumption)
                obtain ⟨ad438, A438_0, c438_0, e438, hx438_0, hl438_0, hi438_0⟩ := at_L3 (Kd.S_reads' HO_6.out).2.2 x11_2 p438 q438
                obtain rfl : ad435 = ad438 := (by injection e438)
                obtain ⟨ce438, hce438, hMe438, hcc438⟩ := Kd.S_get HO_6.out [] x11_2 p438 (by first | exact q438 | exact of_decide_eq_true (by first | (with_reducible assumption) | assumption) | (have e_ := (Kd.S_reads' HO_6.out).1; omega))
                obtain ⟨ve438_0, rfl, ge438_0⟩ := hMe438
                have hv438_0 := hcc438 0 _ rfl
                rw [Nat.add_zero, show ((Kd.slice 3 (Kd.int .i64))).sz = 1 from rfl, Nat.mul_one] at hv438_0
                replace hv438_0 := Option.some.inj (hv438_0.symm.trans hx438_0)
                rw [hv438_0] at ge438_0
                have HL438_0 := Aside0.mk (show Kd.R (Kd.int .i64) 3 _ _ _ _ (rd_L3 x6_4 x11_2) from ge438_0)
                clear hv438_0 ge438_0
                have HX438_0 := Aside0.mk hx438_0
                clear hcc438 hce438
                have HR438_0 := Aside0.mk hi438_0
                have HC438_0 := Aside0.mk hl438_0
                clear hi438_0 hl438_0
                replace p438 := eq_true p438
                replace q438 := eq_true q438
                have p439 : 0 ≤ (x13_4 : Int) := of_decide_eq_true (by first | (with_reducible assumption) | assumption)
                have q439 : x13_4 < ((rd_L3 x6_4 x11_2).length : Int) := of_decide_eq_true (by first | (with_reducible assumption) | assumption)
                obtain ⟨ad439, e439, hx439_0⟩ := Kd.at_int (by repeat (first | (with_reducible exact HR438_0.out) | (with_reducible refine Kd.C_alloc ?_ _) | (with_reducible refine Kd.C_drewN ?_ _) | (with_reducible refine Kd.C_drew ?_) | exact HR438_0.out)) x13_4 p439 q439
                cases e439
                replace p439 := eq_true p439
                replace q439 := eq_true q439
                have p72 : 0 ≤ (x13_4 : Int) := of_decide_eq_true (by first | (with_reducible assumption) | assumption)
                have q72 : (x13_4 : Int) < (((rd_L3 x6_4 x12_3).length : Int) : Int) := of_decide_eq_true (by first | (with_reducible assumption) | assumption)
                obtain ⟨go72, co72, eo72, gb72, gl72, cl72, HG72⟩ := Kd.R_form HL435_0.out (by omega)
                (first | cases eo72 | (injection eo72 with ea_ en_ ec_; (first | subst ea_ | (injection ea_ with ea_; subst ea_)); subst ec_; clear en_))
                have GB72 := Aside0.mk gb72
                have GG72 := Aside0.mk HG72
                clear gb72 gl72 HG72
                (first | simp only [add_plain] at hx437_0 | skip)
                obtain ⟨hx72_0, hf72_0⟩ := Kd.R_celln 0 HL435_0.out (x13_4 : Int) p72 q72
                replace p72 := eq_true p72
                replace q72 := eq_true q72
                have hq78 : (x12_3 : Int) < (x6_4.length : Int) := (by have h_ : (x12_3 : Int) < ((x6_4.length : Int) : Int) := of_decide_eq_true (by first | (with_reducible assumption) | assumption); first | exact h_ | (have e_ := (Kd.S_reads' HO_6.out).1; omega) | simpa only [List.length_set, List.length_set] using h_)
                obtain ⟨oki78, ce78, hcl78, hM78, hcc78, hok78, hbk78⟩ := Kd.S_borrow HO_6.out [] (x12_3 : Int) (of_decide_eq_true (by first | (with_reducible assumption) | assumption)) hq78
                obtain ⟨ve78_0, rfl, ge78_0⟩ := hM78
                have hv78 := hcc78 0 _ rfl
                rw [Nat.add_zero, show ((Kd.slice 3 (Kd.int .i64))).sz = 1 from rfl, Nat.mul_one] at hv78
                replace hv78 := Option.some.inj (hv78.symm.trans HX435_0.out)
                subst hv78
                clear hcc78 hcl78
                replace ge78_0 := (show Kd.R (Kd.int .i64) 3 _ _ _ _ (rd_L3 x6_4 x12_3) from ge78_0)
                have HP78 := Kd.R_putg ge78_0 (x13_4 : Int) (wrap64 ((rd (rd_L3 x6_4 x12_3) x11_2) + (rd (rd_L3 x6_4 x11_2) x13_4)))
                rw [← Ny440.out] at HP78
                have HS78 := hbk78 HP78.2 (fun k_ e_ => by injection e_ with e_; subst e_; exact ge78_0.1 _ rfl) (x' := y440) (Kd.M_row HP78.1)
                rw [← Ny442.out] at HS78
                have HQ78 := Aside0.mk HS78
                clear HP78 HS78 hbk78 hok78
                refine start_ (n := 22) (S := fun w' => w'.cell? (ad435.add (x12_3).toNat) = some (.slice (some (⟨go72, 0, none⟩ : Addr)) (rd_L3 x6_4 x12_3).length c435_0) ∧ w'.cell? (ad435.add (x12_3).toNat) = some (.slice (some (⟨go72, 0, none⟩ : Addr)) (rd_L3 x6_4 x12_3).length c435_0) ∧ w'.cell? ⟨go72, (x11_2).toNat, none⟩ = some (.int .i64 (rd (rd_L3 x6_4 x12_3) x11_2)) ∧ w'.cell? (ad435.add (x11_2).toNat) = some (.slice (some ad439) (rd_L3 x6_4 x11_2).length c438_0) ∧ w'.cell? (ad439.add (x13_4).toNat) = some (.int .i64 (rd (rd_L3 x6_4 x11_2) x13_4))) (ds := [21]) (msk 22 0) (by kernel_rfl) rfl rfl ⟨hx435_0, hx436_0, hx437_0, hx438_0, hx439_0⟩ (fun hHeld => ?_); refine with_tabW orreryref19_Better.tab27 orreryref19_Better.bits27 (fun HT_ HW_ => ?_)
                generalize wc.drew = w76 at HO_6 HB GG72 HL435_0 HL436_0 HL438_0 HQ78 HR435_0 HR436_0 HR438_0 HX435_0 HX436_0 HX438_0 hf72_0 hx435_0 hx436_0 hx437_0 hx438_0 hx439_0 hx72_0 hHeld ⊢
                refine pu_ 0 134 (msk 22 1) HT_.out ?_ ?_ ?_ ?_ ?_
                rotate_left
                · intro w'; go_simp; with_reducible rfl
                rotate_left
                · simp only [Act.put, sq, i64_w, i32_w]; rfl
                refine pu_ 1 135 (msk 22 3) HT_.out ?_ ?_ ?_ ?_ ?_
                rotate_left
                · intro w'; go_simp; with_reducible rfl
                rotate_left
                · simp only [Act.put, sq, i64_w, i32_w]; rfl
                refine pu_ 2 136 (msk 22 7) HT_.out ?_ ?_ ?_ ?_ ?_
                rotate_left
                · intro w'; go_simp; with_reducible rfl
                rotate_left
                · simp only [Act.put, sq, i64_w, i32_w]; rfl
                refine pu_ 4 138 (msk 22 23) HT_.out ?_ ?_ ?_ ?_ ?_
                rotate_left
                · intro w'; go_simp; with_reducible rfl
                rotate_left
                · simp only [Act.put, sq, i64_w, i32_w]; rfl
                refine pu_ 5 139 (msk 22 55) HT_.out ?_ ?_ ?_ ?_ ?_
                rotate_left
                · intro w'; go_simp; with_reducible rfl
                rotate_left
                · simp only [Act.put, sq, i64_w, i32_w]; rfl
                refine pu_ 6 140 (msk 22 119) HT_.out ?_ ?_ ?_ ?_ ?_
                rotate_left
                · intro w'; go_simp; with_reducible rfl
                rotate_left
                · simp only [Act.put, sq, i64_w, i32_w]; rfl
                refine pu_ 7 141 (msk 22 247) HT_.out ?_ ?_ ?_ ?_ ?_
                rotate_left
                · intro w'; go_simp; with_reducible rfl
                rotate_left
                · simp only [Act.put, sq, i64_w, i32_w]; rfl
                refine pu_ 9 143 (msk 22 759) HT_.out ?_ ?_ ?_ ?_ ?_
                rotate_left
                · intro w'; go_simp; with_reducible rfl
                rotate_left
                · simp only [Act.put, sq, i64_w, i32_w]; rfl
                refine pu_ 12 146 (msk 22 4855) HT_.out ?_ ?_ ?_ ?_ ?_
                rotate_left
                · intro w'; go_simp; with_reducible rfl
                rotate_left
                · simp only [Act.put, sq, i64_w, i32_w]; rfl
                refine pu_ 13 147 (msk 22 13047) HT_.out ?_ ?_ ?_ ?_ ?_
                rotate_left
                · intro w'; go_simp; with_reducible rfl
                rotate_left
                · simp only [Act.put, sq, i64_w, i32_w]; rfl
                refine pu_ 14 148 (msk 22 29431) HT_.out ?_ ?_ ?_ ?_ ?_
                rotate_left
                · intro w'; go_simp; with_reducible rfl
                rotate_left
                · simp only [Act.put, sq, i64_w, i32_w]; rfl
                refine pu_ 16 150 (msk 22 94967) HT_.out ?_ ?_ ?_ ?_ ?_
                rotate_left
                · intro w'; go_simp; with_reducible rfl
                rotate_left
                · simp only [Act.put, sq, i64_w, i32_w]; rfl
                refine tk_ 3 137 (msk 22 94975) HT_.out HW_.out hHeld ?_ ?_ ?_ ?_ ?_
                rotate_left
                · rintro w' ⟨s0, s1, s2, s3, s4⟩; go_simp; with_reducible rfl
                rotate_left
                · simp only [Act.put, sq, i64_w, i32_w]; rfl
                refine tk_ 8 142 (msk 22 95231) HT_.out HW_.out hHeld ?_ ?_ ?_ ?_ ?_
                rotate_left
                · rintro w' ⟨s0, s1, s2, s3, s4⟩; go_simp; with_reducible rfl
                rotate_left
                · simp only [Act.put, sq, i64_w, i32_w]; rfl
                refine pu_ 10 144 (msk 22 96255) HT_.out ?_ ?_ ?_ ?_ ?_
                rotate_left
                · intro w'; go_simp; with_reducible rfl
                rotate_left
                · simp only [Act.put, sq, i64_w, i32_w]; rfl
                refine tk_ 11 145 (msk 22 98303) HT_.out HW_.out hHeld ?_ ?_ ?_ ?_ ?_
                rotate_left
                · rintro w' ⟨s0, s1, s2, s3, s4⟩; go_simp; with_reducible rfl
                rotate_left
                · simp only [Act.put, sq, i64_w, i32_w]; rfl
                refine tk_ 15 149 (msk 22 131071) HT_.out HW_.out hHeld ?_ ?_ ?_ ?_ ?_
                rotate_left
                · rintro w' ⟨s0, s1, s2, s3, s4⟩; go_simp; with_reducible rfl
                rotate_left
                · simp only [Act.put, sq, i64_w, i32_w]; rfl
                refine pu_ 17 151 (msk 22 262143) HT_.out ?_ ?_ ?_ ?_ ?_
                rotate_left
                · intro w'; go_simp; with_reducible rfl
                rotate_left
                · simp only [Act.put, sq, i64_w, i32_w]; rfl
                refine tk_ 18 152 (msk 22 524287) HT_.out HW_.out hHeld ?_ ?_ ?_ ?_ ?_
                rotate_left
                · rintro w' ⟨s0, s1, s2, s3, s4⟩; go_simp; with_reducible rfl
                rotate_left
                · simp only [Act.put, sq, i64_w, i32_w]; rfl
                refine pu_ 19 153 (msk 22 1048575) HT_.out ?_ ?_ ?_ ?_ ?_
                rotate_left
                · intro w'; go_simp; with_reducible rfl
                rotate_left
                · simp only [Act.put, sq, i64_w, i32_w]; rfl
                refine pu_ 20 154 (msk 22 2097151) HT_.out ?_ ?_ ?_ ?_ ?_
                rotate_left
                · intro w'; go_simp; with_reducible rfl
                rotate_left
                · simp only [Act.put, sq, i64_w, i32_w]; rfl
                refine last_ (i := 21) (N := none) (msk 22 4194303) rfl rfl (one_of HT_.out (by kernel_rfl)) (by decide) (fun K hK => ?_)
                refine skip_ (w1 := ?_) (by rfl) rfl ?_ ?_
                rotate_left
                · go_simp
                  rfl
                refine hK.out _ _ ?_
                clear hK K
                refine done_ (done_of HT_.out (by kernel_rfl)) ?_
                have n0_ : Aside0 (Kd.S (Kd.slice 3 (Kd.int .i64)) 23 (w76.setCell ⟨go72, (x13_4 : Int).toNat, none⟩ (.int .i64 (wrap64 ((rd (rd_L3 x6_4 x12_3) x11_2) + (rd (rd_L3 x6_4 x11_2) x13_4))))) w.heap.size (fun _ => True) (.slice (some ad435) x6_4.length co77) y442) := ⟨by (with_reducible repeat (first | apply Kd.S_alloc | apply Kd.S_drewN | apply Kd.S_drew)); exact HQ78.out⟩
                have n1_ : Aside0 (Below w.heap.size w (w76.setCell ⟨go72, (x13_4 : Int).toNat, none⟩ (.int .i64 (wrap64 ((rd (rd_L3 x6_4 x12_3) x11_2) + (rd (rd_L3 x6_4 x11_2) x13_4)))))) := ⟨by repeat (first | (with_reducible first | exact HB.out | apply below_alloc | apply pw_below_drewN | apply below_drew1 | refine below_set ?_ GB72.out) | exact HB.out)⟩
                (try clear HO_6)
                (try clear HB)
                generalize (w76.setCell ⟨go72, (x13_4 : Int).toNat, none⟩ (.int .i64 (wrap64 ((rd (rd_L3 x6_4 x12_3) x11_2) + (rd (rd_L3 x6_4 x11_2) x13_4))))) = w80 at n0_ n1_ ⊢
                have HO_6 := n0_
                have HB := n1_
                clear n0_ n1_
                have p443 : 0 ≤ (x12_3 : Int) := of_decide_eq_true (by first | (with_reducible assumption) | assumption)
                have q443 : x12_3 < (y442.length : Int) := (by have h_ : (x12_3 : Int) < ((x6_4.length : Int) : Int) := of_decide_eq_true (by first | (with_reducible assumption) | assumption); first | (have e_ := (Kd.S_reads' HO_6.out).1; omega) | simpa only [Ny442.out, List.length_set] using h_)
                have ql443 : ((x12_3 : Int) < ((x6_4.length : Int) : Int)) = True := eq_true (of_decide_eq_true (by first | (with_reducible assumption) | assumption))
                obtain ⟨ad443, A443_0, c443_0, e443, hx443_0, hl443_0, hi443_0⟩ := at_L3 (Kd.S_reads' HO_6.out).2.2 x12_3 p443 q443
                obtain rfl : ad435 = ad443 := (by injection e443)
                obtain ⟨ce443, hce443, hMe443, hcc443⟩ := Kd.S_get HO_6.out [] x12_3 p443 (by first | exact q443 | exact of_decide_eq_true (by first | (with_reducible assumption) | assumption) | (have e_ := (Kd.S_reads' HO_6.out).1; omega))
                obtain ⟨ve443_0, rfl, ge443_0⟩ := hMe443
                have hv443_0 := hcc443 0 _ rfl
                rw [Nat.add_zero, show ((Kd.slice 3 (Kd.int .i64))).sz = 1 from rfl, Nat.mul_one] at hv443_0
                replace hv443_0 := Option.some.inj (hv443_0.symm.trans hx443_0)
                rw [hv443_0] at ge443_0
                have HL443_0 := Aside0.mk (show Kd.R (Kd.int .i64) 3 _ _ _ _ (rd_L3 y442 x12_3) from ge443_0)
                clear hv443_0 ge443_0
                have HX443_0 := Aside0.mk hx443_0
                clear hcc443 hce443
                have HR443_0 := Aside0.mk hi443_0
                have HC443_0 := Aside0.mk hl443_0
                clear hi443_0 hl443_0
                replace p443 := eq_true p443
                replace q443 := eq_true q443
                have p444 : 0 ≤ (x13_4 : Int) := of_decide_eq_true (by first | (with_reducible assumption) | assumption)
                have q444 : x13_4 < ((rd_L3 y442 x12_3).length : Int) := of_decide_eq_true (by first | (with_reducible assumption) | assumption)
                obtain ⟨ad444, e444, hx444_0⟩ := Kd.at_int (by repeat (first | (with_reducible exact HR443_0.out) | (with_reducible refine Kd.C_alloc ?_ _) | (with_reducible refine Kd.C_drewN ?_ _) | (with_reducible refine Kd.C_drew ?_) | exact HR443_0.out)) x13_4 p444 q444
                cases e444
                replace p444 := eq_true p444
                replace q444 := eq_true q444
                try go_wp2
                go_ret
                exact ⟨by first | rfl | (simp [errW_none, errW_some] <;> rfl) | (simp [*, errW_none, errW_some] <;> rfl), by repeat (first | (with_reducible first | exact HB.out | apply below_alloc | apply pw_below_drewN | apply below_drew1) | exact HB.out)⟩
               rw [if_neg c75] at H
               have c75b0 : decide (0 < (rd (rd_L3 y442 x12_3) x13_4)) = false := decide_eq_false c75
               clear c75
               have H' := Aside0.mk H
               clear H
               try go_wp2
               have n0_ := Aside0.mk (Kd.S_drew HO_6.out)
               have n1_ := Aside0.mk (below_drew1 HB.out)
               clear HO_6
               clear HB
               have HO_6 := n0_
               have HB := n1_
               clear n0_ n1_
               obtain ⟨Ao82, co82, eo82⟩ := Kd.S_slice HO_6.out
               (first | subst eo82 | (injection eo82 with f1_ f2_ f3_; have f4_ := f1_.symm; have f5_ := f3_.symm; clear f1_ f2_ f3_; subst f4_; subst f5_))
               have p435 : 0 ≤ (x12_3 : Int) := of_decide_eq_true (by first | (with_reducible assumption) | assumption)
               have q435 : x12_3 < (x6_4.length : Int) := of_decide_eq_true (by first | (with_reducible assumption) | assumption)
               obtain ⟨ad435, A435_0, c435_0, e435, hx435_0, hl435_0, hi435_0⟩ := at_L3 (Kd.S_reads' HO_6.out).2.2 x12_3 p435 q435
               cases e435
               obtain ⟨ce435, hce435, hMe435, hcc435⟩ := Kd.S_get HO_6.out [] x12_3 p435 (by first | exact q435 | exact of_decide_eq_true (by first | (with_reducible assumption) | assumption) | (have e_ := (Kd.S_reads' HO_6.out).1; omega))
               obtain ⟨ve435_0, rfl, ge435_0⟩ := hMe435
               have hv435_0 := hcc435 0 _ rfl
               rw [Nat.add_zero, show ((Kd.slice 3 (Kd.int .i64))).sz = 1 from rfl, Nat.mul_one] at hv435_0
               replace hv435_0 := Option.some.inj (hv435_0.symm.trans hx435_0)
               rw [hv435_0] at ge435_0
               have HL435_0 := Aside0.mk (show Kd.R (Kd.int .i64) 3 _ _ _ _ (rd_L3 x6_4 x12_3) from ge435_0)
               clear hv435_0 ge435_0
               have HX435_0 := Aside0.mk hx435_0
               clear hcc435 hce435
               have HR435_0 := Aside0.mk hi435_0
               have HC435_0 := Aside0.mk hl435_0
               clear hi435_0 hl435_0
               replace p435 := eq_true p435
               replace q435 := eq_true q435
               have p436 : 0 ≤ (x12_3 : Int) := of_decide_eq_true (by first | (with_reducible assumption) | assumption)
               have q436 : x12_3 < (x6_4.length : Int) := of_decide_eq_true (by first | (with_reducible assumption) | assumption)
               obtain ⟨ad436, A436_0, c436_0, e436, hx436_0, hl436_0, hi436_0⟩ := at_L3 (Kd.S_reads' HO_6.out).2.2 x12_3 p436 q436
               obtain rfl : ad435 = ad436 := (by injection e436)
               obtain ⟨ce436, hce436, hMe436, hcc436⟩ := Kd.S_get HO_6.out [] x12_3 p436 (by first | exact q436 | exact of_decide_eq_true (by first | (with_reducible assumption) | assumption) | (have e_ := (Kd.S_reads' HO_6.out).1; omega))
               obtain ⟨ve436_0, rfl, ge436_0⟩ := hMe436
               have hv436_0 := hcc436 0 _ rfl
               rw [Nat.add_zero, show ((Kd.slice 3 (Kd.int .i64))).sz = 1 from rfl, Nat.mul_one] at hv436_0
               replace hv436_0 := Option.some.inj (hv436_0.symm.trans hx436_0)
               rw [hv436_0] at ge436_0
               have HL436_0 := Aside0.mk (show Kd.R (Kd.int .i64) 3 _ _ _ _ (rd_L3 x6_4 x12_3) from ge436_0)
               clear hv436_0 ge436_0
               have HX436_0 := Aside0.mk hx436_0
               clear hcc436 hce436
               have HR436_0 := Aside0.mk hi436_0
               have HC436_0 := Aside0.mk hl436_0
               clear hi436_0 hl436_0
               replace p436 := eq_true p436
               replace q436 := eq_true q436
               have ea_ := Option.some.inj (hx435_0.symm.trans hx436_0)
               injection ea_ with ea_ en_ ec_
               subst ea_
               subst ec_
               clear en_
               have p437 : 0 ≤ (x11_2 : Int) := of_decide_eq_true (by first | (with_reducible assumption) | assumption)
               have q437 : x11_2 < ((rd_L3 x6_4 x12_3).length : Int) := of_decide_eq_true (by first | (with_reducible assumption) | assumption)
               obtain ⟨ad437, e437, hx437_0⟩ := Kd.at_int (by repeat (first | (with_reducible exact HR436_0.out) | (with_reducible refine Kd.C_alloc ?_ _) | (with_reducible refine Kd.C_drewN ?_ _) | (with_reducible refine Kd.C_drew ?_) | exact HR436_0.out)) x11_2 p437 q437
               cases e437
               replace p437 := eq_true p437
               replace q437 := eq_true q437
               have p438 : 0 ≤ (x11_2 : Int) := of_decide_eq_true (by first | (with_reducible assumption) | assumption)
               have q438 : x11_2 < (x6_4.length : Int) := of_decide_eq_true (by first | (with_reducible assumption) | assumption)
               obtain ⟨ad438, A438_0, c438_0, e438, hx438_0, hl438_0, hi438_0⟩ := at_L3 (Kd.S_reads' HO_6.out).2.2 x11_2 p438 q438
               obtain rfl : ad435 = ad438 := (by injection e438)
               obtain ⟨ce438, hce438, hMe438, hcc438⟩ := Kd.S_get HO_6.out [] x11_2 p438 (by first | exact q438 | exact of_decide_eq_true (by first | (with_reducible assumption) | assumption) | (have e_ := (Kd.S_reads' HO_6.out).1; omega))
               obtain ⟨ve438_0, rfl, ge438_0⟩ := hMe438
               have hv438_0 := hcc438 0 _ rfl
               rw [Nat.add_zero, show ((Kd.slice 3 (Kd.int .i64))).sz = 1 from rfl, Nat.mul_one] at hv438_0
               replace hv438_0 := Option.some.inj (hv438_0.symm.trans hx438_0)
               rw [hv438_0] at ge438_0
               have HL438_0 := Aside0.mk (show Kd.R (Kd.int .i64) 3 _ _ _ _ (rd_L3 x6_4 x11_2) from ge438_0)
               clear hv438_0 ge438_0
               have HX438_0 := Aside0.mk hx438_0
               clear hcc438 hce438
               have HR438_0 := Aside0.mk hi438_0
               have HC438_0 := Aside0.mk hl438_0
               clear hi438_0 hl438_0
               replace p438 := eq_true p438
               replace q438 := eq_true q438
               have p439 : 0 ≤ (x13_4 : Int) := of_decide_eq_true (by first | (with_reducible assumption) | assumption)
               have q439 : x13_4 < ((rd_L3 x6_4 x11_2).length : Int) := of_decide_eq_true (by first | (with_reducible assumption) | assumption)
               obtain ⟨ad439, e439, hx439_0⟩ := Kd.at_int (by repeat (first | (with_reducible exact HR438_0.out) | (with_reducible refine Kd.C_alloc ?_ _) | (with_reducible refine Kd.C_drewN ?_ _) | (with_reducible refine Kd.C_drew ?_) | exact HR438_0.out)) x13_4 p439 q439
               cases e439
               replace p439 := eq_true p439
               replace q439 := eq_true q439
               have p72 : 0 ≤ (x13_4 : Int) := of_decide_eq_true (by first | (with_reducible assumption) | assumption)
               have q72 : (x13_4 : Int) < (((rd_L3 x6_4 x12_3).length : Int) : Int) := of_decide_eq_true (by first | (with_reducible assumption) | assumption)
               obtain ⟨go72, co72, eo72, gb72, gl72, cl72, HG72⟩ := Kd.R_form HL435_0.out (by omega)
               (first | cases eo72 | (injection eo72 with ea_ en_ ec_; (first | subst ea_ | (injection ea_ with ea_; subst ea_)); subst ec_; clear en_))
               have GB72 := Aside0.mk gb72
               have GG72 := Aside0.mk HG72
               clear gb72 gl72 HG72
               (first | simp only [add_plain] at hx437_0 | skip)
               obtain ⟨hx72_0, hf72_0⟩ := Kd.R_celln 0 HL435_0.out (x13_4 : Int) p72 q72
               replace p72 := eq_true p72
               replace q72 := eq_true q72
               have hq83 : (x12_3 : Int) < (x6_4.length : Int) := (by have h_ : (x12_3 : Int) < ((x6_4.length : Int) : Int) := of_decide_eq_true (by first | (with_reducible assumption) | assumption); first | exact h_ | (have e_ := (Kd.S_reads' HO_6.out).1; omega) | simpa only [List.length_set, List.length_set] using h_)
               obtain ⟨oki83, ce83, hcl83, hM83, hcc83, hok83, hbk83⟩ := Kd.S_borrow HO_6.out [] (x12_3 : Int) (of_decide_eq_true (by first | (with_reducible assumption) | assumption)) hq83
               obtain ⟨ve83_0, rfl, ge83_0⟩ := hM83
               have hv83 := hcc83 0 _ rfl
               rw [Nat.add_zero, show ((Kd.slice 3 (Kd.int .i64))).sz = 1 from rfl, Nat.mul_one] at hv83
               replace hv83 := Option.some.inj (hv83.symm.trans HX435_0.out)
               subst hv83
               clear hcc83 hcl83
               replace ge83_0 := (show Kd.R (Kd.int .i64) 3 _ _ _ _ (rd_L3 x6_4 x12_3) from ge83_0)
               have HP83 := Kd.R_putg ge83_0 (x13_4 : Int) (wrap64 ((rd (rd_L3 x6_4 x12_3) x11_2) + (rd (rd_L3 x6_4 x11_2) x13_4)))
               rw [← Ny440.out] at HP83
               have HS83 := hbk83 HP83.2 (fun k_ e_ => by injection e_ with e_; subst e_; exact ge83_0.1 _ rfl) (x' := y440) (Kd.M_row HP83.1)
               rw [← Ny442.out] at HS83
               have HQ83 := Aside0.mk HS83
               clear HP83 HS83 hbk83 hok83
               refine start_ (n := 22) (S := fun w' => w'.cell? (ad435.add (x12_3).toNat) = some (.slice (some (⟨go72, 0, none⟩ : Addr)) (rd_L3 x6_4 x12_3).length c435_0) ∧ w'.cell? (ad435.add (x12_3).toNat) = some (.slice (some (⟨go72, 0, none⟩ : Addr)) (rd_L3 x6_4 x12_3).length c435_0) ∧ w'.cell? ⟨go72, (x11_2).toNat, none⟩ = some (.int .i64 (rd (rd_L3 x6_4 x12_3) x11_2)) ∧ w'.cell? (ad435.add (x11_2).toNat) = some (.slice (some ad439) (rd_L3 x6_4 x11_2).length c438_0) ∧ w'.cell? (ad439.add (x13_4).toNat) = some (.int .i64 (rd (rd_L3 x6_4 x11_2) x13_4))) (ds := [21]) (msk 22 0) (by kernel_rfl) rfl rfl ⟨hx435_0, hx436_0, hx437_0, hx438_0, hx439_0⟩ (fun hHeld => ?_); refine with_tabW orreryref19_Better.tab27 orreryref19_Better.bits27 (fun HT_ HW_ => ?_)
               generalize wc.drew = w81 at HO_6 HB GG72 HL435_0 HL436_0 HL438_0 HQ83 HR435_0 HR436_0 HR438_0 HX435_0 HX436_0 HX438_0 hf72_0 hx435_0 hx436_0 hx437_0 hx438_0 hx439_0 hx72_0 hHeld ⊢
               refine pu_ 0 134 (msk 22 1) HT_.out ?_ ?_ ?_ ?_ ?_
               rotate_left
               · intro w'; go_simp; with_reducible rfl
               rotate_left
               · simp only [Act.put, sq, i64_w, i32_w]; rfl
               refine pu_ 1 135 (msk 22 3) HT_.out ?_ ?_ ?_ ?_ ?_
               rotate_left
               · intro w'; go_simp; with_reducible rfl
               rotate_left
               · simp only [Act.put, sq, i64_w, i32_w]; rfl
               refine pu_ 2 136 (msk 22 7) HT_.out ?_ ?_ ?_ ?_ ?_
               rotate_left
               · intro w'; go_simp; with_reducible rfl
               rotate_left
               · simp only [Act.put, sq, i64_w, i32_w]; rfl
               refine pu_ 4 138 (msk 22 23) HT_.out ?_ ?_ ?_ ?_ ?_
               rotate_left
               · intro w'; go_simp; with_reducible rfl
               rotate_left
               · simp only [Act.put, sq, i64_w, i32_w]; rfl
               refine pu_ 5 139 (msk 22 55) HT_.out ?_ ?_ ?_ ?_ ?_
               rotate_left
               · intro w'; go_simp; with_reducible rfl
               rotate_left
               · simp only [Act.put, sq, i64_w, i32_w]; rfl
               refine pu_ 6 140 (msk 22 119) HT_.out ?_ ?_ ?_ ?_ ?_
               rotate_left
               · intro w'; go_simp; with_reducible rfl
               rotate_left
               · simp only [Act.put, sq, i64_w, i32_w]; rfl
               refine pu_ 7 141 (msk 22 247) HT_.out ?_ ?_ ?_ ?_ ?_
               rotate_left
               · intro w'; go_simp; with_reducible rfl
               rotate_left
               · simp only [Act.put, sq, i64_w, i32_w]; rfl
               refine pu_ 9 143 (msk 22 759) HT_.out ?_ ?_ ?_ ?_ ?_
               rotate_left
               · intro w'; go_simp; with_reducible rfl
               rotate_left
               · simp only [Act.put, sq, i64_w, i32_w]; rfl
               refine pu_ 12 146 (msk 22 4855) HT_.out ?_ ?_ ?_ ?_ ?_
               rotate_left
               · intro w'; go_simp; with_reducible rfl
               rotate_left
               · simp only [Act.put, sq, i64_w, i32_w]; rfl
               refine pu_ 13 147 (msk 22 13047) HT_.out ?_ ?_ ?_ ?_ ?_
               rotate_left
               · intro w'; go_simp; with_reducible rfl
               rotate_left
               · simp only [Act.put, sq, i64_w, i32_w]; rfl
               refine pu_ 14 148 (msk 22 29431) HT_.out ?_ ?_ ?_ ?_ ?_
               rotate_left
               · intro w'; go_simp; with_reducible rfl
               rotate_left
               · simp only [Act.put, sq, i64_w, i32_w]; rfl
               refine pu_ 16 150 (msk 22 94967) HT_.out ?_ ?_ ?_ ?_ ?_
               rotate_left
               · intro w'; go_simp; with_reducible rfl
               rotate_left
               · simp only [Act.put, sq, i64_w, i32_w]; rfl
               refine tk_ 3 137 (msk 22 94975) HT_.out HW_.out hHeld ?_ ?_ ?_ ?_ ?_
               rotate_left
               · rintro w' ⟨s0, s1, s2, s3, s4⟩; go_simp; with_reducible rfl
               rotate_left
               · simp only [Act.put, sq, i64_w, i32_w]; rfl
               refine tk_ 8 142 (msk 22 95231) HT_.out HW_.out hHeld ?_ ?_ ?_ ?_ ?_
               rotate_left
               · rintro w' ⟨s0, s1, s2, s3, s4⟩; go_simp; with_reducible rfl
               rotate_left
               · simp only [Act.put, sq, i64_w, i32_w]; rfl
               refine pu_ 10 144 (msk 22 96255) HT_.out ?_ ?_ ?_ ?_ ?_
               rotate_left
               · intro w'; go_simp; with_reducible rfl
               rotate_left
               · simp only [Act.put, sq, i64_w, i32_w]; rfl
               refine tk_ 11 145 (msk 22 98303) HT_.out HW_.out hHeld ?_ ?_ ?_ ?_ ?_
               rotate_left
               · rintro w' ⟨s0, s1, s2, s3, s4⟩; go_simp; with_reducible rfl
               rotate_left
               · simp only [Act.put, sq, i64_w, i32_w]; rfl
               refine tk_ 15 149 (msk 22 131071) HT_.out HW_.out hHeld ?_ ?_ ?_ ?_ ?_
               rotate_left
               · rintro w' ⟨s0, s1, s2, s3, s4⟩; go_simp; with_reducible rfl
               rotate_left
               · simp only [Act.put, sq, i64_w, i32_w]; rfl
               refine pu_ 17 151 (msk 22 262143) HT_.out ?_ ?_ ?_ ?_ ?_
               rotate_left
               · intro w'; go_simp; with_reducible rfl
               rotate_left
               · simp only [Act.put, sq, i64_w, i32_w]; rfl
               refine tk_ 18 152 (msk 22 524287) HT_.out HW_.out hHeld ?_ ?_ ?_ ?_ ?_
               rotate_left
               · rintro w' ⟨s0, s1, s2, s3, s4⟩; go_simp; with_reducible rfl
               rotate_left
               · simp only [Act.put, sq, i64_w, i32_w]; rfl
               refine pu_ 19 153 (msk 22 1048575) HT_.out ?_ ?_ ?_ ?_ ?_
               rotate_left
               · intro w'; go_simp; with_reducible rfl
               rotate_left
               · simp only [Act.put, sq, i64_w, i32_w]; rfl
               refine pu_ 20 154 (msk 22 2097151) HT_.out ?_ ?_ ?_ ?_ ?_
               rotate_left
               · intro w'; go_simp; with_reducible rfl
               rotate_left
               · simp only [Act.put, sq, i64_w, i32_w]; rfl
               refine last_ (i := 21) (N := none) (msk 22 4194303) rfl rfl (one_of HT_.out (by kernel_rfl)) (by decide) (fun K hK => ?_)
               refine skip_ (w1 := ?_) (by rfl) rfl ?_ ?_
               rotate_left
               · go_simp
                 rfl
               refine hK.out _ _ ?_
               clear hK K
               refine done_ (done_of HT_.out (by kernel_rfl)) ?_
               have n0_ : Aside0 (Kd.S (Kd.slice 3 (Kd.int .i64)) 23 (w81.setCell ⟨go72, (x13_4 : Int).toNat, none⟩ (.int .i64 (wrap64 ((rd (rd_L3 x6_4 x12_3) x11_2) + (rd (rd_L3 x6_4 x11_2) x13_4))))) w.heap.size (fun _ => True) (.slice (some ad435) x6_4.length co82) y442) := ⟨by (with_reducible repeat (first | apply Kd.S_alloc | apply Kd.S_drewN | apply Kd.S_drew)); exact HQ83.out⟩
               have n1_ : Aside0 (Below w.heap.size w (w81.setCell ⟨go72, (x13_4 : Int).toNat, none⟩ (.int .i64 (wrap64 ((rd (rd_L3 x6_4 x12_3) x11_2) + (rd (rd_L3 x6_4 x11_2) x13_4)))))) := ⟨by repeat (first | (with_reducible first | exact HB.out | apply below_alloc | apply pw_below_drewN | apply below_drew1 | refine below_set ?_ GB72.out) | exact HB.out)⟩
               (try clear HO_6)
               (try clear HB)
               generalize (w81.setCell ⟨go72, (x13_4 : Int).toNat, none⟩ (.int .i64 (wrap64 ((rd (rd_L3 x6_4 x12_3) x11_2) + (rd (rd_L3 x6_4 x11_2) x13_4))))) = w85 at n0_ n1_ ⊢
               have HO_6 := n0_
               have HB := n1_
               clear n0_ n1_
               have p443 : 0 ≤ (x12_3 : Int) := of_decide_eq_true (by first | (with_reducible assumption) | assumption)
               have q443 : x12_3 < (y442.length : Int) := (by have h_ : (x12_3 : Int) < ((x6_4.length : Int) : Int) := of_decide_eq_true (by first | (with_reducible assumption) | assumption); first | (have e_ := (Kd.S_reads' HO_6.out).1; omega) | simpa only [Ny442.out, List.length_set] using h_)
               have ql443 : ((x12_3 : Int) < ((x6_4.length : Int) : Int)) = True := eq_true (of_decide_eq_true (by first | (with_reducible assumption) | assumption))
               obtain ⟨ad443, A443_0, c443_0, e443, hx443_0, hl443_0, hi443_0⟩ := at_L3 (Kd.S_reads' HO_6.out).2.2 x12_3 p443 q443
               obtain rfl : ad435 = ad443 := (by injection e443)
               obtain ⟨ce443, hce443, hMe443, hcc443⟩ := Kd.S_get HO_6.out [] x12_3 p443 (by first | exact q443 | exact of_decide_eq_true (by first | (with_reducible assumption) | assumption) | (have e_ := (Kd.S_reads' HO_6.out).1; omega))
               obtain ⟨ve443_0, rfl, ge443_0⟩ := hMe443
               have hv443_0 := hcc443 0 _ rfl
               rw [Nat.add_zero, show ((Kd.slice 3 (Kd.int .i64))).sz = 1 from rfl, Nat.mul_one] at hv443_0
               replace hv443_0 := Option.some.inj (hv443_0.symm.trans hx443_0)
               rw [hv443_0] at ge443_0
               have HL443_0 := Aside0.mk (show Kd.R (Kd.int .i64) 3 _ _ _ _ (rd_L3 y442 x12_3) from ge443_0)
               clear hv443_0 ge443_0
               have HX443_0 := Aside0.mk hx443_0
               clear hcc443 hce443
               have HR443_0 := Aside0.mk hi443_0
               have HC443_0 := Aside0.mk hl443_0
               clear hi443_0 hl443_0
               replace p443 := eq_true p443
               replace q443 := eq_true q443
               have p444 : 0 ≤ (x13_4 : Int) := of_decide_eq_true (by first | (with_reducible assumption) | assumption)
               have q444 : x13_4 < ((rd_L3 y442 x12_3).length : Int) := of_decide_eq_true (by first | (with_reducible assumption) | assumption)
               obtain ⟨ad444, e444, hx444_0⟩ := Kd.at_int (by repeat (first | (with_reducible exact HR443_0.out) | (with_reducible refine Kd.C_alloc ?_ _) | (with_reducible refine Kd.C_drewN ?_ _) | (with_reducible refine Kd.C_drew ?_) | exact HR443_0.out)) x13_4 p444 q444
               cases e444
               replace p444 := eq_true p444
               replace q444 := eq_true q444
               try go_wp2
               (first | go_roundg kj45 | (refine Handed.intro kj45 ?measure ?_; rotate_left; go_step; (repeat apply Exists.intro); (refine ⟨?rel, ?fr_⟩); (case fr_ => (simp only [add_plain]; rfl))))
               case measure => have := HK1.out; have := HK2.out; have := HK3.out; have := HK4.out; have := HJ45.out; omega
               case rel => exact ⟨(y442), (wrap64 (x13_4 + 1)), (by first | rfl | (simp; done) | (simp [*]; done)), H', ⟨by have := HK1.out; have := HK2.out; have := HK3.out; have := HK4.out; have := HJ45.out; omega⟩, ⟨by (with_reducible repeat (first | apply Kd.S_alloc | apply Kd.S_drewN | apply Kd.S_drew)); exact HO_6.out⟩, ⟨by repeat (first | (with_reducible first | exact HB.out | apply below_alloc | apply pw_below_drewN | apply below_drew1) | exact HB.out)⟩⟩

end Go.Proofs.Ytamloclgignfgaa.PA
