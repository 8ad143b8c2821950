/- What the Go functions of this part compute, as Lean functions, and that the machine's calls come to just that; written for this claim by a program of the session (gen.sh, after the kit's printer). -/
import Derived.Test.YtamloclgignfgaaPAx0
import Derived.Test.YtamloclgignfgaaPAx11
namespace Go.Proofs.Ytamloclgignfgaa.PA
open Go.RowKit Go.Proofs.YtamloclgignfgaaW.PrintWords Go.Proofs.YtamloclgignfgaaW.PrintLast Go.Proofs.YtamloclgignfgaaW.PrintMore
attribute [local go_sem] max2_int min2_int max_two min_two max_three min_three max_four min_four   -- for this text's walks alone
set_option linter.unusedVariables false
set_option linter.unusedSimpArgs false

/-! ### orrerylaw20_OffsetPlain: function 6 -/
mutual
def orrerylaw20_OffsetPlain.l0 : Nat → List Int → List Int → Int → List (S40) → List (S40) → List Int → List Int → Int → Int → Option (Bool)
  | 0, _, _, _, _, _, _, _, _, _ => none
  | k + 1, x0, x1, x5, x6, x7, x8, x26, x27, x28 => if x28 < x27 then (if 0 ≤ x28 then (if x28 < (x26.length : Int) then (if x5 > 40 then (orrerylaw20_OffsetPlain.j1 k x0 x1 x5 x6 x7 x8 x28 (rd x26 x28) x26 x27 x28 true) else (if (rd x26 x28) < 0 then (orrerylaw20_OffsetPlain.j1 k x0 x1 x5 x6 x7 x8 x28 (rd x26 x28) x26 x27 x28 true) else (if (rd x26 x28) ≥ x5 then (orrerylaw20_OffsetPlain.j1 k x0 x1 x5 x6 x7 x8 x28 (rd x26 x28) x26 x27 x28 true) else (if 0 ≤ (rd x26 x28) then (if (rd x26 x28) < (x8.length : Int) then (orrerylaw20_OffsetPlain.j1 k x0 x1 x5 x6 x7 x8 x28 (rd x26 x28) x26 x27 x28 ((rd x8 (rd x26 x28)) == 1)) else (none)) else (none))))) else (none)) else (none)) else ((offset_Offsets.f k x5 x6 x0).bind fun bt299 => ((offset_Offsets.f k x5 x7 x0).bind fun bt306 => (if bt299.2.2 = 0 then (if bt306.2.2 = 0 then (if (bt299.1.length : Int) = x5 then (orrerylaw20_OffsetPlain.j4 k x0 x1 bt299.1 bt299.2.1 bt306.1 bt306.2.1 ((bt306.1.length : Int) != x5)) else (orrerylaw20_OffsetPlain.j4 k x0 x1 bt299.1 bt299.2.1 bt306.1 bt306.2.1 true)) else (orrerylaw20_OffsetPlain.j4 k x0 x1 bt299.1 bt299.2.1 bt306.1 bt306.2.1 true)) else (orrerylaw20_OffsetPlain.j4 k x0 x1 bt299.1 bt299.2.1 bt306.1 bt306.2.1 true))))
def orrerylaw20_OffsetPlain.j1 : Nat → List Int → List Int → Int → List (S40) → List (S40) → List Int → Int → Int → List Int → Int → Int → Bool → Option (Bool)
  | 0, _, _, _, _, _, _, _, _, _, _, _, _ => none
  | k + 1, x0, x1, x5, x6, x7, x8, x9, x10, x26, x27, x28, x50 => if x50 = true then (some true) else (if 0 ≤ x10 then (if x10 < (x8.length : Int) then ((some (x8.set (x10 : Int).toNat 1 : List Int)).bind fun y288 => (if x9 < (x1.length : Int) then (if 0 ≤ x9 then (orrerylaw20_OffsetPlain.j2 k x0 x1 x5 x6 x7 y288 x9 x10 (Int.tmod (wrap64 ((Int.tmod (rd x1 x9) 4) + 4)) 4) x26 x27 x28) else (none)) else (orrerylaw20_OffsetPlain.j2 k x0 x1 x5 x6 x7 y288 x9 x10 0 x26 x27 x28))) else (none)) else (none))
def orrerylaw20_OffsetPlain.j2 : Nat → List Int → List Int → Int → List (S40) → List (S40) → List Int → Int → Int → Int → List Int → Int → Int → Option (Bool)
  | 0, _, _, _, _, _, _, _, _, _, _, _, _ => none
  | k + 1, x0, x1, x5, x6, x7, x8, x9, x10, x11, x26, x27, x28 => orrerylaw20_OffsetPlain.l1 k x0 x1 x5 x6 x7 x8 x9 x10 x11 0 x26 x27 x28
def orrerylaw20_OffsetPlain.l1 : Nat → List Int → List Int → Int → List (S40) → List (S40) → List Int → Int → Int → Int → Int → List Int → Int → Int → Option (Bool)
  | 0, _, _, _, _, _, _, _, _, _, _, _, _, _ => none
  | k + 1, x0, x1, x5, x6, x7, x8, x9, x10, x11, x12, x26, x27, x28 => if x12 < x5 then (if x6.length < 5864062014805 then (if x7.length < 5864062014805 then (orrerylaw20_OffsetPlain.l1 k x0 x1 x5 (x6 ++ [(⟨x9, x12, 0⟩ : S40)]) (x7 ++ [(⟨x9, x12, 0⟩ : S40)]) x8 x9 x10 x11 (wrap64 (x12 + 1)) x26 x27 x28) else (none)) else (none)) else (if x7.length < 5864062014805 then (orrerylaw20_OffsetPlain.l0 k x0 x1 x5 x6 (x7 ++ [(⟨x9, x10, x11⟩ : S40)]) x8 x26 x27 (wrap64 (x28 + 1))) else (none))
def orrerylaw20_OffsetPlain.j4 : Nat → List Int → List Int → List Int → List Int → List Int → List Int → Bool → Option (Bool)
  | 0, _, _, _, _, _, _, _ => none
  | k + 1, x0, x1, x13, x14, x16, x17, x123 => if x123 = true then (some false) else (orrerylaw20_OffsetPlain.l2 k x1 x13 x14 x16 x17 x0 (x0.length : Int) 0)
def orrerylaw20_OffsetPlain.l2 : Nat → List Int → List Int → List Int → List Int → List Int → List Int → Int → Int → Option (Bool)
  | 0, _, _, _, _, _, _, _, _ => none
  | k + 1, x1, x13, x14, x16, x17, x124, x125, x126 => if x126 < x125 then (if 0 ≤ x126 then (if x126 < (x124.length : Int) then (if x126 < (x1.length : Int) then (if x126 < (x13.length : Int) then (if (rd x13 x126) = 0 then (if x126 < (x14.length : Int) then (if (rd x14 x126) = 0 then (if x126 < (x16.length : Int) then (if (rd x16 x126) = 0 then (if 0 ≤ (rd x124 x126) then (if (rd x124 x126) < (x17.length : Int) then (if (rd x17 (rd x124 x126)) = (Int.tmod (wrap64 ((Int.tmod (rd x1 x126) 4) + 4)) 4) then (orrerylaw20_OffsetPlain.l2 k x1 x13 x14 x16 x17 x124 x125 (wrap64 (x126 + 1))) else (some false)) else (none)) else (none)) else (some false)) else (none)) else (some false)) else (none)) else (some false)) else (none)) else (if x126 < (x13.length : Int) then (if (rd x13 x126) = 0 then (if x126 < (x14.length : Int) then (if (rd x14 x126) = 0 then (if x126 < (x16.length : Int) then (if (rd x16 x126) = 0 then (if 0 ≤ (rd x124 x126) then (if (rd x124 x126) < (x17.length : Int) then (if (rd x17 (rd x124 x126)) = 0 then (orrerylaw20_OffsetPlain.l2 k x1 x13 x14 x16 x17 x124 x125 (wrap64 (x126 + 1))) else (some false)) else (none)) else (none)) else (some false)) else (none)) else (some false)) else (none)) else (some false)) else (none))) else (none)) else (none)) else (some true)
end
def orrerylaw20_OffsetPlain.f (k : Nat) (l0 : List Int) (l1 : List Int) : Option (Bool) := if 0 ≤ (l0.length : Int) then (if ((l0.length : Int) : Int).toNat ≤ 35184372088832 then (orrerylaw20_OffsetPlain.l0 k l0 l1 (l0.length : Int) ([] : List (S40)) ([] : List (S40)) (List.replicate ((l0.length : Int) : Int).toNat 0) l0 (l0.length : Int) 0) else (none)) else (none)
theorem orrerylaw20_OffsetPlain.mono_l : ∀ k, (∀ y0 y1 y2 y3 y4 y5 y6 y7 y8, LeO (orrerylaw20_OffsetPlain.l0 k y0 y1 y2 y3 y4 y5 y6 y7 y8) (orrerylaw20_OffsetPlain.l0 (k + 1) y0 y1 y2 y3 y4 y5 y6 y7 y8)) ∧ (∀ y0 y1 y2 y3 y4 y5 y6 y7 y8 y9 y10 y11, LeO (orrerylaw20_OffsetPlain.j1 k y0 y1 y2 y3 y4 y5 y6 y7 y8 y9 y10 y11) (orrerylaw20_OffsetPlain.j1 (k + 1) y0 y1 y2 y3 y4 y5 y6 y7 y8 y9 y10 y11)) ∧ (∀ y0 y1 y2 y3 y4 y5 y6 y7 y8 y9 y10 y11, LeO (orrerylaw20_OffsetPlain.j2 k y0 y1 y2 y3 y4 y5 y6 y7 y8 y9 y10 y11) (orrerylaw20_OffsetPlain.j2 (k + 1) y0 y1 y2 y3 y4 y5 y6 y7 y8 y9 y10 y11)) ∧ (∀ y0 y1 y2 y3 y4 y5 y6 y7 y8 y9 y10 y11 y12, LeO (orrerylaw20_OffsetPlain.l1 k y0 y1 y2 y3 y4 y5 y6 y7 y8 y9 y10 y11 y12) (orrerylaw20_OffsetPlain.l1 (k + 1) y0 y1 y2 y3 y4 y5 y6 y7 y8 y9 y10 y11 y12)) ∧ (∀ y0 y1 y2 y3 y4 y5 y6, LeO (orrerylaw20_OffsetPlain.j4 k y0 y1 y2 y3 y4 y5 y6) (orrerylaw20_OffsetPlain.j4 (k + 1) y0 y1 y2 y3 y4 y5 y6)) ∧ (∀ y0 y1 y2 y3 y4 y5 y6 y7, LeO (orrerylaw20_OffsetPlain.l2 k y0 y1 y2 y3 y4 y5 y6 y7) (orrerylaw20_OffsetPlain.l2 (k + 1) y0 y1 y2 y3 y4 y5 y6 y7))
  | 0 => ⟨fun _ _ _ _ _ _ _ _ _ r h => by simp [orrerylaw20_OffsetPlain.l0] at h, fun _ _ _ _ _ _ _ _ _ _ _ _ r h => by simp [orrerylaw20_OffsetPlain.j1] at h, fun _ _ _ _ _ _ _ _ _ _ _ _ r h => by simp [orrerylaw20_OffsetPlain.j2] at h, fun _ _ _ _ _ _ _ _ _ _ _ _ _ r h => by simp [orrerylaw20_OffsetPlain.l1] at h, fun _ _ _ _ _ _ _ r h => by simp [orrerylaw20_OffsetPlain.j4] at h, fun _ _ _ _ _ _ _ _ r h => by simp [orrerylaw20_OffsetPlain.l2] at h⟩
  | k + 1 => by
    obtain ⟨ih0, ih1, ih2, ih3, ih4, ih5⟩ := orrerylaw20_OffsetPlain.mono_l k
    refine ⟨?_, ?_, ?_, ?_, ?_, ?_⟩
    · intro y0 y1 y2 y3 y4 y5 y6 y7 y8
      unfold orrerylaw20_OffsetPlain.l0
      repeat' first
      | (with_reducible exact ih0 _ _ _ _ _ _ _ _ _)
      | (with_reducible exact ih1 _ _ _ _ _ _ _ _ _ _ _ _)
      | (with_reducible exact ih2 _ _ _ _ _ _ _ _ _ _ _ _)
      | (with_reducible exact ih3 _ _ _ _ _ _ _ _ _ _ _ _ _)
      | (with_reducible exact ih4 _ _ _ _ _ _ _)
      | (with_reducible exact ih5 _ _ _ _ _ _ _ _)
      | (with_reducible exact offset_Offsets.mono _ _ _ _)
      | (with_reducible exact LeO.refl _)
      | (with_reducible exact LeO.none _)
      | (with_reducible refine LeO.ite ?_ ?_)
      | (with_reducible refine LeO.bind ?_ (fun _ => ?_))
      | exact ih0 _ _ _ _ _ _ _ _ _
      | exact ih1 _ _ _ _ _ _ _ _ _ _ _ _
      | exact ih2 _ _ _ _ _ _ _ _ _ _ _ _
      | exact ih3 _ _ _ _ _ _ _ _ _ _ _ _ _
      | exact ih4 _ _ _ _ _ _ _
      | exact ih5 _ _ _ _ _ _ _ _
      | exact offset_Offsets.mono _ _ _ _
      | exact LeO.none _
      | refine LeO.ite ?_ ?_
      | refine LeO.bind ?_ (fun _ => ?_)
    · intro y0 y1 y2 y3 y4 y5 y6 y7 y8 y9 y10 y11
      unfold orrerylaw20_OffsetPlain.j1
      repeat' first
      | (with_reducible exact ih0 _ _ _ _ _ _ _ _ _)
      | (with_reducible exact ih1 _ _ _ _ _ _ _ _ _ _ _ _)
      | (with_reducible exact ih2 _ _ _ _ _ _ _ _ _ _ _ _)
      | (with_reducible exact ih3 _ _ _ _ _ _ _ _ _ _ _ _ _)
      | (with_reducible exact ih4 _ _ _ _ _ _ _)
      | (with_reducible exact ih5 _ _ _ _ _ _ _ _)
      | (with_reducible exact offset_Offsets.mono _ _ _ _)
      | (with_reducible exact LeO.refl _)
      | (with_reducible exact LeO.none _)
      | (with_reducible refine LeO.ite ?_ ?_)
      | (with_reducible refine LeO.bind ?_ (fun _ => ?_))
      | exact ih0 _ _ _ _ _ _ _ _ _
      | exact ih1 _ _ _ _ _ _ _ _ _ _ _ _
      | exact ih2 _ _ _ _ _ _ _ _ _ _ _ _
      | exact ih3 _ _ _ _ _ _ _ _ _ _ _ _ _
      | exact ih4 _ _ _ _ _ _ _
      | exact ih5 _ _ _ _ _ _ _ _
      | exact offset_Offsets.mono _ _ _ _
      | exact LeO.none _
      | refine LeO.ite ?_ ?_
      | refine LeO.bind ?_ (fun _ => ?_)
    · intro y0 y1 y2 y3 y4 y5 y6 y7 y8 y9 y10 y11
      unfold orrerylaw20_OffsetPlain.j2
      repeat' first
      | (with_reducible exact ih0 _ _ _ _ _ _ _ _ _)
      | (with_reducible exact ih1 _ _ _ _ _ _ _ _ _ _ _ _)
      | (with_reducible exact ih2 _ _ _ _ _ _ _ _ _ _ _ _)
      | (with_reducible exact ih3 _ _ _ _ _ _ _ _ _ _ _ _ _)
      | (with_reducible exact ih4 _ _ _ _ _ _ _)
      | (with_reducible exact ih5 _ _ _ _ _ _ _ _)
      | (with_reducible exact offset_Offsets.mono _ _ _ _)
      | (with_reducible exact LeO.refl _)
      | (with_reducible exact LeO.none _)
      | (with_reducible refine LeO.ite ?_ ?_)
      | (with_reducible refine LeO.bind ?_ (fun _ => ?_))
      | exact ih0 _ _ _ _ _ _ _ _ _
      | exact ih1 _ _ _ _ _ _ _ _ _ _ _ _
      | exact ih2 _ _ _ _ _ _ _ _ _ _ _ _
      | exact ih3 _ _ _ _ _ _ _ _ _ _ _ _ _
      | exact ih4 _ _ _ _ _ _ _
      | exact ih5 _ _ _ _ _ _ _ _
      | exact offset_Offsets.mono _ _ _ _
      | exact LeO.none _
      | refine LeO.ite ?_ ?_
      | refine LeO.bind ?_ (fun _ => ?_)
    · intro y0 y1 y2 y3 y4 y5 y6 y7 y8 y9 y10 y11 y12
      unfold orrerylaw20_OffsetPlain.l1
      repeat' first
      | (with_reducible exact ih0 _ _ _ _ _ _ _ _ _)
      | (with_reducible exact ih1 _ _ _ _ _ _ _ _ _ _ _ _)
      | (with_reducible exact ih2 _ _ _ _ _ _ _ _ _ _ _ _)
      | (with_reducible exact ih3 _ _ _ _ _ _ _ _ _ _ _ _ _)
      | (with_reducible exact ih4 _ _ _ _ _ _ _)
      | (with_reducible exact ih5 _ _ _ _ _ _ _ _)
      | (with_reducible exact offset_Offsets.mono _ _ _ _)
      | (with_reducible exact LeO.refl _)
      | (with_reducible exact LeO.none _)
      | (with_reducible refine LeO.ite ?_ ?_)
      | (with_reducible refine LeO.bind ?_ (fun _ => ?_))
      | exact ih0 _ _ _ _ _ _ _ _ _
      | exact ih1 _ _ _ _ _ _ _ _ _ _ _ _
      | exact ih2 _ _ _ _ _ _ _ _ _ _ _ _
      | exact ih3 _ _ _ _ _ _ _ _ _ _ _ _ _
      | exact ih4 _ _ _ _ _ _ _
      | exact ih5 _ _ _ _ _ _ _ _
      | exact offset_Offsets.mono _ _ _ _
      | exact LeO.none _
      | refine LeO.ite ?_ ?_
      | refine LeO.bind ?_ (fun _ => ?_)
    · intro y0 y1 y2 y3 y4 y5 y6
      unfold orrerylaw20_OffsetPlain.j4
      repeat' first
      | (with_reducible exact ih0 _ _ _ _ _ _ _ _ _)
      | (with_reducible exact ih1 _ _ _ _ _ _ _ _ _ _ _ _)
      | (with_reducible exact ih2 _ _ _ _ _ _ _ _ _ _ _ _)
      | (with_reducible exact ih3 _ _ _ _ _ _ _ _ _ _ _ _ _)
      | (with_reducible exact ih4 _ _ _ _ _ _ _)
      | (with_reducible exact ih5 _ _ _ _ _ _ _ _)
      | (with_reducible exact offset_Offsets.mono _ _ _ _)
      | (with_reducible exact LeO.refl _)
      | (with_reducible exact LeO.none _)
      | (with_reducible refine LeO.ite ?_ ?_)
      | (with_reducible refine LeO.bind ?_ (fun _ => ?_))
      | exact ih0 _ _ _ _ _ _ _ _ _
      | exact ih1 _ _ _ _ _ _ _ _ _ _ _ _
      | exact ih2 _ _ _ _ _ _ _ _ _ _ _ _
      | exact ih3 _ _ _ _ _ _ _ _ _ _ _ _ _
      | exact ih4 _ _ _ _ _ _ _
      | exact ih5 _ _ _ _ _ _ _ _
      | exact offset_Offsets.mono _ _ _ _
      | exact LeO.none _
      | refine LeO.ite ?_ ?_
      | refine LeO.bind ?_ (fun _ => ?_)
    · intro y0 y1 y2 y3 y4 y5 y6 y7
      unfold orrerylaw20_OffsetPlain.l2
      repeat' first
      | (with_reducible exact ih0 _ _ _ _ _ _ _ _ _)
      | (with_reducible exact ih1 _ _ _ _ _ _ _ _ _ _ _ _)
      | (with_reducible exact ih2 _ _ _ _ _ _ _ _ _ _ _ _)
      | (with_reducible exact ih3 _ _ _ _ _ _ _ _ _ _ _ _ _)
      | (with_reducible exact ih4 _ _ _ _ _ _ _)
      | (with_reducible exact ih5 _ _ _ _ _ _ _ _)
      | (with_reducible exact offset_Offsets.mono _ _ _ _)
      | (with_reducible exact LeO.refl _)
      | (with_reducible exact LeO.none _)
      | (with_reducible refine LeO.ite ?_ ?_)
      | (with_reducible refine LeO.bind ?_ (fun _ => ?_))
      | exact ih0 _ _ _ _ _ _ _ _ _
      | exact ih1 _ _ _ _ _ _ _ _ _ _ _ _
      | exact ih2 _ _ _ _ _ _ _ _ _ _ _ _
      | exact ih3 _ _ _ _ _ _ _ _ _ _ _ _ _
      | exact ih4 _ _ _ _ _ _ _
      | exact ih5 _ _ _ _ _ _ _ _
      | exact offset_Offsets.mono _ _ _ _
      | exact LeO.none _
      | refine LeO.ite ?_ ?_
      | refine LeO.bind ?_ (fun _ => ?_)
theorem orrerylaw20_OffsetPlain.mono : ∀ a0 a1 k, LeO (orrerylaw20_OffsetPlain.f k a0 a1) (orrerylaw20_OffsetPlain.f (k + 1) a0 a1) := by
 intro a0 a1 k
 obtain ⟨ih0, ih1, ih2, ih3, ih4, ih5⟩ := orrerylaw20_OffsetPlain.mono_l k
 unfold orrerylaw20_OffsetPlain.f
 repeat' first
     | (with_reducible exact ih0 _ _ _ _ _ _ _ _ _)
     | (with_reducible exact ih1 _ _ _ _ _ _ _ _ _ _ _ _)
     | (with_reducible exact ih2 _ _ _ _ _ _ _ _ _ _ _ _)
     | (with_reducible exact ih3 _ _ _ _ _ _ _ _ _ _ _ _ _)
     | (with_reducible exact ih4 _ _ _ _ _ _ _)
     | (with_reducible exact ih5 _ _ _ _ _ _ _ _)
     | (with_reducible exact offset_Offsets.mono _ _ _ _)
     | (with_reducible exact LeO.refl _)
     | (with_reducible exact LeO.none _)
     | (with_reducible refine LeO.ite ?_ ?_)
     | (with_reducible refine LeO.bind ?_ (fun _ => ?_))
     | exact ih0 _ _ _ _ _ _ _ _ _
     | exact ih1 _ _ _ _ _ _ _ _ _ _ _ _
     | exact ih2 _ _ _ _ _ _ _ _ _ _ _ _
     | exact ih3 _ _ _ _ _ _ _ _ _ _ _ _ _
     | exact ih4 _ _ _ _ _ _ _
     | exact ih5 _ _ _ _ _ _ _ _
     | exact offset_Offsets.mono _ _ _ _
     | exact LeO.none _
     | refine LeO.ite ?_ ?_
     | refine LeO.bind ?_ (fun _ => ?_)
set_option maxHeartbeats 8000000 in
set_option maxRecDepth 100000 in
theorem orrerylaw20_OffsetPlain.calls (k : Nat) (A0 : Option Addr) (c0 : Nat) (l0 : List Int) (A1 : Option Addr) (c1 : Nat) (l1 : List Int) (r : Bool) (w : World) (hr0 : Kd.C (Kd.int .i64) w A0 l0.length l0) (hc0 : l0.length ≤ c0) (hr1 : Kd.C (Kd.int .i64) w A1 l1.length l1) (hc1 : l1.length ≤ c1) (h : orrerylaw20_OffsetPlain.f k l0 l1 = some r) :
    Calls Try.prog 6 #[.slice A0 l0.length c0, .slice A1 l1.length c1] w fun e w' => e = .returned (.bool r) ∧ Below w.heap.size w w' := by
 have hu40 := Try.underlying40
 have HR0 := Aside0.mk hr0
 have HC0 := Aside0.mk hc0
 clear hr0 hc0
 have HR1 := Aside0.mk hr1
 have HC1 := Aside0.mk hc1
 clear hr1 hc1
 have HB := Aside0.mk (Below.refl w.heap.size w)
 have H : (if 0 ≤ (l0.length : Int) then (if ((l0.length : Int) : Int).toNat ≤ 35184372088832 then (orrerylaw20_OffsetPlain.l0 k l0 l1 (l0.length : Int) ([] : List (S40)) ([] : List (S40)) (List.replicate ((l0.length : Int) : Int).toNat 0) l0 (l0.length : Int) 0) else (none)) else (none)) = some r := h
 clear h
 by_cases c3 : 0 ≤ (l0.length : Int)
 case neg => rw [if_neg c3] at H; exact absurd H (by simp)
 rw [if_pos c3] at H
 have c3b0 := eq_true c3
 have c3b1 : decide (0 ≤ (l0.length : Int)) = true := decide_eq_true c3
 clear c3
 by_cases c4 : ((l0.length : Int) : Int).toNat ≤ 35184372088832
 case neg => rw [if_neg c4] at H; exact absurd H (by simp)
 rw [if_pos c4] at H
 have c4b0 := eq_true c4
 have c4b1 : decide (((l0.length : Int) : Int).toNat ≤ 35184372088832) = true := decide_eq_true c4
 clear c4
 obtain ⟨y283, hy283⟩ : ∃ y_ : List Int, y_ = (List.replicate ((l0.length : Int) : Int).toNat 0) := ⟨_, rfl⟩
 replace H : (orrerylaw20_OffsetPlain.l0 k l0 l1 (l0.length : Int) ([] : List (S40)) ([] : List (S40)) y283 l0 (l0.length : Int) 0) = some r := by first | (rw [hy283]; with_reducible exact H) | (have H2_ := (Option.bind_some _ _).symm.trans H; rw [hy283]; with_reducible exact H2_) | (have H2_ := (Option.bind_some _ _).symm.trans H; with_reducible exact H2_) | with_reducible exact H | (rw [hy283]; exact H) | exact H
 have Ny283 := Aside0.mk hy283
 clear hy283
 have H' := Aside0.mk H
 clear H
 go_enter Try.func6, Try.ntmps6
 go_wp2_with (first | ((with_reducible refine gate_dst (N := 25) rfl ?_); (try (refine gate_guard (by rfl) ?_; dsimp only)); refine Kd.R_make (Kd.int .i64) _ 3 rfl (N := 25) rfl 23 _ _ rfl (l0.length : Int) rfl rfl Try.underlying23 (.int .i64 0) 8 info3 rfl (by decide) (by omega) 0 (ok := fun _ => True) (okp := fun _ => True) rfl (fun _ hk => hk) trivial (of_decide_eq_true (by first | (with_reducible assumption) | assumption)) (Nat.le_trans (Nat.mul_le_mul_right _ (of_decide_eq_true (by first | (with_reducible assumption) | assumption) : (l0.length : Int).toNat ≤ 35184372088832)) (by omega)) (Below.refl _ _) (Nat.le_refl _) ?_; intro v284 w5 ho6 hb hg_ hnew_; clear hg_ hnew_; (first | rw [← Ny283.out] at ho6 | (simp only [Int.reduceToNat] at ho6; rw [← Ny283.out] at ho6)); have n0_ := Aside0.mk (Kd.R_lower ho6 (below_size (by repeat (first | (with_reducible first | exact HB.out | apply below_alloc | apply pw_below_drewN | apply below_drew1) | exact HB.out)))); have n1_ := Aside0.mk (below_step (by repeat (first | (with_reducible first | exact HB.out | apply below_alloc | apply pw_below_drewN | apply below_drew1) | exact HB.out)) hb); clear HB; have HO285 := n0_; have HB := n1_; clear n0_ n1_; clear hb ho6))
 go_loopg [6, 7, 28] k (fun kq v6 v7 v28 w' => ∃ (x6_1 : List (S40)) (x7_1 : List (S40)) (x8_1 : List Int) (x28_1 : Int), v28 = .int .i64 x28_1 ∧ Aside0 (orrerylaw20_OffsetPlain.l0 kq l0 l1 (l0.length : Int) x6_1 x7_1 x8_1 l0 (l0.length : Int) x28_1 = some r) ∧ Aside0 (kq ≤ k) ∧ Aside0 (Kd.R k40 40 w' w.heap.size (fun k_ => some k_ ≠ (v7 : Value).ownBlock) v6 x6_1) ∧ Aside0 (Kd.R k40 40 w' w.heap.size (fun k_ => some k_ ≠ (v6 : Value).ownBlock) v7 x7_1) ∧ Aside0 (Kd.R (Kd.int .i64) 3 w' w.heap.size (fun _ => True) v284 x8_1) ∧ Aside0 (Below w.heap.size w w'))
 case atStart => exact ⟨(([] : List (S40))), (([] : List (S40))), (y283), (0), (by first | rfl | (simp; done) | (simp [*]; done)), H', ⟨Nat.le_refl _⟩, ⟨by first | exact Kd.R_nil _ _ _ _ _ | exact Kd.N_nil _ _ _ _ _ | exact Kd.V_nil _ _ _ _ _ | exact Kd.Q_nil _ _ _ _ _ | exact Kd.S_nil _ _ _ _ _⟩, ⟨by first | exact Kd.R_nil _ _ _ _ _ | exact Kd.N_nil _ _ _ _ _ | exact Kd.V_nil _ _ _ _ _ | exact Kd.Q_nil _ _ _ _ _ | exact Kd.S_nil _ _ _ _ _⟩, ⟨by (with_reducible repeat (first | apply Kd.R_alloc | apply Kd.R_drewN | apply Kd.R_drew)); exact HO285.out⟩, ⟨by repeat (first | (with_reducible first | exact HB.out | apply below_alloc | apply pw_below_drewN | apply below_drew1) | exact HB.out)⟩⟩
 case round =>
  clear H'
  try clear c1
  try clear p2
  try clear c3
  try clear c3b0
  try clear c3b1
  try clear c4
  try clear c4b0
  try clear c4b1
  try clear c6
  obtain ⟨x6_1, x7_1, x8_1, x28_1, rfl, HA, HK1, HO_6, HO_7, HO_8, HB⟩ := hrel
  cases gk with
  | zero => exact absurd HA.out (by simp [orrerylaw20_OffsetPlain.l0])
  | succ k1 =>
   have H := HA.out
   clear HA
   simp only [orrerylaw20_OffsetPlain.l0] at H
   by_cases c7 : x28_1 < (l0.length : Int)
   case pos =>
    rw [if_pos c7] at H
    have c7b0 : decide (x28_1 < (l0.length : Int)) = true := decide_eq_true c7
    clear c7
    by_cases c8 : 0 ≤ x28_1
    case neg => rw [if_neg c8] at H; exact absurd H (by simp)
    rw [if_pos c8] at H
    have c8b0 : decide (0 ≤ x28_1) = true := decide_eq_true c8
    clear c8
    by_cases c9 : x28_1 < (l0.length : Int)
    case neg => rw [if_neg c9] at H; exact absurd H (by simp)
    rw [if_pos c9] at H
    have c9b0 : decide (x28_1 < (l0.length : Int)) = true := decide_eq_true c9
    clear c9
    have HC10 := Aside0.mk H
    clear H
    have p286 : 0 ≤ (x28_1 : Int) := of_decide_eq_true (by first | (with_reducible assumption) | assumption)
    have q286 : x28_1 < (l0.length : Int) := of_decide_eq_true (by first | (with_reducible assumption) | assumption)
    obtain ⟨ad286, e286, hx286_0⟩ := Kd.at_int HR0.out x28_1 p286 q286
    cases e286
    replace hx286_0 := (HB.out.cell (World.block_lt_of_cell? w _ hx286_0)).trans hx286_0
    replace p286 := eq_true p286
    replace q286 := eq_true q286
    go_upto_region 7 with (fail)
    go_cut [50] (fun v50 wc => ∃ (kq : Nat) (x50_9 : Bool), v50 = .bool x50_9 ∧ Aside0 (orrerylaw20_OffsetPlain.j1 kq l0 l1 (l0.length : Int) x6_1 x7_1 x8_1 x28_1 (rd l0 x28_1) l0 (l0.length : Int) x28_1 x50_9 = some r) ∧ Aside0 (kq ≤ k1) ∧ Aside0 (Kd.R k40 40 wc w.heap.size (fun k_ => some k_ ≠ (u7 : Value).ownBlock) u6 x6_1) ∧ Aside0 (Kd.R k40 40 wc w.heap.size (fun k_ => some k_ ≠ (u6 : Value).ownBlock) u7 x7_1) ∧ Aside0 (Kd.R (Kd.int .i64) 3 wc w.heap.size (fun _ => True) v284 x8_1) ∧ Aside0 (Below w.heap.size w wc))
    case first =>
     have H := HC10.out
     clear HC10
     by_cases c11 : (l0.length : Int) > 40
     case pos =>
      rw [if_pos c11] at H
      have c11b0 : decide (40 < (l0.length : Int)) = true := decide_eq_true c11
      have c11b1 : decide (40 < l0.length) = true := decide_eq_true (by omega)
      clear c11
      (first | rw [c11b0] | (simp only [i64_w, i32_w]; rw [c11b0]) | skip)
      have H' := Aside0.mk H
      clear H
      go_wp2
      go_meet
      case rel => exact ⟨_, (true), (by first | rfl | (simp; done) | (simp [*]; done)), H', ⟨by have := HK1.out; first | omega | exact Nat.le_refl _⟩, ⟨by (with_reducible repeat (first | apply Kd.R_alloc | apply Kd.R_drewN | apply Kd.R_drew)); exact HO_6.out⟩, ⟨by (with_reducible repeat (first | apply Kd.R_alloc | apply Kd.R_drewN | apply Kd.R_drew)); exact HO_7.out⟩, ⟨by (with_reducible repeat (first | apply Kd.R_alloc | apply Kd.R_drewN | apply Kd.R_drew)); exact HO_8.out⟩, ⟨by repeat (first | (with_reducible first | exact HB.out | apply below_alloc | apply pw_below_drewN | apply below_drew1) | exact HB.out)⟩⟩
     rw [if_neg c11] at H
     have c11b0 : decide (40 < (l0.length : Int)) = false := decide_eq_false c11
     have c11b1 : decide (40 < l0.length) = false := decide_eq_false (by omega)
     clear c11
     (first | rw [c11b0] | (simp only [i64_w, i32_w]; rw [c11b0]) | skip)
     by_cases c12 : (rd l0 x28_1) < 0
     case pos =>
      rw [if_pos c12] at H
      have c12b0 : decide ((rd l0 x28_1) < 0) = true := decide_eq_true c12
      clear c12
      have H' := Aside0.mk H
      clear H
      go_wp2
      go_meet
      case rel => exact ⟨_, (true), (by first | rfl | (simp; done) | (simp [*]; done)), H', ⟨by have := HK1.out; first | omega | exact Nat.le_refl _⟩, ⟨by (with_reducible repeat (first | apply Kd.R_alloc | apply Kd.R_drewN | apply Kd.R_drew)); exact HO_6.out⟩, ⟨by (with_reducible repeat (first | apply Kd.R_alloc | apply Kd.R_drewN | apply Kd.R_drew)); exact HO_7.out⟩, ⟨by (with_reducible repeat (first | apply Kd.R_alloc | apply Kd.R_drewN | apply Kd.R_drew)); exact HO_8.out⟩, ⟨by repeat (first | (with_reducible first | exact HB.out | apply below_alloc | apply pw_below_drewN | apply below_drew1) | exact HB.out)⟩⟩
     rw [if_neg c12] at H
     have c12b0 : decide ((rd l0 x28_1) < 0) = false := decide_eq_false c12
     clear c12
     by_cases c13 : (rd l0 x28_1) ≥ (l0.length : Int)
     case pos =>
      rw [if_pos c13] at H
      have c13b0 : decide ((l0.length : Int) ≤ (rd l0 x28_1)) = true := decide_eq_true c13
      clear c13
      have H' := Aside0.mk H
      clear H
      go_wp2
      go_meet
      case rel => exact ⟨_, (true), (by first | rfl | (simp; done) | (simp [*]; done)), H', ⟨by have := HK1.out; first | omega | exact Nat.le_refl _⟩, ⟨by (with_reducible repeat (first | apply Kd.R_alloc | apply Kd.R_drewN | apply Kd.R_drew)); exact HO_6.out⟩, ⟨by (with_reducible repeat (first | apply Kd.R_alloc | apply Kd.R_drewN | apply Kd.R_drew)); exact HO_7.out⟩, ⟨by (with_reducible repeat (first | apply Kd.R_alloc | apply Kd.R_drewN | apply Kd.R_drew)); exact HO_8.out⟩, ⟨by repeat (first | (with_reducible first | exact HB.out | apply below_alloc | apply pw_below_drewN | apply below_drew1) | exact HB.out)⟩⟩
     rw [if_neg c13] at H
     have c13b0 : decide ((l0.length : Int) ≤ (rd l0 x28_1)) = false := decide_eq_false c13
     clear c13
     by_cases c14 : 0 ≤ (rd l0 x28_1)
     case neg => rw [if_neg c14] at H; exact absurd H (by simp)
     rw [if_pos c14] at H
     have c14b0 : decide (0 ≤ (rd l0 x28_1)) = true := decide_eq_true c14
     clear c14
     by_cases c15 : (rd l0 x28_1) < (x8_1.length : Int)
     case neg => rw [if_neg c15] at H; exact absurd H (by simp)
     rw [if_pos c15] at H
     have c15b0 : decide ((rd l0 x28_1) < (x8_1.length : Int)) = true := decide_eq_true c15
     clear c15
     have H' := Aside0.mk H
     clear H
     obtain ⟨Ao16, co16, eo16⟩ := Kd.R_slice HO_8.out
     subst eo16
     have p287 : 0 ≤ ((rd l0 x28_1) : Int) := of_decide_eq_true (by first | (with_reducible assumption) | assumption)
     have q287 : (rd l0 x28_1) < (x8_1.length : Int) := of_decide_eq_true (by first | (with_reducible assumption) | assumption)
     obtain ⟨ad287, e287, hx287_0⟩ := Kd.at_int (Kd.R_reads' HO_8.out).2.2 (rd l0 x28_1) p287 q287
     cases e287
     replace p287 := eq_true p287
     replace q287 := eq_true q287
     go_wp2
     go_meet
     case rel => exact ⟨_, (((rd x8_1 (rd l0 x28_1)) == 1)), (by first | rfl | (simp; done) | (simp [*]; done)), H', ⟨by have := HK1.out; first | omega | exact Nat.le_refl _⟩, ⟨by (with_reducible repeat (first | apply Kd.R_alloc | apply Kd.R_drewN | apply Kd.R_drew)); exact HO_6.out⟩, ⟨by (with_reducible repeat (first | apply Kd.R_alloc | apply Kd.R_drewN | apply Kd.R_drew)); exact HO_7.out⟩, ⟨by (with_reducible repeat (first | apply Kd.R_alloc | apply Kd.R_drewN | apply Kd.R_drew)); exact HO_8.out⟩, ⟨by repeat (first | (with_reducible first | exact HB.out | apply below_alloc | apply pw_below_drewN | apply below_drew1) | exact HB.out)⟩⟩
    case rest =>
     clear HC10
     try clear c1
     try clear p2
     try clear q2
     try clear hx2
     try clear c3
     try clear c3b0
     try clear c3b1
     try clear c4
     try clear c4b0
     try clear c4b1
     try clear c6
     try clear c7
     try clear c7b0
     try clear c8
     try clear c8b0
     try clear c9
     try clear c9b0
     try clear c11
     try clear c11b0
     try clear c11b1
     try clear c12
     try clear c12b0
     try clear c13
     try clear c13b0
     try clear c14
     try clear c14b0
     try clear c15
     try clear c15b0
     try clear hx286_0
     try clear hx287_0
     try clear p2
     try clear p286
     try clear p287
     try clear q286
     try clear q287
     obtain ⟨kq, x50_9, rfl, HA, HJ9, HO_6, HO_7, HO_8, HB⟩ := hcut
     cases kq with
     | zero => exact absurd HA.out (by simp [orrerylaw20_OffsetPlain.j1])
     | succ kj9 =>
      have H := HA.out
      clear HA
      simp only [orrerylaw20_OffsetPlain.j1] at H
      by_cases c17 : x50_9 = true
      case pos =>
       subst c17
       have H1 : (some true) = some r := by rw [if_pos rfl] at H; exact H
       clear H
       have H := H1
       clear H1
       obtain rfl := Option.some.inj H
       go_wp2
       go_ret
       exact ⟨by first | rfl | (simp [errW_none, errW_some] <;> rfl) | (simp [*, errW_none, errW_some] <;> rfl), by repeat (first | (with_reducible first | exact HB.out | apply below_alloc | apply pw_below_drewN | apply below_drew1) | exact HB.out)⟩
      replace c17 := Bool.eq_false_iff.mpr c17
      subst c17
      have H1 : (if 0 ≤ (rd l0 x28_1) then (if (rd l0 x28_1) < (x8_1.length : Int) then ((some (x8_1.set ((rd l0 x28_1) : Int).toNat 1 : List Int)).bind fun y288 => (if x28_1 < (l1.length : Int) then (if 0 ≤ x28_1 then (orrerylaw20_OffsetPlain.j2 kj9 l0 l1 (l0.length : Int) x6_1 x7_1 y288 x28_1 (rd l0 x28_1) (Int.tmod (wrap64 ((Int.tmod (rd l1 x28_1) 4) + 4)) 4) l0 (l0.length : Int) x28_1) else (none)) else (orrerylaw20_OffsetPlain.j2 kj9 l0 l1 (l0.length : Int) x6_1 x7_1 y288 x28_1 (rd l0 x28_1) 0 l0 (l0.length : Int) x28_1))) else (none)) else (none)) = some r := by rw [if_neg (show ¬ (false = true) by decide)] at H; exact H
      clear H
      have H := H1
      clear H1
      by_cases c18 : 0 ≤ (rd l0 x28_1)
      case neg => rw [if_neg c18] at H; exact absurd H (by simp)
      rw [if_pos c18] at H
      have c18b0 : decide (0 ≤ (rd l0 x28_1)) = true := decide_eq_true c18
      clear c18
      by_cases c19 : (rd l0 x28_1) < (x8_1.length : Int)
      case neg => rw [if_neg c19] at H; exact absurd H (by simp)
      rw [if_pos c19] at H
      have c19b0 : decide ((rd l0 x28_1) < (x8_1.length : Int)) = true := decide_eq_true c19
      clear c19
      obtain ⟨y288, hy288⟩ : ∃ y_ : List Int, y_ = (x8_1.set ((rd l0 x28_1) : Int).toNat 1) := ⟨_, rfl⟩
      replace H : (if x28_1 < (l1.length : Int) then (if 0 ≤ x28_1 then (orrerylaw20_OffsetPlain.j2 kj9 l0 l1 (l0.length : Int) x6_1 x7_1 y288 x28_1 (rd l0 x28_1) (Int.tmod (wrap64 ((Int.tmod (rd l1 x28_1) 4) + 4)) 4) l0 (l0.length : Int) x28_1) else (none)) else (orrerylaw20_OffsetPlain.j2 kj9 l0 l1 (l0.length : Int) x6_1 x7_1 y288 x28_1 (rd l0 x28_1) 0 l0 (l0.length : Int) x28_1)) = some r := by first | (rw [hy288]; with_reducible exact H) | (have H2_ := (Option.bind_some _ _).symm.trans H; rw [hy288]; with_reducible exact H2_) | (have H2_ := (Option.bind_some _ _).symm.trans H; with_reducible exact H2_) | with_reducible exact H | (rw [hy288]; exact H) | exact H
      have Ny288 := Aside0.mk hy288
      clear hy288
      have HC21 := Aside0.mk H
      clear H
      have p20 : 0 ≤ ((rd l0 x28_1) : Int) := of_decide_eq_true (by first | (with_reducible assumption) | assumption)
      have q20 : ((rd l0 x28_1) : Int) < ((x8_1.length : Int) : Int) := of_decide_eq_true (by first | (with_reducible assumption) | assumption)
      obtain ⟨go20, co20, eo20, gb20, gl20, cl20, HG20⟩ := Kd.R_form HO_8.out (by omega)
      (first | cases eo20 | (injection eo20 with ea_ en_ ec_; (first | subst ea_ | (injection ea_ with ea_; subst ea_)); subst ec_; clear en_))
      have GB20 := Aside0.mk gb20
      have GG20 := Aside0.mk HG20
      clear gb20 gl20 HG20
      obtain ⟨hx20_0, hf20_0⟩ := Kd.R_celln 0 HO_8.out ((rd l0 x28_1) : Int) p20 q20
      replace p20 := eq_true p20
      replace q20 := eq_true q20
      have HP22 := Kd.R_putg HO_8.out ((rd l0 x28_1) : Int) 1
      go_upto_if 57 with (first | ((with_reducible refine gate_store (t := 3) (p := 53) rfl ?_); refine store_event (t := 3) (p := 53) (v := ?vo_w23) (w1 := (wc.setCell ⟨go20, ((rd l0 x28_1) : Int).toNat, none⟩ (.int .i64 1))) ?hg ?ho ?hn ?hr ?_; (case ho => rfl); (case hg => rfl); (case hn => rfl); (case hr => first | (go_simp; done) | (go_simp; rfl)); intro w23 hw; have hg : wc.grownBy w23 (some go20) := (by rw [hw]; exact HP22.2); have hp_ : Kd.R (Kd.int .i64) 3 w23 w.heap.size (fun _ => True) (.slice (some ⟨go20, 0, none⟩) x8_1.length co20) y288 := (by rw [hw, Ny288.out]; exact HP22.1); clear HP22; have n0_ := Aside0.mk (Kd.R_over' (v := (.slice (some ⟨go20, 0, none⟩) x8_1.length co20)) (by (with_reducible repeat (first | apply Kd.R_alloc | apply Kd.R_drewN | apply Kd.R_drew)); exact HO_6.out) (Kd.R_typed HO_8.out) (by decide) hg); have n1_ := Aside0.mk (Kd.R_over' (v := (.slice (some ⟨go20, 0, none⟩) x8_1.length co20)) (by (with_reducible repeat (first | apply Kd.R_alloc | apply Kd.R_drewN | apply Kd.R_drew)); exact HO_7.out) (Kd.R_typed HO_8.out) (by decide) hg); have n2_ := Aside0.mk (hp_); have n3_ := Aside0.mk ((by rw [hw]; exact below_set (HB.out) GB20.out : Below w.heap.size w w23)); clear HO_6; clear HO_7; clear HO_8; clear HB; have HO_6 := n0_; have HO_7 := n1_; have HO_8 := n2_; have HB := n3_; clear n0_ n1_ n2_ n3_; clear hg hw hp_))
      (try simp only [Act.put, List.setIfInBounds_toArray, List.set_cons_zero, List.set_cons_succ])
      go_cut [11] (fun v11 wc => ∃ (kq : Nat) (x11_20 : Int), v11 = .int .i64 x11_20 ∧ Aside0 (orrerylaw20_OffsetPlain.j2 kq l0 l1 (l0.length : Int) x6_1 x7_1 y288 x28_1 (rd l0 x28_1) x11_20 l0 (l0.length : Int) x28_1 = some r) ∧ Aside0 (kq ≤ kj9) ∧ Aside0 (Kd.R k40 40 wc w.heap.size (fun k_ => some k_ ≠ (u7 : Value).ownBlock) u6 x6_1) ∧ Aside0 (Kd.R k40 40 wc w.heap.size (fun k_ => some k_ ≠ (u6 : Value).ownBlock) u7 x7_1) ∧ Aside0 (Kd.R (Kd.int .i64) 3 wc w.heap.size (fun _ => True) (.slice (some ⟨go20, 0, none⟩) x8_1.length co20) y288) ∧ Aside0 (Below w.heap.size w wc))
      case first =>
       have H := HC21.out
       clear HC21
       by_cases c24 : x28_1 < (l1.length : Int)
       case neg =>
        rw [if_neg c24] at H
        have c24b0 : decide (x28_1 < (l1.length : Int)) = false := decide_eq_false c24
        clear c24
        (first | rw [c24b0] | (simp only [i64_w, i32_w]; rw [c24b0]) | skip)
        have H' := Aside0.mk H
        clear H
        go_wp2
        go_meet
        case rel => exact ⟨_, (0), (by first | rfl | (simp; done) | (simp [*]; done)), H', ⟨by have := HK1.out; have := HJ9.out; first | omega | exact Nat.le_refl _⟩, ⟨by (with_reducible repeat (first | apply Kd.R_alloc | apply Kd.R_drewN | apply Kd.R_drew)); exact HO_6.out⟩, ⟨by (with_reducible repeat (first | apply Kd.R_alloc | apply Kd.R_drewN | apply Kd.R_drew)); exact HO_7.out⟩, ⟨by (with_reducible repeat (first | apply Kd.R_alloc | apply Kd.R_drewN | apply Kd.R_drew)); exact HO_8.out⟩, ⟨by repeat (first | (with_reducible first | exact HB.out | apply below_alloc | apply pw_below_drewN | apply below_drew1) | exact HB.out)⟩⟩
       rw [if_pos c24] at H
       have c24b0 : decide (x28_1 < (l1.length : Int)) = true := decide_eq_true c24
       clear c24
       (first | rw [c24b0] | (simp only [i64_w, i32_w]; rw [c24b0]) | skip)
       by_cases c25 : 0 ≤ x28_1
       case neg => rw [if_neg c25] at H; exact absurd H (by simp)
       rw [if_pos c25] at H
       have c25b0 : decide (0 ≤ x28_1) = true := decide_eq_true c25
       clear c25
       have H' := Aside0.mk H
       clear H
       have p289 : 0 ≤ (x28_1 : Int) := of_decide_eq_true (by first | (with_reducible assumption) | assumption)
       have q289 : x28_1 < (l1.length : Int) := of_decide_eq_true (by first | (with_reducible assumption) | assumption)
       obtain ⟨ad289, e289, hx289_0⟩ := Kd.at_int HR1.out x28_1 p289 q289
       cases e289
       replace hx289_0 := (HB.out.cell (World.block_lt_of_cell? w _ hx289_0)).trans hx289_0
       replace p289 := eq_true p289
       replace q289 := eq_true q289
       go_wp2
       go_meet
       case rel => exact ⟨_, (Int.tmod (wrap64 ((Int.tmod (rd l1 x28_1) 4) + 4)) 4), (by first | rfl | (simp; done) | (simp [*]; done)), H', ⟨by have := HK1.out; have := HJ9.out; first | omega | exact Nat.le_refl _⟩, ⟨by (with_reducible repeat (first | apply Kd.R_alloc | apply Kd.R_drewN | apply Kd.R_drew)); exact HO_6.out⟩, ⟨by (with_reducible repeat (first | apply Kd.R_alloc | apply Kd.R_drewN | apply Kd.R_drew)); exact HO_7.out⟩, ⟨by (with_reducible repeat (first | apply Kd.R_alloc | apply Kd.R_drewN | apply Kd.R_drew)); exact HO_8.out⟩, ⟨by repeat (first | (with_reducible first | exact HB.out | apply below_alloc | apply pw_below_drewN | apply below_drew1) | exact HB.out)⟩⟩
      case rest =>
       clear HC21
       try clear c1
       try clear c2
       try clear p2
       try clear q2
       try clear hx2
       try clear hf2
       try clear c3
       try clear c3b0
       try clear c3b1
       try clear c4
       try clear c4b0
       try clear c4b1
       try clear c6
       try clear p6
       try clear c7
       try clear c7b0
       try clear c8
       try clear c8b0
       try clear c9
       try clear c9b0
       try clear c11
       try clear c11b0
       try clear c11b1
       try clear c12
       try clear c12b0
       try clear c13
       try clear c13b0
       try clear c14
       try clear c14b0
       try clear c15
       try clear c15b0
       try clear c17
       try clear c18
       try clear c18b0
       try clear c19
       try clear c19b0
       try clear p20
       try clear q20
       try clear hx20
       try clear hf20
       try clear c24
       try clear c24b0
       try clear c25
       try clear c25b0
       try clear hx20_0
       try clear hx286_0
       try clear hx287_0
       try clear hx289_0
       try clear p2
       try clear p20
       try clear p286
       try clear p287
       try clear p289
       try clear q2
       try clear q20
       try clear q286
       try clear q287
       try clear q289
       obtain ⟨kq, x11_20, rfl, HA, HJ20, HO_6, HO_7, HO_8, HB⟩ := hcut
       have hl8_20 := (Kd.R_reads' HO_8.out).1
       rw [hl8_20] at HO_8
       (try simp only [hl8_20])
       (try simp only [hl8_20] at HO_6)
       (try simp only [hl8_20] at HO_7)
       cases kq with
       | zero => exact absurd HA.out (by simp [orrerylaw20_OffsetPlain.j2])
       | succ kj20 =>
        have H := HA.out
        clear HA
        simp only [orrerylaw20_OffsetPlain.j2] at H
        have H' := Aside0.mk H
        clear H
        go_wp2
        go_loopg [6, 7, 12] kj20 (fun kq v6 v7 v12 w' => ∃ (x6_4 : List (S40)) (x7_4 : List (S40)) (x12_4 : Int), v12 = .int .i64 x12_4 ∧ Aside0 (orrerylaw20_OffsetPlain.l1 kq l0 l1 (l0.length : Int) x6_4 x7_4 y288 x28_1 (rd l0 x28_1) x11_20 x12_4 l0 (l0.length : Int) x28_1 = some r) ∧ Aside0 (kq ≤ kj20) ∧ Aside0 (Kd.R k40 40 w' w.heap.size (fun k_ => some k_ ≠ (v7 : Value).ownBlock) v6 x6_4) ∧ Aside0 (Kd.R k40 40 w' w.heap.size (fun k_ => some k_ ≠ (v6 : Value).ownBlock) v7 x7_4) ∧ Aside0 (Kd.R (Kd.int .i64) 3 w' w.heap.size (fun _ => True) (.slice (some ⟨go20, 0, none⟩) y288.length co20) y288) ∧ Aside0 (Below w.heap.size w w'))
        case atStart => exact ⟨(x6_1), (x7_1), (0), (by first | rfl | (simp; done) | (simp [*]; done)), H', ⟨Nat.le_refl _⟩, ⟨by (try simp only [hl8_20]); (with_reducible repeat (first | apply Kd.R_alloc | apply Kd.R_drewN | apply Kd.R_drew)); exact HO_6.out⟩, ⟨by (try simp only [hl8_20]); (with_reducible repeat (first | apply Kd.R_alloc | apply Kd.R_drewN | apply Kd.R_drew)); exact HO_7.out⟩, ⟨by (try simp only [hl8_20]); (with_reducible repeat (first | apply Kd.R_alloc | apply Kd.R_drewN | apply Kd.R_drew)); exact HO_8.out⟩, ⟨by repeat (first | (with_reducible first | exact HB.out | apply below_alloc | apply pw_below_drewN | apply below_drew1) | exact HB.out)⟩⟩
        case round =>
         clear H'
         try clear c1
         try clear c2
         try clear p2
         try clear q2
         try clear hx2
         try clear hf2
         try clear c3
         try clear c3b0
         try clear c3b1
         try clear c4
         try clear c4b0
         try clear c4b1
         try clear c6
         try clear p6
         try clear c7
         try clear c7b0
         try clear c8
         try clear c8b0
         try clear c9
         try clear c9b0
         try clear c11
         try clear c11b0
         try clear c11b1
         try clear c12
         try clear c12b0
         try clear c13
         try clear c13b0
         try clear c14
         try clear c14b0
         try clear c15
         try clear c15b0
         try clear c17
         try clear c18
         try clear c18b0
         try clear c19
         try clear c19b0
         try clear p20
         try clear q20
         try clear hx20
         try clear hf20
         try clear c24
         try clear c24b0
         try clear c25
         try clear c25b0
         try clear hx20_0
         try clear hx286_0
         try clear hx287_0
         try clear hx289_0
         try clear p2
         try clear p20
         try clear p286
         try clear p287
         try clear p289
         try clear p6
         try clear q2
         try clear q20
         try clear q286
         try clear q287
         try clear q289
         obtain ⟨x6_4, x7_4, x12_4, rfl, HA, HK4, HO_6, HO_7, HO_8, HB⟩ := hrel
         cases gk with
         | zero => exact absurd HA.out (by simp [orrerylaw20_OffsetPlain.l1])
         | succ k4 =>
          have H := HA.out
          clear HA
          simp only [orrerylaw20_OffsetPlain.l1] at H
          by_cases c26 : x12_4 < (l0.length : Int)
          case neg =>
           rw [if_neg c26] at H
           have c26b0 : decide (x12_4 < (l0.length : Int)) = false := decide_eq_false c26
           clear c26
           (try (have c26b0r := c26b0; simp only [hl8_20] at c26b0r))
           by_cases c31 : x7_4.length < 5864062014805
           case neg => rw [if_neg c31] at H; exact absurd H (by simp)
           rw [if_pos c31] at H
           have LMc31 := Aside0.mk c31
           clear c31
           obtain ⟨y296, hy296⟩ : ∃ y_ : List (S40), y_ = (x7_4 ++ [(⟨x28_1, (rd l0 x28_1), x11_20⟩ : S40)]) := ⟨_, rfl⟩
           replace H : (orrerylaw20_OffsetPlain.l0 k4 l0 l1 (l0.length : Int) x6_4 y296 y288 l0 (l0.length : Int) (wrap64 (x28_1 + 1))) = some r := by first | (rw [hy296]; with_reducible exact H) | (have H2_ := (Option.bind_some _ _).symm.trans H; rw [hy296]; with_reducible exact H2_) | (have H2_ := (Option.bind_some _ _).symm.trans H; with_reducible exact H2_) | with_reducible exact H | (rw [hy296]; exact H) | exact H
           have Ny296 := Aside0.mk hy296
           clear hy296
           have H' := Aside0.mk H
           clear H
           go_wp2_with (first | ((with_reducible refine gate_builtin (b := .append) (xs := #[.tmp 82, .tmp 87]) rfl ?_); (try (refine gate_guard (by rfl) ?_; dsimp only)); at_builtin; refine Kd.R_append k40 (w0 := w) w.heap.size rfl (.tmp 82) (.tmp 87) 22 40 (.agg #[(.int .i64 0), (.int .i64 0), (.int .i64 0)]) 24 rfl Try.underlying22 info40 rfl (by decide) (by omega) u7 x7_4 (⟨x28_1, (rd l0 x28_1), x11_20⟩ : S40) [.int .i64 x28_1, .int .i64 (rd l0 x28_1), .int .i64 x11_20] (fun k_ => some k_ ≠ (u6 : Value).ownBlock) (fun _ => False) rfl rfl ?aP (fun _ hk => hk.elim) ?aF ?aO ?aB ?aS ?aL ?_; (case aP => exact k40_mkM _ _ _ (⟨x28_1, (rd l0 x28_1), x11_20⟩ : S40)); (case aB => exact (by repeat (first | (with_reducible first | exact HB.out | apply below_alloc | apply pw_below_drewN | apply below_drew1) | exact HB.out))); (case aF => exact (fun k_ hk => Kd.fresh' (Kd.R_lt (by (with_reducible repeat (first | apply Kd.R_alloc | apply Kd.R_drewN | apply Kd.R_drew)); exact HO_6.out)) k_ hk)); (case aO => exact (by (with_reducible repeat (first | apply Kd.R_alloc | apply Kd.R_drewN | apply Kd.R_drew)); exact HO_7.out)); (case aS => exact (below_size (by repeat (first | (with_reducible first | exact HB.out | apply below_alloc | apply pw_below_drewN | apply below_drew1) | exact HB.out)))); (case aL => have := LMc31.out; omega); intro v297 w32 ho hb hg hat; rw [← Ny296.out] at ho; have n0_ := Aside0.mk (Kd.R_after (ok := (fun _ => True)) (by (with_reducible repeat (first | apply Kd.R_alloc | apply Kd.R_drewN | apply Kd.R_drew)); exact Kd.R_mono HO_6.out (fun _ hk => ⟨trivial, hk⟩)) hg hat); have n1_ := Aside0.mk (Kd.R_over' (by (with_reducible repeat (first | apply Kd.R_alloc | apply Kd.R_drewN | apply Kd.R_drew)); exact HO_8.out) (Kd.R_typed (by (with_reducible repeat (first | apply Kd.R_alloc | apply Kd.R_drewN | apply Kd.R_drew)); exact HO_7.out)) (by decide) hg); have n2_ := Aside0.mk (hb); have n3_ := Aside0.mk (ho); clear HO_6; clear HO_8; clear HB; clear HO_7; have HO_6 := n0_; have HO_8 := n1_; have HB := n2_; have HO298 := n3_; clear n0_ n1_ n2_ n3_; clear ho hb hg hat))
           (try simp only [← hl8_20])
           (first | go_roundg k4 | (refine Handed.intro k4 ?measure ?_; rotate_left; go_step; (repeat apply Exists.intro); (refine ⟨?rel, ?fr_⟩); (case fr_ => (simp only [add_plain]; rfl))))
           case measure => have := HK1.out; have := HJ9.out; have := HJ20.out; have := HK4.out; omega
           case rel => exact ⟨(x6_4), (y296), (y288), (wrap64 (x28_1 + 1)), (by first | rfl | (simp; done) | (simp [*]; done)), H', ⟨by have := HK1.out; have := HJ9.out; have := HJ20.out; have := HK4.out; omega⟩, ⟨by (try simp only [hl8_20]); (with_reducible repeat (first | apply Kd.R_alloc | apply Kd.R_drewN | apply Kd.R_drew)); exact Kd.R_mono HO_6.out (fun _ hk => hk.2)⟩, ⟨by (try simp only [hl8_20]); (with_reducible repeat (first | apply Kd.R_alloc | apply Kd.R_drewN | apply Kd.R_drew)); exact HO298.out⟩, ⟨by (try simp only [hl8_20]); (with_reducible repeat (first | apply Kd.R_alloc | apply Kd.R_drewN | apply Kd.R_drew)); exact HO_8.out⟩, ⟨by repeat (first | (with_reducible first | exact HB.out | apply below_alloc | apply pw_below_drewN | apply below_drew1) | exact HB.out)⟩⟩
          rw [if_pos c26] at H
          have c26b0 : decide (x12_4 < (l0.length : Int)) = true := decide_eq_true c26
          clear c26
          (try (have c26b0r := c26b0; simp only [hl8_20] at c26b0r))
          by_cases c27 : x6_4.length < 5864062014805
          case neg => rw [if_neg c27] at H; exact absurd H (by simp)
          rw [if_pos c27] at H
          have LMc27 := Aside0.mk c27
          clear c27
          obtain ⟨y290, hy290⟩ : ∃ y_ : List (S40), y_ = (x6_4 ++ [(⟨x28_1, x12_4, 0⟩ : S40)]) := ⟨_, rfl⟩
          replace H : (if x7_4.length < 5864062014805 then (orrerylaw20_OffsetPlain.l1 k4 l0 l1 (l0.length : Int) y290 (x7_4 ++ [(⟨x28_1, x12_4, 0⟩ : S40)]) y288 x28_1 (rd l0 x28_1) x11_20 (wrap64 (x12_4 + 1)) l0 (l0.length : Int) x28_1) else (none)) = some r := by first | (rw [hy290]; with_reducible exact H) | (have H2_ := (Option.bind_some _ _).symm.trans H; rw [hy290]; with_reducible exact H2_) | (have H2_ := (Option.bind_some _ _).symm.trans H; with_reducible exact H2_) | with_reducible exact H | (rw [hy290]; exact H) | exact H
          have Ny290 := Aside0.mk hy290
          clear hy290
          by_cases c28 : x7_4.length < 5864062014805
          case neg => rw [if_neg c28] at H; exact absurd H (by simp)
          rw [if_pos c28] at H
          have LMc28 := Aside0.mk c28
          clear c28
          obtain ⟨y293, hy293⟩ : ∃ y_ : List (S40), y_ = (x7_4 ++ [(⟨x28_1, x12_4, 0⟩ : S40)]) := ⟨_, rfl⟩
          replace H : (orrerylaw20_OffsetPlain.l1 k4 l0 l1 (l0.length : Int) y290 y293 y288 x28_1 (rd l0 x28_1) x11_20 (wrap64 (x12_4 + 1)) l0 (l0.length : Int) x28_1) = some r := by first | (rw [hy293]; with_reducible exact H) | (have H2_ := (Option.bind_some _ _).symm.trans H; rw [hy293]; with_reducible exact H2_) | (have H2_ := (Option.bind_some _ _).symm.trans H; with_reducible exact H2_) | with_reducible exact H | (rw [hy293]; exact H) | exact H
          have Ny293 := Aside0.mk hy293
          clear hy293
          have H' := Aside0.mk H
          clear H
          go_wp2_with (first | ((with_reducible refine gate_builtin (b := .append) (xs := #[.tmp 70, .tmp 74]) rfl ?_); (try (refine gate_guard (by rfl) ?_; dsimp only)); at_builtin; refine Kd.R_append k40 (w0 := w) w.heap.size rfl (.tmp 70) (.tmp 74) 22 40 (.agg #[(.int .i64 0), (.int .i64 0), (.int .i64 0)]) 24 rfl Try.underlying22 info40 rfl (by decide) (by omega) u6 x6_4 (⟨x28_1, x12_4, 0⟩ : S40) [.int .i64 x28_1, .int .i64 x12_4, .int .i64 0] (fun k_ => some k_ ≠ (u7 : Value).ownBlock) (fun _ => False) rfl rfl ?aP (fun _ hk => hk.elim) ?aF ?aO ?aB ?aS ?aL ?_; (case aP => exact k40_mkM _ _ _ (⟨x28_1, x12_4, 0⟩ : S40)); (case aB => exact (by repeat (first | (with_reducible first | exact HB.out | apply below_alloc | apply pw_below_drewN | apply below_drew1) | exact HB.out))); (case aF => exact (fun k_ hk => Kd.fresh' (Kd.R_lt (by (with_reducible repeat (first | apply Kd.R_alloc | apply Kd.R_drewN | apply Kd.R_drew)); exact HO_7.out)) k_ hk)); (case aO => exact (by (with_reducible repeat (first | apply Kd.R_alloc | apply Kd.R_drewN | apply Kd.R_drew)); exact HO_6.out)); (case aS => exact (below_size (by repeat (first | (with_reducible first | exact HB.out | apply below_alloc | apply pw_below_drewN | apply below_drew1) | exact HB.out)))); (case aL => have := LMc27.out; omega); intro v291 w29 ho hb hg hat; rw [← Ny290.out] at ho; have n0_ := Aside0.mk (Kd.R_after (ok := (fun _ => True)) (by (with_reducible repeat (first | apply Kd.R_alloc | apply Kd.R_drewN | apply Kd.R_drew)); exact Kd.R_mono HO_7.out (fun _ hk => ⟨trivial, hk⟩)) hg hat); have n1_ := Aside0.mk (Kd.R_over' (by (with_reducible repeat (first | apply Kd.R_alloc | apply Kd.R_drewN | apply Kd.R_drew)); exact HO_8.out) (Kd.R_typed (by (with_reducible repeat (first | apply Kd.R_alloc | apply Kd.R_drewN | apply Kd.R_drew)); exact HO_6.out)) (by decide) hg); have n2_ := Aside0.mk (hb); have n3_ := Aside0.mk (ho); clear HO_7; clear HO_8; clear HB; clear HO_6; have HO_7 := n0_; have HO_8 := n1_; have HB := n2_; have HO292 := n3_; clear n0_ n1_ n2_ n3_; clear ho hb hg hat) | ((with_reducible refine gate_builtin (b := .append) (xs := #[.tmp 76, .tmp 80]) rfl ?_); (try (refine gate_guard (by rfl) ?_; dsimp only)); at_builtin; refine Kd.R_append k40 (w0 := w) w.heap.size rfl (.tmp 76) (.tmp 80) 22 40 (.agg #[(.int .i64 0), (.int .i64 0), (.int .i64 0)]) 24 rfl Try.underlying22 info40 rfl (by decide) (by omega) u7 x7_4 (⟨x28_1, x12_4, 0⟩ : S40) [.int .i64 x28_1, .int .i64 x12_4, .int .i64 0] (fun k_ => some k_ ≠ (v291 : Value).ownBlock) (fun _ => False) rfl rfl ?aP (fun _ hk => hk.elim) ?aF ?aO ?aB ?aS ?aL ?_; (case aP => exact k40_mkM _ _ _ (⟨x28_1, x12_4, 0⟩ : S40)); (case aB => exact (by repeat (first | (with_reducible first | exact HB.out | apply below_alloc | apply pw_below_drewN | apply below_drew1) | exact HB.out))); (case aF => exact (fun k_ hk => Kd.fresh' (Kd.R_lt (by (with_reducible repeat (first | apply Kd.R_alloc | apply Kd.R_drewN | apply Kd.R_drew)); exact HO292.out)) k_ hk)); (case aO => exact (by (with_reducible repeat (first | apply Kd.R_alloc | apply Kd.R_drewN | apply Kd.R_drew)); exact Kd.R_mono HO_7.out (fun _ hk => hk.2))); (case aS => exact (below_size (by repeat (first | (with_reducible first | exact HB.out | apply below_alloc | apply pw_below_drewN | apply below_drew1) | exact HB.out)))); (case aL => have := LMc28.out; omega); intro v294 w30 ho hb hg hat; rw [← Ny293.out] at ho; have n0_ := Aside0.mk (Kd.R_over' (by (with_reducible repeat (first | apply Kd.R_alloc | apply Kd.R_drewN | apply Kd.R_drew)); exact HO_8.out) (Kd.R_typed (by (with_reducible repeat (first | apply Kd.R_alloc | apply Kd.R_drewN | apply Kd.R_drew)); exact HO_7.out)) (by decide) hg); have n1_ := Aside0.mk (Kd.R_after (ok := (fun _ => True)) (by (with_reducible repeat (first | apply Kd.R_alloc | apply Kd.R_drewN | apply Kd.R_drew)); exact Kd.R_mono HO292.out (fun _ hk => ⟨trivial, hk⟩)) hg hat); have n2_ := Aside0.mk (hb); have n3_ := Aside0.mk (ho); clear HO_8; clear HO292; clear HB; clear HO_7; have HO_8 := n0_; have HO292 := n1_; have HB := n2_; have HO295 := n3_; clear n0_ n1_ n2_ n3_; clear ho hb hg hat))
          (first | go_roundg k4 | (refine Handed.intro k4 ?measure ?_; rotate_left; go_step; (repeat apply Exists.intro); (refine ⟨?rel, ?fr_⟩); (case fr_ => (simp only [add_plain]; rfl))))
          case measure => have := HK1.out; have := HJ9.out; have := HJ20.out; have := HK4.out; omega
          case rel => exact ⟨(y290), (y293), (wrap64 (x12_4 + 1)), (by first | rfl | (simp; done) | (simp [*]; done)), H', ⟨by have := HK1.out; have := HJ9.out; have := HJ20.out; have := HK4.out; omega⟩, ⟨by (try simp only [hl8_20]); (with_reducible repeat (first | apply Kd.R_alloc | apply Kd.R_drewN | apply Kd.R_drew)); exact Kd.R_mono HO292.out (fun _ hk => hk.2)⟩, ⟨by (try simp only [hl8_20]); (with_reducible repeat (first | apply Kd.R_alloc | apply Kd.R_drewN | apply Kd.R_drew)); exact HO295.out⟩, ⟨by (try simp only [hl8_20]); (with_reducible repeat (first | apply Kd.R_alloc | apply Kd.R_drewN | apply Kd.R_drew)); exact HO_8.out⟩, ⟨by repeat (first | (with_reducible first | exact HB.out | apply below_alloc | apply pw_below_drewN | apply below_drew1) | exact HB.out)⟩⟩
   rw [if_neg c7] at H
   have c7b0 : decide (x28_1 < (l0.length : Int)) = false := decide_eq_false c7
   clear c7
   replace H := Option.bind_eq_some_iff.mp H
   obtain ⟨⟨t299, t300, t301⟩, A330, H⟩ := H
   replace H : ((offset_Offsets.f k1 (l0.length : Int) x7_1 l0).bind fun bt306 => (if t301 = 0 then (if bt306.2.2 = 0 then (if (t299.length : Int) = (l0.length : Int) then (orrerylaw20_OffsetPlain.j4 k1 l0 l1 t299 t300 bt306.1 bt306.2.1 ((bt306.1.length : Int) != (l0.length : Int))) else (orrerylaw20_OffsetPlain.j4 k1 l0 l1 t299 t300 bt306.1 bt306.2.1 true)) else (orrerylaw20_OffsetPlain.j4 k1 l0 l1 t299 t300 bt306.1 bt306.2.1 true)) else (orrerylaw20_OffsetPlain.j4 k1 l0 l1 t299 t300 bt306.1 bt306.2.1 true))) = some r := H
   have A33 := Aside0.mk A330
   clear A330
   replace H := Option.bind_eq_some_iff.mp H
   obtain ⟨⟨t306, t307, t308⟩, A340, H⟩ := H
   replace H : (if t301 = 0 then (if t308 = 0 then (if (t299.length : Int) = (l0.length : Int) then (orrerylaw20_OffsetPlain.j4 k1 l0 l1 t299 t300 t306 t307 ((t306.length : Int) != (l0.length : Int))) else (orrerylaw20_OffsetPlain.j4 k1 l0 l1 t299 t300 t306 t307 true)) else (orrerylaw20_OffsetPlain.j4 k1 l0 l1 t299 t300 t306 t307 true)) else (orrerylaw20_OffsetPlain.j4 k1 l0 l1 t299 t300 t306 t307 true)) = some r := H
   have A34 := Aside0.mk A340
   clear A340
   have HC35 := Aside0.mk H
   clear H
   obtain ⟨Ao36, co36, eo36⟩ := Kd.R_slice HO_6.out
   subst eo36
   go_upto_region 22 with (first | ((with_reducible refine gate_callee (f := 18) rfl ?_); refine goesL_ (some 94) rfl rfl Try.func18 (by kernel_rfl) rfl #[.int .i64 (l0.length : Int), .slice Ao36 x6_1.length co36, .slice A0 l0.length c0] rfl (by (try simp only [List.map_toArray, List.map_cons, List.map_nil]); first | done | rfl | (simp only [List.length_drop, List.length_take]; rfl)) ?_; (with_reducible refine (offset_Offsets.calls k1 (l0.length : Int) _ _ x6_1 _ _ l0 t299 t300 t301 _ ?side1 ?side2 ?side3 ?side4 A33.out).mono ?_); (case side1 => repeat (first | exact (Kd.R_reads' HO_6.out).2.2 | (with_reducible refine Kd.C_alloc ?_ _) | (with_reducible refine Kd.C_drewN ?_ _) | (with_reducible refine Kd.C_drew ?_))); (case side2 => exact (Kd.R_reads' HO_6.out).2.1); (case side3 => repeat (first | exact (Kd.C_below HR0.out HB.out) | (with_reducible refine Kd.C_alloc ?_ _) | (with_reducible refine Kd.C_drewN ?_ _) | (with_reducible refine Kd.C_drew ?_))); (case side4 => exact HC0.out); rintro e w37 ⟨v302, v304, rfl, ho0, ho1, hb⟩; refine ⟨_, rfl, ?_⟩; have n0_ := Aside0.mk (Kd.R_below (by (with_reducible repeat (first | apply Kd.R_alloc | apply Kd.R_drewN | apply Kd.R_drew)); exact HO_6.out) hb); have n1_ := Aside0.mk (Kd.R_below (by (with_reducible repeat (first | apply Kd.R_alloc | apply Kd.R_drewN | apply Kd.R_drew)); exact HO_7.out) hb); have n2_ := Aside0.mk (Kd.R_mono (Kd.R_told (Kd.R_told (Kd.R_old (by (with_reducible repeat (first | apply Kd.R_alloc | apply Kd.R_drewN | apply Kd.R_drew)); exact HO_8.out) hb) (Kd.R_base ho0)) (Kd.R_base ho1)) (fun _ h_ => h_.1)); have n3_ := Aside0.mk (Kd.R_lower (Kd.R_new' ho0 (Kd.R_lt (by (with_reducible repeat (first | apply Kd.R_alloc | apply Kd.R_drewN | apply Kd.R_drew)); exact HO_8.out))) (below_size (by repeat (first | (with_reducible first | exact HB.out | apply below_alloc | apply pw_below_drewN | apply below_drew1) | exact HB.out)))); have n4_ := Aside0.mk (Kd.R_lower (Kd.R_new' ho1 (Kd.R_lt (by (with_reducible repeat (first | apply Kd.R_alloc | apply Kd.R_drewN | apply Kd.R_drew)); exact HO_8.out))) (below_size (by repeat (first | (with_reducible first | exact HB.out | apply below_alloc | apply pw_below_drewN | apply below_drew1) | exact HB.out)))); have n5_ := Aside0.mk (below_step (by repeat (first | (with_reducible first | exact HB.out | apply below_alloc | apply pw_below_drewN | apply below_drew1) | exact HB.out)) hb); clear HO_6; clear HO_7; clear HO_8; clear HB; have HO_6 := n0_; have HO_7 := n1_; have HO_8 := n2_; have HO303 := n3_; have HO305 := n4_; have HB := n5_; clear n0_ n1_ n2_ n3_ n4_ n5_; (try clear hb); (try clear hb2); (try clear hk); (try clear hi); (try clear ho0); (try clear ho1); obtain ⟨Ao38, co38, eo38⟩ := Kd.R_slice HO_7.out; subst eo38) | ((with_reducible refine gate_callee (f := 18) rfl ?_); refine goesL_ (some 102) rfl rfl Try.func18 (by kernel_rfl) rfl #[.int .i64 (l0.length : Int), .slice Ao38 x7_1.length co38, .slice A0 l0.length c0] rfl (by (try simp only [List.map_toArray, List.map_cons, List.map_nil]); first | done | rfl | (simp only [List.length_drop, List.length_take]; rfl)) ?_; (with_reducible refine (offset_Offsets.calls k1 (l0.length : Int) _ _ x7_1 _ _ l0 t306 t307 t308 _ ?side1 ?side2 ?side3 ?side4 A34.out).mono ?_); (case side1 => repeat (first | exact (Kd.R_reads' HO_7.out).2.2 | (with_reducible refine Kd.C_alloc ?_ _) | (with_reducible refine Kd.C_drewN ?_ _) | (with_reducible refine Kd.C_drew ?_))); (case side2 => exact (Kd.R_reads' HO_7.out).2.1); (case side3 => repeat (first | exact (Kd.C_below HR0.out HB.out) | (with_reducible refine Kd.C_alloc ?_ _) | (with_reducible refine Kd.C_drewN ?_ _) | (with_reducible refine Kd.C_drew ?_))); (case side4 => exact HC0.out); rintro e w39 ⟨v309, v311, rfl, ho0, ho1, hb⟩; refine ⟨_, rfl, ?_⟩; have n0_ := Aside0.mk (Kd.R_below (by (with_reducible repeat (first | apply Kd.R_alloc | apply Kd.R_drewN | apply Kd.R_drew)); exact HO_6.out) hb); have n1_ := Aside0.mk (Kd.R_below (by (with_reducible repeat (first | apply Kd.R_alloc | apply Kd.R_drewN | apply Kd.R_drew)); exact HO_7.out) hb); have n2_ := Aside0.mk (Kd.R_mono (Kd.R_told (Kd.R_told (Kd.R_old (by (with_reducible repeat (first | apply Kd.R_alloc | apply Kd.R_drewN | apply Kd.R_drew)); exact HO_8.out) hb) (Kd.R_base ho0)) (Kd.R_base ho1)) (fun _ h_ => h_.1)); have n3_ := Aside0.mk (Kd.R_mono (Kd.R_told (Kd.R_told (Kd.R_old (by (with_reducible repeat (first | apply Kd.R_alloc | apply Kd.R_drewN | apply Kd.R_drew)); exact HO303.out) hb) (Kd.R_base ho0)) (Kd.R_base ho1)) (fun _ h_ => h_.1)); have n4_ := Aside0.mk (Kd.R_mono (Kd.R_told (Kd.R_told (Kd.R_old (by (with_reducible repeat (first | apply Kd.R_alloc | apply Kd.R_drewN | apply Kd.R_drew)); exact HO305.out) hb) (Kd.R_base ho0)) (Kd.R_base ho1)) (fun _ h_ => h_.1)); have n5_ := Aside0.mk (Kd.R_lower (Kd.R_new' (Kd.R_new' (Kd.R_new' ho0 (Kd.R_lt (by (with_reducible repeat (first | apply Kd.R_alloc | apply Kd.R_drewN | apply Kd.R_drew)); exact HO_8.out))) (Kd.R_lt (by (with_reducible repeat (first | apply Kd.R_alloc | apply Kd.R_drewN | apply Kd.R_drew)); exact HO303.out))) (Kd.R_lt (by (with_reducible repeat (first | apply Kd.R_alloc | apply Kd.R_drewN | apply Kd.R_drew)); exact HO305.out))) (below_size (by repeat (first | (with_reducible first | exact HB.out | apply below_alloc | apply pw_below_drewN | apply below_drew1) | exact HB.out)))); have n6_ := Aside0.mk (Kd.R_lower (Kd.R_new' (Kd.R_new' (Kd.R_new' ho1 (Kd.R_lt (by (with_reducible repeat (first | apply Kd.R_alloc | apply Kd.R_drewN | apply Kd.R_drew)); exact HO_8.out))) (Kd.R_lt (by (with_reducible repeat (first | apply Kd.R_alloc | apply Kd.R_drewN | apply Kd.R_drew)); exact HO303.out))) (Kd.R_lt (by (with_reducible repeat (first | apply Kd.R_alloc | apply Kd.R_drewN | apply Kd.R_drew)); exact HO305.out))) (below_size (by repeat (first | (with_reducible first | exact HB.out | apply below_alloc | apply pw_below_drewN | apply below_drew1) | exact HB.out)))); have n7_ := Aside0.mk (below_step (by repeat (first | (with_reducible first | exact HB.out | apply below_alloc | apply pw_below_drewN | apply below_drew1) | exact HB.out)) hb); clear HO_6; clear HO_7; clear HO_8; clear HO303; clear HO305; clear HB; have HO_6 := n0_; have HO_7 := n1_; have HO_8 := n2_; have HO303 := n3_; have HO305 := n4_; have HO310 := n5_; have HO312 := n6_; have HB := n7_; clear n0_ n1_ n2_ n3_ n4_ n5_ n6_ n7_; (try clear hb); (try clear hb2); (try clear hk); (try clear hi); (try clear ho0); (try clear ho1)))
   (try simp only [Act.put, List.setIfInBounds_toArray, List.set_cons_zero, List.set_cons_succ])
   go_cut [123] (fun v123 wc => ∃ (kq : Nat) (x123_34 : Bool), v123 = .bool x123_34 ∧ Aside0 (orrerylaw20_OffsetPlain.j4 kq l0 l1 t299 t300 t306 t307 x123_34 = some r) ∧ Aside0 (kq ≤ k1) ∧ Aside0 (Kd.R (Kd.int .i64) 3 wc w.heap.size (fun k_ => some k_ ≠ (v304 : Value).ownBlock ∧ some k_ ≠ (v309 : Value).ownBlock ∧ some k_ ≠ (v311 : Value).ownBlock) v302 t299) ∧ Aside0 (Kd.R (Kd.int .i64) 3 wc w.heap.size (fun k_ => some k_ ≠ (v302 : Value).ownBlock ∧ some k_ ≠ (v309 : Value).ownBlock ∧ some k_ ≠ (v311 : Value).ownBlock) v304 t300) ∧ Aside0 (Kd.R (Kd.int .i64) 3 wc w.heap.size (fun k_ => some k_ ≠ (v302 : Value).ownBlock ∧ some k_ ≠ (v304 : Value).ownBlock ∧ some k_ ≠ (v311 : Value).ownBlock) v309 t306) ∧ Aside0 (Kd.R (Kd.int .i64) 3 wc w.heap.size (fun k_ => some k_ ≠ (v302 : Value).ownBlock ∧ some k_ ≠ (v304 : Value).ownBlock ∧ some k_ ≠ (v309 : Value).ownBlock) v311 t307) ∧ Aside0 (Below w.heap.size w wc))
   case first =>
    have H := HC35.out
    clear HC35
    by_cases c40 : t301 = 0
    case neg =>
     rw [if_neg c40] at H
     have c40b0 : (t301 == 0) = false := beq_eq_false_iff_ne.mpr c40
     have c40b1 : (t301 != 0) = true := bne_iff_ne.mpr c40
     (first | rw [c40b0] | (simp only [i64_w, i32_w]; rw [c40b0]) | skip)
     have H' := Aside0.mk H
     clear H
     go_wp2
     go_meet
     case rel => exact ⟨_, (true), (by first | rfl | (simp; done) | (simp [*]; done)), H', ⟨by have := HK1.out; first | omega | exact Nat.le_refl _⟩, ⟨by (with_reducible repeat (first | apply Kd.R_alloc | apply Kd.R_drewN | apply Kd.R_drew)); exact Kd.R_mono HO303.out (fun _ hk => ⟨hk.1.1.1, ⟨hk.1.2, hk.2⟩⟩)⟩, ⟨by (with_reducible repeat (first | apply Kd.R_alloc | apply Kd.R_drewN | apply Kd.R_drew)); exact Kd.R_mono HO305.out (fun _ hk => ⟨hk.1.1.1, ⟨hk.1.2, hk.2⟩⟩)⟩, ⟨by (with_reducible repeat (first | apply Kd.R_alloc | apply Kd.R_drewN | apply Kd.R_drew)); exact Kd.R_mono HO310.out (fun _ hk => ⟨hk.1.2, ⟨hk.2, hk.1.1.1⟩⟩)⟩, ⟨by (with_reducible repeat (first | apply Kd.R_alloc | apply Kd.R_drewN | apply Kd.R_drew)); exact Kd.R_mono HO312.out (fun _ hk => ⟨hk.1.2, ⟨hk.2, hk.1.1.1⟩⟩)⟩, ⟨by repeat (first | (with_reducible first | exact HB.out | apply below_alloc | apply pw_below_drewN | apply below_drew1) | exact HB.out)⟩⟩
    rw [if_pos c40] at H
    have c40b0 : (t301 == 0) = true := beq_iff_eq.mpr c40
    have c40b1 : (t301 != 0) = false := bne_eq_false_iff_eq.mpr c40
    clear c40
    (first | rw [c40b0] | (simp only [i64_w, i32_w]; rw [c40b0]) | skip)
    by_cases c41 : t308 = 0
    case neg =>
     rw [if_neg c41] at H
     have c41b0 : (t308 == 0) = false := beq_eq_false_iff_ne.mpr c41
     have c41b1 : (t308 != 0) = true := bne_iff_ne.mpr c41
     have H' := Aside0.mk H
     clear H
     go_wp2
     go_meet
     case rel => exact ⟨_, (true), (by first | rfl | (simp; done) | (simp [*]; done)), H', ⟨by have := HK1.out; first | omega | exact Nat.le_refl _⟩, ⟨by (with_reducible repeat (first | apply Kd.R_alloc | apply Kd.R_drewN | apply Kd.R_drew)); exact Kd.R_mono HO303.out (fun _ hk => ⟨hk.1.1.1, ⟨hk.1.2, hk.2⟩⟩)⟩, ⟨by (with_reducible repeat (first | apply Kd.R_alloc | apply Kd.R_drewN | apply Kd.R_drew)); exact Kd.R_mono HO305.out (fun _ hk => ⟨hk.1.1.1, ⟨hk.1.2, hk.2⟩⟩)⟩, ⟨by (with_reducible repeat (first | apply Kd.R_alloc | apply Kd.R_drewN | apply Kd.R_drew)); exact Kd.R_mono HO310.out (fun _ hk => ⟨hk.1.2, ⟨hk.2, hk.1.1.1⟩⟩)⟩, ⟨by (with_reducible repeat (first | apply Kd.R_alloc | apply Kd.R_drewN | apply Kd.R_drew)); exact Kd.R_mono HO312.out (fun _ hk => ⟨hk.1.2, ⟨hk.2, hk.1.1.1⟩⟩)⟩, ⟨by repeat (first | (with_reducible first | exact HB.out | apply below_alloc | apply pw_below_drewN | apply below_drew1) | exact HB.out)⟩⟩
    rw [if_pos c41] at H
    have c41b0 : (t308 == 0) = true := beq_iff_eq.mpr c41
    have c41b1 : (t308 != 0) = false := bne_eq_false_iff_eq.mpr c41
    clear c41
    by_cases c42 : (t299.length : Int) = (l0.length : Int)
    case neg =>
     rw [if_neg c42] at H
     have c42b0 : ((t299.length : Int) == (l0.length : Int)) = false := beq_eq_false_iff_ne.mpr c42
     have c42b1 : ((t299.length : Int) != (l0.length : Int)) = true := bne_iff_ne.mpr c42
     have c42b2 : (t299.length == l0.length) = false := by first | simpa using c42 | (simp at c42 ⊢; omega)
     have H' := Aside0.mk H
     clear H
     obtain ⟨Ao45, co45, eo45⟩ := Kd.R_slice HO303.out
     subst eo45
     go_wp2
     go_meet
     case rel => exact ⟨_, (true), (by first | rfl | (simp; done) | (simp [*]; done)), H', ⟨by have := HK1.out; first | omega | exact Nat.le_refl _⟩, ⟨by (with_reducible repeat (first | apply Kd.R_alloc | apply Kd.R_drewN | apply Kd.R_drew)); exact Kd.R_mono HO303.out (fun _ hk => ⟨hk.1.1.1, ⟨hk.1.2, hk.2⟩⟩)⟩, ⟨by (with_reducible repeat (first | apply Kd.R_alloc | apply Kd.R_drewN | apply Kd.R_drew)); exact Kd.R_mono HO305.out (fun _ hk => ⟨hk.1.1.1, ⟨hk.1.2, hk.2⟩⟩)⟩, ⟨by (with_reducible repeat (first | apply Kd.R_alloc | apply Kd.R_drewN | apply Kd.R_drew)); exact Kd.R_mono HO310.out (fun _ hk => ⟨hk.1.2, ⟨hk.2, hk.1.1.1⟩⟩)⟩, ⟨by (with_reducible repeat (first | apply Kd.R_alloc | apply Kd.R_drewN | apply Kd.R_drew)); exact Kd.R_mono HO312.out (fun _ hk => ⟨hk.1.2, ⟨hk.2, hk.1.1.1⟩⟩)⟩, ⟨by repeat (first | (with_reducible first | exact HB.out | apply below_alloc | apply pw_below_drewN | apply below_drew1) | exact HB.out)⟩⟩
    rw [if_pos c42] at H
    have c42b0 : ((t299.length : Int) == (l0.length : Int)) = true := beq_iff_eq.mpr c42
    have c42b1 : ((t299.length : Int) != (l0.length : Int)) = false := bne_eq_false_iff_eq.mpr c42
    have c42b2 : (t299.length == l0.length) = true := by first | simpa using c42 | (simp at c42 ⊢; omega)
    clear c42
    have H' := Aside0.mk H
    clear H
    obtain ⟨Ao43, co43, eo43⟩ := Kd.R_slice HO303.out
    subst eo43
    obtain ⟨Ao44, co44, eo44⟩ := Kd.R_slice HO310.out
    subst eo44
    go_wp2
    go_meet
    case rel => exact ⟨_, (((t306.length : Int) != (l0.length : Int))), (by first | rfl | (simp; done) | (simp [*]; done)), H', ⟨by have := HK1.out; first | omega | exact Nat.le_refl _⟩, ⟨by (with_reducible repeat (first | apply Kd.R_alloc | apply Kd.R_drewN | apply Kd.R_drew)); exact Kd.R_mono HO303.out (fun _ hk => ⟨hk.1.1.1, ⟨hk.1.2, hk.2⟩⟩)⟩, ⟨by (with_reducible repeat (first | apply Kd.R_alloc | apply Kd.R_drewN | apply Kd.R_drew)); exact Kd.R_mono HO305.out (fun _ hk => ⟨hk.1.1.1, ⟨hk.1.2, hk.2⟩⟩)⟩, ⟨by (with_reducible repeat (first | apply Kd.R_alloc | apply Kd.R_drewN | apply Kd.R_drew)); exact Kd.R_mono HO310.out (fun _ hk => ⟨hk.1.2, ⟨hk.2, hk.1.1.1⟩⟩)⟩, ⟨by (with_reducible repeat (first | apply Kd.R_alloc | apply Kd.R_drewN | apply Kd.R_drew)); exact Kd.R_mono HO312.out (fun _ hk => ⟨hk.1.2, ⟨hk.2, hk.1.1.1⟩⟩)⟩, ⟨by repeat (first | (with_reducible first | exact HB.out | apply below_alloc | apply pw_below_drewN | apply below_drew1) | exact HB.out)⟩⟩
   case rest =>
    clear HC35
    try clear c1
    try clear c2
    try clear p2
    try clear q2
    try clear hx2
    try clear hf2
    try clear c3
    try clear c3b0
    try clear c3b1
    try clear c4
    try clear c4b0
    try clear c4b1
    try clear c6
    try clear p6
    try clear c7
    try clear c7b0
    try clear c8
    try clear c8b0
    try clear c9
    try clear c9b0
    try clear c11
    try clear c11b0
    try clear c11b1
    try clear c12
    try clear c12b0
    try clear c13
    try clear c13b0
    try clear c14
    try clear c14b0
    try clear c15
    try clear c15b0
    try clear c17
    try clear c18
    try clear c18b0
    try clear c19
    try clear c19b0
    try clear p20
    try clear q20
    try clear hx20
    try clear hf20
    try clear c24
    try clear c24b0
    try clear c25
    try clear c25b0
    try clear c26
    try clear c26b0
    try clear c27
    try clear c28
    try clear p28
    try clear q28
    try clear hx28
    try clear c31
    try clear c40
    try clear c40b0
    try clear c40b1
    try clear c41
    try clear c41b0
    try clear c41b1
    try clear c42
    try clear c42b0
    try clear c42b1
    try clear c42b2
    try clear hx20_0
    try clear hx286_0
    try clear hx287_0
    try clear hx289_0
    try clear p2
    try clear p20
    try clear p286
    try clear p287
    try clear p289
    try clear p6
    try clear q2
    try clear q20
    try clear q286
    try clear q287
    try clear q289
    obtain ⟨kq, x123_34, rfl, HA, HJ34, HO_13, HO_14, HO_16, HO_17, HB⟩ := hcut
    cases kq with
    | zero => exact absurd HA.out (by simp [orrerylaw20_OffsetPlain.j4])
    | succ kj34 =>
     have H := HA.out
     clear HA
     simp only [orrerylaw20_OffsetPlain.j4] at H
     by_cases c46 : x123_34 = true
     case pos =>
      subst c46
      have H1 : (some false) = some r := by rw [if_pos rfl] at H; exact H
      clear H
      have H := H1
      clear H1
      obtain rfl := Option.some.inj H
      go_wp2
      go_ret
      exact ⟨by first | rfl | (simp [errW_none, errW_some] <;> rfl) | (simp [*, errW_none, errW_some] <;> rfl), by repeat (first | (with_reducible first | exact HB.out | apply below_alloc | apply pw_below_drewN | apply below_drew1) | exact HB.out)⟩
     replace c46 := Bool.eq_false_iff.mpr c46
     subst c46
     have H1 : (orrerylaw20_OffsetPlain.l2 kj34 l1 t299 t300 t306 t307 l0 (l0.length : Int) 0) = some r := by rw [if_neg (show ¬ (false = true) by decide)] at H; exact H
     clear H
     have H := H1
     clear H1
     have H' := Aside0.mk H
     clear H
     go_wp2
     go_loopg [126] kj34 (fun kq v126 w' => ∃ (x126_3 : Int), v126 = .int .i64 x126_3 ∧ Aside0 (orrerylaw20_OffsetPlain.l2 kq l1 t299 t300 t306 t307 l0 (l0.length : Int) x126_3 = some r) ∧ Aside0 (kq ≤ kj34) ∧ Aside0 (Kd.R (Kd.int .i64) 3 w' w.heap.size (fun k_ => some k_ ≠ (v304 : Value).ownBlock ∧ some k_ ≠ (v309 : Value).ownBlock ∧ some k_ ≠ (v311 : Value).ownBlock) v302 t299) ∧ Aside0 (Kd.R (Kd.int .i64) 3 w' w.heap.size (fun k_ => some k_ ≠ (v302 : Value).ownBlock ∧ some k_ ≠ (v309 : Value).ownBlock ∧ some k_ ≠ (v311 : Value).ownBlock) v304 t300) ∧ Aside0 (Kd.R (Kd.int .i64) 3 w' w.heap.size (fun k_ => some k_ ≠ (v302 : Value).ownBlock ∧ some k_ ≠ (v304 : Value).ownBlock ∧ some k_ ≠ (v311 : Value).ownBlock) v309 t306) ∧ Aside0 (Kd.R (Kd.int .i64) 3 w' w.heap.size (fun k_ => some k_ ≠ (v302 : Value).ownBlock ∧ some k_ ≠ (v304 : Value).ownBlock ∧ some k_ ≠ (v309 : Value).ownBlock) v311 t307) ∧ Aside0 (Below w.heap.size w w'))
     case atStart => exact ⟨(0), (by first | rfl | (simp; done) | (simp [*]; done)), H', ⟨Nat.le_refl _⟩, ⟨by (with_reducible repeat (first | apply Kd.R_alloc | apply Kd.R_drewN | apply Kd.R_drew)); exact HO_13.out⟩, ⟨by (with_reducible repeat (first | apply Kd.R_alloc | apply Kd.R_drewN | apply Kd.R_drew)); exact HO_14.out⟩, ⟨by (with_reducible repeat (first | apply Kd.R_alloc | apply Kd.R_drewN | apply Kd.R_drew)); exact HO_16.out⟩, ⟨by (with_reducible repeat (first | apply Kd.R_alloc | apply Kd.R_drewN | apply Kd.R_drew)); exact HO_17.out⟩, ⟨by repeat (first | (with_reducible first | exact HB.out | apply below_alloc | apply pw_below_drewN | apply below_drew1) | exact HB.out)⟩⟩
     case round =>
      clear H'
      try clear c1
      try clear c2
      try clear p2
      try clear q2
      try clear hx2
      try clear hf2
      try clear c3
      try clear c3b0
      try clear c3b1
      try clear c4
      try clear c4b0
      try clear c4b1
      try clear c6
      try clear p6
      try clear c7
      try clear c7b0
      try clear c8
      try clear c8b0
      try clear c9
      try clear c9b0
      try clear c11
      try clear c11b0
      try clear c11b1
      try clear c12
      try clear c12b0
      try clear c13
      try clear c13b0
      try clear c14
      try clear c14b0
      try clear c15
      try clear c15b0
      try clear c17
      try clear c18
      try clear c18b0
      try clear c19
      try clear c19b0
      try clear p20
      try clear q20
      try clear hx20
      try clear hf20
      try clear c24
      try clear c24b0
      try clear c25
      try clear c25b0
      try clear c26
      try clear c26b0
      try clear c27
      try clear c28
      try clear p28
      try clear q28
      try clear hx28
      try clear c31
      try clear c40
      try clear c40b0
      try clear c40b1
      try clear c41
      try clear c41b0
      try clear c41b1
      try clear c42
      try clear c42b0
      try clear c42b1
      try clear c42b2
      try clear c46
      try clear hx20_0
      try clear hx286_0
      try clear hx287_0
      try clear hx289_0
      try clear p2
      try clear p20
      try clear p28
      try clear p286
      try clear p287
      try clear p289
      try clear p6
      try clear q2
      try clear q20
      try clear q28
      try clear q286
      try clear q287
      try clear q289
      obtain ⟨x126_3, rfl, HA, HK3, HO_13, HO_14, HO_16, HO_17, HB⟩ := hrel
      cases gk with
      | zero => exact absurd HA.out (by simp [orrerylaw20_OffsetPlain.l2])
      | succ k3 =>
       have H := HA.out
       clear HA
       simp only [orrerylaw20_OffsetPlain.l2] at H
       by_cases c47 : x126_3 < (l0.length : Int)
       case neg =>
        rw [if_neg c47] at H
        have c47b0 : decide (x126_3 < (l0.length : Int)) = false := decide_eq_false c47
        clear c47
        obtain rfl := Option.some.inj H
        go_wp2
        go_ret
        exact ⟨by first | rfl | (simp [errW_none, errW_some] <;> rfl) | (simp [*, errW_none, errW_some] <;> rfl), by repeat (first | (with_reducible first | exact HB.out | apply below_alloc | apply pw_below_drewN | apply below_drew1) | exact HB.out)⟩
       rw [if_pos c47] at H
       have c47b0 : decide (x126_3 < (l0.length : Int)) = true := decide_eq_true c47
       clear c47
       by_cases c48 : 0 ≤ x126_3
       case neg => rw [if_neg c48] at H; exact absurd H (by simp)
       rw [if_pos c48] at H
       have c48b0 : decide (0 ≤ x126_3) = true := decide_eq_true c48
       clear c48
       by_cases c49 : x126_3 < (l0.length : Int)
       case neg => rw [if_neg c49] at H; exact absurd H (by simp)
       rw [if_pos c49] at H
       have c49b0 : decide (x126_3 < (l0.length : Int)) = true := decide_eq_true c49
       clear c49
       by_cases c50 : x126_3 < (l1.length : Int)
       case neg =>
        rw [if_neg c50] at H
        have c50b0 : decide (x126_3 < (l1.length : Int)) = false := decide_eq_false c50
        clear c50
        by_cases c74 : x126_3 < (t299.length : Int)
        case neg => rw [if_neg c74] at H; exact absurd H (by simp)
        rw [if_pos c74] at H
        have c74b0 : decide (x126_3 < (t299.length : Int)) = true := decide_eq_true c74
        clear c74
        by_cases c75 : (rd t299 x126_3) = 0
        case neg =>
         rw [if_neg c75] at H
         have c75b0 : ((rd t299 x126_3) == 0) = false := beq_eq_false_iff_ne.mpr c75
         have c75b1 : ((rd t299 x126_3) != 0) = true := bne_iff_ne.mpr c75
         obtain rfl := Option.some.inj H
         have p313 : 0 ≤ (x126_3 : Int) := of_decide_eq_true (by first | (with_reducible assumption) | assumption)
         have q313 : x126_3 < (l0.length : Int) := of_decide_eq_true (by first | (with_reducible assumption) | assumption)
         obtain ⟨ad313, e313, hx313_0⟩ := Kd.at_int HR0.out x126_3 p313 q313
         cases e313
         replace hx313_0 := (HB.out.cell (World.block_lt_of_cell? w _ hx313_0)).trans hx313_0
         replace p313 := eq_true p313
         replace q313 := eq_true q313
         obtain ⟨Ao96, co96, eo96⟩ := Kd.R_slice HO_13.out
         subst eo96
         have p319 : 0 ≤ (x126_3 : Int) := of_decide_eq_true (by first | (with_reducible assumption) | assumption)
         have q319 : x126_3 < (t299.length : Int) := of_decide_eq_true (by first | (with_reducible assumption) | assumption)
         obtain ⟨ad319, e319, hx319_0⟩ := Kd.at_int (Kd.R_reads' HO_13.out).2.2 x126_3 p319 q319
         cases e319
         replace p319 := eq_true p319
         replace q319 := eq_true q319
         go_wp2
         go_ret
         exact ⟨by first | rfl | (simp [errW_none, errW_some] <;> rfl) | (simp [*, errW_none, errW_some] <;> rfl), by repeat (first | (with_reducible first | exact HB.out | apply below_alloc | apply pw_below_drewN | apply below_drew1) | exact HB.out)⟩
        rw [if_pos c75] at H
        have c75b0 : ((rd t299 x126_3) == 0) = true := beq_iff_eq.mpr c75
        have c75b1 : ((rd t299 x126_3) != 0) = false := bne_eq_false_iff_eq.mpr c75
        clear c75
        by_cases c76 : x126_3 < (t300.length : Int)
        case neg => rw [if_neg c76] at H; exact absurd H (by simp)
        rw [if_pos c76] at H
        have c76b0 : decide (x126_3 < (t300.length : Int)) = true := decide_eq_true c76
        clear c76
        by_cases c77 : (rd t300 x126_3) = 0
        case neg =>
         rw [if_neg c77] at H
         have c77b0 : ((rd t300 x126_3) == 0) = false := beq_eq_false_iff_ne.mpr c77
         have c77b1 : ((rd t300 x126_3) != 0) = true := bne_iff_ne.mpr c77
         obtain rfl := Option.some.inj H
         have p313 : 0 ≤ (x126_3 : Int) := of_decide_eq_true (by first | (with_reducible assumption) | assumption)
         have q313 : x126_3 < (l0.length : Int) := of_decide_eq_true (by first | (with_reducible assumption) | assumption)
         obtain ⟨ad313, e313, hx313_0⟩ := Kd.at_int HR0.out x126_3 p313 q313
         cases e313
         replace hx313_0 := (HB.out.cell (World.block_lt_of_cell? w _ hx313_0)).trans hx313_0
         replace p313 := eq_true p313
         replace q313 := eq_true q313
         obtain ⟨Ao94, co94, eo94⟩ := Kd.R_slice HO_13.out
         subst eo94
         have p319 : 0 ≤ (x126_3 : Int) := of_decide_eq_true (by first | (with_reducible assumption) | assumption)
         have q319 : x126_3 < (t299.length : Int) := of_decide_eq_true (by first | (with_reducible assumption) | assumption)
         obtain ⟨ad319, e319, hx319_0⟩ := Kd.at_int (Kd.R_reads' HO_13.out).2.2 x126_3 p319 q319
         cases e319
         replace p319 := eq_true p319
         replace q319 := eq_true q319
         obtain ⟨Ao95, co95, eo95⟩ := Kd.R_slice HO_14.out
         subst eo95
         have p320 : 0 ≤ (x126_3 : Int) := of_decide_eq_true (by first | (with_reducible assumption) | assumption)
         have q320 : x126_3 < (t300.length : Int) := of_decide_eq_true (by first | (with_reducible assumption) | assumption)
         obtain ⟨ad320, e320, hx320_0⟩ := Kd.at_int (Kd.R_reads' HO_14.out).2.2 x126_3 p320 q320
         cases e320
         replace p320 := eq_true p320
         replace q320 := eq_true q320
         go_wp2
         go_ret
         exact ⟨by first | rfl | (simp [errW_none, errW_some] <;> rfl) | (simp [*, errW_none, errW_some] <;> rfl), by repeat (first | (with_reducible first | exact HB.out | apply below_alloc | apply pw_below_drewN | apply below_drew1) | exact HB.out)⟩
        rw [if_pos c77] at H
        have c77b0 : ((rd t300 x126_3) == 0) = true := beq_iff_eq.mpr c77
        have c77b1 : ((rd t300 x126_3) != 0) = false := bne_eq_false_iff_eq.mpr c77
        clear c77
        by_cases c78 : x126_3 < (t306.length : Int)
        case neg => rw [if_neg c78] at H; exact absurd H (by simp)
        rw [if_pos c78] at H
        have c78b0 : decide (x126_3 < (t306.length : Int)) = true := decide_eq_true c78
        clear c78
        by_cases c79 : (rd t306 x126_3) = 0
        case neg =>
         rw [if_neg c79] at H
         have c79b0 : ((rd t306 x126_3) == 0) = false := beq_eq_false_iff_ne.mpr c79
         have c79b1 : ((rd t306 x126_3) != 0) = true := bne_iff_ne.mpr c79
         obtain rfl := Option.some.inj H
         have p313 : 0 ≤ (x126_3 : Int) := of_decide_eq_true (by first | (with_reducible assumption) | assumption)
         have q313 : x126_3 < (l0.length : Int) := of_decide_eq_true (by first | (with_reducible assumption) | assumption)
         obtain ⟨ad313, e313, hx313_0⟩ := Kd.at_int HR0.out x126_3 p313 q313
         cases e313
         replace hx313_0 := (HB.out.cell (World.block_lt_of_cell? w _ hx313_0)).trans hx313_0
         replace p313 := eq_true p313
         replace q313 := eq_true q313
         obtain ⟨Ao91, co91, eo91⟩ := Kd.R_slice HO_13.out
         subst eo91
         have p319 : 0 ≤ (x126_3 : Int) := of_decide_eq_true (by first | (with_reducible assumption) | assumption)
         have q319 : x126_3 < (t299.length : Int) := of_decide_eq_true (by first | (with_reducible assumption) | assumption)
         obtain ⟨ad319, e319, hx319_0⟩ := Kd.at_int (Kd.R_reads' HO_13.out).2.2 x126_3 p319 q319
         cases e319
         replace p319 := eq_true p319
         replace q319 := eq_true q319
         obtain ⟨Ao92, co92, eo92⟩ := Kd.R_slice HO_14.out
         subst eo92
         have p320 : 0 ≤ (x126_3 : Int) := of_decide_eq_true (by first | (with_reducible assumption) | assumption)
         have q320 : x126_3 < (t300.length : Int) := of_decide_eq_true (by first | (with_reducible assumption) | assumption)
         obtain ⟨ad320, e320, hx320_0⟩ := Kd.at_int (Kd.R_reads' HO_14.out).2.2 x126_3 p320 q320
         cases e320
         replace p320 := eq_true p320
         replace q320 := eq_true q320
         obtain ⟨Ao93, co93, eo93⟩ := Kd.R_slice HO_16.out
         subst eo93
         have p321 : 0 ≤ (x126_3 : Int) := of_decide_eq_true (by first | (with_reducible assumption) | assumption)
         have q321 : x126_3 < (t306.length : Int) := of_decide_eq_true (by first | (with_reducible assumption) | assumption)
         obtain ⟨ad321, e321, hx321_0⟩ := Kd.at_int (Kd.R_reads' HO_16.out).2.2 x126_3 p321 q321
         cases e321
         replace p321 := eq_true p321
         replace q321 := eq_true q321
         go_wp2
         go_ret
         exact ⟨by first | rfl | (simp [errW_none, errW_some] <;> rfl) | (simp [*, errW_none, errW_some] <;> rfl), by repeat (first | (with_reducible first | exact HB.out | apply below_alloc | apply pw_below_drewN | apply below_drew1) | exact HB.out)⟩
        rw [if_pos c79] at H
        have c79b0 : ((rd t306 x126_3) == 0) = true := beq_iff_eq.mpr c79
        have c79b1 : ((rd t306 x126_3) != 0) = false := bne_eq_false_iff_eq.mpr c79
        clear c79
        by_cases c80 : 0 ≤ (rd l0 x126_3)
        case neg => rw [if_neg c80] at H; exact absurd H (by simp)
        rw [if_pos c80] at H
        have c80b0 : decide (0 ≤ (rd l0 x126_3)) = true := decide_eq_true c80
        clear c80
        by_cases c81 : (rd l0 x126_3) < (t307.length : Int)
        case neg => rw [if_neg c81] at H; exact absurd H (by simp)
        rw [if_pos c81] at H
        have c81b0 : decide ((rd l0 x126_3) < (t307.length : Int)) = true := decide_eq_true c81
        clear c81
        by_cases c82 : (rd t307 (rd l0 x126_3)) = 0
        case neg =>
         rw [if_neg c82] at H
         have c82b0 : ((rd t307 (rd l0 x126_3)) == 0) = false := beq_eq_false_iff_ne.mpr c82
         have c82b1 : ((rd t307 (rd l0 x126_3)) != 0) = true := bne_iff_ne.mpr c82
         obtain rfl := Option.some.inj H
         have p313 : 0 ≤ (x126_3 : Int) := of_decide_eq_true (by first | (with_reducible assumption) | assumption)
         have q313 : x126_3 < (l0.length : Int) := of_decide_eq_true (by first | (with_reducible assumption) | assumption)
         obtain ⟨ad313, e313, hx313_0⟩ := Kd.at_int HR0.out x126_3 p313 q313
         cases e313
         replace hx313_0 := (HB.out.cell (World.block_lt_of_cell? w _ hx313_0)).trans hx313_0
         replace p313 := eq_true p313
         replace q313 := eq_true q313
         obtain ⟨Ao87, co87, eo87⟩ := Kd.R_slice HO_13.out
         subst eo87
         have p319 : 0 ≤ (x126_3 : Int) := of_decide_eq_true (by first | (with_reducible assumption) | assumption)
         have q319 : x126_3 < (t299.length : Int) := of_decide_eq_true (by first | (with_reducible assumption) | assumption)
         obtain ⟨ad319, e319, hx319_0⟩ := Kd.at_int (Kd.R_reads' HO_13.out).2.2 x126_3 p319 q319
         cases e319
         replace p319 := eq_true p319
         replace q319 := eq_true q319
         obtain ⟨Ao88, co88, eo88⟩ := Kd.R_slice HO_14.out
         subst eo88
         have p320 : 0 ≤ (x126_3 : Int) := of_decide_eq_true (by first | (with_reducible assumption) | assumption)
         have q320 : x126_3 < (t300.length : Int) := of_decide_eq_true (by first | (with_reducible assumption) | assumption)
         obtain ⟨ad320, e320, hx320_0⟩ := Kd.at_int (Kd.R_reads' HO_14.out).2.2 x126_3 p320 q320
         cases e320
         replace p320 := eq_true p320
         replace q320 := eq_true q320
         obtain ⟨Ao89, co89, eo89⟩ := Kd.R_slice HO_16.out
         subst eo89
         have p321 : 0 ≤ (x126_3 : Int) := of_decide_eq_true (by first | (with_reducible assumption) | assumption)
         have q321 : x126_3 < (t306.length : Int) := of_decide_eq_true (by first | (with_reducible assumption) | assumption)
         obtain ⟨ad321, e321, hx321_0⟩ := Kd.at_int (Kd.R_reads' HO_16.out).2.2 x126_3 p321 q321
         cases e321
         replace p321 := eq_true p321
         replace q321 := eq_true q321
         obtain ⟨Ao90, co90, eo90⟩ := Kd.R_slice HO_17.out
         subst eo90
         have p322 : 0 ≤ ((rd l0 x126_3) : Int) := of_decide_eq_true (by first | (with_reducible assumption) | assumption)
         have q322 : (rd l0 x126_3) < (t307.length : Int) := of_decide_eq_true (by first | (with_reducible assumption) | assumption)
         obtain ⟨ad322, e322, hx322_0⟩ := Kd.at_int (Kd.R_reads' HO_17.out).2.2 (rd l0 x126_3) p322 q322
         cases e322
         replace p322 := eq_true p322
         replace q322 := eq_true q322
         go_wp2
         go_ret
         exact ⟨by first | rfl | (simp [errW_none, errW_some] <;> rfl) | (simp [*, errW_none, errW_some] <;> rfl), by repeat (first | (with_reducible first | exact HB.out | apply below_alloc | apply pw_below_drewN | apply below_drew1) | exact HB.out)⟩
        rw [if_pos c82] at H
        have c82b0 : ((rd t307 (rd l0 x126_3)) == 0) = true := beq_iff_eq.mpr c82
        have c82b1 : ((rd t307 (rd l0 x126_3)) != 0) = false := bne_eq_false_iff_eq.mpr c82
        clear c82
        have H' := Aside0.mk H
        clear H
        have p313 : 0 ≤ (x126_3 : Int) := of_decide_eq_true (by first | (with_reducible assumption) | assumption)
        have q313 : x126_3 < (l0.length : Int) := of_decide_eq_true (by first | (with_reducible assumption) | assumption)
        obtain ⟨ad313, e313, hx313_0⟩ := Kd.at_int HR0.out x126_3 p313 q313
        cases e313
        replace hx313_0 := (HB.out.cell (World.block_lt_of_cell? w _ hx313_0)).trans hx313_0
        replace p313 := eq_true p313
        replace q313 := eq_true q313
        obtain ⟨Ao83, co83, eo83⟩ := Kd.R_slice HO_13.out
        subst eo83
        have p319 : 0 ≤ (x126_3 : Int) := of_decide_eq_true (by first | (with_reducible assumption) | assumption)
        have q319 : x126_3 < (t299.length : Int) := of_decide_eq_true (by first | (with_reducible assumption) | assumption)
        obtain ⟨ad319, e319, hx319_0⟩ := Kd.at_int (Kd.R_reads' HO_13.out).2.2 x126_3 p319 q319
        cases e319
        replace p319 := eq_true p319
        replace q319 := eq_true q319
        obtain ⟨Ao84, co84, eo84⟩ := Kd.R_slice HO_14.out
        subst eo84
        have p320 : 0 ≤ (x126_3 : Int) := of_decide_eq_true (by first | (with_reducible assumption) | assumption)
        have q320 : x126_3 < (t300.length : Int) := of_decide_eq_true (by first | (with_reducible assumption) | assumption)
        obtain ⟨ad320, e320, hx320_0⟩ := Kd.at_int (Kd.R_reads' HO_14.out).2.2 x126_3 p320 q320
        cases e320
        replace p320 := eq_true p320
        replace q320 := eq_true q320
        obtain ⟨Ao85, co85, eo85⟩ := Kd.R_slice HO_16.out
        subst eo85
        have p321 : 0 ≤ (x126_3 : Int) := of_decide_eq_true (by first | (with_reducible assumption) | assumption)
        have q321 : x126_3 < (t306.length : Int) := of_decide_eq_true (by first | (with_reducible assumption) | assumption)
        obtain ⟨ad321, e321, hx321_0⟩ := Kd.at_int (Kd.R_reads' HO_16.out).2.2 x126_3 p321 q321
        cases e321
        replace p321 := eq_true p321
        replace q321 := eq_true q321
        obtain ⟨Ao86, co86, eo86⟩ := Kd.R_slice HO_17.out
        subst eo86
        have p322 : 0 ≤ ((rd l0 x126_3) : Int) := of_decide_eq_true (by first | (with_reducible assumption) | assumption)
        have q322 : (rd l0 x126_3) < (t307.length : Int) := of_decide_eq_true (by first | (with_reducible assumption) | assumption)
        obtain ⟨ad322, e322, hx322_0⟩ := Kd.at_int (Kd.R_reads' HO_17.out).2.2 (rd l0 x126_3) p322 q322
        cases e322
        replace p322 := eq_true p322
        replace q322 := eq_true q322
        go_wp2
        (first | go_roundg k3 | (refine Handed.intro k3 ?measure ?_; rotate_left; go_step; (repeat apply Exists.intro); (refine ⟨?rel, ?fr_⟩); (case fr_ => (simp only [add_plain]; rfl))))
        case measure => have := HK1.out; have := HJ34.out; have := HK3.out; omega
        case rel => exact ⟨(wrap64 (x126_3 + 1)), (by first | rfl | (simp; done) | (simp [*]; done)), H', ⟨by have := HK1.out; have := HJ34.out; have := HK3.out; omega⟩, ⟨by (with_reducible repeat (first | apply Kd.R_alloc | apply Kd.R_drewN | apply Kd.R_drew)); exact HO_13.out⟩, ⟨by (with_reducible repeat (first | apply Kd.R_alloc | apply Kd.R_drewN | apply Kd.R_drew)); exact HO_14.out⟩, ⟨by (with_reducible repeat (first | apply Kd.R_alloc | apply Kd.R_drewN | apply Kd.R_drew)); exact HO_16.out⟩, ⟨by (with_reducible repeat (first | apply Kd.R_alloc | apply Kd.R_drewN | apply Kd.R_drew)); exact HO_17.out⟩, ⟨by repeat (first | (with_reducible first | exact HB.out | apply below_alloc | apply pw_below_drewN | apply below_drew1) | exact HB.out)⟩⟩
       rw [if_pos c50] at H
       have c50b0 : decide (x126_3 < (l1.length : Int)) = true := decide_eq_true c50
       clear c50
       by_cases c51 : x126_3 < (t299.length : Int)
       case neg => rw [if_neg c51] at H; exact absurd H (by simp)
       rw [if_pos c51] at H
       have c51b0 : decide (x126_3 < (t299.length : Int)) = true := decide_eq_true c51
       clear c51
       by_cases c52 : (rd t299 x126_3) = 0
       case neg =>
        rw [if_neg c52] at H
        have c52b0 : ((rd t299 x126_3) == 0) = false := beq_eq_false_iff_ne.mpr c52
        have c52b1 : ((rd t299 x126_3) != 0) = true := bne_iff_ne.mpr c52
        obtain rfl := Option.some.inj H
        have p313 : 0 ≤ (x126_3 : Int) := of_decide_eq_true (by first | (with_reducible assumption) | assumption)
        have q313 : x126_3 < (l0.length : Int) := of_decide_eq_true (by first | (with_reducible assumption) | assumption)
        obtain ⟨ad313, e313, hx313_0⟩ := Kd.at_int HR0.out x126_3 p313 q313
        cases e313
        replace hx313_0 := (HB.out.cell (World.block_lt_of_cell? w _ hx313_0)).trans hx313_0
        replace p313 := eq_true p313
        replace q313 := eq_true q313
        have p314 : 0 ≤ (x126_3 : Int) := of_decide_eq_true (by first | (with_reducible assumption) | assumption)
        have q314 : x126_3 < (l1.length : Int) := of_decide_eq_true (by first | (with_reducible assumption) | assumption)
        obtain ⟨ad314, e314, hx314_0⟩ := Kd.at_int HR1.out x126_3 p314 q314
        cases e314
        replace hx314_0 := (HB.out.cell (World.block_lt_of_cell? w _ hx314_0)).trans hx314_0
        replace p314 := eq_true p314
        replace q314 := eq_true q314
        obtain ⟨Ao73, co73, eo73⟩ := Kd.R_slice HO_13.out
        subst eo73
        have p315 : 0 ≤ (x126_3 : Int) := of_decide_eq_true (by first | (with_reducible assumption) | assumption)
        have q315 : x126_3 < (t299.length : Int) := of_decide_eq_true (by first | (with_reducible assumption) | assumption)
        obtain ⟨ad315, e315, hx315_0⟩ := Kd.at_int (Kd.R_reads' HO_13.out).2.2 x126_3 p315 q315
        cases e315
        replace p315 := eq_true p315
        replace q315 := eq_true q315
        go_wp2
        go_ret
        exact ⟨by first | rfl | (simp [errW_none, errW_some] <;> rfl) | (simp [*, errW_none, errW_some] <;> rfl), by repeat (first | (with_reducible first | exact HB.out | apply below_alloc | apply pw_below_drewN | apply below_drew1) | exact HB.out)⟩
       rw [if_pos c52] at H
       have c52b0 : ((rd t299 x126_3) == 0) = true := beq_iff_eq.mpr c52
       have c52b1 : ((rd t299 x126_3) != 0) = false := bne_eq_false_iff_eq.mpr c52
       clear c52
       by_cases c53 : x126_3 < (t300.length : Int)
       case neg => rw [if_neg c53] at H; exact absurd H (by simp)
       rw [if_pos c53] at H
       have c53b0 : decide (x126_3 < (t300.length : Int)) = true := decide_eq_true c53
       clear c53
       by_cases c54 : (rd t300 x126_3) = 0
       case neg =>
        rw [if_neg c54] at H
        have c54b0 : ((rd t300 x126_3) == 0) = false := beq_eq_false_iff_ne.mpr c54
        have c54b1 : ((rd t300 x126_3) != 0) = true := bne_iff_ne.mpr c54
        obtain rfl := Option.some.inj H
        have p313 : 0 ≤ (x126_3 : Int) := of_decide_eq_true (by first | (with_reducible assumption) | assumption)
        have q313 : x126_3 < (l0.length : Int) := of_decide_eq_true (by first | (with_reducible assumption) | assumption)
        obtain ⟨ad313, e313, hx313_0⟩ := Kd.at_int HR0.out x126_3 p313 q313
        cases e313
        replace hx313_0 := (HB.out.cell (World.block_lt_of_cell? w _ hx313_0)).trans hx313_0
        replace p313 := eq_true p313
        replace q313 := eq_true q313
        have p314 : 0 ≤ (x126_3 : Int) := of_decide_eq_true (by first | (with_reducible assumption) | assumption)
        have q314 : x126_3 < (l1.length : Int) := of_decide_eq_true (by first | (with_reducible assumption) | assumption)
        obtain ⟨ad314, e314, hx314_0⟩ := Kd.at_int HR1.out x126_3 p314 q314
        cases e314
        replace hx314_0 := (HB.out.cell (World.block_lt_of_cell? w _ hx314_0)).trans hx314_0
        replace p314 := eq_true p314
        replace q314 := eq_true q314
        obtain ⟨Ao71, co71, eo71⟩ := Kd.R_slice HO_13.out
        subst eo71
        have p315 : 0 ≤ (x126_3 : Int) := of_decide_eq_true (by first | (with_reducible assumption) | assumption)
        have q315 : x126_3 < (t299.length : Int) := of_decide_eq_true (by first | (with_reducible assumption) | assumption)
        obtain ⟨ad315, e315, hx315_0⟩ := Kd.at_int (Kd.R_reads' HO_13.out).2.2 x126_3 p315 q315
        cases e315
        replace p315 := eq_true p315
        replace q315 := eq_true q315
        obtain ⟨Ao72, co72, eo72⟩ := Kd.R_slice HO_14.out
        subst eo72
        have p316 : 0 ≤ (x126_3 : Int) := of_decide_eq_true (by first | (with_reducible assumption) | assumption)
        have q316 : x126_3 < (t300.length : Int) := of_decide_eq_true (by first | (with_reducible assumption) | assumption)
        obtain ⟨ad316, e316, hx316_0⟩ := Kd.at_int (Kd.R_reads' HO_14.out).2.2 x126_3 p316 q316
        cases e316
        replace p316 := eq_true p316
        replace q316 := eq_true q316
        go_wp2
        go_ret
        exact ⟨by first | rfl | (simp [errW_none, errW_some] <;> rfl) | (simp [*, errW_none, errW_some] <;> rfl), by repeat (first | (with_reducible first | exact HB.out | apply below_alloc | apply pw_below_drewN | apply below_drew1) | exact HB.out)⟩
       rw [if_pos c54] at H
       have c54b0 : ((rd t300 x126_3) == 0) = true := beq_iff_eq.mpr c54
       have c54b1 : ((rd t300 x126_3) != 0) = false := bne_eq_false_iff_eq.mpr c54
       clear c54
       by_cases c55 : x126_3 < (t306.length : Int)
       case neg => rw [if_neg c55] at H; exact absurd H (by simp)
       rw [if_pos c55] at H
       have c55b0 : decide (x126_3 < (t306.length : Int)) = true := decide_eq_true c55
       clear c55
       by_cases c56 : (rd t306 x126_3) = 0
       case neg =>
        rw [if_neg c56] at H
        have c56b0 : ((rd t306 x126_3) == 0) = false := beq_eq_false_iff_ne.mpr c56
        have c56b1 : ((rd t306 x126_3) != 0) = true := bne_iff_ne.mpr c56
        obtain rfl := Option.some.inj H
        have p313 : 0 ≤ (x126_3 : Int) := of_decide_eq_true (by first | (with_reducible assumption) | assumption)
        have q313 : x126_3 < (l0.length : Int) := of_decide_eq_true (by first | (with_reducible assumption) | assumption)
        obtain ⟨ad313, e313, hx313_0⟩ := Kd.at_int HR0.out x126_3 p313 q313
        cases e313
        replace hx313_0 := (HB.out.cell (World.block_lt_of_cell? w _ hx313_0)).trans hx313_0
        replace p313 := eq_true p313
        replace q313 := eq_true q313
        have p314 : 0 ≤ (x126_3 : Int) := of_decide_eq_true (by first | (with_reducible assumption) | assumption)
        have q314 : x126_3 < (l1.length : Int) := of_decide_eq_true (by first | (with_reducible assumption) | assumption)
        obtain ⟨ad314, e314, hx314_0⟩ := Kd.at_int HR1.out x126_3 p314 q314
        cases e314
        replace hx314_0 := (HB.out.cell (World.block_lt_of_cell? w _ hx314_0)).trans hx314_0
        replace p314 := eq_true p314
        replace q314 := eq_true q314
        obtain ⟨Ao68, co68, eo68⟩ := Kd.R_slice HO_13.out
        subst eo68
        have p315 : 0 ≤ (x126_3 : Int) := of_decide_eq_true (by first | (with_reducible assumption) | assumption)
        have q315 : x126_3 < (t299.length : Int) := of_decide_eq_true (by first | (with_reducible assumption) | assumption)
        obtain ⟨ad315, e315, hx315_0⟩ := Kd.at_int (Kd.R_reads' HO_13.out).2.2 x126_3 p315 q315
        cases e315
        replace p315 := eq_true p315
        replace q315 := eq_true q315
        obtain ⟨Ao69, co69, eo69⟩ := Kd.R_slice HO_14.out
        subst eo69
        have p316 : 0 ≤ (x126_3 : Int) := of_decide_eq_true (by first | (with_reducible assumption) | assumption)
        have q316 : x126_3 < (t300.length : Int) := of_decide_eq_true (by first | (with_reducible assumption) | assumption)
        obtain ⟨ad316, e316, hx316_0⟩ := Kd.at_int (Kd.R_reads' HO_14.out).2.2 x126_3 p316 q316
        cases e316
        replace p316 := eq_true p316
        replace q316 := eq_true q316
        obtain ⟨Ao70, co70, eo70⟩ := Kd.R_slice HO_16.out
        subst eo70
        have p317 : 0 ≤ (x126_3 : Int) := of_decide_eq_true (by first | (with_reducible assumption) | assumption)
        have q317 : x126_3 < (t306.length : Int) := of_decide_eq_true (by first | (with_reducible assumption) | assumption)
        obtain ⟨ad317, e317, hx317_0⟩ := Kd.at_int (Kd.R_reads' HO_16.out).2.2 x126_3 p317 q317
        cases e317
        replace p317 := eq_true p317
        replace q317 := eq_true q317
        go_wp2
        go_ret
        exact ⟨by first | rfl | (simp [errW_none, errW_some] <;> rfl) | (simp [*, errW_none, errW_some] <;> rfl), by repeat (first | (with_reducible first | exact HB.out | apply below_alloc | apply pw_below_drewN | apply below_drew1) | exact HB.out)⟩
       rw [if_pos c56] at H
       have c56b0 : ((rd t306 x126_3) == 0) = true := beq_iff_eq.mpr c56
       have c56b1 : ((rd t306 x126_3) != 0) = false := bne_eq_false_iff_eq.mpr c56
       clear c56
       by_cases c57 : 0 ≤ (rd l0 x126_3)
       case neg => rw [if_neg c57] at H; exact absurd H (by simp)
       rw [if_pos c57] at H
       have c57b0 : decide (0 ≤ (rd l0 x126_3)) = true := decide_eq_true c57
       clear c57
       by_cases c58 : (rd l0 x126_3) < (t307.length : Int)
       case neg => rw [if_neg c58] at H; exact absurd H (by simp)
       rw [if_pos c58] at H
       have c58b0 : decide ((rd l0 x126_3) < (t307.length : Int)) = true := decide_eq_true c58
       clear c58
       by_cases c59 : (rd t307 (rd l0 x126_3)) = (Int.tmod (wrap64 ((Int.tmod (rd l1 x126_3) 4) + 4)) 4)
       case neg =>
        rw [if_neg c59] at H
        have c59b0 : ((rd t307 (rd l0 x126_3)) == (Int.tmod (wrap64 ((Int.tmod (rd l1 x126_3) 4) + 4)) 4)) = false := beq_eq_false_iff_ne.mpr c59
        have c59b1 : ((rd t307 (rd l0 x126_3)) != (Int.tmod (wrap64 ((Int.tmod (rd l1 x126_3) 4) + 4)) 4)) = true := bne_iff_ne.mpr c59
        obtain rfl := Option.some.inj H
        have p313 : 0 ≤ (x126_3 : Int) := of_decide_eq_true (by first | (with_reducible assumption) | assumption)
        have q313 : x126_3 < (l0.length : Int) := of_decide_eq_true (by first | (with_reducible assumption) | assumption)
        obtain ⟨ad313, e313, hx313_0⟩ := Kd.at_int HR0.out x126_3 p313 q313
        cases e313
        replace hx313_0 := (HB.out.cell (World.block_lt_of_cell? w _ hx313_0)).trans hx313_0
        replace p313 := eq_true p313
        replace q313 := eq_true q313
        have p314 : 0 ≤ (x126_3 : Int) := of_decide_eq_true (by first | (with_reducible assumption) | assumption)
        have q314 : x126_3 < (l1.length : Int) := of_decide_eq_true (by first | (with_reducible assumption) | assumption)
        obtain ⟨ad314, e314, hx314_0⟩ := Kd.at_int HR1.out x126_3 p314 q314
        cases e314
        replace hx314_0 := (HB.out.cell (World.block_lt_of_cell? w _ hx314_0)).trans hx314_0
        replace p314 := eq_true p314
        replace q314 := eq_true q314
        obtain ⟨Ao64, co64, eo64⟩ := Kd.R_slice HO_13.out
        subst eo64
        have p315 : 0 ≤ (x126_3 : Int) := of_decide_eq_true (by first | (with_reducible assumption) | assumption)
        have q315 : x126_3 < (t299.length : Int) := of_decide_eq_true (by first | (with_reducible assumption) | assumption)
        obtain ⟨ad315, e315, hx315_0⟩ := Kd.at_int (Kd.R_reads' HO_13.out).2.2 x126_3 p315 q315
        cases e315
        replace p315 := eq_true p315
        replace q315 := eq_true q315
        obtain ⟨Ao65, co65, eo65⟩ := Kd.R_slice HO_14.out
        subst eo65
        have p316 : 0 ≤ (x126_3 : Int) := of_decide_eq_true (by first | (with_reducible assumption) | assumption)
        have q316 : x126_3 < (t300.length : Int) := of_decide_eq_true (by first | (with_reducible assumption) | assumption)
        obtain ⟨ad316, e316, hx316_0⟩ := Kd.at_int (Kd.R_reads' HO_14.out).2.2 x126_3 p316 q316
        cases e316
        replace p316 := eq_true p316
        replace q316 := eq_true q316
        obtain ⟨Ao66, co66, eo66⟩ := Kd.R_slice HO_16.out
        subst eo66
        have p317 : 0 ≤ (x126_3 : Int) := of_decide_eq_true (by first | (with_reducible assumption) | assumption)
        have q317 : x126_3 < (t306.length : Int) := of_decide_eq_true (by first | (with_reducible assumption) | assumption)
        obtain ⟨ad317, e317, hx317_0⟩ := Kd.at_int (Kd.R_reads' HO_16.out).2.2 x126_3 p317 q317
        cases e317
        replace p317 := eq_true p317
        replace q317 := eq_true q317
        obtain ⟨Ao67, co67, eo67⟩ := Kd.R_slice HO_17.out
        subst eo67
        have p318 : 0 ≤ ((rd l0 x126_3) : Int) := of_decide_eq_true (by first | (with_reducible assumption) | assumption)
        have q318 : (rd l0 x126_3) < (t307.length : Int) := of_decide_eq_true (by first | (with_reducible assumption) | assumption)
        obtain ⟨ad318, e318, hx318_0⟩ := Kd.at_int (Kd.R_reads' HO_17.out).2.2 (rd l0 x126_3) p318 q318
        cases e318
        replace p318 := eq_true p318
        replace q318 := eq_true q318
        go_wp2
        go_ret
        exact ⟨by first | rfl | (simp [errW_none, errW_some] <;> rfl) | (simp [*, errW_none, errW_some] <;> rfl), by repeat (first | (with_reducible first | exact HB.out | apply below_alloc | apply pw_below_drewN | apply below_drew1) | exact HB.out)⟩
       rw [if_pos c59] at H
       have c59b0 : ((rd t307 (rd l0 x126_3)) == (Int.tmod (wrap64 ((Int.tmod (rd l1 x126_3) 4) + 4)) 4)) = true := beq_iff_eq.mpr c59
       have c59b1 : ((rd t307 (rd l0 x126_3)) != (Int.tmod (wrap64 ((Int.tmod (rd l1 x126_3) 4) + 4)) 4)) = false := bne_eq_false_iff_eq.mpr c59
       clear c59
       have H' := Aside0.mk H
       clear H
       have p313 : 0 ≤ (x126_3 : Int) := of_decide_eq_true (by first | (with_reducible assumption) | assumption)
       have q313 : x126_3 < (l0.length : Int) := of_decide_eq_true (by first | (with_reducible assumption) | assumption)
       obtain ⟨ad313, e313, hx313_0⟩ := Kd.at_int HR0.out x126_3 p313 q313
       cases e313
       replace hx313_0 := (HB.out.cell (World.block_lt_of_cell? w _ hx313_0)).trans hx313_0
       replace p313 := eq_true p313
       replace q313 := eq_true q313
       have p314 : 0 ≤ (x126_3 : Int) := of_decide_eq_true (by first | (with_reducible assumption) | assumption)
       have q314 : x126_3 < (l1.length : Int) := of_decide_eq_true (by first | (with_reducible assumption) | assumption)
       obtain ⟨ad314, e314, hx314_0⟩ := Kd.at_int HR1.out x126_3 p314 q314
       cases e314
       replace hx314_0 := (HB.out.cell (World.block_lt_of_cell? w _ hx314_0)).trans hx314_0
       replace p314 := eq_true p314
       replace q314 := eq_true q314
       obtain ⟨Ao60, co60, eo60⟩ := Kd.R_slice HO_13.out
       subst eo60
       have p315 : 0 ≤ (x126_3 : Int) := of_decide_eq_true (by first | (with_reducible assumption) | assumption)
       have q315 : x126_3 < (t299.length : Int) := of_decide_eq_true (by first | (with_reducible assumption) | assumption)
       obtain ⟨ad315, e315, hx315_0⟩ := Kd.at_int (Kd.R_reads' HO_13.out).2.2 x126_3 p315 q315
       cases e315
       replace p315 := eq_true p315
       replace q315 := eq_true q315
       obtain ⟨Ao61, co61, eo61⟩ := Kd.R_slice HO_14.out
       subst eo61
       have p316 : 0 ≤ (x126_3 : Int) := of_decide_eq_true (by first | (with_reducible assumption) | assumption)
       have q316 : x126_3 < (t300.length : Int) := of_decide_eq_true (by first | (with_reducible assumption) | assumption)
       obtain ⟨ad316, e316, hx316_0⟩ := Kd.at_int (Kd.R_reads' HO_14.out).2.2 x126_3 p316 q316
       cases e316
       replace p316 := eq_true p316
       replace q316 := eq_true q316
       obtain ⟨Ao62, co62, eo62⟩ := Kd.R_slice HO_16.out
       subst eo62
       have p317 : 0 ≤ (x126_3 : Int) := of_decide_eq_true (by first | (with_reducible assumption) | assumption)
       have q317 : x126_3 < (t306.length : Int) := of_decide_eq_true (by first | (with_reducible assumption) | assumption)
       obtain ⟨ad317, e317, hx317_0⟩ := Kd.at_int (Kd.R_reads' HO_16.out).2.2 x126_3 p317 q317
       cases e317
       replace p317 := eq_true p317
       replace q317 := eq_true q317
       obtain ⟨Ao63, co63, eo63⟩ := Kd.R_slice HO_17.out
       subst eo63
       have p318 : 0 ≤ ((rd l0 x126_3) : Int) := of_decide_eq_true (by first | (with_reducible assumption) | assumption)
       have q318 : (rd l0 x126_3) < (t307.length : Int) := of_decide_eq_true (by first | (with_reducible assumption) | assumption)
       obtain ⟨ad318, e318, hx318_0⟩ := Kd.at_int (Kd.R_reads' HO_17.out).2.2 (rd l0 x126_3) p318 q318
       cases e318
       replace p318 := eq_true p318
       replace q318 := eq_true q318
       go_wp2
       (first | go_roundg k3 | (refine Handed.intro k3 ?measure ?_; rotate_left; go_step; (repeat apply Exists.intro); (refine ⟨?rel, ?fr_⟩); (case fr_ => (simp only [add_plain]; rfl))))
       case measure => have := HK1.out; have := HJ34.out; have := HK3.out; omega
       case rel => exact ⟨(wrap64 (x126_3 + 1)), (by first | rfl | (simp; done) | (simp [*]; done)), H', ⟨by have := HK1.out; have := HJ34.out; have := HK3.out; omega⟩, ⟨by (with_reducible repeat (first | apply Kd.R_alloc | apply Kd.R_drewN | apply Kd.R_drew)); exact HO_13.out⟩, ⟨by (with_reducible repeat (first | apply Kd.R_alloc | apply Kd.R_drewN | apply Kd.R_drew)); exact HO_14.out⟩, ⟨by (with_reducible repeat (first | apply Kd.R_alloc | apply Kd.R_drewN | apply Kd.R_drew)); exact HO_16.out⟩, ⟨by (with_reducible repeat (first | apply Kd.R_alloc | apply Kd.R_drewN | apply Kd.R_drew)); exact HO_17.out⟩, ⟨by repeat (first | (with_reducible first | exact HB.out | apply below_alloc | apply pw_below_drewN | apply below_drew1) | exact HB.out)⟩⟩

/-- THE ONE PURE STATEMENT of orrerylaw20_OffsetPlain: yours. -/
def orrerylaw20_OffsetPlain.Pure : Prop := ∀ (l0 : List Int) (l1 : List Int), l0.length ≤ maxLen → l0.length * 8 ≤ 140737488351232 → (∀ x ∈ l0, (Lit.int .i64 x).wf = true) → l1.length ≤ maxLen → l1.length * 8 ≤ 140737488351232 → (∀ x ∈ l1, (Lit.int .i64 x).wf = true) → ∃ k, orrerylaw20_OffsetPlain.f k l0 l1 = some true
theorem orrerylaw20_OffsetPlain.walk (P : orrerylaw20_OffsetPlain.Pure) (a0 : Option Addr) (len0 cap0 : Nat) (z0 : List Int) (a1 : Option Addr) (len1 cap1 : Nat) (z1 : List Int) (w : World) (w0 : (a0 = none ∧ len0 = 0 ∧ cap0 = 0 ∧ z0 = []) ∨ ∃ x, a0 = some x ∧ len0 ≤ cap0 ∧ cap0 ≤ maxLen ∧ z0.length = cap0 ∧ (∀ i, i < z0.length → w.cell? (x.add i) = some (.int .i64 (z0.getD i 0))) ∧ ∀ n ∈ z0, (Lit.int .i64 n).wf = true) (y0 : len0 * 8 ≤ 140737488351232) (w1 : (a1 = none ∧ len1 = 0 ∧ cap1 = 0 ∧ z1 = []) ∨ ∃ x, a1 = some x ∧ len1 ≤ cap1 ∧ cap1 ≤ maxLen ∧ z1.length = cap1 ∧ (∀ i, i < z1.length → w.cell? (x.add i) = some (.int .i64 (z1.getD i 0))) ∧ ∀ n ∈ z1, (Lit.int .i64 n).wf = true) (y1 : len1 * 8 ≤ 140737488351232) :
    Calls Try.prog 6 #[.slice a0 len0 cap0, .slice a1 len1 cap1] w fun e w' => e = .returned (.bool true) ∧ Below w.heap.size w w' := by
 obtain ⟨l0, rfl, hr0, hm0, hw0, hc0⟩ := ReadsInt.ofRowC w0
 obtain ⟨l1, rfl, hr1, hm1, hw1, hc1⟩ := ReadsInt.ofRowC w1
 obtain ⟨k, h⟩ := P l0 l1 hm0 y0 hw0 hm1 y1 hw1
 refine (orrerylaw20_OffsetPlain.calls k _ _ l0 _ _ l1 true w (Kd.C_of_reads (d := (0 : Int)) (h1 := fun _ => rfl) hr0) hc0 (Kd.C_of_reads (d := (0 : Int)) (h1 := fun _ => rfl) hr1) hc1 h).mono ?_
 rintro e w' ⟨rfl, hd⟩
 exact ⟨rfl, hd⟩

end Go.Proofs.Ytamloclgignfgaa.PA
