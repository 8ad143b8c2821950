/- What the Go functions of this part compute, as Lean functions, and that the machine's calls come to just that; written for this claim by a program of the session (gen.sh, after the kit's printer). -/
import Derived.Test.YtlaneafplmbcnaaPOx0
import Derived.Test.YtlaneafplmbcnaaSq
import Derived.Test.YtlaneafplmbcnaaPOx45
import Derived.Test.YtlaneafplmbcnaaPOx49
namespace Go.Proofs.Ytlaneafplmbcnaa.PO
open Go.RowKit Go.Proofs.YtlaneafplmbcnaaW.PrintWords Go.Proofs.YtlaneafplmbcnaaW.PrintLast Go.Proofs.YtlaneafplmbcnaaW.PrintMore
attribute [local go_sem] max2_int min2_int max_two min_two max_three min_three max_four min_four   -- for this text's walks alone
set_option linter.unusedVariables false
set_option linter.unusedSimpArgs false

/-! ### orrerylaw21_OrderParts: function 4 -/
mutual
def orrerylaw21_OrderParts.l0 : Nat → Int → List (S33) → List Int → List Int → List Int → List (S30) → Int → Int → Option (Bool)
  | 0, _, _, _, _, _, _, _, _ => none
  | k + 1, x0, x1, x2, x9, x10, x39, x40, x41 => if x41 < x40 then (if 0 ≤ x41 then (if x41 < (x39.length : Int) then (if (((rd_T30 x39 x41).f0).length : Int) = 0 then (orrerylaw21_OrderParts.j1 k x0 x1 x2 x9 x10 x41 x39 x40 x41 true ((rd_T30 x39 x41).f0) ((rd_T30 x39 x41).f1)) else (orrerylaw21_OrderParts.j1 k x0 x1 x2 x9 x10 x41 x39 x40 x41 ((((rd_T30 x39 x41).f0).length : Int) != (((rd_T30 x39 x41).f1).length : Int)) ((rd_T30 x39 x41).f0) ((rd_T30 x39 x41).f1))) else (none)) else (none)) else (orrerylaw21_OrderParts.l3 k x1 x9 x10 x2 (x2.length : Int) 0)
def orrerylaw21_OrderParts.j1 : Nat → Int → List (S33) → List Int → List Int → List Int → Int → List (S30) → Int → Int → Bool → List Int → List Int → Option (Bool)
  | 0, _, _, _, _, _, _, _, _, _, _, _, _ => none
  | k + 1, x0, x1, x2, x9, x10, x11, x39, x40, x41, x58, x382000, x382001 => if x58 = true then (some false) else (orrerylaw21_OrderParts.l1 k x0 x1 x2 x9 x10 x11 x39 x40 x41 x382000 (x382000.length : Int) 0 x382000 x382001)
def orrerylaw21_OrderParts.l1 : Nat → Int → List (S33) → List Int → List Int → List Int → Int → List (S30) → Int → Int → List Int → Int → Int → List Int → List Int → Option (Bool)
  | 0, _, _, _, _, _, _, _, _, _, _, _, _, _, _ => none
  | k + 1, x0, x1, x2, x9, x10, x11, x39, x40, x41, x60, x61, x62, x382000, x382001 => if x62 < x61 then (if 0 ≤ x62 then (if x62 < (x60.length : Int) then (if (rd x60 x62) < 0 then (some false) else (if (rd x60 x62) ≥ x0 then (some false) else (if 0 ≤ (rd x60 x62) then (if (rd x60 x62) < (x9.length : Int) then (if (rd x9 (rd x60 x62)) = 0 then (if x62 > 0 then (if 0 ≤ (wrap64 (x62 - 1)) then (if (wrap64 (x62 - 1)) < (x382000.length : Int) then (if (rd x382000 (wrap64 (x62 - 1))) ≥ (rd x60 x62) then (some false) else (orrerylaw21_OrderParts.l1 k x0 x1 x2 (x9.set ((rd x60 x62) : Int).toNat (wrap64 (x11 + 1))) x10 x11 x39 x40 x41 x60 x61 (wrap64 (x62 + 1)) x382000 x382001)) else (none)) else (none)) else (orrerylaw21_OrderParts.l1 k x0 x1 x2 (x9.set ((rd x60 x62) : Int).toNat (wrap64 (x11 + 1))) x10 x11 x39 x40 x41 x60 x61 (wrap64 (x62 + 1)) x382000 x382001)) else (some false)) else (none)) else (none)))) else (none)) else (none)) else (orrerylaw21_OrderParts.l2 k x0 x1 x2 x9 x10 x11 x39 x40 x41 x382001 (x382001.length : Int) 0 x382000 x382001)
def orrerylaw21_OrderParts.l2 : Nat → Int → List (S33) → List Int → List Int → List Int → Int → List (S30) → Int → Int → List Int → Int → Int → List Int → List Int → Option (Bool)
  | 0, _, _, _, _, _, _, _, _, _, _, _, _, _, _ => none
  | k + 1, x0, x1, x2, x9, x10, x11, x39, x40, x41, x102, x103, x104, x382000, x382001 => if x104 < x103 then (if 0 ≤ x104 then (if x104 < (x102.length : Int) then (if (rd x102 x104) < 0 then (some false) else (if (rd x102 x104) ≥ x0 then (some false) else (if 0 ≤ (rd x102 x104) then (if (rd x102 x104) < (x10.length : Int) then (if (rd x10 (rd x102 x104)) = 0 then (if x104 > 0 then (if 0 ≤ (wrap64 (x104 - 1)) then (if (wrap64 (x104 - 1)) < (x382001.length : Int) then (if (rd x382001 (wrap64 (x104 - 1))) ≥ (rd x102 x104) then (some false) else (orrerylaw21_OrderParts.l2 k x0 x1 x2 x9 (x10.set ((rd x102 x104) : Int).toNat (wrap64 (x11 + 1))) x11 x39 x40 x41 x102 x103 (wrap64 (x104 + 1)) x382000 x382001)) else (none)) else (none)) else (orrerylaw21_OrderParts.l2 k x0 x1 x2 x9 (x10.set ((rd x102 x104) : Int).toNat (wrap64 (x11 + 1))) x11 x39 x40 x41 x102 x103 (wrap64 (x104 + 1)) x382000 x382001)) else (some false)) else (none)) else (none)))) else (none)) else (none)) else (orrerylaw21_OrderParts.l0 k x0 x1 x2 x9 x10 x39 x40 (wrap64 (x41 + 1)))
def orrerylaw21_OrderParts.l3 : Nat → List (S33) → List Int → List Int → List Int → Int → Int → Option (Bool)
  | 0, _, _, _, _, _, _ => none
  | k + 1, x1, x9, x10, x144, x145, x146 => if x146 < x145 then (if 0 ≤ x146 then (if x146 < (x144.length : Int) then (if x146 < (x9.length : Int) then (if (rd x9 x146) = 0 then (some false) else (if 0 ≤ (rd x144 x146) then (if (rd x144 x146) < (x10.length : Int) then (if (rd x9 x146) = (rd x10 (rd x144 x146)) then (orrerylaw21_OrderParts.l3 k x1 x9 x10 x144 x145 (wrap64 (x146 + 1))) else (some false)) else (none)) else (none))) else (none)) else (none)) else (none)) else (orrerylaw21_OrderParts.l4 k x9 x10 x1 (x1.length : Int) 0)
def orrerylaw21_OrderParts.l4 : Nat → List Int → List Int → List (S33) → Int → Int → Option (Bool)
  | 0, _, _, _, _, _ => none
  | k + 1, x9, x10, x168, x169, x170 => if x170 < x169 then (if 0 ≤ x170 then (if x170 < (x168.length : Int) then (if 0 ≤ ((rd_T33 x168 x170).f1) then (if ((rd_T33 x168 x170).f1) < (x10.length : Int) then (if 0 ≤ ((rd_T33 x168 x170).f0) then (if ((rd_T33 x168 x170).f0) < (x9.length : Int) then (if (rd x10 ((rd_T33 x168 x170).f1)) > (rd x9 ((rd_T33 x168 x170).f0)) then (some false) else (orrerylaw21_OrderParts.l4 k x9 x10 x168 x169 (wrap64 (x170 + 1)))) else (none)) else (none)) else (none)) else (none)) else (none)) else (none)) else (some true)
end
def orrerylaw21_OrderParts.f (k : Nat) (a0 : Int) (l1 : List (S33)) (l2 : List Int) : Option (Bool) := (orreryref20_Told.f k a0 l1 l2).bind fun t369 => (if t369 = true then ((order_Blocks.f k a0 l1 l2).bind fun bt370 => (if bt370.2 = 0 then (if 0 ≤ a0 then (if (a0 : Int).toNat ≤ 35184372088832 then (orrerylaw21_OrderParts.l0 k a0 l1 l2 (List.replicate (a0 : Int).toNat 0) (List.replicate (a0 : Int).toNat 0) bt370.1 (bt370.1.length : Int) 0) else (none)) else (none)) else (some false))) else (some true))
theorem orrerylaw21_OrderParts.mono_l : ∀ k, (∀ y0 y1 y2 y3 y4 y5 y6 y7, LeO (orrerylaw21_OrderParts.l0 k y0 y1 y2 y3 y4 y5 y6 y7) (orrerylaw21_OrderParts.l0 (k + 1) y0 y1 y2 y3 y4 y5 y6 y7)) ∧ (∀ y0 y1 y2 y3 y4 y5 y6 y7 y8 y9 y10 y11, LeO (orrerylaw21_OrderParts.j1 k y0 y1 y2 y3 y4 y5 y6 y7 y8 y9 y10 y11) (orrerylaw21_OrderParts.j1 (k + 1) y0 y1 y2 y3 y4 y5 y6 y7 y8 y9 y10 y11)) ∧ (∀ y0 y1 y2 y3 y4 y5 y6 y7 y8 y9 y10 y11 y12 y13, LeO (orrerylaw21_OrderParts.l1 k y0 y1 y2 y3 y4 y5 y6 y7 y8 y9 y10 y11 y12 y13) (orrerylaw21_OrderParts.l1 (k + 1) y0 y1 y2 y3 y4 y5 y6 y7 y8 y9 y10 y11 y12 y13)) ∧ (∀ y0 y1 y2 y3 y4 y5 y6 y7 y8 y9 y10 y11 y12 y13, LeO (orrerylaw21_OrderParts.l2 k y0 y1 y2 y3 y4 y5 y6 y7 y8 y9 y10 y11 y12 y13) (orrerylaw21_OrderParts.l2 (k + 1) y0 y1 y2 y3 y4 y5 y6 y7 y8 y9 y10 y11 y12 y13)) ∧ (∀ y0 y1 y2 y3 y4 y5, LeO (orrerylaw21_OrderParts.l3 k y0 y1 y2 y3 y4 y5) (orrerylaw21_OrderParts.l3 (k + 1) y0 y1 y2 y3 y4 y5)) ∧ (∀ y0 y1 y2 y3 y4, LeO (orrerylaw21_OrderParts.l4 k y0 y1 y2 y3 y4) (orrerylaw21_OrderParts.l4 (k + 1) y0 y1 y2 y3 y4))
  | 0 => ⟨fun _ _ _ _ _ _ _ _ r h => by simp [orrerylaw21_OrderParts.l0] at h, fun _ _ _ _ _ _ _ _ _ _ _ _ r h => by simp [orrerylaw21_OrderParts.j1] at h, fun _ _ _ _ _ _ _ _ _ _ _ _ _ _ r h => by simp [orrerylaw21_OrderParts.l1] at h, fun _ _ _ _ _ _ _ _ _ _ _ _ _ _ r h => by simp [orrerylaw21_OrderParts.l2] at h, fun _ _ _ _ _ _ r h => by simp [orrerylaw21_OrderParts.l3] at h, fun _ _ _ _ _ r h => by simp [orrerylaw21_OrderParts.l4] at h⟩
  | k + 1 => by
    obtain ⟨ih0, ih1, ih2, ih3, ih4, ih5⟩ := orrerylaw21_OrderParts.mono_l k
    refine ⟨?_, ?_, ?_, ?_, ?_, ?_⟩
    · intro y0 y1 y2 y3 y4 y5 y6 y7
      unfold orrerylaw21_OrderParts.l0
      repeat' first
      | (with_reducible exact ih0 _ _ _ _ _ _ _ _)
      | (with_reducible exact ih1 _ _ _ _ _ _ _ _ _ _ _ _)
      | (with_reducible exact ih2 _ _ _ _ _ _ _ _ _ _ _ _ _ _)
      | (with_reducible exact ih3 _ _ _ _ _ _ _ _ _ _ _ _ _ _)
      | (with_reducible exact ih4 _ _ _ _ _ _)
      | (with_reducible exact ih5 _ _ _ _ _)
      | (with_reducible exact order_Blocks.mono _ _ _ _)
      | (with_reducible exact orreryref20_Told.mono _ _ _ _)
      | (with_reducible exact LeO.refl _)
      | (with_reducible exact LeO.none _)
      | (with_reducible refine LeO.ite ?_ ?_)
      | (with_reducible refine LeO.bind ?_ (fun _ => ?_))
      | exact ih0 _ _ _ _ _ _ _ _
      | exact ih1 _ _ _ _ _ _ _ _ _ _ _ _
      | exact ih2 _ _ _ _ _ _ _ _ _ _ _ _ _ _
      | exact ih3 _ _ _ _ _ _ _ _ _ _ _ _ _ _
      | exact ih4 _ _ _ _ _ _
      | exact ih5 _ _ _ _ _
      | exact order_Blocks.mono _ _ _ _
      | exact orreryref20_Told.mono _ _ _ _
      | exact LeO.none _
      | refine LeO.ite ?_ ?_
      | refine LeO.bind ?_ (fun _ => ?_)
    · intro y0 y1 y2 y3 y4 y5 y6 y7 y8 y9 y10 y11
      unfold orrerylaw21_OrderParts.j1
      repeat' first
      | (with_reducible exact ih0 _ _ _ _ _ _ _ _)
      | (with_reducible exact ih1 _ _ _ _ _ _ _ _ _ _ _ _)
      | (with_reducible exact ih2 _ _ _ _ _ _ _ _ _ _ _ _ _ _)
      | (with_reducible exact ih3 _ _ _ _ _ _ _ _ _ _ _ _ _ _)
      | (with_reducible exact ih4 _ _ _ _ _ _)
      | (with_reducible exact ih5 _ _ _ _ _)
      | (with_reducible exact order_Blocks.mono _ _ _ _)
      | (with_reducible exact orreryref20_Told.mono _ _ _ _)
      | (with_reducible exact LeO.refl _)
      | (with_reducible exact LeO.none _)
      | (with_reducible refine LeO.ite ?_ ?_)
      | (with_reducible refine LeO.bind ?_ (fun _ => ?_))
      | exact ih0 _ _ _ _ _ _ _ _
      | exact ih1 _ _ _ _ _ _ _ _ _ _ _ _
      | exact ih2 _ _ _ _ _ _ _ _ _ _ _ _ _ _
      | exact ih3 _ _ _ _ _ _ _ _ _ _ _ _ _ _
      | exact ih4 _ _ _ _ _ _
      | exact ih5 _ _ _ _ _
      | exact order_Blocks.mono _ _ _ _
      | exact orreryref20_Told.mono _ _ _ _
      | exact LeO.none _
      | refine LeO.ite ?_ ?_
      | refine LeO.bind ?_ (fun _ => ?_)
    · intro y0 y1 y2 y3 y4 y5 y6 y7 y8 y9 y10 y11 y12 y13
      unfold orrerylaw21_OrderParts.l1
      repeat' first
      | (with_reducible exact ih0 _ _ _ _ _ _ _ _)
      | (with_reducible exact ih1 _ _ _ _ _ _ _ _ _ _ _ _)
      | (with_reducible exact ih2 _ _ _ _ _ _ _ _ _ _ _ _ _ _)
      | (with_reducible exact ih3 _ _ _ _ _ _ _ _ _ _ _ _ _ _)
      | (with_reducible exact ih4 _ _ _ _ _ _)
      | (with_reducible exact ih5 _ _ _ _ _)
      | (with_reducible exact order_Blocks.mono _ _ _ _)
      | (with_reducible exact orreryref20_Told.mono _ _ _ _)
      | (with_reducible exact LeO.refl _)
      | (with_reducible exact LeO.none _)
      | (with_reducible refine LeO.ite ?_ ?_)
      | (with_reducible refine LeO.bind ?_ (fun _ => ?_))
      | exact ih0 _ _ _ _ _ _ _ _
      | exact ih1 _ _ _ _ _ _ _ _ _ _ _ _
      | exact ih2 _ _ _ _ _ _ _ _ _ _ _ _ _ _
      | exact ih3 _ _ _ _ _ _ _ _ _ _ _ _ _ _
      | exact ih4 _ _ _ _ _ _
      | exact ih5 _ _ _ _ _
      | exact order_Blocks.mono _ _ _ _
      | exact orreryref20_Told.mono _ _ _ _
      | exact LeO.none _
      | refine LeO.ite ?_ ?_
      | refine LeO.bind ?_ (fun _ => ?_)
    · intro y0 y1 y2 y3 y4 y5 y6 y7 y8 y9 y10 y11 y12 y13
      unfold orrerylaw21_OrderParts.l2
      repeat' first
      | (with_reducible exact ih0 _ _ _ _ _ _ _ _)
      | (with_reducible exact ih1 _ _ _ _ _ _ _ _ _ _ _ _)
      | (with_reducible exact ih2 _ _ _ _ _ _ _ _ _ _ _ _ _ _)
      | (with_reducible exact ih3 _ _ _ _ _ _ _ _ _ _ _ _ _ _)
      | (with_reducible exact ih4 _ _ _ _ _ _)
      | (with_reducible exact ih5 _ _ _ _ _)
      | (with_reducible exact order_Blocks.mono _ _ _ _)
      | (with_reducible exact orreryref20_Told.mono _ _ _ _)
      | (with_reducible exact LeO.refl _)
      | (with_reducible exact LeO.none _)
      | (with_reducible refine LeO.ite ?_ ?_)
      | (with_reducible refine LeO.bind ?_ (fun _ => ?_))
      | exact ih0 _ _ _ _ _ _ _ _
      | exact ih1 _ _ _ _ _ _ _ _ _ _ _ _
      | exact ih2 _ _ _ _ _ _ _ _ _ _ _ _ _ _
      | exact ih3 _ _ _ _ _ _ _ _ _ _ _ _ _ _
      | exact ih4 _ _ _ _ _ _
      | exact ih5 _ _ _ _ _
      | exact order_Blocks.mono _ _ _ _
      | exact orreryref20_Told.mono _ _ _ _
      | exact LeO.none _
      | refine LeO.ite ?_ ?_
      | refine LeO.bind ?_ (fun _ => ?_)
    · intro y0 y1 y2 y3 y4 y5
      unfold orrerylaw21_OrderParts.l3
      repeat' first
      | (with_reducible exact ih0 _ _ _ _ _ _ _ _)
      | (with_reducible exact ih1 _ _ _ _ _ _ _ _ _ _ _ _)
      | (with_reducible exact ih2 _ _ _ _ _ _ _ _ _ _ _ _ _ _)
      | (with_reducible exact ih3 _ _ _ _ _ _ _ _ _ _ _ _ _ _)
      | (with_reducible exact ih4 _ _ _ _ _ _)
      | (with_reducible exact ih5 _ _ _ _ _)
      | (with_reducible exact order_Blocks.mono _ _ _ _)
      | (with_reducible exact orreryref20_Told.mono _ _ _ _)
      | (with_reducible exact LeO.refl _)
      | (with_reducible exact LeO.none _)
      | (with_reducible refine LeO.ite ?_ ?_)
      | (with_reducible refine LeO.bind ?_ (fun _ => ?_))
      | exact ih0 _ _ _ _ _ _ _ _
      | exact ih1 _ _ _ _ _ _ _ _ _ _ _ _
      | exact ih2 _ _ _ _ _ _ _ _ _ _ _ _ _ _
      | exact ih3 _ _ _ _ _ _ _ _ _ _ _ _ _ _
      | exact ih4 _ _ _ _ _ _
      | exact ih5 _ _ _ _ _
      | exact order_Blocks.mono _ _ _ _
      | exact orreryref20_Told.mono _ _ _ _
      | exact LeO.none _
      | refine LeO.ite ?_ ?_
      | refine LeO.bind ?_ (fun _ => ?_)
    · intro y0 y1 y2 y3 y4
      unfold orrerylaw21_OrderParts.l4
      repeat' first
      | (with_reducible exact ih0 _ _ _ _ _ _ _ _)
      | (with_reducible exact ih1 _ _ _ _ _ _ _ _ _ _ _ _)
      | (with_reducible exact ih2 _ _ _ _ _ _ _ _ _ _ _ _ _ _)
      | (with_reducible exact ih3 _ _ _ _ _ _ _ _ _ _ _ _ _ _)
      | (with_reducible exact ih4 _ _ _ _ _ _)
      | (with_reducible exact ih5 _ _ _ _ _)
      | (with_reducible exact order_Blocks.mono _ _ _ _)
      | (with_reducible exact orreryref20_Told.mono _ _ _ _)
      | (with_reducible exact LeO.refl _)
      | (with_reducible exact LeO.none _)
      | (with_reducible refine LeO.ite ?_ ?_)
      | (with_reducible refine LeO.bind ?_ (fun _ => ?_))
      | exact ih0 _ _ _ _ _ _ _ _
      | exact ih1 _ _ _ _ _ _ _ _ _ _ _ _
      | exact ih2 _ _ _ _ _ _ _ _ _ _ _ _ _ _
      | exact ih3 _ _ _ _ _ _ _ _ _ _ _ _ _ _
      | exact ih4 _ _ _ _ _ _
      | exact ih5 _ _ _ _ _
      | exact order_Blocks.mono _ _ _ _
      | exact orreryref20_Told.mono _ _ _ _
      | exact LeO.none _
      | refine LeO.ite ?_ ?_
      | refine LeO.bind ?_ (fun _ => ?_)
theorem orrerylaw21_OrderParts.mono : ∀ a0 a1 a2 k, LeO (orrerylaw21_OrderParts.f k a0 a1 a2) (orrerylaw21_OrderParts.f (k + 1) a0 a1 a2) := by
 intro a0 a1 a2 k
 obtain ⟨ih0, ih1, ih2, ih3, ih4, ih5⟩ := orrerylaw21_OrderParts.mono_l k
 unfold orrerylaw21_OrderParts.f
 repeat' first
     | (with_reducible exact ih0 _ _ _ _ _ _ _ _)
     | (with_reducible exact ih1 _ _ _ _ _ _ _ _ _ _ _ _)
     | (with_reducible exact ih2 _ _ _ _ _ _ _ _ _ _ _ _ _ _)
     | (with_reducible exact ih3 _ _ _ _ _ _ _ _ _ _ _ _ _ _)
     | (with_reducible exact ih4 _ _ _ _ _ _)
     | (with_reducible exact ih5 _ _ _ _ _)
     | (with_reducible exact order_Blocks.mono _ _ _ _)
     | (with_reducible exact orreryref20_Told.mono _ _ _ _)
     | (with_reducible exact LeO.refl _)
     | (with_reducible exact LeO.none _)
     | (with_reducible refine LeO.ite ?_ ?_)
     | (with_reducible refine LeO.bind ?_ (fun _ => ?_))
     | exact ih0 _ _ _ _ _ _ _ _
     | exact ih1 _ _ _ _ _ _ _ _ _ _ _ _
     | exact ih2 _ _ _ _ _ _ _ _ _ _ _ _ _ _
     | exact ih3 _ _ _ _ _ _ _ _ _ _ _ _ _ _
     | exact ih4 _ _ _ _ _ _
     | exact ih5 _ _ _ _ _
     | exact order_Blocks.mono _ _ _ _
     | exact orreryref20_Told.mono _ _ _ _
     | exact LeO.none _
     | refine LeO.ite ?_ ?_
     | refine LeO.bind ?_ (fun _ => ?_)
set_option maxHeartbeats 8000000 in
set_option maxRecDepth 100000 in
theorem orrerylaw21_OrderParts.calls (k : Nat) (a0 : Int) (A1 : Option Addr) (c1 : Nat) (l1 : List (S33)) (A2 : Option Addr) (c2 : Nat) (l2 : List Int) (r : Bool) (w : World) (hr1 : Kd.C k33 w A1 l1.length l1) (hc1 : l1.length ≤ c1) (hr2 : Kd.C (Kd.int .i64) w A2 l2.length l2) (hc2 : l2.length ≤ c2) (h : orrerylaw21_OrderParts.f k a0 l1 l2 = some r) :
    Calls Try.prog 4 #[.int .i64 a0, .slice A1 l1.length c1, .slice A2 l2.length c2] w fun e w' => e = .returned (.bool r) ∧ Below w.heap.size w w' := by
 have hu30 := Try.underlying30
 have hu33 := Try.underlying33
 have HR1 := Aside0.mk hr1
 have HC1 := Aside0.mk hc1
 clear hr1 hc1
 have HR2 := Aside0.mk hr2
 have HC2 := Aside0.mk hc2
 clear hr2 hc2
 have HB := Aside0.mk (Below.refl w.heap.size w)
 have H : ((orreryref20_Told.f k a0 l1 l2).bind fun t369 => (if t369 = true then ((order_Blocks.f k a0 l1 l2).bind fun bt370 => (if bt370.2 = 0 then (if 0 ≤ a0 then (if (a0 : Int).toNat ≤ 35184372088832 then (orrerylaw21_OrderParts.l0 k a0 l1 l2 (List.replicate (a0 : Int).toNat 0) (List.replicate (a0 : Int).toNat 0) bt370.1 (bt370.1.length : Int) 0) else (none)) else (none)) else (some false))) else (some true))) = some r := h
 clear h
 replace H := Option.bind_eq_some_iff.mp H
 obtain ⟨t369, A40, H⟩ := H
 replace H : (if t369 = true then ((order_Blocks.f k a0 l1 l2).bind fun bt370 => (if bt370.2 = 0 then (if 0 ≤ a0 then (if (a0 : Int).toNat ≤ 35184372088832 then (orrerylaw21_OrderParts.l0 k a0 l1 l2 (List.replicate (a0 : Int).toNat 0) (List.replicate (a0 : Int).toNat 0) bt370.1 (bt370.1.length : Int) 0) else (none)) else (none)) else (some false))) else (some true)) = some r := H
 have A4 := Aside0.mk A40
 clear A40
 by_cases c5 : t369 = true
 case neg =>
  replace c5 := Bool.eq_false_iff.mpr c5
  subst c5
  have H1 : (some true) = some r := by rw [if_neg (show ¬ (false = true) by decide)] at H; exact H
  clear H
  have H := H1
  clear H1
  obtain rfl := Option.some.inj H
  go_enter Try.func4, Try.ntmps4
  go_wp2_with (first | (go_at_call 12; (with_reducible refine (orreryref20_Told.calls k a0 _ _ l1 _ _ l2 false _ ?side1 ?side2 ?side3 ?side4 A4.out).mono ?_); (case side1 => repeat (first | exact HR1.out | (with_reducible refine Kd.C_alloc ?_ _) | (with_reducible refine Kd.C_drewN ?_ _) | (with_reducible refine Kd.C_drew ?_))); (case side2 => exact HC1.out); (case side3 => repeat (first | exact HR2.out | (with_reducible refine Kd.C_alloc ?_ _) | (with_reducible refine Kd.C_drewN ?_ _) | (with_reducible refine Kd.C_drew ?_))); (case side4 => exact HC2.out); rintro e w110 ⟨rfl, hb⟩; have n0_ := Aside0.mk (below_step (by repeat (first | (with_reducible first | exact HB.out | apply below_alloc | apply pw_below_drewN | apply below_drew1) | exact HB.out)) hb); clear HB; have HB := n0_; clear n0_; (try clear hb); (try clear hb2); (try clear hk); (try clear hi)))
  repeat (go_quiet (first | (go_at_call 12; (with_reducible refine (orreryref20_Told.calls k a0 _ _ l1 _ _ l2 false _ ?side1 ?side2 ?side3 ?side4 A4.out).mono ?_); (case side1 => repeat (first | exact HR1.out | (with_reducible refine Kd.C_alloc ?_ _) | (with_reducible refine Kd.C_drewN ?_ _) | (with_reducible refine Kd.C_drew ?_))); (case side2 => exact HC1.out); (case side3 => repeat (first | exact HR2.out | (with_reducible refine Kd.C_alloc ?_ _) | (with_reducible refine Kd.C_drewN ?_ _) | (with_reducible refine Kd.C_drew ?_))); (case side4 => exact HC2.out); rintro e w110 ⟨rfl, hb⟩; have n0_ := Aside0.mk (below_step (by repeat (first | (with_reducible first | exact HB.out | apply below_alloc | apply pw_below_drewN | apply below_drew1) | exact HB.out)) hb); clear HB; have HB := n0_; clear n0_; (try clear hb); (try clear hb2); (try clear hk); (try clear hi))); try go_wp2_with (first | (go_at_call 12; (with_reducible refine (orreryref20_Told.calls k a0 _ _ l1 _ _ l2 false _ ?side1 ?side2 ?side3 ?side4 A4.out).mono ?_); (case side1 => repeat (first | exact HR1.out | (with_reducible refine Kd.C_alloc ?_ _) | (with_reducible refine Kd.C_drewN ?_ _) | (with_reducible refine Kd.C_drew ?_))); (case side2 => exact HC1.out); (case side3 => repeat (first | exact HR2.out | (with_reducible refine Kd.C_alloc ?_ _) | (with_reducible refine Kd.C_drewN ?_ _) | (with_reducible refine Kd.C_drew ?_))); (case side4 => exact HC2.out); rintro e w110 ⟨rfl, hb⟩; have n0_ := Aside0.mk (below_step (by repeat (first | (with_reducible first | exact HB.out | apply below_alloc | apply pw_below_drewN | apply below_drew1) | exact HB.out)) hb); clear HB; have HB := n0_; clear n0_; (try clear hb); (try clear hb2); (try clear hk); (try clear hi))))
  go_ret
  exact ⟨by first | rfl | (simp [errW_none, errW_some] <;> rfl) | (simp [*, errW_none, errW_some] <;> rfl), by repeat (first | (with_reducible first | exact HB.out | apply below_alloc | apply pw_below_drewN | apply below_drew1) | exact HB.out)⟩
 subst c5
 have H1 : ((order_Blocks.f k a0 l1 l2).bind fun bt370 => (if bt370.2 = 0 then (if 0 ≤ a0 then (if (a0 : Int).toNat ≤ 35184372088832 then (orrerylaw21_OrderParts.l0 k a0 l1 l2 (List.replicate (a0 : Int).toNat 0) (List.replicate (a0 : Int).toNat 0) bt370.1 (bt370.1.length : Int) 0) else (none)) else (none)) else (some false))) = some r := by rw [if_pos rfl] at H; exact H
 clear H
 have H := H1
 clear H1
 replace H := Option.bind_eq_some_iff.mp H
 obtain ⟨⟨t370, t371⟩, A60, H⟩ := H
 replace H : (if t371 = 0 then (if 0 ≤ a0 then (if (a0 : Int).toNat ≤ 35184372088832 then (orrerylaw21_OrderParts.l0 k a0 l1 l2 (List.replicate (a0 : Int).toNat 0) (List.replicate (a0 : Int).toNat 0) t370 (t370.length : Int) 0) else (none)) else (none)) else (some false)) = some r := H
 have A6 := Aside0.mk A60
 clear A60
 by_cases c7 : t371 = 0
 case neg =>
  rw [if_neg c7] at H
  have c7b0 : (t371 == 0) = false := beq_eq_false_iff_ne.mpr c7
  have c7b1 : (t371 != 0) = true := bne_iff_ne.mpr c7
  obtain rfl := Option.some.inj H
  go_enter Try.func4, Try.ntmps4
  go_wp2_with (first | (go_at_call 12; (with_reducible refine (orreryref20_Told.calls k a0 _ _ l1 _ _ l2 true _ ?side1 ?side2 ?side3 ?side4 A4.out).mono ?_); (case side1 => repeat (first | exact HR1.out | (with_reducible refine Kd.C_alloc ?_ _) | (with_reducible refine Kd.C_drewN ?_ _) | (with_reducible refine Kd.C_drew ?_))); (case side2 => exact HC1.out); (case side3 => repeat (first | exact HR2.out | (with_reducible refine Kd.C_alloc ?_ _) | (with_reducible refine Kd.C_drewN ?_ _) | (with_reducible refine Kd.C_drew ?_))); (case side4 => exact HC2.out); rintro e w108 ⟨rfl, hb⟩; have n0_ := Aside0.mk (below_step (by repeat (first | (with_reducible first | exact HB.out | apply below_alloc | apply pw_below_drewN | apply below_drew1) | exact HB.out)) hb); clear HB; have HB := n0_; clear n0_; (try clear hb); (try clear hb2); (try clear hk); (try clear hi)) | (go_at_call 9; (with_reducible refine (order_Blocks.calls k a0 _ _ l1 _ _ l2 t370 t371 _ ?side1 ?side2 ?side3 ?side4 A6.out).mono ?_); (case side1 => repeat (first | exact (Kd.C_below HR1.out HB.out) | (with_reducible refine Kd.C_alloc ?_ _) | (with_reducible refine Kd.C_drewN ?_ _) | (with_reducible refine Kd.C_drew ?_))); (case side2 => exact HC1.out); (case side3 => repeat (first | exact (Kd.C_below HR2.out HB.out) | (with_reducible refine Kd.C_alloc ?_ _) | (with_reducible refine Kd.C_drewN ?_ _) | (with_reducible refine Kd.C_drew ?_))); (case side4 => exact HC2.out); rintro e w109 ⟨v372, rfl, ho0, hb⟩; have n0_ := Aside0.mk (Kd.S_lower ho0 (below_size (by repeat (first | (with_reducible first | exact HB.out | apply below_alloc | apply pw_below_drewN | apply below_drew1) | exact HB.out)))); have n1_ := Aside0.mk (below_step (by repeat (first | (with_reducible first | exact HB.out | apply below_alloc | apply pw_below_drewN | apply below_drew1) | exact HB.out)) hb); clear HB; have HO373 := n0_; have HB := n1_; clear n0_ n1_; (try clear hb); (try clear hb2); (try clear hk); (try clear hi); (try clear ho0)))
  repeat (go_quiet (first | (go_at_call 12; (with_reducible refine (orreryref20_Told.calls k a0 _ _ l1 _ _ l2 true _ ?side1 ?side2 ?side3 ?side4 A4.out).mono ?_); (case side1 => repeat (first | exact HR1.out | (with_reducible refine Kd.C_alloc ?_ _) | (with_reducible refine Kd.C_drewN ?_ _) | (with_reducible refine Kd.C_drew ?_))); (case side2 => exact HC1.out); (case side3 => repeat (first | exact HR2.out | (with_reducible refine Kd.C_alloc ?_ _) | (with_reducible refine Kd.C_drewN ?_ _) | (with_reducible refine Kd.C_drew ?_))); (case side4 => exact HC2.out); rintro e w108 ⟨rfl, hb⟩; have n0_ := Aside0.mk (below_step (by repeat (first | (with_reducible first | exact HB.out | apply below_alloc | apply pw_below_drewN | apply below_drew1) | exact HB.out)) hb); clear HB; have HB := n0_; clear n0_; (try clear hb); (try clear hb2); (try clear hk); (try clear hi)) | (go_at_call 9; (with_reducible refine (order_Blocks.calls k a0 _ _ l1 _ _ l2 t370 t371 _ ?side1 ?side2 ?side3 ?side4 A6.out).mono ?_); (case side1 => repeat (first | exact (Kd.C_below HR1.out HB.out) | (with_reducible refine Kd.C_alloc ?_ _) | (with_reducible refine Kd.C_drewN ?_ _) | (with_reducible refine Kd.C_drew ?_))); (case side2 => exact HC1.out); (case side3 => repeat (first | exact (Kd.C_below HR2.out HB.out) | (with_reducible refine Kd.C_alloc ?_ _) | (with_reducible refine Kd.C_drewN ?_ _) | (with_reducible refine Kd.C_drew ?_))); (case side4 => exact HC2.out); rintro e w109 ⟨v372, rfl, ho0, hb⟩; have n0_ := Aside0.mk (Kd.S_lower ho0 (below_size (by repeat (first | (with_reducible first | exact HB.out | apply below_alloc | apply pw_below_drewN | apply below_drew1) | exact HB.out)))); have n1_ := Aside0.mk (below_step (by repeat (first | (with_reducible first | exact HB.out | apply below_alloc | apply pw_below_drewN | apply below_drew1) | exact HB.out)) hb); clear HB; have HO373 := n0_; have HB := n1_; clear n0_ n1_; (try clear hb); (try clear hb2); (try clear hk); (try clear hi); (try clear ho0))); try go_wp2_with (first | (go_at_call 12; (with_reducible refine (orreryref20_Told.calls k a0 _ _ l1 _ _ l2 true _ ?side1 ?side2 ?side3 ?side4 A4.out).mono ?_); (case side1 => repeat (first | exact HR1.out | (with_reducible refine Kd.C_alloc ?_ _) | (with_reducible refine Kd.C_drewN ?_ _) | (with_reducible refine Kd.C_drew ?_))); (case side2 => exact HC1.out); (case side3 => repeat (first | exact HR2.out | (with_reducible refine Kd.C_alloc ?_ _) | (with_reducible refine Kd.C_drewN ?_ _) | (with_reducible refine Kd.C_drew ?_))); (case side4 => exact HC2.out); rintro e w108 ⟨rfl, hb⟩; have n0_ := Aside0.mk (below_step (by repeat (first | (with_reducible first | exact HB.out | apply below_alloc | apply pw_below_drewN | apply below_drew1) | exact HB.out)) hb); clear HB; have HB := n0_; clear n0_; (try clear hb); (try clear hb2); (try clear hk); (try clear hi)) | (go_at_call 9; (with_reducible refine (order_Blocks.calls k a0 _ _ l1 _ _ l2 t370 t371 _ ?side1 ?side2 ?side3 ?side4 A6.out).mono ?_); (case side1 => repeat (first | exact (Kd.C_below HR1.out HB.out) | (with_reducible refine Kd.C_alloc ?_ _) | (with_reducible refine Kd.C_drewN ?_ _) | (with_reducible refine Kd.C_drew ?_))); (case side2 => exact HC1.out); (case side3 => repeat (first | exact (Kd.C_below HR2.out HB.out) | (with_reducible refine Kd.C_alloc ?_ _) | (with_reducible refine Kd.C_drewN ?_ _) | (with_reducible refine Kd.C_drew ?_))); (case side4 => exact HC2.out); rintro e w109 ⟨v372, rfl, ho0, hb⟩; have n0_ := Aside0.mk (Kd.S_lower ho0 (below_size (by repeat (first | (with_reducible first | exact HB.out | apply below_alloc | apply pw_below_drewN | apply below_drew1) | exact HB.out)))); have n1_ := Aside0.mk (below_step (by repeat (first | (with_reducible first | exact HB.out | apply below_alloc | apply pw_below_drewN | apply below_drew1) | exact HB.out)) hb); clear HB; have HO373 := n0_; have HB := n1_; clear n0_ n1_; (try clear hb); (try clear hb2); (try clear hk); (try clear hi); (try clear ho0))))
  go_ret
  exact ⟨by first | rfl | (simp [errW_none, errW_some] <;> rfl) | (simp [*, errW_none, errW_some] <;> rfl), by repeat (first | (with_reducible first | exact HB.out | apply below_alloc | apply pw_below_drewN | apply below_drew1) | exact HB.out)⟩
 rw [if_pos c7] at H
 have c7b0 : (t371 == 0) = true := beq_iff_eq.mpr c7
 have c7b1 : (t371 != 0) = false := bne_eq_false_iff_eq.mpr c7
 clear c7
 by_cases c8 : 0 ≤ a0
 case neg => rw [if_neg c8] at H; exact absurd H (by simp)
 rw [if_pos c8] at H
 have c8b0 := eq_true c8
 have c8b1 : decide (0 ≤ a0) = true := decide_eq_true c8
 clear c8
 by_cases c9 : (a0 : Int).toNat ≤ 35184372088832
 case neg => rw [if_neg c9] at H; exact absurd H (by simp)
 rw [if_pos c9] at H
 have c9b0 := eq_true c9
 have c9b1 : decide ((a0 : Int).toNat ≤ 35184372088832) = true := decide_eq_true c9
 clear c9
 obtain ⟨y374, hy374⟩ : ∃ y_ : List Int, y_ = (List.replicate (a0 : Int).toNat 0) := ⟨_, rfl⟩
 replace H : (orrerylaw21_OrderParts.l0 k a0 l1 l2 y374 (List.replicate (a0 : Int).toNat 0) t370 (t370.length : Int) 0) = some r := by first | (rw [hy374]; with_reducible exact H) | (have H2_ := (Option.bind_some _ _).symm.trans H; rw [hy374]; with_reducible exact H2_) | (have H2_ := (Option.bind_some _ _).symm.trans H; with_reducible exact H2_) | with_reducible exact H | (rw [hy374]; exact H) | exact H
 have Ny374 := Aside0.mk hy374
 clear hy374
 obtain ⟨y377, hy377⟩ : ∃ y_ : List Int, y_ = (List.replicate (a0 : Int).toNat 0) := ⟨_, rfl⟩
 replace H : (orrerylaw21_OrderParts.l0 k a0 l1 l2 y374 y377 t370 (t370.length : Int) 0) = some r := by first | (rw [hy377]; with_reducible exact H) | (have H2_ := (Option.bind_some _ _).symm.trans H; rw [hy377]; with_reducible exact H2_) | (have H2_ := (Option.bind_some _ _).symm.trans H; with_reducible exact H2_) | with_reducible exact H | (rw [hy377]; exact H) | exact H
 have Ny377 := Aside0.mk hy377
 clear hy377
 have H' := Aside0.mk H
 clear H
 go_enter Try.func4, Try.ntmps4
 go_wp2_with (first | (go_at_call 12; (with_reducible refine (orreryref20_Told.calls k a0 _ _ l1 _ _ l2 true _ ?side1 ?side2 ?side3 ?side4 A4.out).mono ?_); (case side1 => repeat (first | exact HR1.out | (with_reducible refine Kd.C_alloc ?_ _) | (with_reducible refine Kd.C_drewN ?_ _) | (with_reducible refine Kd.C_drew ?_))); (case side2 => exact HC1.out); (case side3 => repeat (first | exact HR2.out | (with_reducible refine Kd.C_alloc ?_ _) | (with_reducible refine Kd.C_drewN ?_ _) | (with_reducible refine Kd.C_drew ?_))); (case side4 => exact HC2.out); rintro e w10 ⟨rfl, hb⟩; have n0_ := Aside0.mk (below_step (by repeat (first | (with_reducible first | exact HB.out | apply below_alloc | apply pw_below_drewN | apply below_drew1) | exact HB.out)) hb); clear HB; have HB := n0_; clear n0_; (try clear hb); (try clear hb2); (try clear hk); (try clear hi)) | (go_at_call 9; (with_reducible refine (order_Blocks.calls k a0 _ _ l1 _ _ l2 t370 t371 _ ?side1 ?side2 ?side3 ?side4 A6.out).mono ?_); (case side1 => repeat (first | exact (Kd.C_below HR1.out HB.out) | (with_reducible refine Kd.C_alloc ?_ _) | (with_reducible refine Kd.C_drewN ?_ _) | (with_reducible refine Kd.C_drew ?_))); (case side2 => exact HC1.out); (case side3 => repeat (first | exact (Kd.C_below HR2.out HB.out) | (with_reducible refine Kd.C_alloc ?_ _) | (with_reducible refine Kd.C_drewN ?_ _) | (with_reducible refine Kd.C_drew ?_))); (case side4 => exact HC2.out); rintro e w11 ⟨v372, rfl, ho0, hb⟩; have n0_ := Aside0.mk (Kd.S_lower ho0 (below_size (by repeat (first | (with_reducible first | exact HB.out | apply below_alloc | apply pw_below_drewN | apply below_drew1) | exact HB.out)))); have n1_ := Aside0.mk (below_step (by repeat (first | (with_reducible first | exact HB.out | apply below_alloc | apply pw_below_drewN | apply below_drew1) | exact HB.out)) hb); clear HB; have HO373 := n0_; have HB := n1_; clear n0_ n1_; (try clear hb); (try clear hb2); (try clear hk); (try clear hi); (try clear ho0)) | ((with_reducible refine gate_dst (N := 36) rfl ?_); (try (refine gate_guard (by rfl) ?_; dsimp only)); refine Kd.R_make (Kd.int .i64) _ 3 rfl (N := 36) rfl 23 _ _ rfl a0 rfl rfl Try.underlying23 (.int .i64 0) 8 info3 rfl (by decide) (by omega) 0 (ok := fun _ => True) (okp := fun _ => True) rfl (fun _ hk => hk) trivial (of_decide_eq_true (by first | (with_reducible assumption) | assumption)) (Nat.le_trans (Nat.mul_le_mul_right _ (of_decide_eq_true (by first | (with_reducible assumption) | assumption) : a0.toNat ≤ 35184372088832)) (by omega)) (Below.refl _ _) (Nat.le_refl _) ?_; intro v375 w12 ho13 hb hg_ hnew_; clear hg_ hnew_; (first | rw [← Ny374.out] at ho13 | (simp only [Int.reduceToNat] at ho13; rw [← Ny374.out] at ho13)); have n0_ := Aside0.mk (Kd.S_elder' (by (with_reducible repeat (first | apply Kd.S_alloc | apply Kd.S_drewN | apply Kd.S_drew)); exact HO373.out) (Kd.R_base ho13) hb); have n1_ := Aside0.mk (Kd.R_lower ho13 (below_size (by repeat (first | (with_reducible first | exact HB.out | apply below_alloc | apply pw_below_drewN | apply below_drew1) | exact HB.out)))); have n2_ := Aside0.mk (below_step (by repeat (first | (with_reducible first | exact HB.out | apply below_alloc | apply pw_below_drewN | apply below_drew1) | exact HB.out)) hb); clear HO373; clear HB; have HO373 := n0_; have HO376 := n1_; have HB := n2_; clear n0_ n1_ n2_; clear hb ho13) | ((with_reducible refine gate_dst (N := 38) rfl ?_); (try (refine gate_guard (by rfl) ?_; dsimp only)); refine Kd.R_make (Kd.int .i64) _ 3 rfl (N := 38) rfl 23 _ _ rfl a0 rfl rfl Try.underlying23 (.int .i64 0) 8 info3 rfl (by decide) (by omega) 0 (ok := fun _ => True) (okp := fun _ => True) rfl (fun _ hk => hk) trivial (of_decide_eq_true (by first | (with_reducible assumption) | assumption)) (Nat.le_trans (Nat.mul_le_mul_right _ (of_decide_eq_true (by first | (with_reducible assumption) | assumption) : a0.toNat ≤ 35184372088832)) (by omega)) (Below.refl _ _) (Nat.le_refl _) ?_; intro v378 w14 ho15 hb hg_ hnew_; clear hg_ hnew_; (first | rw [← Ny377.out] at ho15 | (simp only [Int.reduceToNat] at ho15; rw [← Ny377.out] at ho15)); have n0_ := Aside0.mk (Kd.S_elder' (by (with_reducible repeat (first | apply Kd.S_alloc | apply Kd.S_drewN | apply Kd.S_drew)); exact HO373.out) (Kd.R_base ho15) hb); have n1_ := Aside0.mk (Kd.R_elder' (by (with_reducible repeat (first | apply Kd.R_alloc | apply Kd.R_drewN | apply Kd.R_drew)); exact HO376.out) (Kd.R_base ho15) hb); have n2_ := Aside0.mk (Kd.R_lower (Kd.R_new' ho15 (Kd.R_lt (by (with_reducible repeat (first | apply Kd.R_alloc | apply Kd.R_drewN | apply Kd.R_drew)); exact HO376.out))) (below_size (by repeat (first | (with_reducible first | exact HB.out | apply below_alloc | apply pw_below_drewN | apply below_drew1) | exact HB.out)))); have n3_ := Aside0.mk (below_step (by repeat (first | (with_reducible first | exact HB.out | apply below_alloc | apply pw_below_drewN | apply below_drew1) | exact HB.out)) hb); clear HO373; clear HO376; clear HB; have HO373 := n0_; have HO376 := n1_; have HO379 := n2_; have HB := n3_; clear n0_ n1_ n2_ n3_; clear hb ho15; obtain ⟨Ao16, co16, eo16⟩ := Kd.S_slice HO373.out; subst eo16))
 repeat (go_quiet (first | (go_at_call 12; (with_reducible refine (orreryref20_Told.calls k a0 _ _ l1 _ _ l2 true _ ?side1 ?side2 ?side3 ?side4 A4.out).mono ?_); (case side1 => repeat (first | exact HR1.out | (with_reducible refine Kd.C_alloc ?_ _) | (with_reducible refine Kd.C_drewN ?_ _) | (with_reducible refine Kd.C_drew ?_))); (case side2 => exact HC1.out); (case side3 => repeat (first | exact HR2.out | (with_reducible refine Kd.C_alloc ?_ _) | (with_reducible refine Kd.C_drewN ?_ _) | (with_reducible refine Kd.C_drew ?_))); (case side4 => exact HC2.out); rintro e w10 ⟨rfl, hb⟩; have n0_ := Aside0.mk (below_step (by repeat (first | (with_reducible first | exact HB.out | apply below_alloc | apply pw_below_drewN | apply below_drew1) | exact HB.out)) hb); clear HB; have HB := n0_; clear n0_; (try clear hb); (try clear hb2); (try clear hk); (try clear hi)) | (go_at_call 9; (with_reducible refine (order_Blocks.calls k a0 _ _ l1 _ _ l2 t370 t371 _ ?side1 ?side2 ?side3 ?side4 A6.out).mono ?_); (case side1 => repeat (first | exact (Kd.C_below HR1.out HB.out) | (with_reducible refine Kd.C_alloc ?_ _) | (with_reducible refine Kd.C_drewN ?_ _) | (with_reducible refine Kd.C_drew ?_))); (case side2 => exact HC1.out); (case side3 => repeat (first | exact (Kd.C_below HR2.out HB.out) | (with_reducible refine Kd.C_alloc ?_ _) | (with_reducible refine Kd.C_drewN ?_ _) | (with_reducible refine Kd.C_drew ?_))); (case side4 => exact HC2.out); rintro e w11 ⟨v372, rfl, ho0, hb⟩; have n0_ := Aside0.mk (Kd.S_lower ho0 (below_size (by repeat (first | (with_reducible first | exact HB.out | apply below_alloc | apply pw_below_drewN | apply below_drew1) | exact HB.out)))); have n1_ := Aside0.mk (below_step (by repeat (first | (with_reducible first | exact HB.out | apply below_alloc | apply pw_below_drewN | apply below_drew1) | exact HB.out)) hb); clear HB; have HO373 := n0_; have HB := n1_; clear n0_ n1_; (try clear hb); (try clear hb2); (try clear hk); (try clear hi); (try clear ho0)) | ((with_reducible refine gate_dst (N := 36) rfl ?_); (try (refine gate_guard (by rfl) ?_; dsimp only)); refine Kd.R_make (Kd.int .i64) _ 3 rfl (N := 36) rfl 23 _ _ rfl a0 rfl rfl Try.underlying23 (.int .i64 0) 8 info3 rfl (by decide) (by omega) 0 (ok := fun _ => True) (okp := fun _ => True) rfl (fun _ hk => hk) trivial (of_decide_eq_true (by first | (with_reducible assumption) | assumption)) (Nat.le_trans (Nat.mul_le_mul_right _ (of_decide_eq_true (by first | (with_reducible assumption) | assumption) : a0.toNat ≤ 35184372088832)) (by omega)) (Below.refl _ _) (Nat.le_refl _) ?_; intro v375 w12 ho13 hb hg_ hnew_; clear hg_ hnew_; (first | rw [← Ny374.out] at ho13 | (simp only [Int.reduceToNat] at ho13; rw [← Ny374.out] at ho13)); have n0_ := Aside0.mk (Kd.S_elder' (by (with_reducible repeat (first | apply Kd.S_alloc | apply Kd.S_drewN | apply Kd.S_drew)); exact HO373.out) (Kd.R_base ho13) hb); have n1_ := Aside0.mk (Kd.R_lower ho13 (below_size (by repeat (first | (with_reducible first | exact HB.out | apply below_alloc | apply pw_below_drewN | apply below_drew1) | exact HB.out)))); have n2_ := Aside0.mk (below_step (by repeat (first | (with_reducible first | exact HB.out | apply below_alloc | apply pw_below_drewN | apply below_drew1) | exact HB.out)) hb); clear HO373; clear HB; have HO373 := n0_; have HO376 := n1_; have HB := n2_; clear n0_ n1_ n2_; clear hb ho13) | ((with_reducible refine gate_dst (N := 38) rfl ?_); (try (refine gate_guard (by rfl) ?_; dsimp only)); refine Kd.R_make (Kd.int .i64) _ 3 rfl (N := 38) rfl 23 _ _ rfl a0 rfl rfl Try.underlying23 (.int .i64 0) 8 info3 rfl (by decide) (by omega) 0 (ok := fun _ => True) (okp := fun _ => True) rfl (fun _ hk => hk) trivial (of_decide_eq_true (by first | (with_reducible assumption) | assumption)) (Nat.le_trans (Nat.mul_le_mul_right _ (of_decide_eq_true (by first | (with_reducible assumption) | assumption) : a0.toNat ≤ 35184372088832)) (by omega)) (Below.refl _ _) (Nat.le_refl _) ?_; intro v378 w14 ho15 hb hg_ hnew_; clear hg_ hnew_; (first | rw [← Ny377.out] at ho15 | (simp only [Int.reduceToNat] at ho15; rw [← Ny377.out] at ho15)); have n0_ := Aside0.mk (Kd.S_elder' (by (with_reducible repeat (first | apply Kd.S_alloc | apply Kd.S_drewN | apply Kd.S_drew)); exact HO373.out) (Kd.R_base ho15) hb); have n1_ := Aside0.mk (Kd.R_elder' (by (with_reducible repeat (first | apply Kd.R_alloc | apply Kd.R_drewN | apply Kd.R_drew)); exact HO376.out) (Kd.R_base ho15) hb); have n2_ := Aside0.mk (Kd.R_lower (Kd.R_new' ho15 (Kd.R_lt (by (with_reducible repeat (first | apply Kd.R_alloc | apply Kd.R_drewN | apply Kd.R_drew)); exact HO376.out))) (below_size (by repeat (first | (with_reducible first | exact HB.out | apply below_alloc | apply pw_below_drewN | apply below_drew1) | exact HB.out)))); have n3_ := Aside0.mk (below_step (by repeat (first | (with_reducible first | exact HB.out | apply below_alloc | apply pw_below_drewN | apply below_drew1) | exact HB.out)) hb); clear HO373; clear HO376; clear HB; have HO373 := n0_; have HO376 := n1_; have HO379 := n2_; have HB := n3_; clear n0_ n1_ n2_ n3_; clear hb ho15; obtain ⟨Ao16, co16, eo16⟩ := Kd.S_slice HO373.out; subst eo16)); try go_wp2_with (first | (go_at_call 12; (with_reducible refine (orreryref20_Told.calls k a0 _ _ l1 _ _ l2 true _ ?side1 ?side2 ?side3 ?side4 A4.out).mono ?_); (case side1 => repeat (first | exact HR1.out | (with_reducible refine Kd.C_alloc ?_ _) | (with_reducible refine Kd.C_drewN ?_ _) | (with_reducible refine Kd.C_drew ?_))); (case side2 => exact HC1.out); (case side3 => repeat (first | exact HR2.out | (with_reducible refine Kd.C_alloc ?_ _) | (with_reducible refine Kd.C_drewN ?_ _) | (with_reducible refine Kd.C_drew ?_))); (case side4 => exact HC2.out); rintro e w10 ⟨rfl, hb⟩; have n0_ := Aside0.mk (below_step (by repeat (first | (with_reducible first | exact HB.out | apply below_alloc | apply pw_below_drewN | apply below_drew1) | exact HB.out)) hb); clear HB; have HB := n0_; clear n0_; (try clear hb); (try clear hb2); (try clear hk); (try clear hi)) | (go_at_call 9; (with_reducible refine (order_Blocks.calls k a0 _ _ l1 _ _ l2 t370 t371 _ ?side1 ?side2 ?side3 ?side4 A6.out).mono ?_); (case side1 => repeat (first | exact (Kd.C_below HR1.out HB.out) | (with_reducible refine Kd.C_alloc ?_ _) | (with_reducible refine Kd.C_drewN ?_ _) | (with_reducible refine Kd.C_drew ?_))); (case side2 => exact HC1.out); (case side3 => repeat (first | exact (Kd.C_below HR2.out HB.out) | (with_reducible refine Kd.C_alloc ?_ _) | (with_reducible refine Kd.C_drewN ?_ _) | (with_reducible refine Kd.C_drew ?_))); (case side4 => exact HC2.out); rintro e w11 ⟨v372, rfl, ho0, hb⟩; have n0_ := Aside0.mk (Kd.S_lower ho0 (below_size (by repeat (first | (with_reducible first | exact HB.out | apply below_alloc | apply pw_below_drewN | apply below_drew1) | exact HB.out)))); have n1_ := Aside0.mk (below_step (by repeat (first | (with_reducible first | exact HB.out | apply below_alloc | apply pw_below_drewN | apply below_drew1) | exact HB.out)) hb); clear HB; have HO373 := n0_; have HB := n1_; clear n0_ n1_; (try clear hb); (try clear hb2); (try clear hk); (try clear hi); (try clear ho0)) | ((with_reducible refine gate_dst (N := 36) rfl ?_); (try (refine gate_guard (by rfl) ?_; dsimp only)); refine Kd.R_make (Kd.int .i64) _ 3 rfl (N := 36) rfl 23 _ _ rfl a0 rfl rfl Try.underlying23 (.int .i64 0) 8 info3 rfl (by decide) (by omega) 0 (ok := fun _ => True) (okp := fun _ => True) rfl (fun _ hk => hk) trivial (of_decide_eq_true (by first | (with_reducible assumption) | assumption)) (Nat.le_trans (Nat.mul_le_mul_right _ (of_decide_eq_true (by first | (with_reducible assumption) | assumption) : a0.toNat ≤ 35184372088832)) (by omega)) (Below.refl _ _) (Nat.le_refl _) ?_; intro v375 w12 ho13 hb hg_ hnew_; clear hg_ hnew_; (first | rw [← Ny374.out] at ho13 | (simp only [Int.reduceToNat] at ho13; rw [← Ny374.out] at ho13)); have n0_ := Aside0.mk (Kd.S_elder' (by (with_reducible repeat (first | apply Kd.S_alloc | apply Kd.S_drewN | apply Kd.S_drew)); exact HO373.out) (Kd.R_base ho13) hb); have n1_ := Aside0.mk (Kd.R_lower ho13 (below_size (by repeat (first | (with_reducible first | exact HB.out | apply below_alloc | apply pw_below_drewN | apply below_drew1) | exact HB.out)))); have n2_ := Aside0.mk (below_step (by repeat (first | (with_reducible first | exact HB.out | apply below_alloc | apply pw_below_drewN | apply below_drew1) | exact HB.out)) hb); clear HO373; clear HB; have HO373 := n0_; have HO376 := n1_; have HB := n2_; clear n0_ n1_ n2_; clear hb ho13) | ((with_reducible refine gate_dst (N := 38) rfl ?_); (try (refine gate_guard (by rfl) ?_; dsimp only)); refine Kd.R_make (Kd.int .i64) _ 3 rfl (N := 38) rfl 23 _ _ rfl a0 rfl rfl Try.underlying23 (.int .i64 0) 8 info3 rfl (by decide) (by omega) 0 (ok := fun _ => True) (okp := fun _ => True) rfl (fun _ hk => hk) trivial (of_decide_eq_true (by first | (with_reducible assumption) | assumption)) (Nat.le_trans (Nat.mul_le_mul_right _ (of_decide_eq_true (by first | (with_reducible assumption) | assumption) : a0.toNat ≤ 35184372088832)) (by omega)) (Below.refl _ _) (Nat.le_refl _) ?_; intro v378 w14 ho15 hb hg_ hnew_; clear hg_ hnew_; (first | rw [← Ny377.out] at ho15 | (simp only [Int.reduceToNat] at ho15; rw [← Ny377.out] at ho15)); have n0_ := Aside0.mk (Kd.S_elder' (by (with_reducible repeat (first | apply Kd.S_alloc | apply Kd.S_drewN | apply Kd.S_drew)); exact HO373.out) (Kd.R_base ho15) hb); have n1_ := Aside0.mk (Kd.R_elder' (by (with_reducible repeat (first | apply Kd.R_alloc | apply Kd.R_drewN | apply Kd.R_drew)); exact HO376.out) (Kd.R_base ho15) hb); have n2_ := Aside0.mk (Kd.R_lower (Kd.R_new' ho15 (Kd.R_lt (by (with_reducible repeat (first | apply Kd.R_alloc | apply Kd.R_drewN | apply Kd.R_drew)); exact HO376.out))) (below_size (by repeat (first | (with_reducible first | exact HB.out | apply below_alloc | apply pw_below_drewN | apply below_drew1) | exact HB.out)))); have n3_ := Aside0.mk (below_step (by repeat (first | (with_reducible first | exact HB.out | apply below_alloc | apply pw_below_drewN | apply below_drew1) | exact HB.out)) hb); clear HO373; clear HO376; clear HB; have HO373 := n0_; have HO376 := n1_; have HO379 := n2_; have HB := n3_; clear n0_ n1_ n2_ n3_; clear hb ho15; obtain ⟨Ao16, co16, eo16⟩ := Kd.S_slice HO373.out; subst eo16)))
 go_loopg [41] k (fun kq v41 w' => ∃ (x9_1 : List Int) (x10_1 : List Int) (x41_1 : Int), v41 = .int .i64 x41_1 ∧ Aside0 (orrerylaw21_OrderParts.l0 kq a0 l1 l2 x9_1 x10_1 t370 (t370.length : Int) x41_1 = some r) ∧ Aside0 (kq ≤ k) ∧ Aside0 (Kd.R (Kd.int .i64) 3 w' w.heap.size (fun k_ => some k_ ≠ (v378 : Value).ownBlock) v375 x9_1) ∧ Aside0 (Kd.R (Kd.int .i64) 3 w' w.heap.size (fun k_ => some k_ ≠ (v375 : Value).ownBlock) v378 x10_1) ∧ Aside0 (Kd.S k30 30 w' w.heap.size (fun k_ => some k_ ≠ (v375 : Value).ownBlock ∧ some k_ ≠ (v378 : Value).ownBlock) (.slice Ao16 t370.length co16) t370) ∧ Aside0 (Below w.heap.size w w'))
 case atStart => exact ⟨(y374), (y377), (0), (by first | rfl | (simp; done) | (simp [*]; done)), H', ⟨Nat.le_refl _⟩, ⟨by (with_reducible repeat (first | apply Kd.R_alloc | apply Kd.R_drewN | apply Kd.R_drew)); exact Kd.R_mono HO376.out (fun _ hk => hk.2)⟩, ⟨by (with_reducible repeat (first | apply Kd.R_alloc | apply Kd.R_drewN | apply Kd.R_drew)); exact Kd.R_mono HO379.out (fun _ hk => hk.2)⟩, ⟨by (with_reducible repeat (first | apply Kd.S_alloc | apply Kd.S_drewN | apply Kd.S_drew)); exact Kd.S_mono HO373.out (fun _ hk => ⟨hk.1.2, hk.2⟩)⟩, ⟨by repeat (first | (with_reducible first | exact HB.out | apply below_alloc | apply pw_below_drewN | apply below_drew1) | exact HB.out)⟩⟩
 case round =>
  clear H'
  try clear c1
  try clear c2
  try clear p2
  try clear c4
  try clear c5
  try clear c7
  try clear c7b0
  try clear c7b1
  try clear c8
  try clear c8b0
  try clear c8b1
  try clear c9
  try clear c9b0
  try clear c9b1
  obtain ⟨x9_1, x10_1, x41_1, rfl, HA, HK1, HO_9, HO_10, HO_39, HB⟩ := hrel
  cases gk with
  | zero => exact absurd HA.out (by simp [orrerylaw21_OrderParts.l0])
  | succ k1 =>
   have H := HA.out
   clear HA
   simp only [orrerylaw21_OrderParts.l0] at H
   by_cases c17 : x41_1 < (t370.length : Int)
   case neg =>
    rw [if_neg c17] at H
    have c17b0 : decide (x41_1 < (t370.length : Int)) = false := decide_eq_false c17
    clear c17
    have H' := Aside0.mk H
    clear H
    go_wp2
    repeat (go_quiet (fail); try go_wp2)
    go_loopg [146] k1 (fun kq v146 w' => ∃ (x146_2 : Int), v146 = .int .i64 x146_2 ∧ Aside0 (orrerylaw21_OrderParts.l3 kq l1 x9_1 x10_1 l2 (l2.length : Int) x146_2 = some r) ∧ Aside0 (kq ≤ k1) ∧ Aside0 (Kd.R (Kd.int .i64) 3 w' w.heap.size (fun k_ => some k_ ≠ (v378 : Value).ownBlock) v375 x9_1) ∧ Aside0 (Kd.R (Kd.int .i64) 3 w' w.heap.size (fun k_ => some k_ ≠ (v375 : Value).ownBlock) v378 x10_1) ∧ Aside0 (Below w.heap.size w w'))
    case atStart => exact ⟨(0), (by first | rfl | (simp; done) | (simp [*]; done)), H', ⟨Nat.le_refl _⟩, ⟨by (with_reducible repeat (first | apply Kd.R_alloc | apply Kd.R_drewN | apply Kd.R_drew)); exact HO_9.out⟩, ⟨by (with_reducible repeat (first | apply Kd.R_alloc | apply Kd.R_drewN | apply Kd.R_drew)); exact HO_10.out⟩, ⟨by repeat (first | (with_reducible first | exact HB.out | apply below_alloc | apply pw_below_drewN | apply below_drew1) | exact HB.out)⟩⟩
    case round =>
     clear H'
     try clear c1
     try clear c2
     try clear p2
     try clear c3
     try clear p3
     try clear q3
     try clear hx3
     try clear c4
     try clear p4
     try clear q4
     try clear hx4
     try clear hf4
     try clear c5
     try clear c6
     try clear p6
     try clear q6
     try clear hx6
     try clear hf6
     try clear c7
     try clear c7b0
     try clear c7b1
     try clear p7
     try clear q7
     try clear hx7
     try clear hf7
     try clear c8
     try clear c8b0
     try clear c8b1
     try clear c9
     try clear c9b0
     try clear c9b1
     try clear c17
     try clear c17b0
     try clear c18
     try clear c18b0
     try clear c19
     try clear c19b0
     try clear c23
     try clear c23b0
     try clear c23b1
     try clear c23b2
     try clear c26
     try clear c28
     try clear c28b0
     try clear c29
     try clear c29b0
     try clear c30
     try clear c30b0
     try clear c31
     try clear c31b0
     try clear c32
     try clear c32b0
     try clear c33
     try clear c33b0
     try clear c34
     try clear c34b0
     try clear c35
     try clear c35b0
     try clear c35b1
     try clear c36
     try clear c36b0
     try clear c38
     try clear c38b0
     try clear p38
     try clear q38
     try clear hx38
     try clear c39
     try clear c39b0
     try clear c40
     try clear c40b0
     try clear p43
     try clear q43
     try clear hx43
     try clear hf43
     try clear p48
     try clear q48
     try clear hx48
     try clear hf48
     try clear c54
     try clear c54b0
     try clear c55
     try clear c55b0
     try clear c56
     try clear c56b0
     try clear c57
     try clear c57b0
     try clear c58
     try clear c58b0
     try clear c59
     try clear c59b0
     try clear c60
     try clear c60b0
     try clear c61
     try clear c61b0
     try clear c61b1
     try clear c62
     try clear c62b0
     try clear c64
     try clear c64b0
     try clear p64
     try clear c65
     try clear c65b0
     try clear c66
     try clear c66b0
     try clear p69
     try clear q69
     try clear hx69
     try clear hf69
     try clear p74
     try clear q74
     try clear hx74
     try clear hf74
     try clear hcz22_0
     try clear hcz22_1
     try clear hcz24_0
     try clear hcz24_1
     try clear hcz25_0
     try clear hcz25_1
     try clear hcz27_0
     try clear hcz27_1
     try clear hcz42_0
     try clear hcz42_1
     try clear hcz45_0
     try clear hcz45_1
     try clear hcz53_0
     try clear hcz53_1
     try clear hcz68_0
     try clear hcz68_1
     try clear hcz71_0
     try clear hcz71_1
     try clear hfz22_0
     try clear hfz22_1
     try clear hfz24_0
     try clear hfz24_1
     try clear hfz25_0
     try clear hfz25_1
     try clear hfz27_0
     try clear hfz27_1
     try clear hfz42_0
     try clear hfz42_1
     try clear hfz45_0
     try clear hfz45_1
     try clear hfz53_0
     try clear hfz53_1
     try clear hfz68_0
     try clear hfz68_1
     try clear hfz71_0
     try clear hfz71_1
     try clear hx380_0
     try clear hx380_1
     try clear hx382_0
     try clear hx383_0
     try clear hx384_0
     try clear hx387_0
     try clear hx388_0
     try clear hx389_0
     try clear hx43_0
     try clear hx48_0
     try clear hx69_0
     try clear hx74_0
     try clear p2
     try clear p3
     try clear p38
     try clear p380
     try clear p382
     try clear p383
     try clear p384
     try clear p387
     try clear p388
     try clear p389
     try clear p4
     try clear p43
     try clear p48
     try clear p6
     try clear p69
     try clear p74
     try clear q3
     try clear q38
     try clear q380
     try clear q382
     try clear q383
     try clear q384
     try clear q387
     try clear q388
     try clear q389
     try clear q4
     try clear q43
     try clear q48
     try clear q69
     try clear q74
     obtain ⟨x146_2, rfl, HA, HK2, HO_9, HO_10, HB⟩ := hrel
     cases gk with
     | zero => exact absurd HA.out (by simp [orrerylaw21_OrderParts.l3])
     | succ k2 =>
      have H := HA.out
      clear HA
      simp only [orrerylaw21_OrderParts.l3] at H
      by_cases c79 : x146_2 < (l2.length : Int)
      case pos =>
       rw [if_pos c79] at H
       have c79b0 : decide (x146_2 < (l2.length : Int)) = true := decide_eq_true c79
       clear c79
       by_cases c80 : 0 ≤ x146_2
       case neg => rw [if_neg c80] at H; exact absurd H (by simp)
       rw [if_pos c80] at H
       have c80b0 : decide (0 ≤ x146_2) = true := decide_eq_true c80
       clear c80
       by_cases c81 : x146_2 < (l2.length : Int)
       case neg => rw [if_neg c81] at H; exact absurd H (by simp)
       rw [if_pos c81] at H
       have c81b0 : decide (x146_2 < (l2.length : Int)) = true := decide_eq_true c81
       clear c81
       by_cases c82 : x146_2 < (x9_1.length : Int)
       case neg => rw [if_neg c82] at H; exact absurd H (by simp)
       rw [if_pos c82] at H
       have c82b0 : decide (x146_2 < (x9_1.length : Int)) = true := decide_eq_true c82
       clear c82
       by_cases c83 : (rd x9_1 x146_2) = 0
       case pos =>
        rw [if_pos c83] at H
        have c83b0 : ((rd x9_1 x146_2) == 0) = true := beq_iff_eq.mpr c83
        have c83b1 : ((rd x9_1 x146_2) != 0) = false := bne_eq_false_iff_eq.mpr c83
        clear c83
        obtain rfl := Option.some.inj H
        have p392 : 0 ≤ (x146_2 : Int) := of_decide_eq_true (by first | (with_reducible assumption) | assumption)
        have q392 : x146_2 < (l2.length : Int) := of_decide_eq_true (by first | (with_reducible assumption) | assumption)
        obtain ⟨ad392, e392, hx392_0⟩ := Kd.at_int HR2.out x146_2 p392 q392
        cases e392
        replace hx392_0 := (HB.out.cell (World.block_lt_of_cell? w _ hx392_0)).trans hx392_0
        replace p392 := eq_true p392
        replace q392 := eq_true q392
        obtain ⟨Ao84, co84, eo84⟩ := Kd.R_slice HO_9.out
        subst eo84
        have p393 : 0 ≤ (x146_2 : Int) := of_decide_eq_true (by first | (with_reducible assumption) | assumption)
        have q393 : x146_2 < (x9_1.length : Int) := of_decide_eq_true (by first | (with_reducible assumption) | assumption)
        obtain ⟨ad393, e393, hx393_0⟩ := Kd.at_int (Kd.R_reads' HO_9.out).2.2 x146_2 p393 q393
        cases e393
        replace p393 := eq_true p393
        replace q393 := eq_true q393
        go_wp2
        repeat (go_quiet (fail); try go_wp2)
        go_ret
        exact ⟨by first | rfl | (simp [errW_none, errW_some] <;> rfl) | (simp [*, errW_none, errW_some] <;> rfl), by repeat (first | (with_reducible first | exact HB.out | apply below_alloc | apply pw_below_drewN | apply below_drew1) | exact HB.out)⟩
       rw [if_neg c83] at H
       have c83b0 : ((rd x9_1 x146_2) == 0) = false := beq_eq_false_iff_ne.mpr c83
       have c83b1 : ((rd x9_1 x146_2) != 0) = true := bne_iff_ne.mpr c83
       by_cases c85 : 0 ≤ (rd l2 x146_2)
       case neg => rw [if_neg c85] at H; exact absurd H (by simp)
       rw [if_pos c85] at H
       have c85b0 : decide (0 ≤ (rd l2 x146_2)) = true := decide_eq_true c85
       clear c85
       by_cases c86 : (rd l2 x146_2) < (x10_1.length : Int)
       case neg => rw [if_neg c86] at H; exact absurd H (by simp)
       rw [if_pos c86] at H
       have c86b0 : decide ((rd l2 x146_2) < (x10_1.length : Int)) = true := decide_eq_true c86
       clear c86
       by_cases c87 : (rd x9_1 x146_2) = (rd x10_1 (rd l2 x146_2))
       case neg =>
        rw [if_neg c87] at H
        have c87b0 : ((rd x9_1 x146_2) == (rd x10_1 (rd l2 x146_2))) = false := beq_eq_false_iff_ne.mpr c87
        have c87b1 : ((rd x9_1 x146_2) != (rd x10_1 (rd l2 x146_2))) = true := bne_iff_ne.mpr c87
        obtain rfl := Option.some.inj H
        have p392 : 0 ≤ (x146_2 : Int) := of_decide_eq_true (by first | (with_reducible assumption) | assumption)
        have q392 : x146_2 < (l2.length : Int) := of_decide_eq_true (by first | (with_reducible assumption) | assumption)
        obtain ⟨ad392, e392, hx392_0⟩ := Kd.at_int HR2.out x146_2 p392 q392
        cases e392
        replace hx392_0 := (HB.out.cell (World.block_lt_of_cell? w _ hx392_0)).trans hx392_0
        replace p392 := eq_true p392
        replace q392 := eq_true q392
        obtain ⟨Ao90, co90, eo90⟩ := Kd.R_slice HO_9.out
        subst eo90
        have p393 : 0 ≤ (x146_2 : Int) := of_decide_eq_true (by first | (with_reducible assumption) | assumption)
        have q393 : x146_2 < (x9_1.length : Int) := of_decide_eq_true (by first | (with_reducible assumption) | assumption)
        obtain ⟨ad393, e393, hx393_0⟩ := Kd.at_int (Kd.R_reads' HO_9.out).2.2 x146_2 p393 q393
        cases e393
        replace p393 := eq_true p393
        replace q393 := eq_true q393
        have p394 : 0 ≤ (x146_2 : Int) := of_decide_eq_true (by first | (with_reducible assumption) | assumption)
        have q394 : x146_2 < (x9_1.length : Int) := of_decide_eq_true (by first | (with_reducible assumption) | assumption)
        obtain ⟨ad394, e394, hx394_0⟩ := Kd.at_int (Kd.R_reads' HO_9.out).2.2 x146_2 p394 q394
        obtain rfl : ad393 = ad394 := (by injection e394)
        replace p394 := eq_true p394
        replace q394 := eq_true q394
        obtain ⟨Ao91, co91, eo91⟩ := Kd.R_slice HO_10.out
        subst eo91
        have p395 : 0 ≤ ((rd l2 x146_2) : Int) := of_decide_eq_true (by first | (with_reducible assumption) | assumption)
        have q395 : (rd l2 x146_2) < (x10_1.length : Int) := of_decide_eq_true (by first | (with_reducible assumption) | assumption)
        obtain ⟨ad395, e395, hx395_0⟩ := Kd.at_int (Kd.R_reads' HO_10.out).2.2 (rd l2 x146_2) p395 q395
        cases e395
        replace p395 := eq_true p395
        replace q395 := eq_true q395
        go_wp2
        repeat (go_quiet (fail); try go_wp2)
        go_ret
        exact ⟨by first | rfl | (simp [errW_none, errW_some] <;> rfl) | (simp [*, errW_none, errW_some] <;> rfl), by repeat (first | (with_reducible first | exact HB.out | apply below_alloc | apply pw_below_drewN | apply below_drew1) | exact HB.out)⟩
       rw [if_pos c87] at H
       have c87b0 : ((rd x9_1 x146_2) == (rd x10_1 (rd l2 x146_2))) = true := beq_iff_eq.mpr c87
       have c87b1 : ((rd x9_1 x146_2) != (rd x10_1 (rd l2 x146_2))) = false := bne_eq_false_iff_eq.mpr c87
       clear c87
       have H' := Aside0.mk H
       clear H
       have p392 : 0 ≤ (x146_2 : Int) := of_decide_eq_true (by first | (with_reducible assumption) | assumption)
       have q392 : x146_2 < (l2.length : Int) := of_decide_eq_true (by first | (with_reducible assumption) | assumption)
       obtain ⟨ad392, e392, hx392_0⟩ := Kd.at_int HR2.out x146_2 p392 q392
       cases e392
       replace hx392_0 := (HB.out.cell (World.block_lt_of_cell? w _ hx392_0)).trans hx392_0
       replace p392 := eq_true p392
       replace q392 := eq_true q392
       obtain ⟨Ao88, co88, eo88⟩ := Kd.R_slice HO_9.out
       subst eo88
       have p393 : 0 ≤ (x146_2 : Int) := of_decide_eq_true (by first | (with_reducible assumption) | assumption)
       have q393 : x146_2 < (x9_1.length : Int) := of_decide_eq_true (by first | (with_reducible assumption) | assumption)
       obtain ⟨ad393, e393, hx393_0⟩ := Kd.at_int (Kd.R_reads' HO_9.out).2.2 x146_2 p393 q393
       cases e393
       replace p393 := eq_true p393
       replace q393 := eq_true q393
       have p394 : 0 ≤ (x146_2 : Int) := of_decide_eq_true (by first | (with_reducible assumption) | assumption)
       have q394 : x146_2 < (x9_1.length : Int) := of_decide_eq_true (by first | (with_reducible assumption) | assumption)
       obtain ⟨ad394, e394, hx394_0⟩ := Kd.at_int (Kd.R_reads' HO_9.out).2.2 x146_2 p394 q394
       obtain rfl : ad393 = ad394 := (by injection e394)
       replace p394 := eq_true p394
       replace q394 := eq_true q394
       obtain ⟨Ao89, co89, eo89⟩ := Kd.R_slice HO_10.out
       subst eo89
       have p395 : 0 ≤ ((rd l2 x146_2) : Int) := of_decide_eq_true (by first | (with_reducible assumption) | assumption)
       have q395 : (rd l2 x146_2) < (x10_1.length : Int) := of_decide_eq_true (by first | (with_reducible assumption) | assumption)
       obtain ⟨ad395, e395, hx395_0⟩ := Kd.at_int (Kd.R_reads' HO_10.out).2.2 (rd l2 x146_2) p395 q395
       cases e395
       replace p395 := eq_true p395
       replace q395 := eq_true q395
       go_wp2
       repeat (go_quiet (fail); try go_wp2)
       (first | go_roundg k2 | (refine Handed.intro k2 ?measure ?_; rotate_left; go_step; (repeat apply Exists.intro); (refine ⟨?rel, ?fr_⟩); (case fr_ => (simp only [add_plain]; rfl))))
       case measure => have := HK1.out; have := HK2.out; omega
       case rel => exact ⟨(wrap64 (x146_2 + 1)), (by first | rfl | (simp; done) | (simp [*]; done)), H', ⟨by have := HK1.out; have := HK2.out; omega⟩, ⟨by (with_reducible repeat (first | apply Kd.R_alloc | apply Kd.R_drewN | apply Kd.R_drew)); exact HO_9.out⟩, ⟨by (with_reducible repeat (first | apply Kd.R_alloc | apply Kd.R_drewN | apply Kd.R_drew)); exact HO_10.out⟩, ⟨by repeat (first | (with_reducible first | exact HB.out | apply below_alloc | apply pw_below_drewN | apply below_drew1) | exact HB.out)⟩⟩
      rw [if_neg c79] at H
      have c79b0 : decide (x146_2 < (l2.length : Int)) = false := decide_eq_false c79
      clear c79
      have H' := Aside0.mk H
      clear H
      go_wp2
      repeat (go_quiet (fail); try go_wp2)
      go_loopg [170] k2 (fun kq v170 w' => ∃ (x170_3 : Int), v170 = .int .i64 x170_3 ∧ Aside0 (orrerylaw21_OrderParts.l4 kq x9_1 x10_1 l1 (l1.length : Int) x170_3 = some r) ∧ Aside0 (kq ≤ k2) ∧ Aside0 (Kd.R (Kd.int .i64) 3 w' w.heap.size (fun k_ => some k_ ≠ (v378 : Value).ownBlock) v375 x9_1) ∧ Aside0 (Kd.R (Kd.int .i64) 3 w' w.heap.size (fun k_ => some k_ ≠ (v375 : Value).ownBlock) v378 x10_1) ∧ Aside0 (Below w.heap.size w w'))
      case atStart => exact ⟨(0), (by first | rfl | (simp; done) | (simp [*]; done)), H', ⟨Nat.le_refl _⟩, ⟨by (with_reducible repeat (first | apply Kd.R_alloc | apply Kd.R_drewN | apply Kd.R_drew)); exact HO_9.out⟩, ⟨by (with_reducible repeat (first | apply Kd.R_alloc | apply Kd.R_drewN | apply Kd.R_drew)); exact HO_10.out⟩, ⟨by repeat (first | (with_reducible first | exact HB.out | apply below_alloc | apply pw_below_drewN | apply below_drew1) | exact HB.out)⟩⟩
      case round =>
       clear H'
       try clear c1
       try clear c2
       try clear p2
       try clear c3
       try clear p3
       try clear q3
       try clear hx3
       try clear c4
       try clear p4
       try clear q4
       try clear hx4
       try clear hf4
       try clear c5
       try clear c6
       try clear p6
       try clear q6
       try clear hx6
       try clear hf6
       try clear c7
       try clear c7b0
       try clear c7b1
       try clear p7
       try clear q7
       try clear hx7
       try clear hf7
       try clear c8
       try clear c8b0
       try clear c8b1
       try clear c9
       try clear c9b0
       try clear c9b1
       try clear c17
       try clear c17b0
       try clear c18
       try clear c18b0
       try clear c19
       try clear c19b0
       try clear c23
       try clear c23b0
       try clear c23b1
       try clear c23b2
       try clear c26
       try clear c28
       try clear c28b0
       try clear c29
       try clear c29b0
       try clear c30
       try clear c30b0
       try clear c31
       try clear c31b0
       try clear c32
       try clear c32b0
       try clear c33
       try clear c33b0
       try clear c34
       try clear c34b0
       try clear c35
       try clear c35b0
       try clear c35b1
       try clear c36
       try clear c36b0
       try clear c38
       try clear c38b0
       try clear p38
       try clear q38
       try clear hx38
       try clear c39
       try clear c39b0
       try clear p39
       try clear q39
       try clear hx39
       try clear c40
       try clear c40b0
       try clear p43
       try clear q43
       try clear hx43
       try clear hf43
       try clear p48
       try clear q48
       try clear hx48
       try clear hf48
       try clear c54
       try clear c54b0
       try clear c55
       try clear c55b0
       try clear c56
       try clear c56b0
       try clear c57
       try clear c57b0
       try clear c58
       try clear c58b0
       try clear c59
       try clear c59b0
       try clear c60
       try clear c60b0
       try clear c61
       try clear c61b0
       try clear c61b1
       try clear c62
       try clear c62b0
       try clear c64
       try clear c64b0
       try clear p64
       try clear c65
       try clear c65b0
       try clear c66
       try clear c66b0
       try clear p69
       try clear q69
       try clear hx69
       try clear hf69
       try clear p74
       try clear q74
       try clear hx74
       try clear hf74
       try clear c79
       try clear c79b0
       try clear c80
       try clear c80b0
       try clear c81
       try clear c81b0
       try clear c82
       try clear c82b0
       try clear c83
       try clear c83b0
       try clear c83b1
       try clear c85
       try clear c85b0
       try clear c86
       try clear c86b0
       try clear c87
       try clear c87b0
       try clear c87b1
       try clear hcz22_0
       try clear hcz22_1
       try clear hcz24_0
       try clear hcz24_1
       try clear hcz25_0
       try clear hcz25_1
       try clear hcz27_0
       try clear hcz27_1
       try clear hcz42_0
       try clear hcz42_1
       try clear hcz45_0
       try clear hcz45_1
       try clear hcz53_0
       try clear hcz53_1
       try clear hcz68_0
       try clear hcz68_1
       try clear hcz71_0
       try clear hcz71_1
       try clear hfz22_0
       try clear hfz22_1
       try clear hfz24_0
       try clear hfz24_1
       try clear hfz25_0
       try clear hfz25_1
       try clear hfz27_0
       try clear hfz27_1
       try clear hfz42_0
       try clear hfz42_1
       try clear hfz45_0
       try clear hfz45_1
       try clear hfz53_0
       try clear hfz53_1
       try clear hfz68_0
       try clear hfz68_1
       try clear hfz71_0
       try clear hfz71_1
       try clear hx380_0
       try clear hx380_1
       try clear hx382_0
       try clear hx383_0
       try clear hx384_0
       try clear hx387_0
       try clear hx388_0
       try clear hx389_0
       try clear hx392_0
       try clear hx393_0
       try clear hx394_0
       try clear hx395_0
       try clear hx43_0
       try clear hx48_0
       try clear hx69_0
       try clear hx74_0
       try clear p2
       try clear p3
       try clear p38
       try clear p380
       try clear p382
       try clear p383
       try clear p384
       try clear p387
       try clear p388
       try clear p389
       try clear p392
       try clear p393
       try clear p394
       try clear p395
       try clear p4
       try clear p43
       try clear p48
       try clear p6
       try clear p64
       try clear p69
       try clear p7
       try clear p74
       try clear q3
       try clear q38
       try clear q380
       try clear q382
       try clear q383
       try clear q384
       try clear q387
       try clear q388
       try clear q389
       try clear q392
       try clear q393
       try clear q394
       try clear q395
       try clear q4
       try clear q43
       try clear q48
       try clear q6
       try clear q69
       try clear q7
       try clear q74
       obtain ⟨x170_3, rfl, HA, HK3, HO_9, HO_10, HB⟩ := hrel
       cases gk with
       | zero => exact absurd HA.out (by simp [orrerylaw21_OrderParts.l4])
       | succ k3 =>
        have H := HA.out
        clear HA
        simp only [orrerylaw21_OrderParts.l4] at H
        by_cases c92 : x170_3 < (l1.length : Int)
        case neg =>
         rw [if_neg c92] at H
         have c92b0 : decide (x170_3 < (l1.length : Int)) = false := decide_eq_false c92
         clear c92
         obtain rfl := Option.some.inj H
         go_wp2
         repeat (go_quiet (fail); try go_wp2)
         go_ret
         exact ⟨by first | rfl | (simp [errW_none, errW_some] <;> rfl) | (simp [*, errW_none, errW_some] <;> rfl), by repeat (first | (with_reducible first | exact HB.out | apply below_alloc | apply pw_below_drewN | apply below_drew1) | exact HB.out)⟩
        rw [if_pos c92] at H
        have c92b0 : decide (x170_3 < (l1.length : Int)) = true := decide_eq_true c92
        clear c92
        by_cases c93 : 0 ≤ x170_3
        case neg => rw [if_neg c93] at H; exact absurd H (by simp)
        rw [if_pos c93] at H
        have c93b0 : decide (0 ≤ x170_3) = true := decide_eq_true c93
        clear c93
        by_cases c94 : x170_3 < (l1.length : Int)
        case neg => rw [if_neg c94] at H; exact absurd H (by simp)
        rw [if_pos c94] at H
        have c94b0 : decide (x170_3 < (l1.length : Int)) = true := decide_eq_true c94
        clear c94
        by_cases c95 : 0 ≤ ((rd_T33 l1 x170_3).f1)
        case neg => rw [if_neg c95] at H; exact absurd H (by simp)
        rw [if_pos c95] at H
        have c95b0 : decide (0 ≤ ((rd_T33 l1 x170_3).f1)) = true := decide_eq_true c95
        clear c95
        by_cases c96 : ((rd_T33 l1 x170_3).f1) < (x10_1.length : Int)
        case neg => rw [if_neg c96] at H; exact absurd H (by simp)
        rw [if_pos c96] at H
        have c96b0 : decide (((rd_T33 l1 x170_3).f1) < (x10_1.length : Int)) = true := decide_eq_true c96
        clear c96
        by_cases c97 : 0 ≤ ((rd_T33 l1 x170_3).f0)
        case neg => rw [if_neg c97] at H; exact absurd H (by simp)
        rw [if_pos c97] at H
        have c97b0 : decide (0 ≤ ((rd_T33 l1 x170_3).f0)) = true := decide_eq_true c97
        clear c97
        by_cases c98 : ((rd_T33 l1 x170_3).f0) < (x9_1.length : Int)
        case neg => rw [if_neg c98] at H; exact absurd H (by simp)
        rw [if_pos c98] at H
        have c98b0 : decide (((rd_T33 l1 x170_3).f0) < (x9_1.length : Int)) = true := decide_eq_true c98
        clear c98
        by_cases c99 : (rd x10_1 ((rd_T33 l1 x170_3).f1)) > (rd x9_1 ((rd_T33 l1 x170_3).f0))
        case pos =>
         rw [if_pos c99] at H
         have c99b0 : decide ((rd x9_1 ((rd_T33 l1 x170_3).f0)) < (rd x10_1 ((rd_T33 l1 x170_3).f1))) = true := decide_eq_true c99
         clear c99
         obtain rfl := Option.some.inj H
         have p396 : 0 ≤ (x170_3 : Int) := of_decide_eq_true (by first | (with_reducible assumption) | assumption)
         have q396 : x170_3 < (l1.length : Int) := of_decide_eq_true (by first | (with_reducible assumption) | assumption)
         obtain ⟨ad396, e396, hx396_0, hx396_1, hx396_2⟩ := at_T33 HR1.out x170_3 p396 q396
         cases e396
         replace hx396_0 := (HB.out.cell (World.block_lt_of_cell? w _ hx396_0)).trans hx396_0
         replace hx396_1 := (HB.out.cell (World.block_lt_of_cell? w _ hx396_1)).trans hx396_1
         replace hx396_2 := (HB.out.cell (World.block_lt_of_cell? w _ hx396_2)).trans hx396_2
         replace p396 := eq_true p396
         replace q396 := eq_true q396
         go_wp2_with (first | ((with_reducible refine gate_dst (N := 20) rfl ?_); (try (refine gate_guard (by rfl) ?_; dsimp only)); refine box_event ?hg (N := 20) ?hd (cs := #[.int .i64 0, .int .i64 0, .int .i64 0]) (t := 33) ?hr ?_; (case hd => rfl); (case hg => rfl); (case hr => first | (go_simp; done) | (go_simp; rfl)); intro gb397 hg w100 hbox hb; have n0_ := Aside0.mk (Kd.R_below (by (with_reducible repeat (first | apply Kd.R_alloc | apply Kd.R_drewN | apply Kd.R_drew)); exact HO_9.out) hb); have n1_ := Aside0.mk (Kd.R_below (by (with_reducible repeat (first | apply Kd.R_alloc | apply Kd.R_drewN | apply Kd.R_drew)); exact HO_10.out) hb); have n2_ := Aside0.mk (below_step (by repeat (first | (with_reducible first | exact HB.out | apply below_alloc | apply pw_below_drewN | apply below_drew1) | exact HB.out)) hb); have n3_ := Aside0.mk (hbox); have n4_ := Aside0.mk ((by rw [hg]; exact (below_size (by repeat (first | (with_reducible first | exact HB.out | apply below_alloc | apply pw_below_drewN | apply below_drew1) | exact HB.out))) : w.heap.size ≤ gb397)); have n5_ := Aside0.mk ((by rw [hg]; exact (below_size (by repeat (first | (with_reducible first | exact HB.out | apply below_alloc | apply pw_below_drewN | apply below_drew1) | exact HB.out))) : w.heap.size ≤ gb397)); clear HO_9; clear HO_10; clear HB; have HO_9 := n0_; have HO_10 := n1_; have HB := n2_; have BK397 := n3_; have GW397 := n4_; have GE397 := n5_; clear n0_ n1_ n2_ n3_ n4_ n5_; clear hb hbox hg; have hcz101_0 : w100.cell? ⟨gb397, 0, none⟩ = some (.int .i64 0) := (blk_cell BK397.out 0).trans rfl; have hcz101_1 : w100.cell? ⟨gb397, 1, none⟩ = some (.int .i64 0) := (blk_cell BK397.out 1).trans rfl; have hcz101_2 : w100.cell? ⟨gb397, 2, none⟩ = some (.int .i64 0) := (blk_cell BK397.out 2).trans rfl; have hfz101_0 := blk_frozen BK397.out 0; have hfz101_1 := blk_frozen BK397.out 1; have hfz101_2 := blk_frozen BK397.out 2; obtain ⟨Ao102, co102, eo102⟩ := Kd.R_slice HO_10.out; subst eo102; have p398 : 0 ≤ (((rd_T33 l1 x170_3).f1) : Int) := of_decide_eq_true (by first | (with_reducible assumption) | assumption); have q398 : ((rd_T33 l1 x170_3).f1) < (x10_1.length : Int) := of_decide_eq_true (by first | (with_reducible assumption) | assumption); obtain ⟨ad398, e398, hx398_0⟩ := Kd.at_int (Kd.R_reads' HO_10.out).2.2 ((rd_T33 l1 x170_3).f1) p398 q398; cases e398; have hn398_0 : ad398.block ≠ gb397 := Kd.own_blk (Kd.R_ne HO_10.out BK397.out (by decide)); have hn398_1 : ad398.block ≠ gb397 := Kd.own_blk (Kd.R_ne HO_10.out BK397.out (by decide)); have hn398_2 : ad398.block ≠ gb397 := Kd.own_blk (Kd.R_ne HO_10.out BK397.out (by decide)); replace hx398_0 := (cell_far (p := ⟨gb397, 0, none⟩) (by first | (rw [add_block]; exact hn398_0) | (show (Addr.add _ _).block ≠ _; rw [add_block]; exact hn398_0) | exact hn398_0) (.int .i64 ((rd_T33 l1 x170_3).f0))).trans hx398_0; replace hx398_0 := (cell_far (p := ⟨gb397, 1, none⟩) (by first | (rw [add_block]; exact hn398_1) | (show (Addr.add _ _).block ≠ _; rw [add_block]; exact hn398_1) | exact hn398_1) (.int .i64 ((rd_T33 l1 x170_3).f1))).trans hx398_0; replace hx398_0 := (cell_far (p := ⟨gb397, 2, none⟩) (by first | (rw [add_block]; exact hn398_2) | (show (Addr.add _ _).block ≠ _; rw [add_block]; exact hn398_2) | exact hn398_2) (.int .i64 ((rd_T33 l1 x170_3).f2))).trans hx398_0; (try have hy398_0 := fun (n_ : Nat) => (show (((((w100.drewN n_).setCell ⟨gb397, 0, none⟩ (.int .i64 ((rd_T33 l1 x170_3).f0))).setCell ⟨gb397, 1, none⟩ (.int .i64 ((rd_T33 l1 x170_3).f1))).setCell ⟨gb397, 2, none⟩ (.int .i64 ((rd_T33 l1 x170_3).f2)))).cell? _ = some _ from hx398_0)); clear hn398_0; clear hn398_1; clear hn398_2; replace p398 := eq_true p398; replace q398 := eq_true q398; obtain ⟨Ao103, co103, eo103⟩ := Kd.R_slice HO_9.out; subst eo103; have p399 : 0 ≤ (((rd_T33 l1 x170_3).f0) : Int) := of_decide_eq_true (by first | (with_reducible assumption) | assumption); have q399 : ((rd_T33 l1 x170_3).f0) < (x9_1.length : Int) := of_decide_eq_true (by first | (with_reducible assumption) | assumption); obtain ⟨ad399, e399, hx399_0⟩ := Kd.at_int (Kd.R_reads' HO_9.out).2.2 ((rd_T33 l1 x170_3).f0) p399 q399; cases e399; have hn399_0 : ad399.block ≠ gb397 := Kd.own_blk (Kd.R_ne HO_9.out BK397.out (by decide)); have hn399_1 : ad399.block ≠ gb397 := Kd.own_blk (Kd.R_ne HO_9.out BK397.out (by decide)); have hn399_2 : ad399.block ≠ gb397 := Kd.own_blk (Kd.R_ne HO_9.out BK397.out (by decide)); replace hx399_0 := (cell_far (p := ⟨gb397, 0, none⟩) (by first | (rw [add_block]; exact hn399_0) | (show (Addr.add _ _).block ≠ _; rw [add_block]; exact hn399_0) | exact hn399_0) (.int .i64 ((rd_T33 l1 x170_3).f0))).trans hx399_0; replace hx399_0 := (cell_far (p := ⟨gb397, 1, none⟩) (by first | (rw [add_block]; exact hn399_1) | (show (Addr.add _ _).block ≠ _; rw [add_block]; exact hn399_1) | exact hn399_1) (.int .i64 ((rd_T33 l1 x170_3).f1))).trans hx399_0; replace hx399_0 := (cell_far (p := ⟨gb397, 2, none⟩) (by first | (rw [add_block]; exact hn399_2) | (show (Addr.add _ _).block ≠ _; rw [add_block]; exact hn399_2) | exact hn399_2) (.int .i64 ((rd_T33 l1 x170_3).f2))).trans hx399_0; (try have hy399_0 := fun (n_ : Nat) => (show (((((w100.drewN n_).setCell ⟨gb397, 0, none⟩ (.int .i64 ((rd_T33 l1 x170_3).f0))).setCell ⟨gb397, 1, none⟩ (.int .i64 ((rd_T33 l1 x170_3).f1))).setCell ⟨gb397, 2, none⟩ (.int .i64 ((rd_T33 l1 x170_3).f2)))).cell? _ = some _ from hx399_0)); clear hn399_0; clear hn399_1; clear hn399_2; replace p399 := eq_true p399; replace q399 := eq_true q399))
         repeat (go_quiet (first | ((with_reducible refine gate_dst (N := 20) rfl ?_); (try (refine gate_guard (by rfl) ?_; dsimp only)); refine box_event ?hg (N := 20) ?hd (cs := #[.int .i64 0, .int .i64 0, .int .i64 0]) (t := 33) ?hr ?_; (case hd => rfl); (case hg => rfl); (case hr => first | (go_simp; done) | (go_simp; rfl)); intro gb397 hg w100 hbox hb; have n0_ := Aside0.mk (Kd.R_below (by (with_reducible repeat (first | apply Kd.R_alloc | apply Kd.R_drewN | apply Kd.R_drew)); exact HO_9.out) hb); have n1_ := Aside0.mk (Kd.R_below (by (with_reducible repeat (first | apply Kd.R_alloc | apply Kd.R_drewN | apply Kd.R_drew)); exact HO_10.out) hb); have n2_ := Aside0.mk (below_step (by repeat (first | (with_reducible first | exact HB.out | apply below_alloc | apply pw_below_drewN | apply below_drew1) | exact HB.out)) hb); have n3_ := Aside0.mk (hbox); have n4_ := Aside0.mk ((by rw [hg]; exact (below_size (by repeat (first | (with_reducible first | exact HB.out | apply below_alloc | apply pw_below_drewN | apply below_drew1) | exact HB.out))) : w.heap.size ≤ gb397)); have n5_ := Aside0.mk ((by rw [hg]; exact (below_size (by repeat (first | (with_reducible first | exact HB.out | apply below_alloc | apply pw_below_drewN | apply below_drew1) | exact HB.out))) : w.heap.size ≤ gb397)); clear HO_9; clear HO_10; clear HB; have HO_9 := n0_; have HO_10 := n1_; have HB := n2_; have BK397 := n3_; have GW397 := n4_; have GE397 := n5_; clear n0_ n1_ n2_ n3_ n4_ n5_; clear hb hbox hg; have hcz101_0 : w100.cell? ⟨gb397, 0, none⟩ = some (.int .i64 0) := (blk_cell BK397.out 0).trans rfl; have hcz101_1 : w100.cell? ⟨gb397, 1, none⟩ = some (.int .i64 0) := (blk_cell BK397.out 1).trans rfl; have hcz101_2 : w100.cell? ⟨gb397, 2, none⟩ = some (.int .i64 0) := (blk_cell BK397.out 2).trans rfl; have hfz101_0 := blk_frozen BK397.out 0; have hfz101_1 := blk_frozen BK397.out 1; have hfz101_2 := blk_frozen BK397.out 2; obtain ⟨Ao102, co102, eo102⟩ := Kd.R_slice HO_10.out; subst eo102; have p398 : 0 ≤ (((rd_T33 l1 x170_3).f1) : Int) := of_decide_eq_true (by first | (with_reducible assumption) | assumption); have q398 : ((rd_T33 l1 x170_3).f1) < (x10_1.length : Int) := of_decide_eq_true (by first | (with_reducible assumption) | assumption); obtain ⟨ad398, e398, hx398_0⟩ := Kd.at_int (Kd.R_reads' HO_10.out).2.2 ((rd_T33 l1 x170_3).f1) p398 q398; cases e398; have hn398_0 : ad398.block ≠ gb397 := Kd.own_blk (Kd.R_ne HO_10.out BK397.out (by decide)); have hn398_1 : ad398.block ≠ gb397 := Kd.own_blk (Kd.R_ne HO_10.out BK397.out (by decide)); have hn398_2 : ad398.block ≠ gb397 := Kd.own_blk (Kd.R_ne HO_10.out BK397.out (by decide)); replace hx398_0 := (cell_far (p := ⟨gb397, 0, none⟩) (by first | (rw [add_block]; exact hn398_0) | (show (Addr.add _ _).block ≠ _; rw [add_block]; exact hn398_0) | exact hn398_0) (.int .i64 ((rd_T33 l1 x170_3).f0))).trans hx398_0; replace hx398_0 := (cell_far (p := ⟨gb397, 1, none⟩) (by first | (rw [add_block]; exact hn398_1) | (show (Addr.add _ _).block ≠ _; rw [add_block]; exact hn398_1) | exact hn398_1) (.int .i64 ((rd_T33 l1 x170_3).f1))).trans hx398_0; replace hx398_0 := (cell_far (p := ⟨gb397, 2, none⟩) (by first | (rw [add_block]; exact hn398_2) | (show (Addr.add _ _).block ≠ _; rw [add_block]; exact hn398_2) | exact hn398_2) (.int .i64 ((rd_T33 l1 x170_3).f2))).trans hx398_0; (try have hy398_0 := fun (n_ : Nat) => (show (((((w100.drewN n_).setCell ⟨gb397, 0, none⟩ (.int .i64 ((rd_T33 l1 x170_3).f0))).setCell ⟨gb397, 1, none⟩ (.int .i64 ((rd_T33 l1 x170_3).f1))).setCell ⟨gb397, 2, none⟩ (.int .i64 ((rd_T33 l1 x170_3).f2)))).cell? _ = some _ from hx398_0)); clear hn398_0; clear hn398_1; clear hn398_2; replace p398 := eq_true p398; replace q398 := eq_true q398; obtain ⟨Ao103, co103, eo103⟩ := Kd.R_slice HO_9.out; subst eo103; have p399 : 0 ≤ (((rd_T33 l1 x170_3).f0) : Int) := of_decide_eq_true (by first | (with_reducible assumption) | assumption); have q399 : ((rd_T33 l1 x170_3).f0) < (x9_1.length : Int) := of_decide_eq_true (by first | (with_reducible assumption) | assumption); obtain ⟨ad399, e399, hx399_0⟩ := Kd.at_int (Kd.R_reads' HO_9.out).2.2 ((rd_T33 l1 x170_3).f0) p399 q399; cases e399; have hn399_0 : ad399.block ≠ gb397 := Kd.own_blk (Kd.R_ne HO_9.out BK397.out (by decide)); have hn399_1 : ad399.block ≠ gb397 := Kd.own_blk (Kd.R_ne HO_9.out BK397.out (by decide)); have hn399_2 : ad399.block ≠ gb397 := Kd.own_blk (Kd.R_ne HO_9.out BK397.out (by decide)); replace hx399_0 := (cell_far (p := ⟨gb397, 0, none⟩) (by first | (rw [add_block]; exact hn399_0) | (show (Addr.add _ _).block ≠ _; rw [add_block]; exact hn399_0) | exact hn399_0) (.int .i64 ((rd_T33 l1 x170_3).f0))).trans hx399_0; replace hx399_0 := (cell_far (p := ⟨gb397, 1, none⟩) (by first | (rw [add_block]; exact hn399_1) | (show (Addr.add _ _).block ≠ _; rw [add_block]; exact hn399_1) | exact hn399_1) (.int .i64 ((rd_T33 l1 x170_3).f1))).trans hx399_0; replace hx399_0 := (cell_far (p := ⟨gb397, 2, none⟩) (by first | (rw [add_block]; exact hn399_2) | (show (Addr.add _ _).block ≠ _; rw [add_block]; exact hn399_2) | exact hn399_2) (.int .i64 ((rd_T33 l1 x170_3).f2))).trans hx399_0; (try have hy399_0 := fun (n_ : Nat) => (show (((((w100.drewN n_).setCell ⟨gb397, 0, none⟩ (.int .i64 ((rd_T33 l1 x170_3).f0))).setCell ⟨gb397, 1, none⟩ (.int .i64 ((rd_T33 l1 x170_3).f1))).setCell ⟨gb397, 2, none⟩ (.int .i64 ((rd_T33 l1 x170_3).f2)))).cell? _ = some _ from hx399_0)); clear hn399_0; clear hn399_1; clear hn399_2; replace p399 := eq_true p399; replace q399 := eq_true q399)); try go_wp2_with (first | ((with_reducible refine gate_dst (N := 20) rfl ?_); (try (refine gate_guard (by rfl) ?_; dsimp only)); refine box_event ?hg (N := 20) ?hd (cs := #[.int .i64 0, .int .i64 0, .int .i64 0]) (t := 33) ?hr ?_; (case hd => rfl); (case hg => rfl); (case hr => first | (go_simp; done) | (go_simp; rfl)); intro gb397 hg w100 hbox hb; have n0_ := Aside0.mk (Kd.R_below (by (with_reducible repeat (first | apply Kd.R_alloc | apply Kd.R_drewN | apply Kd.R_drew)); exact HO_9.out) hb); have n1_ := Aside0.mk (Kd.R_below (by (with_reducible repeat (first | apply Kd.R_alloc | apply Kd.R_drewN | apply Kd.R_drew)); exact HO_10.out) hb); have n2_ := Aside0.mk (below_step (by repeat (first | (with_reducible first | exact HB.out | apply below_alloc | apply pw_below_drewN | apply below_drew1) | exact HB.out)) hb); have n3_ := Aside0.mk (hbox); have n4_ := Aside0.mk ((by rw [hg]; exact (below_size (by repeat (first | (with_reducible first | exact HB.out | apply below_alloc | apply pw_below_drewN | apply below_drew1) | exact HB.out))) : w.heap.size ≤ gb397)); have n5_ := Aside0.mk ((by rw [hg]; exact (below_size (by repeat (first | (with_reducible first | exact HB.out | apply below_alloc | apply pw_below_drewN | apply below_drew1) | exact HB.out))) : w.heap.size ≤ gb397)); clear HO_9; clear HO_10; clear HB; have HO_9 := n0_; have HO_10 := n1_; have HB := n2_; have BK397 := n3_; have GW397 := n4_; have GE397 := n5_; clear n0_ n1_ n2_ n3_ n4_ n5_; clear hb hbox hg; have hcz101_0 : w100.cell? ⟨gb397, 0, none⟩ = some (.int .i64 0) := (blk_cell BK397.out 0).trans rfl; have hcz101_1 : w100.cell? ⟨gb397, 1, none⟩ = some (.int .i64 0) := (blk_cell BK397.out 1).trans rfl; have hcz101_2 : w100.cell? ⟨gb397, 2, none⟩ = some (.int .i64 0) := (blk_cell BK397.out 2).trans rfl; have hfz101_0 := blk_frozen BK397.out 0; have hfz101_1 := blk_frozen BK397.out 1; have hfz101_2 := blk_frozen BK397.out 2; obtain ⟨Ao102, co102, eo102⟩ := Kd.R_slice HO_10.out; subst eo102; have p398 : 0 ≤ (((rd_T33 l1 x170_3).f1) : Int) := of_decide_eq_true (by first | (with_reducible assumption) | assumption); have q398 : ((rd_T33 l1 x170_3).f1) < (x10_1.length : Int) := of_decide_eq_true (by first | (with_reducible assumption) | assumption); obtain ⟨ad398, e398, hx398_0⟩ := Kd.at_int (Kd.R_reads' HO_10.out).2.2 ((rd_T33 l1 x170_3).f1) p398 q398; cases e398; have hn398_0 : ad398.block ≠ gb397 := Kd.own_blk (Kd.R_ne HO_10.out BK397.out (by decide)); have hn398_1 : ad398.block ≠ gb397 := Kd.own_blk (Kd.R_ne HO_10.out BK397.out (by decide)); have hn398_2 : ad398.block ≠ gb397 := Kd.own_blk (Kd.R_ne HO_10.out BK397.out (by decide)); replace hx398_0 := (cell_far (p := ⟨gb397, 0, none⟩) (by first | (rw [add_block]; exact hn398_0) | (show (Addr.add _ _).block ≠ _; rw [add_block]; exact hn398_0) | exact hn398_0) (.int .i64 ((rd_T33 l1 x170_3).f0))).trans hx398_0; replace hx398_0 := (cell_far (p := ⟨gb397, 1, none⟩) (by first | (rw [add_block]; exact hn398_1) | (show (Addr.add _ _).block ≠ _; rw [add_block]; exact hn398_1) | exact hn398_1) (.int .i64 ((rd_T33 l1 x170_3).f1))).trans hx398_0; replace hx398_0 := (cell_far (p := ⟨gb397, 2, none⟩) (by first | (rw [add_block]; exact hn398_2) | (show (Addr.add _ _).block ≠ _; rw [add_block]; exact hn398_2) | exact hn398_2) (.int .i64 ((rd_T33 l1 x170_3).f2))).trans hx398_0; (try have hy398_0 := fun (n_ : Nat) => (show (((((w100.drewN n_).setCell ⟨gb397, 0, none⟩ (.int .i64 ((rd_T33 l1 x170_3).f0))).setCell ⟨gb397, 1, none⟩ (.int .i64 ((rd_T33 l1 x170_3).f1))).setCell ⟨gb397, 2, none⟩ (.int .i64 ((rd_T33 l1 x170_3).f2)))).cell? _ = some _ from hx398_0)); clear hn398_0; clear hn398_1; clear hn398_2; replace p398 := eq_true p398; replace q398 := eq_true q398; obtain ⟨Ao103, co103, eo103⟩ := Kd.R_slice HO_9.out; subst eo103; have p399 : 0 ≤ (((rd_T33 l1 x170_3).f0) : Int) := of_decide_eq_true (by first | (with_reducible assumption) | assumption); have q399 : ((rd_T33 l1 x170_3).f0) < (x9_1.length : Int) := of_decide_eq_true (by first | (with_reducible assumption) | assumption); obtain ⟨ad399, e399, hx399_0⟩ := Kd.at_int (Kd.R_reads' HO_9.out).2.2 ((rd_T33 l1 x170_3).f0) p399 q399; cases e399; have hn399_0 : ad399.block ≠ gb397 := Kd.own_blk (Kd.R_ne HO_9.out BK397.out (by decide)); have hn399_1 : ad399.block ≠ gb397 := Kd.own_blk (Kd.R_ne HO_9.out BK397.out (by decide)); have hn399_2 : ad399.block ≠ gb397 := Kd.own_blk (Kd.R_ne HO_9.out BK397.out (by decide)); replace hx399_0 := (cell_far (p := ⟨gb397, 0, none⟩) (by first | (rw [add_block]; exact hn399_0) | (show (Addr.add _ _).block ≠ _; rw [add_block]; exact hn399_0) | exact hn399_0) (.int .i64 ((rd_T33 l1 x170_3).f0))).trans hx399_0; replace hx399_0 := (cell_far (p := ⟨gb397, 1, none⟩) (by first | (rw [add_block]; exact hn399_1) | (show (Addr.add _ _).block ≠ _; rw [add_block]; exact hn399_1) | exact hn399_1) (.int .i64 ((rd_T33 l1 x170_3).f1))).trans hx399_0; replace hx399_0 := (cell_far (p := ⟨gb397, 2, none⟩) (by first | (rw [add_block]; exact hn399_2) | (show (Addr.add _ _).block ≠ _; rw [add_block]; exact hn399_2) | exact hn399_2) (.int .i64 ((rd_T33 l1 x170_3).f2))).trans hx399_0; (try have hy399_0 := fun (n_ : Nat) => (show (((((w100.drewN n_).setCell ⟨gb397, 0, none⟩ (.int .i64 ((rd_T33 l1 x170_3).f0))).setCell ⟨gb397, 1, none⟩ (.int .i64 ((rd_T33 l1 x170_3).f1))).setCell ⟨gb397, 2, none⟩ (.int .i64 ((rd_T33 l1 x170_3).f2)))).cell? _ = some _ from hx399_0)); clear hn399_0; clear hn399_1; clear hn399_2; replace p399 := eq_true p399; replace q399 := eq_true q399)))
         go_ret
         exact ⟨by first | rfl | (simp [errW_none, errW_some] <;> rfl) | (simp [*, errW_none, errW_some] <;> rfl), by repeat (first | (with_reducible first | exact HB.out | apply below_alloc | apply pw_below_drewN | apply below_drew1 | refine below_set ?_ GE397.out) | exact HB.out)⟩
        rw [if_neg c99] at H
        have c99b0 : decide ((rd x9_1 ((rd_T33 l1 x170_3).f0)) < (rd x10_1 ((rd_T33 l1 x170_3).f1))) = false := decide_eq_false c99
        clear c99
        have H' := Aside0.mk H
        clear H
        have p396 : 0 ≤ (x170_3 : Int) := of_decide_eq_true (by first | (with_reducible assumption) | assumption)
        have q396 : x170_3 < (l1.length : Int) := of_decide_eq_true (by first | (with_reducible assumption) | assumption)
        obtain ⟨ad396, e396, hx396_0, hx396_1, hx396_2⟩ := at_T33 HR1.out x170_3 p396 q396
        cases e396
        replace hx396_0 := (HB.out.cell (World.block_lt_of_cell? w _ hx396_0)).trans hx396_0
        replace hx396_1 := (HB.out.cell (World.block_lt_of_cell? w _ hx396_1)).trans hx396_1
        replace hx396_2 := (HB.out.cell (World.block_lt_of_cell? w _ hx396_2)).trans hx396_2
        replace p396 := eq_true p396
        replace q396 := eq_true q396
        go_wp2_with (first | ((with_reducible refine gate_dst (N := 20) rfl ?_); (try (refine gate_guard (by rfl) ?_; dsimp only)); refine box_event ?hg (N := 20) ?hd (cs := #[.int .i64 0, .int .i64 0, .int .i64 0]) (t := 33) ?hr ?_; (case hd => rfl); (case hg => rfl); (case hr => first | (go_simp; done) | (go_simp; rfl)); intro gb397 hg w104 hbox hb; have n0_ := Aside0.mk (Kd.R_below (by (with_reducible repeat (first | apply Kd.R_alloc | apply Kd.R_drewN | apply Kd.R_drew)); exact HO_9.out) hb); have n1_ := Aside0.mk (Kd.R_below (by (with_reducible repeat (first | apply Kd.R_alloc | apply Kd.R_drewN | apply Kd.R_drew)); exact HO_10.out) hb); have n2_ := Aside0.mk (below_step (by repeat (first | (with_reducible first | exact HB.out | apply below_alloc | apply pw_below_drewN | apply below_drew1) | exact HB.out)) hb); have n3_ := Aside0.mk (hbox); have n4_ := Aside0.mk ((by rw [hg]; exact (below_size (by repeat (first | (with_reducible first | exact HB.out | apply below_alloc | apply pw_below_drewN | apply below_drew1) | exact HB.out))) : w.heap.size ≤ gb397)); have n5_ := Aside0.mk ((by rw [hg]; exact (below_size (by repeat (first | (with_reducible first | exact HB.out | apply below_alloc | apply pw_below_drewN | apply below_drew1) | exact HB.out))) : w.heap.size ≤ gb397)); clear HO_9; clear HO_10; clear HB; have HO_9 := n0_; have HO_10 := n1_; have HB := n2_; have BK397 := n3_; have GW397 := n4_; have GE397 := n5_; clear n0_ n1_ n2_ n3_ n4_ n5_; clear hb hbox hg; have hcz105_0 : w104.cell? ⟨gb397, 0, none⟩ = some (.int .i64 0) := (blk_cell BK397.out 0).trans rfl; have hcz105_1 : w104.cell? ⟨gb397, 1, none⟩ = some (.int .i64 0) := (blk_cell BK397.out 1).trans rfl; have hcz105_2 : w104.cell? ⟨gb397, 2, none⟩ = some (.int .i64 0) := (blk_cell BK397.out 2).trans rfl; have hfz105_0 := blk_frozen BK397.out 0; have hfz105_1 := blk_frozen BK397.out 1; have hfz105_2 := blk_frozen BK397.out 2; obtain ⟨Ao106, co106, eo106⟩ := Kd.R_slice HO_10.out; subst eo106; have p398 : 0 ≤ (((rd_T33 l1 x170_3).f1) : Int) := of_decide_eq_true (by first | (with_reducible assumption) | assumption); have q398 : ((rd_T33 l1 x170_3).f1) < (x10_1.length : Int) := of_decide_eq_true (by first | (with_reducible assumption) | assumption); obtain ⟨ad398, e398, hx398_0⟩ := Kd.at_int (Kd.R_reads' HO_10.out).2.2 ((rd_T33 l1 x170_3).f1) p398 q398; cases e398; have hn398_0 : ad398.block ≠ gb397 := Kd.own_blk (Kd.R_ne HO_10.out BK397.out (by decide)); have hn398_1 : ad398.block ≠ gb397 := Kd.own_blk (Kd.R_ne HO_10.out BK397.out (by decide)); have hn398_2 : ad398.block ≠ gb397 := Kd.own_blk (Kd.R_ne HO_10.out BK397.out (by decide)); replace hx398_0 := (cell_far (p := ⟨gb397, 0, none⟩) (by first | (rw [add_block]; exact hn398_0) | (show (Addr.add _ _).block ≠ _; rw [add_block]; exact hn398_0) | exact hn398_0) (.int .i64 ((rd_T33 l1 x170_3).f0))).trans hx398_0; replace hx398_0 := (cell_far (p := ⟨gb397, 1, none⟩) (by first | (rw [add_block]; exact hn398_1) | (show (Addr.add _ _).block ≠ _; rw [add_block]; exact hn398_1) | exact hn398_1) (.int .i64 ((rd_T33 l1 x170_3).f1))).trans hx398_0; replace hx398_0 := (cell_far (p := ⟨gb397, 2, none⟩) (by first | (rw [add_block]; exact hn398_2) | (show (Addr.add _ _).block ≠ _; rw [add_block]; exact hn398_2) | exact hn398_2) (.int .i64 ((rd_T33 l1 x170_3).f2))).trans hx398_0; (try have hy398_0 := fun (n_ : Nat) => (show (((((w104.drewN n_).setCell ⟨gb397, 0, none⟩ (.int .i64 ((rd_T33 l1 x170_3).f0))).setCell ⟨gb397, 1, none⟩ (.int .i64 ((rd_T33 l1 x170_3).f1))).setCell ⟨gb397, 2, none⟩ (.int .i64 ((rd_T33 l1 x170_3).f2)))).cell? _ = some _ from hx398_0)); clear hn398_0; clear hn398_1; clear hn398_2; replace p398 := eq_true p398; replace q398 := eq_true q398; obtain ⟨Ao107, co107, eo107⟩ := Kd.R_slice HO_9.out; subst eo107; have p399 : 0 ≤ (((rd_T33 l1 x170_3).f0) : Int) := of_decide_eq_true (by first | (with_reducible assumption) | assumption); have q399 : ((rd_T33 l1 x170_3).f0) < (x9_1.length : Int) := of_decide_eq_true (by first | (with_reducible assumption) | assumption); obtain ⟨ad399, e399, hx399_0⟩ := Kd.at_int (Kd.R_reads' HO_9.out).2.2 ((rd_T33 l1 x170_3).f0) p399 q399; cases e399; have hn399_0 : ad399.block ≠ gb397 := Kd.own_blk (Kd.R_ne HO_9.out BK397.out (by decide)); have hn399_1 : ad399.block ≠ gb397 := Kd.own_blk (Kd.R_ne HO_9.out BK397.out (by decide)); have hn399_2 : ad399.block ≠ gb397 := Kd.own_blk (Kd.R_ne HO_9.out BK397.out (by decide)); replace hx399_0 := (cell_far (p := ⟨gb397, 0, none⟩) (by first | (rw [add_block]; exact hn399_0) | (show (Addr.add _ _).block ≠ _; rw [add_block]; exact hn399_0) | exact hn399_0) (.int .i64 ((rd_T33 l1 x170_3).f0))).trans hx399_0; replace hx399_0 := (cell_far (p := ⟨gb397, 1, none⟩) (by first | (rw [add_block]; exact hn399_1) | (show (Addr.add _ _).block ≠ _; rw [add_block]; exact hn399_1) | exact hn399_1) (.int .i64 ((rd_T33 l1 x170_3).f1))).trans hx399_0; replace hx399_0 := (cell_far (p := ⟨gb397, 2, none⟩) (by first | (rw [add_block]; exact hn399_2) | (show (Addr.add _ _).block ≠ _; rw [add_block]; exact hn399_2) | exact hn399_2) (.int .i64 ((rd_T33 l1 x170_3).f2))).trans hx399_0; (try have hy399_0 := fun (n_ : Nat) => (show (((((w104.drewN n_).setCell ⟨gb397, 0, none⟩ (.int .i64 ((rd_T33 l1 x170_3).f0))).setCell ⟨gb397, 1, none⟩ (.int .i64 ((rd_T33 l1 x170_3).f1))).setCell ⟨gb397, 2, none⟩ (.int .i64 ((rd_T33 l1 x170_3).f2)))).cell? _ = some _ from hx399_0)); clear hn399_0; clear hn399_1; clear hn399_2; replace p399 := eq_true p399; replace q399 := eq_true q399))
        repeat (go_quiet (first | ((with_reducible refine gate_dst (N := 20) rfl ?_); (try (refine gate_guard (by rfl) ?_; dsimp only)); refine box_event ?hg (N := 20) ?hd (cs := #[.int .i64 0, .int .i64 0, .int .i64 0]) (t := 33) ?hr ?_; (case hd => rfl); (case hg => rfl); (case hr => first | (go_simp; done) | (go_simp; rfl)); intro gb397 hg w104 hbox hb; have n0_ := Aside0.mk (Kd.R_below (by (with_reducible repeat (first | apply Kd.R_alloc | apply Kd.R_drewN | apply Kd.R_drew)); exact HO_9.out) hb); have n1_ := Aside0.mk (Kd.R_below (by (with_reducible repeat (first | apply Kd.R_alloc | apply Kd.R_drewN | apply Kd.R_drew)); exact HO_10.out) hb); have n2_ := Aside0.mk (below_step (by repeat (first | (with_reducible first | exact HB.out | apply below_alloc | apply pw_below_drewN | apply below_drew1) | exact HB.out)) hb); have n3_ := Aside0.mk (hbox); have n4_ := Aside0.mk ((by rw [hg]; exact (below_size (by repeat (first | (with_reducible first | exact HB.out | apply below_alloc | apply pw_below_drewN | apply below_drew1) | exact HB.out))) : w.heap.size ≤ gb397)); have n5_ := Aside0.mk ((by rw [hg]; exact (below_size (by repeat (first | (with_reducible first | exact HB.out | apply below_alloc | apply pw_below_drewN | apply below_drew1) | exact HB.out))) : w.heap.size ≤ gb397)); clear HO_9; clear HO_10; clear HB; have HO_9 := n0_; have HO_10 := n1_; have HB := n2_; have BK397 := n3_; have GW397 := n4_; have GE397 := n5_; clear n0_ n1_ n2_ n3_ n4_ n5_; clear hb hbox hg; have hcz105_0 : w104.cell? ⟨gb397, 0, none⟩ = some (.int .i64 0) := (blk_cell BK397.out 0).trans rfl; have hcz105_1 : w104.cell? ⟨gb397, 1, none⟩ = some (.int .i64 0) := (blk_cell BK397.out 1).trans rfl; have hcz105_2 : w104.cell? ⟨gb397, 2, none⟩ = some (.int .i64 0) := (blk_cell BK397.out 2).trans rfl; have hfz105_0 := blk_frozen BK397.out 0; have hfz105_1 := blk_frozen BK397.out 1; have hfz105_2 := blk_frozen BK397.out 2; obtain ⟨Ao106, co106, eo106⟩ := Kd.R_slice HO_10.out; subst eo106; have p398 : 0 ≤ (((rd_T33 l1 x170_3).f1) : Int) := of_decide_eq_true (by first | (with_reducible assumption) | assumption); have q398 : ((rd_T33 l1 x170_3).f1) < (x10_1.length : Int) := of_decide_eq_true (by first | (with_reducible assumption) | assumption); obtain ⟨ad398, e398, hx398_0⟩ := Kd.at_int (Kd.R_reads' HO_10.out).2.2 ((rd_T33 l1 x170_3).f1) p398 q398; cases e398; have hn398_0 : ad398.block ≠ gb397 := Kd.own_blk (Kd.R_ne HO_10.out BK397.out (by decide)); have hn398_1 : ad398.block ≠ gb397 := Kd.own_blk (Kd.R_ne HO_10.out BK397.out (by decide)); have hn398_2 : ad398.block ≠ gb397 := Kd.own_blk (Kd.R_ne HO_10.out BK397.out (by decide)); replace hx398_0 := (cell_far (p := ⟨gb397, 0, none⟩) (by first | (rw [add_block]; exact hn398_0) | (show (Addr.add _ _).block ≠ _; rw [add_block]; exact hn398_0) | exact hn398_0) (.int .i64 ((rd_T33 l1 x170_3).f0))).trans hx398_0; replace hx398_0 := (cell_far (p := ⟨gb397, 1, none⟩) (by first | (rw [add_block]; exact hn398_1) | (show (Addr.add _ _).block ≠ _; rw [add_block]; exact hn398_1) | exact hn398_1) (.int .i64 ((rd_T33 l1 x170_3).f1))).trans hx398_0; replace hx398_0 := (cell_far (p := ⟨gb397, 2, none⟩) (by first | (rw [add_block]; exact hn398_2) | (show (Addr.add _ _).block ≠ _; rw [add_block]; exact hn398_2) | exact hn398_2) (.int .i64 ((rd_T33 l1 x170_3).f2))).trans hx398_0; (try have hy398_0 := fun (n_ : Nat) => (show (((((w104.drewN n_).setCell ⟨gb397, 0, none⟩ (.int .i64 ((rd_T33 l1 x170_3).f0))).setCell ⟨gb397, 1, none⟩ (.int .i64 ((rd_T33 l1 x170_3).f1))).setCell ⟨gb397, 2, none⟩ (.int .i64 ((rd_T33 l1 x170_3).f2)))).cell? _ = some _ from hx398_0)); clear hn398_0; clear hn398_1; clear hn398_2; replace p398 := eq_true p398; replace q398 := eq_true q398; obtain ⟨Ao107, co107, eo107⟩ := Kd.R_slice HO_9.out; subst eo107; have p399 : 0 ≤ (((rd_T33 l1 x170_3).f0) : Int) := of_decide_eq_true (by first | (with_reducible assumption) | assumption); have q399 : ((rd_T33 l1 x170_3).f0) < (x9_1.length : Int) := of_decide_eq_true (by first | (with_reducible assumption) | assumption); obtain ⟨ad399, e399, hx399_0⟩ := Kd.at_int (Kd.R_reads' HO_9.out).2.2 ((rd_T33 l1 x170_3).f0) p399 q399; cases e399; have hn399_0 : ad399.block ≠ gb397 := Kd.own_blk (Kd.R_ne HO_9.out BK397.out (by decide)); have hn399_1 : ad399.block ≠ gb397 := Kd.own_blk (Kd.R_ne HO_9.out BK397.out (by decide)); have hn399_2 : ad399.block ≠ gb397 := Kd.own_blk (Kd.R_ne HO_9.out BK397.out (by decide)); replace hx399_0 := (cell_far (p := ⟨gb397, 0, none⟩) (by first | (rw [add_block]; exact hn399_0) | (show (Addr.add _ _).block ≠ _; rw [add_block]; exact hn399_0) | exact hn399_0) (.int .i64 ((rd_T33 l1 x170_3).f0))).trans hx399_0; replace hx399_0 := (cell_far (p := ⟨gb397, 1, none⟩) (by first | (rw [add_block]; exact hn399_1) | (show (Addr.add _ _).block ≠ _; rw [add_block]; exact hn399_1) | exact hn399_1) (.int .i64 ((rd_T33 l1 x170_3).f1))).trans hx399_0; replace hx399_0 := (cell_far (p := ⟨gb397, 2, none⟩) (by first | (rw [add_block]; exact hn399_2) | (show (Addr.add _ _).block ≠ _; rw [add_block]; exact hn399_2) | exact hn399_2) (.int .i64 ((rd_T33 l1 x170_3).f2))).trans hx399_0; (try have hy399_0 := fun (n_ : Nat) => (show (((((w104.drewN n_).setCell ⟨gb397, 0, none⟩ (.int .i64 ((rd_T33 l1 x170_3).f0))).setCell ⟨gb397, 1, none⟩ (.int .i64 ((rd_T33 l1 x170_3).f1))).setCell ⟨gb397, 2, none⟩ (.int .i64 ((rd_T33 l1 x170_3).f2)))).cell? _ = some _ from hx399_0)); clear hn399_0; clear hn399_1; clear hn399_2; replace p399 := eq_true p399; replace q399 := eq_true q399)); try go_wp2_with (first | ((with_reducible refine gate_dst (N := 20) rfl ?_); (try (refine gate_guard (by rfl) ?_; dsimp only)); refine box_event ?hg (N := 20) ?hd (cs := #[.int .i64 0, .int .i64 0, .int .i64 0]) (t := 33) ?hr ?_; (case hd => rfl); (case hg => rfl); (case hr => first | (go_simp; done) | (go_simp; rfl)); intro gb397 hg w104 hbox hb; have n0_ := Aside0.mk (Kd.R_below (by (with_reducible repeat (first | apply Kd.R_alloc | apply Kd.R_drewN | apply Kd.R_drew)); exact HO_9.out) hb); have n1_ := Aside0.mk (Kd.R_below (by (with_reducible repeat (first | apply Kd.R_alloc | apply Kd.R_drewN | apply Kd.R_drew)); exact HO_10.out) hb); have n2_ := Aside0.mk (below_step (by repeat (first | (with_reducible first | exact HB.out | apply below_alloc | apply pw_below_drewN | apply below_drew1) | exact HB.out)) hb); have n3_ := Aside0.mk (hbox); have n4_ := Aside0.mk ((by rw [hg]; exact (below_size (by repeat (first | (with_reducible first | exact HB.out | apply below_alloc | apply pw_below_drewN | apply below_drew1) | exact HB.out))) : w.heap.size ≤ gb397)); have n5_ := Aside0.mk ((by rw [hg]; exact (below_size (by repeat (first | (with_reducible first | exact HB.out | apply below_alloc | apply pw_below_drewN | apply below_drew1) | exact HB.out))) : w.heap.size ≤ gb397)); clear HO_9; clear HO_10; clear HB; have HO_9 := n0_; have HO_10 := n1_; have HB := n2_; have BK397 := n3_; have GW397 := n4_; have GE397 := n5_; clear n0_ n1_ n2_ n3_ n4_ n5_; clear hb hbox hg; have hcz105_0 : w104.cell? ⟨gb397, 0, none⟩ = some (.int .i64 0) := (blk_cell BK397.out 0).trans rfl; have hcz105_1 : w104.cell? ⟨gb397, 1, none⟩ = some (.int .i64 0) := (blk_cell BK397.out 1).trans rfl; have hcz105_2 : w104.cell? ⟨gb397, 2, none⟩ = some (.int .i64 0) := (blk_cell BK397.out 2).trans rfl; have hfz105_0 := blk_frozen BK397.out 0; have hfz105_1 := blk_frozen BK397.out 1; have hfz105_2 := blk_frozen BK397.out 2; obtain ⟨Ao106, co106, eo106⟩ := Kd.R_slice HO_10.out; subst eo106; have p398 : 0 ≤ (((rd_T33 l1 x170_3).f1) : Int) := of_decide_eq_true (by first | (with_reducible assumption) | assumption); have q398 : ((rd_T33 l1 x170_3).f1) < (x10_1.length : Int) := of_decide_eq_true (by first | (with_reducible assumption) | assumption); obtain ⟨ad398, e398, hx398_0⟩ := Kd.at_int (Kd.R_reads' HO_10.out).2.2 ((rd_T33 l1 x170_3).f1) p398 q398; cases e398; have hn398_0 : ad398.block ≠ gb397 := Kd.own_blk (Kd.R_ne HO_10.out BK397.out (by decide)); have hn398_1 : ad398.block ≠ gb397 := Kd.own_blk (Kd.R_ne HO_10.out BK397.out (by decide)); have hn398_2 : ad398.block ≠ gb397 := Kd.own_blk (Kd.R_ne HO_10.out BK397.out (by decide)); replace hx398_0 := (cell_far (p := ⟨gb397, 0, none⟩) (by first | (rw [add_block]; exact hn398_0) | (show (Addr.add _ _).block ≠ _; rw [add_block]; exact hn398_0) | exact hn398_0) (.int .i64 ((rd_T33 l1 x170_3).f0))).trans hx398_0; replace hx398_0 := (cell_far (p := ⟨gb397, 1, none⟩) (by first | (rw [add_block]; exact hn398_1) | (show (Addr.add _ _).block ≠ _; rw [add_block]; exact hn398_1) | exact hn398_1) (.int .i64 ((rd_T33 l1 x170_3).f1))).trans hx398_0; replace hx398_0 := (cell_far (p := ⟨gb397, 2, none⟩) (by first | (rw [add_block]; exact hn398_2) | (show (Addr.add _ _).block ≠ _; rw [add_block]; exact hn398_2) | exact hn398_2) (.int .i64 ((rd_T33 l1 x170_3).f2))).trans hx398_0; (try have hy398_0 := fun (n_ : Nat) => (show (((((w104.drewN n_).setCell ⟨gb397, 0, none⟩ (.int .i64 ((rd_T33 l1 x170_3).f0))).setCell ⟨gb397, 1, none⟩ (.int .i64 ((rd_T33 l1 x170_3).f1))).setCell ⟨gb397, 2, none⟩ (.int .i64 ((rd_T33 l1 x170_3).f2)))).cell? _ = some _ from hx398_0)); clear hn398_0; clear hn398_1; clear hn398_2; replace p398 := eq_true p398; replace q398 := eq_true q398; obtain ⟨Ao107, co107, eo107⟩ := Kd.R_slice HO_9.out; subst eo107; have p399 : 0 ≤ (((rd_T33 l1 x170_3).f0) : Int) := of_decide_eq_true (by first | (with_reducible assumption) | assumption); have q399 : ((rd_T33 l1 x170_3).f0) < (x9_1.length : Int) := of_decide_eq_true (by first | (with_reducible assumption) | assumption); obtain ⟨ad399, e399, hx399_0⟩ := Kd.at_int (Kd.R_reads' HO_9.out).2.2 ((rd_T33 l1 x170_3).f0) p399 q399; cases e399; have hn399_0 : ad399.block ≠ gb397 := Kd.own_blk (Kd.R_ne HO_9.out BK397.out (by decide)); have hn399_1 : ad399.block ≠ gb397 := Kd.own_blk (Kd.R_ne HO_9.out BK397.out (by decide)); have hn399_2 : ad399.block ≠ gb397 := Kd.own_blk (Kd.R_ne HO_9.out BK397.out (by decide)); replace hx399_0 := (cell_far (p := ⟨gb397, 0, none⟩) (by first | (rw [add_block]; exact hn399_0) | (show (Addr.add _ _).block ≠ _; rw [add_block]; exact hn399_0) | exact hn399_0) (.int .i64 ((rd_T33 l1 x170_3).f0))).trans hx399_0; replace hx399_0 := (cell_far (p := ⟨gb397, 1, none⟩) (by first | (rw [add_block]; exact hn399_1) | (show (Addr.add _ _).block ≠ _; rw [add_block]; exact hn399_1) | exact hn399_1) (.int .i64 ((rd_T33 l1 x170_3).f1))).trans hx399_0; replace hx399_0 := (cell_far (p := ⟨gb397, 2, none⟩) (by first | (rw [add_block]; exact hn399_2) | (show (Addr.add _ _).block ≠ _; rw [add_block]; exact hn399_2) | exact hn399_2) (.int .i64 ((rd_T33 l1 x170_3).f2))).trans hx399_0; (try have hy399_0 := fun (n_ : Nat) => (show (((((w104.drewN n_).setCell ⟨gb397, 0, none⟩ (.int .i64 ((rd_T33 l1 x170_3).f0))).setCell ⟨gb397, 1, none⟩ (.int .i64 ((rd_T33 l1 x170_3).f1))).setCell ⟨gb397, 2, none⟩ (.int .i64 ((rd_T33 l1 x170_3).f2)))).cell? _ = some _ from hx399_0)); clear hn399_0; clear hn399_1; clear hn399_2; replace p399 := eq_true p399; replace q399 := eq_true q399)))
        (first | go_roundg k3 | (refine Handed.intro k3 ?measure ?_; rotate_left; go_step; (repeat apply Exists.intro); (refine ⟨?rel, ?fr_⟩); (case fr_ => (simp only [add_plain]; rfl))))
        case measure => have := HK1.out; have := HK2.out; have := HK3.out; omega
        case rel => exact ⟨(wrap64 (x170_3 + 1)), (by first | rfl | (simp; done) | (simp [*]; done)), H', ⟨by have := HK1.out; have := HK2.out; have := HK3.out; omega⟩, ⟨by (with_reducible repeat (first | apply Kd.R_alloc | apply Kd.R_drewN | apply Kd.R_drew)); exact Kd.R_mono (Kd.R_far (p := ⟨gb397, 2, none⟩) (Kd.R_far (p := ⟨gb397, 1, none⟩) (Kd.R_far (p := ⟨gb397, 0, none⟩) (Kd.R_types HO_9.out BK397.out (by decide)) (fun _ hk => hk.2) (.int .i64 ((rd_T33 l1 x170_3).f0))) (fun _ hk => hk.2) (.int .i64 ((rd_T33 l1 x170_3).f1))) (fun _ hk => hk.2) (.int .i64 ((rd_T33 l1 x170_3).f2))) (fun _ hk => hk.1)⟩, ⟨by (with_reducible repeat (first | apply Kd.R_alloc | apply Kd.R_drewN | apply Kd.R_drew)); exact Kd.R_mono (Kd.R_far (p := ⟨gb397, 2, none⟩) (Kd.R_far (p := ⟨gb397, 1, none⟩) (Kd.R_far (p := ⟨gb397, 0, none⟩) (Kd.R_types HO_10.out BK397.out (by decide)) (fun _ hk => hk.2) (.int .i64 ((rd_T33 l1 x170_3).f0))) (fun _ hk => hk.2) (.int .i64 ((rd_T33 l1 x170_3).f1))) (fun _ hk => hk.2) (.int .i64 ((rd_T33 l1 x170_3).f2))) (fun _ hk => hk.1)⟩, ⟨by repeat (first | (with_reducible first | exact HB.out | apply below_alloc | apply pw_below_drewN | apply below_drew1 | refine below_set ?_ GE397.out) | exact HB.out)⟩⟩
   rw [if_pos c17] at H
   have c17b0 : decide (x41_1 < (t370.length : Int)) = true := decide_eq_true c17
   clear c17
   by_cases c18 : 0 ≤ x41_1
   case neg => rw [if_neg c18] at H; exact absurd H (by simp)
   rw [if_pos c18] at H
   have c18b0 : decide (0 ≤ x41_1) = true := decide_eq_true c18
   clear c18
   by_cases c19 : x41_1 < (t370.length : Int)
   case neg => rw [if_neg c19] at H; exact absurd H (by simp)
   rw [if_pos c19] at H
   have c19b0 : decide (x41_1 < (t370.length : Int)) = true := decide_eq_true c19
   clear c19
   have HC20 := Aside0.mk H
   clear H
   have p380 : 0 ≤ (x41_1 : Int) := of_decide_eq_true (by first | (with_reducible assumption) | assumption)
   have q380 : x41_1 < (t370.length : Int) := of_decide_eq_true (by first | (with_reducible assumption) | assumption)
   obtain ⟨ad380, A380_0, c380_0, A380_1, c380_1, e380, hx380_0, hx380_1, hl380_0, hi380_0, hl380_1, hi380_1⟩ := at_T30 (Kd.S_reads' HO_39.out).2.2 x41_1 p380 q380
   cases e380
   obtain ⟨ce380, hce380, hMe380, hcc380⟩ := Kd.S_get HO_39.out z30 x41_1 p380 (by first | exact q380 | exact of_decide_eq_true (by first | (with_reducible assumption) | assumption) | (have e_ := (Kd.S_reads' HO_39.out).1; omega))
   obtain ⟨ve380_0, ve380_1, rfl, ge380_0, ge380_1⟩ := k30_openM hMe380
   have hv380_0 := hcc380 0 _ rfl
   rw [Nat.add_zero] at hv380_0
   replace hv380_0 := Option.some.inj (hv380_0.symm.trans hx380_0)
   rw [hv380_0] at ge380_0
   have HL380_0 := Aside0.mk (show Kd.R (Kd.int .i64) 3 _ _ _ _ ((rd_T30 t370 x41_1).f0) from ge380_0)
   clear hv380_0 ge380_0
   have hv380_1 := hcc380 1 _ rfl
   rw [add_field _ _ 1 (by omega)] at hv380_1
   replace hv380_1 := Option.some.inj (hv380_1.symm.trans hx380_1)
   rw [hv380_1] at ge380_1
   have HL380_1 := Aside0.mk (show Kd.R (Kd.int .i64) 3 _ _ _ _ ((rd_T30 t370 x41_1).f1) from ge380_1)
   clear hv380_1 ge380_1
   have RF380_0_HO_9 := Aside0.mk (Kd.R_farB HL380_0.out (fun k_ hk => hk.1.1))
   have RF380_0_HO_10 := Aside0.mk (Kd.R_farB HL380_0.out (fun k_ hk => hk.1.2))
   have RF380_1_HO_9 := Aside0.mk (Kd.R_farB HL380_1.out (fun k_ hk => hk.1.1))
   have RF380_1_HO_10 := Aside0.mk (Kd.R_farB HL380_1.out (fun k_ hk => hk.1.2))
   clear hcc380 hce380
   have HR380_0 := Aside0.mk hi380_0
   have HC380_0 := Aside0.mk hl380_0
   clear hi380_0 hl380_0
   have HR380_1 := Aside0.mk hi380_1
   have HC380_1 := Aside0.mk hl380_1
   clear hi380_1 hl380_1
   replace p380 := eq_true p380
   replace q380 := eq_true q380
   go_upto_region 11 with (first | ((with_reducible refine gate_dst (N := 12) rfl ?_); (try (refine gate_guard (by rfl) ?_; dsimp only)); refine box_event ?hg (N := 12) ?hd (cs := #[.slice none 0 0, .slice none 0 0]) (t := 30) ?hr ?_; (case hd => rfl); (case hg => rfl); (case hr => first | (go_simp; done) | (go_simp; rfl)); intro gb381 hg w21 hbox hb; have n0_ := Aside0.mk (Kd.R_below (by (with_reducible repeat (first | apply Kd.R_alloc | apply Kd.R_drewN | apply Kd.R_drew)); exact HO_9.out) hb); have n1_ := Aside0.mk (Kd.R_below (by (with_reducible repeat (first | apply Kd.R_alloc | apply Kd.R_drewN | apply Kd.R_drew)); exact HO_10.out) hb); have n2_ := Aside0.mk (Kd.S_below (Kd.S_elderB (by (with_reducible repeat (first | apply Kd.S_alloc | apply Kd.S_drewN | apply Kd.S_drew)); exact HO_39.out) gb381 (Nat.le_of_eq hg.symm)) hb); have n3_ := Aside0.mk (Kd.R_below (by (with_reducible repeat (first | apply Kd.R_alloc | apply Kd.R_drewN | apply Kd.R_drew)); exact HL380_0.out) hb); have n4_ := Aside0.mk (Kd.R_below (by (with_reducible repeat (first | apply Kd.R_alloc | apply Kd.R_drewN | apply Kd.R_drew)); exact HL380_1.out) hb); have n5_ := Aside0.mk (Kd.C_below (by repeat (first | (with_reducible exact HR380_0.out) | (with_reducible refine Kd.C_alloc ?_ _) | (with_reducible refine Kd.C_drewN ?_ _) | (with_reducible refine Kd.C_drew ?_) | exact HR380_0.out)) hb); have n6_ := Aside0.mk (Kd.C_below (by repeat (first | (with_reducible exact HR380_1.out) | (with_reducible refine Kd.C_alloc ?_ _) | (with_reducible refine Kd.C_drewN ?_ _) | (with_reducible refine Kd.C_drew ?_) | exact HR380_1.out)) hb); have n7_ := Aside0.mk ((Kd.C_aboveB (by repeat (first | (with_reducible exact HR380_0.out) | (with_reducible refine Kd.C_alloc ?_ _) | (with_reducible refine Kd.C_drewN ?_ _) | (with_reducible refine Kd.C_drew ?_) | exact HR380_0.out)) (by decide) (Nat.le_of_eq hg.symm))); have n8_ := Aside0.mk ((Kd.C_aboveB (by repeat (first | (with_reducible exact HR380_1.out) | (with_reducible refine Kd.C_alloc ?_ _) | (with_reducible refine Kd.C_drewN ?_ _) | (with_reducible refine Kd.C_drew ?_) | exact HR380_1.out)) (by decide) (Nat.le_of_eq hg.symm))); have n9_ := Aside0.mk (below_step (by repeat (first | (with_reducible first | exact HB.out | apply below_alloc | apply pw_below_drewN | apply below_drew1) | exact HB.out)) hb); have n10_ := Aside0.mk (hbox); have n11_ := Aside0.mk ((by rw [hg]; exact (below_size (by repeat (first | (with_reducible first | exact HB.out | apply below_alloc | apply pw_below_drewN | apply below_drew1) | exact HB.out))) : w.heap.size ≤ gb381)); have n12_ := Aside0.mk ((by rw [hg]; exact (below_size (by repeat (first | (with_reducible first | exact HB.out | apply below_alloc | apply pw_below_drewN | apply below_drew1) | exact HB.out))) : w.heap.size ≤ gb381)); clear HO_9; clear HO_10; clear HO_39; clear HL380_0; clear HL380_1; clear HR380_0; clear HR380_1; clear HB; have HO_9 := n0_; have HO_10 := n1_; have HO_39 := n2_; have HL380_0 := n3_; have HL380_1 := n4_; have HR380_0 := n5_; have HR380_1 := n6_; have SF380_0_381 := n7_; have SF380_1_381 := n8_; have HB := n9_; have BK381 := n10_; have GW381 := n11_; have GE381 := n12_; clear n0_ n1_ n2_ n3_ n4_ n5_ n6_ n7_ n8_ n9_ n10_ n11_ n12_; clear hb hbox hg; have hcz22_0 : w21.cell? ⟨gb381, 0, none⟩ = some (.slice none 0 0) := (blk_cell BK381.out 0).trans rfl; have hcz22_1 : w21.cell? ⟨gb381, 1, none⟩ = some (.slice none 0 0) := (blk_cell BK381.out 1).trans rfl; have hfz22_0 := blk_frozen BK381.out 0; have hfz22_1 := blk_frozen BK381.out 1))
   repeat (go_quiet (first | ((with_reducible refine gate_dst (N := 12) rfl ?_); (try (refine gate_guard (by rfl) ?_; dsimp only)); refine box_event ?hg (N := 12) ?hd (cs := #[.slice none 0 0, .slice none 0 0]) (t := 30) ?hr ?_; (case hd => rfl); (case hg => rfl); (case hr => first | (go_simp; done) | (go_simp; rfl)); intro gb381 hg w21 hbox hb; have n0_ := Aside0.mk (Kd.R_below (by (with_reducible repeat (first | apply Kd.R_alloc | apply Kd.R_drewN | apply Kd.R_drew)); exact HO_9.out) hb); have n1_ := Aside0.mk (Kd.R_below (by (with_reducible repeat (first | apply Kd.R_alloc | apply Kd.R_drewN | apply Kd.R_drew)); exact HO_10.out) hb); have n2_ := Aside0.mk (Kd.S_below (Kd.S_elderB (by (with_reducible repeat (first | apply Kd.S_alloc | apply Kd.S_drewN | apply Kd.S_drew)); exact HO_39.out) gb381 (Nat.le_of_eq hg.symm)) hb); have n3_ := Aside0.mk (Kd.R_below (by (with_reducible repeat (first | apply Kd.R_alloc | apply Kd.R_drewN | apply Kd.R_drew)); exact HL380_0.out) hb); have n4_ := Aside0.mk (Kd.R_below (by (with_reducible repeat (first | apply Kd.R_alloc | apply Kd.R_drewN | apply Kd.R_drew)); exact HL380_1.out) hb); have n5_ := Aside0.mk (Kd.C_below (by repeat (first | (with_reducible exact HR380_0.out) | (with_reducible refine Kd.C_alloc ?_ _) | (with_reducible refine Kd.C_drewN ?_ _) | (with_reducible refine Kd.C_drew ?_) | exact HR380_0.out)) hb); have n6_ := Aside0.mk (Kd.C_below (by repeat (first | (with_reducible exact HR380_1.out) | (with_reducible refine Kd.C_alloc ?_ _) | (with_reducible refine Kd.C_drewN ?_ _) | (with_reducible refine Kd.C_drew ?_) | exact HR380_1.out)) hb); have n7_ := Aside0.mk ((Kd.C_aboveB (by repeat (first | (with_reducible exact HR380_0.out) | (with_reducible refine Kd.C_alloc ?_ _) | (with_reducible refine Kd.C_drewN ?_ _) | (with_reducible refine Kd.C_drew ?_) | exact HR380_0.out)) (by decide) (Nat.le_of_eq hg.symm))); have n8_ := Aside0.mk ((Kd.C_aboveB (by repeat (first | (with_reducible exact HR380_1.out) | (with_reducible refine Kd.C_alloc ?_ _) | (with_reducible refine Kd.C_drewN ?_ _) | (with_reducible refine Kd.C_drew ?_) | exact HR380_1.out)) (by decide) (Nat.le_of_eq hg.symm))); have n9_ := Aside0.mk (below_step (by repeat (first | (with_reducible first | exact HB.out | apply below_alloc | apply pw_below_drewN | apply below_drew1) | exact HB.out)) hb); have n10_ := Aside0.mk (hbox); have n11_ := Aside0.mk ((by rw [hg]; exact (below_size (by repeat (first | (with_reducible first | exact HB.out | apply below_alloc | apply pw_below_drewN | apply below_drew1) | exact HB.out))) : w.heap.size ≤ gb381)); have n12_ := Aside0.mk ((by rw [hg]; exact (below_size (by repeat (first | (with_reducible first | exact HB.out | apply below_alloc | apply pw_below_drewN | apply below_drew1) | exact HB.out))) : w.heap.size ≤ gb381)); clear HO_9; clear HO_10; clear HO_39; clear HL380_0; clear HL380_1; clear HR380_0; clear HR380_1; clear HB; have HO_9 := n0_; have HO_10 := n1_; have HO_39 := n2_; have HL380_0 := n3_; have HL380_1 := n4_; have HR380_0 := n5_; have HR380_1 := n6_; have SF380_0_381 := n7_; have SF380_1_381 := n8_; have HB := n9_; have BK381 := n10_; have GW381 := n11_; have GE381 := n12_; clear n0_ n1_ n2_ n3_ n4_ n5_ n6_ n7_ n8_ n9_ n10_ n11_ n12_; clear hb hbox hg; have hcz22_0 : w21.cell? ⟨gb381, 0, none⟩ = some (.slice none 0 0) := (blk_cell BK381.out 0).trans rfl; have hcz22_1 : w21.cell? ⟨gb381, 1, none⟩ = some (.slice none 0 0) := (blk_cell BK381.out 1).trans rfl; have hfz22_0 := blk_frozen BK381.out 0; have hfz22_1 := blk_frozen BK381.out 1)); go_upto_region 11 with (first | ((with_reducible refine gate_dst (N := 12) rfl ?_); (try (refine gate_guard (by rfl) ?_; dsimp only)); refine box_event ?hg (N := 12) ?hd (cs := #[.slice none 0 0, .slice none 0 0]) (t := 30) ?hr ?_; (case hd => rfl); (case hg => rfl); (case hr => first | (go_simp; done) | (go_simp; rfl)); intro gb381 hg w21 hbox hb; have n0_ := Aside0.mk (Kd.R_below (by (with_reducible repeat (first | apply Kd.R_alloc | apply Kd.R_drewN | apply Kd.R_drew)); exact HO_9.out) hb); have n1_ := Aside0.mk (Kd.R_below (by (with_reducible repeat (first | apply Kd.R_alloc | apply Kd.R_drewN | apply Kd.R_drew)); exact HO_10.out) hb); have n2_ := Aside0.mk (Kd.S_below (Kd.S_elderB (by (with_reducible repeat (first | apply Kd.S_alloc | apply Kd.S_drewN | apply Kd.S_drew)); exact HO_39.out) gb381 (Nat.le_of_eq hg.symm)) hb); have n3_ := Aside0.mk (Kd.R_below (by (with_reducible repeat (first | apply Kd.R_alloc | apply Kd.R_drewN | apply Kd.R_drew)); exact HL380_0.out) hb); have n4_ := Aside0.mk (Kd.R_below (by (with_reducible repeat (first | apply Kd.R_alloc | apply Kd.R_drewN | apply Kd.R_drew)); exact HL380_1.out) hb); have n5_ := Aside0.mk (Kd.C_below (by repeat (first | (with_reducible exact HR380_0.out) | (with_reducible refine Kd.C_alloc ?_ _) | (with_reducible refine Kd.C_drewN ?_ _) | (with_reducible refine Kd.C_drew ?_) | exact HR380_0.out)) hb); have n6_ := Aside0.mk (Kd.C_below (by repeat (first | (with_reducible exact HR380_1.out) | (with_reducible refine Kd.C_alloc ?_ _) | (with_reducible refine Kd.C_drewN ?_ _) | (with_reducible refine Kd.C_drew ?_) | exact HR380_1.out)) hb); have n7_ := Aside0.mk ((Kd.C_aboveB (by repeat (first | (with_reducible exact HR380_0.out) | (with_reducible refine Kd.C_alloc ?_ _) | (with_reducible refine Kd.C_drewN ?_ _) | (with_reducible refine Kd.C_drew ?_) | exact HR380_0.out)) (by decide) (Nat.le_of_eq hg.symm))); have n8_ := Aside0.mk ((Kd.C_aboveB (by repeat (first | (with_reducible exact HR380_1.out) | (with_reducible refine Kd.C_alloc ?_ _) | (with_reducible refine Kd.C_drewN ?_ _) | (with_reducible refine Kd.C_drew ?_) | exact HR380_1.out)) (by decide) (Nat.le_of_eq hg.symm))); have n9_ := Aside0.mk (below_step (by repeat (first | (with_reducible first | exact HB.out | apply below_alloc | apply pw_below_drewN | apply below_drew1) | exact HB.out)) hb); have n10_ := Aside0.mk (hbox); have n11_ := Aside0.mk ((by rw [hg]; exact (below_size (by repeat (first | (with_reducible first | exact HB.out | apply below_alloc | apply pw_below_drewN | apply below_drew1) | exact HB.out))) : w.heap.size ≤ gb381)); have n12_ := Aside0.mk ((by rw [hg]; exact (below_size (by repeat (first | (with_reducible first | exact HB.out | apply below_alloc | apply pw_below_drewN | apply below_drew1) | exact HB.out))) : w.heap.size ≤ gb381)); clear HO_9; clear HO_10; clear HO_39; clear HL380_0; clear HL380_1; clear HR380_0; clear HR380_1; clear HB; have HO_9 := n0_; have HO_10 := n1_; have HO_39 := n2_; have HL380_0 := n3_; have HL380_1 := n4_; have HR380_0 := n5_; have HR380_1 := n6_; have SF380_0_381 := n7_; have SF380_1_381 := n8_; have HB := n9_; have BK381 := n10_; have GW381 := n11_; have GE381 := n12_; clear n0_ n1_ n2_ n3_ n4_ n5_ n6_ n7_ n8_ n9_ n10_ n11_ n12_; clear hb hbox hg; have hcz22_0 : w21.cell? ⟨gb381, 0, none⟩ = some (.slice none 0 0) := (blk_cell BK381.out 0).trans rfl; have hcz22_1 : w21.cell? ⟨gb381, 1, none⟩ = some (.slice none 0 0) := (blk_cell BK381.out 1).trans rfl; have hfz22_0 := blk_frozen BK381.out 0; have hfz22_1 := blk_frozen BK381.out 1)))
   (try simp only [Act.put, List.setIfInBounds_toArray, List.set_cons_zero, List.set_cons_succ])
   go_cut [58] (fun v58 wc => ∃ (kq : Nat) (x58_19 : Bool), v58 = .bool x58_19 ∧ Aside0 (orrerylaw21_OrderParts.j1 kq a0 l1 l2 x9_1 x10_1 x41_1 t370 (t370.length : Int) x41_1 x58_19 ((rd_T30 t370 x41_1).f0) ((rd_T30 t370 x41_1).f1) = some r) ∧ Aside0 (kq ≤ k1) ∧ Aside0 (Kd.R (Kd.int .i64) 3 wc w.heap.size (fun k_ => some k_ ≠ (v378 : Value).ownBlock) v375 x9_1) ∧ Aside0 (Kd.R (Kd.int .i64) 3 wc w.heap.size (fun k_ => some k_ ≠ (v375 : Value).ownBlock) v378 x10_1) ∧ Aside0 (Kd.S k30 30 wc w.heap.size (fun k_ => some k_ ≠ (v375 : Value).ownBlock ∧ some k_ ≠ (v378 : Value).ownBlock ∧ k_ ≠ gb381) (.slice (some ad380) t370.length co16) t370) ∧ Aside0 (wc.heap[gb381]? = some (.cells #[(.slice A380_0 ((rd_T30 t370 x41_1).f0).length c380_0), (.slice A380_1 ((rd_T30 t370 x41_1).f1).length c380_1)] 30 (0, 0))) ∧ Aside0 (Kd.C (Kd.int .i64) wc A380_0 ((rd_T30 t370 x41_1).f0).length ((rd_T30 t370 x41_1).f0)) ∧ Aside0 (Kd.C (Kd.int .i64) wc A380_1 ((rd_T30 t370 x41_1).f1).length ((rd_T30 t370 x41_1).f1)) ∧ Aside0 (Below w.heap.size w wc))
   case first =>
    have H := HC20.out
    clear HC20
    by_cases c23 : (((rd_T30 t370 x41_1).f0).length : Int) = 0
    case pos =>
     rw [if_pos c23] at H
     have c23b0 : ((((rd_T30 t370 x41_1).f0).length : Int) == 0) = true := beq_iff_eq.mpr c23
     have c23b1 : ((((rd_T30 t370 x41_1).f0).length : Int) != 0) = false := bne_eq_false_iff_eq.mpr c23
     clear c23
     (first | rw [c23b0] | (simp only [i64_w, i32_w]; rw [c23b0]) | skip)
     have H' := Aside0.mk H
     clear H
     have hcz24_0 : w21.cell? ⟨gb381, 0, none⟩ = some (.slice none 0 0) := (blk_cell BK381.out 0).trans rfl
     have hcz24_1 : w21.cell? ⟨gb381, 1, none⟩ = some (.slice none 0 0) := (blk_cell BK381.out 1).trans rfl
     have hfz24_0 := blk_frozen BK381.out 0
     have hfz24_1 := blk_frozen BK381.out 1
     go_wp2
     repeat (go_quiet (fail); try go_wp2)
     go_meet
     case rel => exact ⟨_, (true), (by first | rfl | (simp; done) | (simp [*]; done)), H', ⟨by have := HK1.out; first | omega | exact Nat.le_refl _⟩, ⟨by (with_reducible repeat (first | apply Kd.R_alloc | apply Kd.R_drewN | apply Kd.R_drew)); exact Kd.R_mono (Kd.R_far (p := ⟨gb381, 1, none⟩) (Kd.R_far (p := ⟨gb381, 0, none⟩) (Kd.R_types HO_9.out BK381.out (by decide)) (fun _ hk => hk.2) (.slice A380_0 ((rd_T30 t370 x41_1).f0).length c380_0)) (fun _ hk => hk.2) (.slice A380_1 ((rd_T30 t370 x41_1).f1).length c380_1)) (fun _ hk => hk.1)⟩, ⟨by (with_reducible repeat (first | apply Kd.R_alloc | apply Kd.R_drewN | apply Kd.R_drew)); exact Kd.R_mono (Kd.R_far (p := ⟨gb381, 1, none⟩) (Kd.R_far (p := ⟨gb381, 0, none⟩) (Kd.R_types HO_10.out BK381.out (by decide)) (fun _ hk => hk.2) (.slice A380_0 ((rd_T30 t370 x41_1).f0).length c380_0)) (fun _ hk => hk.2) (.slice A380_1 ((rd_T30 t370 x41_1).f1).length c380_1)) (fun _ hk => hk.1)⟩, ⟨by (with_reducible repeat (first | apply Kd.S_alloc | apply Kd.S_drewN | apply Kd.S_drew)); exact Kd.S_mono (Kd.S_far (p := ⟨gb381, 1, none⟩) (Kd.S_far (p := ⟨gb381, 0, none⟩) (Kd.S_mono HO_39.out (fun k_ hk => (⟨hk, hk.2⟩ : _ ∧ k_ ≠ gb381))) (fun _ hk => hk.2) (.slice A380_0 ((rd_T30 t370 x41_1).f0).length c380_0)) (fun _ hk => hk.2) (.slice A380_1 ((rd_T30 t370 x41_1).f1).length c380_1)) (fun _ hk => ⟨hk.1.1.1, ⟨hk.1.1.2, hk.1.2⟩⟩)⟩, ⟨by (with_reducible repeat (first | refine blk_drewN ?_ _ | refine blk_drew ?_ | refine blk_alloc ?_ _)); refine blk_put (cs := #[.slice A380_0 ((rd_T30 t370 x41_1).f0).length c380_0, .slice none 0 0]) ?_ 1 _ rfl; (with_reducible repeat (first | refine blk_drewN ?_ _ | refine blk_drew ?_ | refine blk_alloc ?_ _)); refine blk_put (cs := #[.slice none 0 0, .slice none 0 0]) ?_ 0 _ rfl; (with_reducible repeat (first | refine blk_drewN ?_ _ | refine blk_drew ?_ | refine blk_alloc ?_ _)); exact BK381.out⟩, ⟨(Kd.R_reads' (by (with_reducible repeat (first | apply Kd.R_alloc | apply Kd.R_drewN | apply Kd.R_drew)); exact (Kd.R_mono (Kd.R_far (p := ⟨gb381, 1, none⟩) (Kd.R_far (p := ⟨gb381, 0, none⟩) (Kd.R_types HL380_0.out BK381.out (by decide)) (fun _ hk => hk.2) (.slice A380_0 ((rd_T30 t370 x41_1).f0).length c380_0)) (fun _ hk => hk.2) (.slice A380_1 ((rd_T30 t370 x41_1).f1).length c380_1)) (fun _ h_ => h_.1)))).2.2⟩, ⟨(Kd.R_reads' (by (with_reducible repeat (first | apply Kd.R_alloc | apply Kd.R_drewN | apply Kd.R_drew)); exact (Kd.R_mono (Kd.R_far (p := ⟨gb381, 1, none⟩) (Kd.R_far (p := ⟨gb381, 0, none⟩) (Kd.R_types HL380_1.out BK381.out (by decide)) (fun _ hk => hk.2) (.slice A380_0 ((rd_T30 t370 x41_1).f0).length c380_0)) (fun _ hk => hk.2) (.slice A380_1 ((rd_T30 t370 x41_1).f1).length c380_1)) (fun _ h_ => h_.1)))).2.2⟩, ⟨by repeat (first | (with_reducible first | exact HB.out | apply below_alloc | apply pw_below_drewN | apply below_drew1 | refine below_set ?_ GE381.out) | exact HB.out)⟩⟩
    rw [if_neg c23] at H
    have c23b0 : ((((rd_T30 t370 x41_1).f0).length : Int) == 0) = false := beq_eq_false_iff_ne.mpr c23
    have c23b1 : ((((rd_T30 t370 x41_1).f0).length : Int) != 0) = true := bne_iff_ne.mpr c23
    have c23b2 : ¬ (((rd_T30 t370 x41_1).f0) = []) := fun h_ => c23 (by rw [h_]; rfl)
    (first | rw [c23b0] | (simp only [i64_w, i32_w]; rw [c23b0]) | skip)
    have H' := Aside0.mk H
    clear H
    have hcz25_0 : w21.cell? ⟨gb381, 0, none⟩ = some (.slice none 0 0) := (blk_cell BK381.out 0).trans rfl
    have hcz25_1 : w21.cell? ⟨gb381, 1, none⟩ = some (.slice none 0 0) := (blk_cell BK381.out 1).trans rfl
    have hfz25_0 := blk_frozen BK381.out 0
    have hfz25_1 := blk_frozen BK381.out 1
    go_wp2
    repeat (go_quiet (fail); try go_wp2)
    go_meet
    case rel => exact ⟨_, (((((rd_T30 t370 x41_1).f0).length : Int) != (((rd_T30 t370 x41_1).f1).length : Int))), (by first | rfl | (simp; done) | (simp [*]; done)), H', ⟨by have := HK1.out; first | omega | exact Nat.le_refl _⟩, ⟨by (with_reducible repeat (first | apply Kd.R_alloc | apply Kd.R_drewN | apply Kd.R_drew)); exact Kd.R_mono (Kd.R_far (p := ⟨gb381, 1, none⟩) (Kd.R_far (p := ⟨gb381, 0, none⟩) (Kd.R_types HO_9.out BK381.out (by decide)) (fun _ hk => hk.2) (.slice A380_0 ((rd_T30 t370 x41_1).f0).length c380_0)) (fun _ hk => hk.2) (.slice A380_1 ((rd_T30 t370 x41_1).f1).length c380_1)) (fun _ hk => hk.1)⟩, ⟨by (with_reducible repeat (first | apply Kd.R_alloc | apply Kd.R_drewN | apply Kd.R_drew)); exact Kd.R_mono (Kd.R_far (p := ⟨gb381, 1, none⟩) (Kd.R_far (p := ⟨gb381, 0, none⟩) (Kd.R_types HO_10.out BK381.out (by decide)) (fun _ hk => hk.2) (.slice A380_0 ((rd_T30 t370 x41_1).f0).length c380_0)) (fun _ hk => hk.2) (.slice A380_1 ((rd_T30 t370 x41_1).f1).length c380_1)) (fun _ hk => hk.1)⟩, ⟨by (with_reducible repeat (first | apply Kd.S_alloc | apply Kd.S_drewN | apply Kd.S_drew)); exact Kd.S_mono (Kd.S_far (p := ⟨gb381, 1, none⟩) (Kd.S_far (p := ⟨gb381, 0, none⟩) (Kd.S_mono HO_39.out (fun k_ hk => (⟨hk, hk.2⟩ : _ ∧ k_ ≠ gb381))) (fun _ hk => hk.2) (.slice A380_0 ((rd_T30 t370 x41_1).f0).length c380_0)) (fun _ hk => hk.2) (.slice A380_1 ((rd_T30 t370 x41_1).f1).length c380_1)) (fun _ hk => ⟨hk.1.1.1, ⟨hk.1.1.2, hk.1.2⟩⟩)⟩, ⟨by (with_reducible repeat (first | refine blk_drewN ?_ _ | refine blk_drew ?_ | refine blk_alloc ?_ _)); refine blk_put (cs := #[.slice A380_0 ((rd_T30 t370 x41_1).f0).length c380_0, .slice none 0 0]) ?_ 1 _ rfl; (with_reducible repeat (first | refine blk_drewN ?_ _ | refine blk_drew ?_ | refine blk_alloc ?_ _)); refine blk_put (cs := #[.slice none 0 0, .slice none 0 0]) ?_ 0 _ rfl; (with_reducible repeat (first | refine blk_drewN ?_ _ | refine blk_drew ?_ | refine blk_alloc ?_ _)); exact BK381.out⟩, ⟨(Kd.R_reads' (by (with_reducible repeat (first | apply Kd.R_alloc | apply Kd.R_drewN | apply Kd.R_drew)); exact (Kd.R_mono (Kd.R_far (p := ⟨gb381, 1, none⟩) (Kd.R_far (p := ⟨gb381, 0, none⟩) (Kd.R_types HL380_0.out BK381.out (by decide)) (fun _ hk => hk.2) (.slice A380_0 ((rd_T30 t370 x41_1).f0).length c380_0)) (fun _ hk => hk.2) (.slice A380_1 ((rd_T30 t370 x41_1).f1).length c380_1)) (fun _ h_ => h_.1)))).2.2⟩, ⟨(Kd.R_reads' (by (with_reducible repeat (first | apply Kd.R_alloc | apply Kd.R_drewN | apply Kd.R_drew)); exact (Kd.R_mono (Kd.R_far (p := ⟨gb381, 1, none⟩) (Kd.R_far (p := ⟨gb381, 0, none⟩) (Kd.R_types HL380_1.out BK381.out (by decide)) (fun _ hk => hk.2) (.slice A380_0 ((rd_T30 t370 x41_1).f0).length c380_0)) (fun _ hk => hk.2) (.slice A380_1 ((rd_T30 t370 x41_1).f1).length c380_1)) (fun _ h_ => h_.1)))).2.2⟩, ⟨by repeat (first | (with_reducible first | exact HB.out | apply below_alloc | apply pw_below_drewN | apply below_drew1 | refine below_set ?_ GE381.out) | exact HB.out)⟩⟩
   case rest =>
    clear HC20
    try clear c1
    try clear c2
    try clear p2
    try clear c3
    try clear p3
    try clear q3
    try clear hx3
    try clear c4
    try clear c5
    try clear c7
    try clear c7b0
    try clear c7b1
    try clear c8
    try clear c8b0
    try clear c8b1
    try clear c9
    try clear c9b0
    try clear c9b1
    try clear c17
    try clear c17b0
    try clear c18
    try clear c18b0
    try clear c19
    try clear c19b0
    try clear c23
    try clear c23b0
    try clear c23b1
    try clear c23b2
    try clear hcz22_0
    try clear hcz22_1
    try clear hcz24_0
    try clear hcz24_1
    try clear hcz25_0
    try clear hcz25_1
    try clear hfz22_0
    try clear hfz22_1
    try clear hfz24_0
    try clear hfz24_1
    try clear hfz25_0
    try clear hfz25_1
    try clear hx380_0
    try clear hx380_1
    try clear p2
    try clear p380
    try clear q380
    obtain ⟨kq, x58_19, rfl, HA, HJ19, HO_9, HO_10, HO_39, BK381, HR380_0, HR380_1, HB⟩ := hcut
    cases kq with
    | zero => exact absurd HA.out (by simp [orrerylaw21_OrderParts.j1])
    | succ kj19 =>
     have H := HA.out
     clear HA
     simp only [orrerylaw21_OrderParts.j1] at H
     by_cases c26 : x58_19 = true
     case pos =>
      subst c26
      have H1 : (some false) = some r := by rw [if_pos rfl] at H; exact H
      clear H
      have H := H1
      clear H1
      obtain rfl := Option.some.inj H
      go_wp2
      repeat (go_quiet (fail); try go_wp2)
      go_ret
      exact ⟨by first | rfl | (simp [errW_none, errW_some] <;> rfl) | (simp [*, errW_none, errW_some] <;> rfl), by repeat (first | (with_reducible first | exact HB.out | apply below_alloc | apply pw_below_drewN | apply below_drew1 | refine below_set ?_ GE381.out) | exact HB.out)⟩
     replace c26 := Bool.eq_false_iff.mpr c26
     subst c26
     have H1 : (orrerylaw21_OrderParts.l1 kj19 a0 l1 l2 x9_1 x10_1 x41_1 t370 (t370.length : Int) x41_1 ((rd_T30 t370 x41_1).f0) (((rd_T30 t370 x41_1).f0).length : Int) 0 ((rd_T30 t370 x41_1).f0) ((rd_T30 t370 x41_1).f1)) = some r := by rw [if_neg (show ¬ (false = true) by decide)] at H; exact H
     clear H
     have H := H1
     clear H1
     have H' := Aside0.mk H
     clear H
     have hcz27_0 : wc.cell? ⟨gb381, 0, none⟩ = some (.slice A380_0 ((rd_T30 t370 x41_1).f0).length c380_0) := (blk_cell BK381.out 0).trans rfl
     have hcz27_1 : wc.cell? ⟨gb381, 1, none⟩ = some (.slice A380_1 ((rd_T30 t370 x41_1).f1).length c380_1) := (blk_cell BK381.out 1).trans rfl
     have hfz27_0 := blk_frozen BK381.out 0
     have hfz27_1 := blk_frozen BK381.out 1
     go_wp2
     repeat (go_quiet (fail); try go_wp2)
     go_loopg [62] kj19 (fun kq v62 w' => ∃ (x9_3 : List Int) (x62_3 : Int), v62 = .int .i64 x62_3 ∧ Aside0 (orrerylaw21_OrderParts.l1 kq a0 l1 l2 x9_3 x10_1 x41_1 t370 (t370.length : Int) x41_1 ((rd_T30 t370 x41_1).f0) (((rd_T30 t370 x41_1).f0).length : Int) x62_3 ((rd_T30 t370 x41_1).f0) ((rd_T30 t370 x41_1).f1) = some r) ∧ Aside0 (kq ≤ kj19) ∧ Aside0 (Kd.R (Kd.int .i64) 3 w' w.heap.size (fun k_ => some k_ ≠ (v378 : Value).ownBlock) v375 x9_3) ∧ Aside0 (Kd.R (Kd.int .i64) 3 w' w.heap.size (fun k_ => some k_ ≠ (v375 : Value).ownBlock) v378 x10_1) ∧ Aside0 (Kd.S k30 30 w' w.heap.size (fun k_ => some k_ ≠ (v375 : Value).ownBlock ∧ some k_ ≠ (v378 : Value).ownBlock ∧ k_ ≠ gb381) (.slice (some ad380) t370.length co16) t370) ∧ Aside0 (w'.heap[gb381]? = some (.cells #[(.slice A380_0 ((rd_T30 t370 x41_1).f0).length c380_0), (.slice A380_1 ((rd_T30 t370 x41_1).f1).length c380_1)] 30 (0, 0))) ∧ Aside0 (Kd.C (Kd.int .i64) w' A380_0 ((rd_T30 t370 x41_1).f0).length ((rd_T30 t370 x41_1).f0)) ∧ Aside0 (Kd.C (Kd.int .i64) w' A380_1 ((rd_T30 t370 x41_1).f1).length ((rd_T30 t370 x41_1).f1)) ∧ Aside0 (Below w.heap.size w w'))
     case atStart => exact ⟨(x9_1), (0), (by first | rfl | (simp; done) | (simp [*]; done)), H', ⟨Nat.le_refl _⟩, ⟨by (with_reducible repeat (first | apply Kd.R_alloc | apply Kd.R_drewN | apply Kd.R_drew)); exact HO_9.out⟩, ⟨by (with_reducible repeat (first | apply Kd.R_alloc | apply Kd.R_drewN | apply Kd.R_drew)); exact HO_10.out⟩, ⟨by (with_reducible repeat (first | apply Kd.S_alloc | apply Kd.S_drewN | apply Kd.S_drew)); exact HO_39.out⟩, ⟨by (with_reducible repeat (first | refine blk_drewN ?_ _ | refine blk_drew ?_ | refine blk_alloc ?_ _)); exact BK381.out⟩, ⟨by repeat (first | (with_reducible exact HR380_0.out) | (with_reducible refine Kd.C_alloc ?_ _) | (with_reducible refine Kd.C_drewN ?_ _) | (with_reducible refine Kd.C_drew ?_) | exact HR380_0.out)⟩, ⟨by repeat (first | (with_reducible exact HR380_1.out) | (with_reducible refine Kd.C_alloc ?_ _) | (with_reducible refine Kd.C_drewN ?_ _) | (with_reducible refine Kd.C_drew ?_) | exact HR380_1.out)⟩, ⟨by repeat (first | (with_reducible first | exact HB.out | apply below_alloc | apply pw_below_drewN | apply below_drew1 | refine below_set ?_ GE381.out) | exact HB.out)⟩⟩
     case round =>
      clear H'
      try clear c1
      try clear c2
      try clear p2
      try clear c3
      try clear p3
      try clear q3
      try clear hx3
      try clear c4
      try clear c5
      try clear c7
      try clear c7b0
      try clear c7b1
      try clear c8
      try clear c8b0
      try clear c8b1
      try clear c9
      try clear c9b0
      try clear c9b1
      try clear c17
      try clear c17b0
      try clear c18
      try clear c18b0
      try clear c19
      try clear c19b0
      try clear c23
      try clear c23b0
      try clear c23b1
      try clear c23b2
      try clear c26
      try clear hcz22_0
      try clear hcz22_1
      try clear hcz24_0
      try clear hcz24_1
      try clear hcz25_0
      try clear hcz25_1
      try clear hcz27_0
      try clear hcz27_1
      try clear hfz22_0
      try clear hfz22_1
      try clear hfz24_0
      try clear hfz24_1
      try clear hfz25_0
      try clear hfz25_1
      try clear hfz27_0
      try clear hfz27_1
      try clear hx380_0
      try clear hx380_1
      try clear p2
      try clear p3
      try clear p380
      try clear q3
      try clear q380
      obtain ⟨x9_3, x62_3, rfl, HA, HK3, HO_9, HO_10, HO_39, BK381, HR380_0, HR380_1, HB⟩ := hrel
      cases gk with
      | zero => exact absurd HA.out (by simp [orrerylaw21_OrderParts.l1])
      | succ k3 =>
       have H := HA.out
       clear HA
       simp only [orrerylaw21_OrderParts.l1] at H
       by_cases c28 : x62_3 < (((rd_T30 t370 x41_1).f0).length : Int)
       case pos =>
        rw [if_pos c28] at H
        have c28b0 : decide (x62_3 < (((rd_T30 t370 x41_1).f0).length : Int)) = true := decide_eq_true c28
        clear c28
        by_cases c29 : 0 ≤ x62_3
        case neg => rw [if_neg c29] at H; exact absurd H (by simp)
        rw [if_pos c29] at H
        have c29b0 : decide (0 ≤ x62_3) = true := decide_eq_true c29
        clear c29
        by_cases c30 : x62_3 < (((rd_T30 t370 x41_1).f0).length : Int)
        case neg => rw [if_neg c30] at H; exact absurd H (by simp)
        rw [if_pos c30] at H
        have c30b0 : decide (x62_3 < (((rd_T30 t370 x41_1).f0).length : Int)) = true := decide_eq_true c30
        clear c30
        by_cases c31 : (rd ((rd_T30 t370 x41_1).f0) x62_3) < 0
        case pos =>
         rw [if_pos c31] at H
         have c31b0 : decide ((rd ((rd_T30 t370 x41_1).f0) x62_3) < 0) = true := decide_eq_true c31
         clear c31
         obtain rfl := Option.some.inj H
         have p382 : 0 ≤ (x62_3 : Int) := of_decide_eq_true (by first | (with_reducible assumption) | assumption)
         have q382 : x62_3 < (((rd_T30 t370 x41_1).f0).length : Int) := of_decide_eq_true (by first | (with_reducible assumption) | assumption)
         obtain ⟨ad382, e382, hx382_0⟩ := Kd.at_int (by repeat (first | (with_reducible exact HR380_0.out) | (with_reducible refine Kd.C_alloc ?_ _) | (with_reducible refine Kd.C_drewN ?_ _) | (with_reducible refine Kd.C_drew ?_) | exact HR380_0.out)) x62_3 p382 q382
         cases e382
         replace p382 := eq_true p382
         replace q382 := eq_true q382
         go_wp2
         repeat (go_quiet (fail); try go_wp2)
         go_ret
         exact ⟨by first | rfl | (simp [errW_none, errW_some] <;> rfl) | (simp [*, errW_none, errW_some] <;> rfl), by repeat (first | (with_reducible first | exact HB.out | apply below_alloc | apply pw_below_drewN | apply below_drew1 | refine below_set ?_ GE381.out) | exact HB.out)⟩
        rw [if_neg c31] at H
        have c31b0 : decide ((rd ((rd_T30 t370 x41_1).f0) x62_3) < 0) = false := decide_eq_false c31
        clear c31
        by_cases c32 : (rd ((rd_T30 t370 x41_1).f0) x62_3) ≥ a0
        case pos =>
         rw [if_pos c32] at H
         have c32b0 : decide (a0 ≤ (rd ((rd_T30 t370 x41_1).f0) x62_3)) = true := decide_eq_true c32
         clear c32
         obtain rfl := Option.some.inj H
         have p382 : 0 ≤ (x62_3 : Int) := of_decide_eq_true (by first | (with_reducible assumption) | assumption)
         have q382 : x62_3 < (((rd_T30 t370 x41_1).f0).length : Int) := of_decide_eq_true (by first | (with_reducible assumption) | assumption)
         obtain ⟨ad382, e382, hx382_0⟩ := Kd.at_int (by repeat (first | (with_reducible exact HR380_0.out) | (with_reducible refine Kd.C_alloc ?_ _) | (with_reducible refine Kd.C_drewN ?_ _) | (with_reducible refine Kd.C_drew ?_) | exact HR380_0.out)) x62_3 p382 q382
         cases e382
         replace p382 := eq_true p382
         replace q382 := eq_true q382
         go_wp2
         repeat (go_quiet (fail); try go_wp2)
         go_ret
         exact ⟨by first | rfl | (simp [errW_none, errW_some] <;> rfl) | (simp [*, errW_none, errW_some] <;> rfl), by repeat (first | (with_reducible first | exact HB.out | apply below_alloc | apply pw_below_drewN | apply below_drew1 | refine below_set ?_ GE381.out) | exact HB.out)⟩
        rw [if_neg c32] at H
        have c32b0 : decide (a0 ≤ (rd ((rd_T30 t370 x41_1).f0) x62_3)) = false := decide_eq_false c32
        clear c32
        by_cases c33 : 0 ≤ (rd ((rd_T30 t370 x41_1).f0) x62_3)
        case neg => rw [if_neg c33] at H; exact absurd H (by simp)
        rw [if_pos c33] at H
        have c33b0 : decide (0 ≤ (rd ((rd_T30 t370 x41_1).f0) x62_3)) = true := decide_eq_true c33
        clear c33
        by_cases c34 : (rd ((rd_T30 t370 x41_1).f0) x62_3) < (x9_3.length : Int)
        case neg => rw [if_neg c34] at H; exact absurd H (by simp)
        rw [if_pos c34] at H
        have c34b0 : decide ((rd ((rd_T30 t370 x41_1).f0) x62_3) < (x9_3.length : Int)) = true := decide_eq_true c34
        clear c34
        by_cases c35 : (rd x9_3 (rd ((rd_T30 t370 x41_1).f0) x62_3)) = 0
        case neg =>
         rw [if_neg c35] at H
         have c35b0 : ((rd x9_3 (rd ((rd_T30 t370 x41_1).f0) x62_3)) == 0) = false := beq_eq_false_iff_ne.mpr c35
         have c35b1 : ((rd x9_3 (rd ((rd_T30 t370 x41_1).f0) x62_3)) != 0) = true := bne_iff_ne.mpr c35
         obtain rfl := Option.some.inj H
         have p382 : 0 ≤ (x62_3 : Int) := of_decide_eq_true (by first | (with_reducible assumption) | assumption)
         have q382 : x62_3 < (((rd_T30 t370 x41_1).f0).length : Int) := of_decide_eq_true (by first | (with_reducible assumption) | assumption)
         obtain ⟨ad382, e382, hx382_0⟩ := Kd.at_int (by repeat (first | (with_reducible exact HR380_0.out) | (with_reducible refine Kd.C_alloc ?_ _) | (with_reducible refine Kd.C_drewN ?_ _) | (with_reducible refine Kd.C_drew ?_) | exact HR380_0.out)) x62_3 p382 q382
         cases e382
         replace p382 := eq_true p382
         replace q382 := eq_true q382
         obtain ⟨Ao52, co52, eo52⟩ := Kd.R_slice HO_9.out
         subst eo52
         have p383 : 0 ≤ ((rd ((rd_T30 t370 x41_1).f0) x62_3) : Int) := of_decide_eq_true (by first | (with_reducible assumption) | assumption)
         have q383 : (rd ((rd_T30 t370 x41_1).f0) x62_3) < (x9_3.length : Int) := of_decide_eq_true (by first | (with_reducible assumption) | assumption)
         obtain ⟨ad383, e383, hx383_0⟩ := Kd.at_int (Kd.R_reads' HO_9.out).2.2 (rd ((rd_T30 t370 x41_1).f0) x62_3) p383 q383
         cases e383
         replace p383 := eq_true p383
         replace q383 := eq_true q383
         go_wp2
         repeat (go_quiet (fail); try go_wp2)
         go_ret
         exact ⟨by first | rfl | (simp [errW_none, errW_some] <;> rfl) | (simp [*, errW_none, errW_some] <;> rfl), by repeat (first | (with_reducible first | exact HB.out | apply below_alloc | apply pw_below_drewN | apply below_drew1 | refine below_set ?_ GE381.out) | exact HB.out)⟩
        rw [if_pos c35] at H
        have c35b0 : ((rd x9_3 (rd ((rd_T30 t370 x41_1).f0) x62_3)) == 0) = true := beq_iff_eq.mpr c35
        have c35b1 : ((rd x9_3 (rd ((rd_T30 t370 x41_1).f0) x62_3)) != 0) = false := bne_eq_false_iff_eq.mpr c35
        clear c35
        by_cases c36 : x62_3 > 0
        case neg =>
         rw [if_neg c36] at H
         have c36b0 : decide (0 < x62_3) = false := decide_eq_false c36
         clear c36
         obtain ⟨y386, hy386⟩ : ∃ y_ : List Int, y_ = (x9_3.set ((rd ((rd_T30 t370 x41_1).f0) x62_3) : Int).toNat (wrap64 (x41_1 + 1))) := ⟨_, rfl⟩
         replace H : (orrerylaw21_OrderParts.l1 k3 a0 l1 l2 y386 x10_1 x41_1 t370 (t370.length : Int) x41_1 ((rd_T30 t370 x41_1).f0) (((rd_T30 t370 x41_1).f0).length : Int) (wrap64 (x62_3 + 1)) ((rd_T30 t370 x41_1).f0) ((rd_T30 t370 x41_1).f1)) = some r := by first | (rw [hy386]; with_reducible exact H) | (have H2_ := (Option.bind_some _ _).symm.trans H; rw [hy386]; with_reducible exact H2_) | (have H2_ := (Option.bind_some _ _).symm.trans H; with_reducible exact H2_) | with_reducible exact H | (rw [hy386]; exact H) | exact H
         have Ny386 := Aside0.mk hy386
         clear hy386
         have H' := Aside0.mk H
         clear H
         have p382 : 0 ≤ (x62_3 : Int) := of_decide_eq_true (by first | (with_reducible assumption) | assumption)
         have q382 : x62_3 < (((rd_T30 t370 x41_1).f0).length : Int) := of_decide_eq_true (by first | (with_reducible assumption) | assumption)
         obtain ⟨ad382, e382, hx382_0⟩ := Kd.at_int (by repeat (first | (with_reducible exact HR380_0.out) | (with_reducible refine Kd.C_alloc ?_ _) | (with_reducible refine Kd.C_drewN ?_ _) | (with_reducible refine Kd.C_drew ?_) | exact HR380_0.out)) x62_3 p382 q382
         cases e382
         replace p382 := eq_true p382
         replace q382 := eq_true q382
         obtain ⟨Ao49, co49, eo49⟩ := Kd.R_slice HO_9.out
         subst eo49
         have p383 : 0 ≤ ((rd ((rd_T30 t370 x41_1).f0) x62_3) : Int) := of_decide_eq_true (by first | (with_reducible assumption) | assumption)
         have q383 : (rd ((rd_T30 t370 x41_1).f0) x62_3) < (x9_3.length : Int) := of_decide_eq_true (by first | (with_reducible assumption) | assumption)
         obtain ⟨ad383, e383, hx383_0⟩ := Kd.at_int (Kd.R_reads' HO_9.out).2.2 (rd ((rd_T30 t370 x41_1).f0) x62_3) p383 q383
         cases e383
         replace p383 := eq_true p383
         replace q383 := eq_true q383
         have p48 : 0 ≤ ((rd ((rd_T30 t370 x41_1).f0) x62_3) : Int) := of_decide_eq_true (by first | (with_reducible assumption) | assumption)
         have q48 : ((rd ((rd_T30 t370 x41_1).f0) x62_3) : Int) < ((x9_3.length : Int) : Int) := of_decide_eq_true (by first | (with_reducible assumption) | assumption)
         obtain ⟨go48, co48, eo48, gb48, gl48, cl48, HG48⟩ := Kd.R_form HO_9.out (by omega)
         (first | cases eo48 | (injection eo48 with ea_ en_ ec_; (first | subst ea_ | (injection ea_ with ea_; subst ea_)); subst ec_; clear en_))
         have GB48 := Aside0.mk gb48
         have GG48 := Aside0.mk HG48
         clear gb48 gl48 HG48
         (first | simp only [add_plain] at hx383_0 | skip)
         obtain ⟨hx48_0, hf48_0⟩ := Kd.R_celln 0 HO_9.out ((rd ((rd_T30 t370 x41_1).f0) x62_3) : Int) p48 q48
         replace p48 := eq_true p48
         replace q48 := eq_true q48
         have HP50 := Kd.R_putg HO_9.out ((rd ((rd_T30 t370 x41_1).f0) x62_3) : Int) (wrap64 (x41_1 + 1))
         go_wp2_with (first | ((with_reducible refine gate_store (t := 3) (p := 99) rfl ?_); (try (rw [drewN_self wr]; generalize hq_ : World.drewN wr _ = wr; have n0_ := Aside0.mk (Kd.R_at hq_ HO_9.out); have n1_ := Aside0.mk (Kd.R_at hq_ HO_10.out); have n2_ := Aside0.mk (Kd.S_at hq_ HO_39.out); have n3_ := Aside0.mk (blk_at hq_ BK381.out); have n4_ := Aside0.mk (Kd.C_at hq_ HR380_0.out); have n5_ := Aside0.mk (Kd.C_at hq_ HR380_1.out); have n6_ := Aside0.mk (below_at hq_ HB.out); clear hq_ HO_9 HO_10 HO_39 BK381 HR380_0 HR380_1 HB; have HO_9 := n0_; have HO_10 := n1_; have HO_39 := n2_; have BK381 := n3_; have HR380_0 := n4_; have HR380_1 := n5_; have HB := n6_; clear n0_ n1_ n2_ n3_ n4_ n5_ n6_; (try (have HP50 := Kd.R_putg HO_9.out ((rd ((rd_T30 t370 x41_1).f0) x62_3) : Int) (wrap64 (x41_1 + 1)))))); refine store_event (t := 3) (p := 99) (v := ?vo_w51) (w1 := (wr.setCell ⟨go48, ((rd ((rd_T30 t370 x41_1).f0) x62_3) : Int).toNat, none⟩ (.int .i64 (wrap64 (x41_1 + 1))))) ?hg ?ho ?hn ?hr ?_; (case ho => rfl); (case hg => rfl); (case hn => rfl); (case hr => first | (go_simp; done) | (go_simp; rfl)); intro w51 hw; have hg : wr.grownBy w51 (some go48) := (by rw [hw]; exact HP50.2); have hp_ : Kd.R (Kd.int .i64) 3 w51 w.heap.size (fun k_ => some k_ ≠ (v378 : Value).ownBlock) (.slice (some ⟨go48, 0, none⟩) x9_3.length co49) y386 := (by rw [hw, Ny386.out]; exact HP50.1); clear HP50; have n0_ := Aside0.mk (hp_); have n1_ := Aside0.mk (Kd.R_after (v := (.slice (some ⟨go48, 0, none⟩) x9_3.length co49)) (v1 := (.slice (some ⟨go48, 0, none⟩) x9_3.length co49)) (ok := (fun _ => True)) (by (with_reducible repeat (first | apply Kd.R_alloc | apply Kd.R_drewN | apply Kd.R_drew)); exact Kd.R_mono HO_10.out (fun _ hk => ⟨trivial, hk⟩)) hg (.inl rfl)); have n2_ := Aside0.mk (Kd.S_after (v := (.slice (some ⟨go48, 0, none⟩) x9_3.length co49)) (v1 := (.slice (some ⟨go48, 0, none⟩) x9_3.length co49)) (ok := (fun k_ => some k_ ≠ (v378 : Value).ownBlock ∧ k_ ≠ gb381)) (by (with_reducible repeat (first | apply Kd.S_alloc | apply Kd.S_drewN | apply Kd.S_drew)); exact Kd.S_mono HO_39.out (fun _ hk => ⟨⟨hk.2.1, hk.2.2⟩, hk.1⟩)) hg (.inl rfl)); have n3_ := Aside0.mk (blk_grown (g := gb381) (o := .cells #[.slice (some ad382) ((rd_T30 t370 x41_1).f0).length c380_0, .slice A380_1 ((rd_T30 t370 x41_1).f1).length c380_1] 30 (0, 0)) (by (with_reducible repeat (first | refine blk_drewN ?_ _ | refine blk_drew ?_ | refine blk_alloc ?_ _)); exact BK381.out) hg (Kd.R_ne HO_9.out BK381.out (by decide))); have n4_ := Aside0.mk ((show Kd.C (Kd.int .i64) w51 (some ad382) ((rd_T30 t370 x41_1).f0).length ((rd_T30 t370 x41_1).f0) from by rw [hw]; exact Kd.C_farP (p := ⟨go48, ((rd ((rd_T30 t370 x41_1).f0) x62_3) : Int).toNat, none⟩) (by repeat (first | (with_reducible exact HR380_0.out) | (with_reducible refine Kd.C_alloc ?_ _) | (with_reducible refine Kd.C_drewN ?_ _) | (with_reducible refine Kd.C_drew ?_) | exact HR380_0.out)) (fun ad_ h1_ h2_ e_ => RF380_0_HO_9.out ad_ h1_ h2_ (by rw [e_]; rfl)) (.int .i64 (wrap64 (x41_1 + 1))))); have n5_ := Aside0.mk ((show Kd.C (Kd.int .i64) w51 A380_1 ((rd_T30 t370 x41_1).f1).length ((rd_T30 t370 x41_1).f1) from by rw [hw]; exact Kd.C_farP (p := ⟨go48, ((rd ((rd_T30 t370 x41_1).f0) x62_3) : Int).toNat, none⟩) (by repeat (first | (with_reducible exact HR380_1.out) | (with_reducible refine Kd.C_alloc ?_ _) | (with_reducible refine Kd.C_drewN ?_ _) | (with_reducible refine Kd.C_drew ?_) | exact HR380_1.out)) (fun ad_ h1_ h2_ e_ => RF380_1_HO_9.out ad_ h1_ h2_ (by rw [e_]; rfl)) (.int .i64 (wrap64 (x41_1 + 1))))); have n6_ := Aside0.mk ((by rw [hw]; exact below_set (HB.out) GB48.out : Below w.heap.size w w51)); clear HO_9; clear HO_10; clear HO_39; clear BK381; clear HR380_0; clear HR380_1; clear HB; have HO_9 := n0_; have HO_10 := n1_; have HO_39 := n2_; have BK381 := n3_; have HR380_0 := n4_; have HR380_1 := n5_; have HB := n6_; clear n0_ n1_ n2_ n3_ n4_ n5_ n6_; clear hg hw hp_))
         repeat (go_quiet (first | ((with_reducible refine gate_store (t := 3) (p := 99) rfl ?_); (try (rw [drewN_self wr]; generalize hq_ : World.drewN wr _ = wr; have n0_ := Aside0.mk (Kd.R_at hq_ HO_9.out); have n1_ := Aside0.mk (Kd.R_at hq_ HO_10.out); have n2_ := Aside0.mk (Kd.S_at hq_ HO_39.out); have n3_ := Aside0.mk (blk_at hq_ BK381.out); have n4_ := Aside0.mk (Kd.C_at hq_ HR380_0.out); have n5_ := Aside0.mk (Kd.C_at hq_ HR380_1.out); have n6_ := Aside0.mk (below_at hq_ HB.out); clear hq_ HO_9 HO_10 HO_39 BK381 HR380_0 HR380_1 HB; have HO_9 := n0_; have HO_10 := n1_; have HO_39 := n2_; have BK381 := n3_; have HR380_0 := n4_; have HR380_1 := n5_; have HB := n6_; clear n0_ n1_ n2_ n3_ n4_ n5_ n6_; (try (have HP50 := Kd.R_putg HO_9.out ((rd ((rd_T30 t370 x41_1).f0) x62_3) : Int) (wrap64 (x41_1 + 1)))))); refine store_event (t := 3) (p := 99) (v := ?vo_w51) (w1 := (wr.setCell ⟨go48, ((rd ((rd_T30 t370 x41_1).f0) x62_3) : Int).toNat, none⟩ (.int .i64 (wrap64 (x41_1 + 1))))) ?hg ?ho ?hn ?hr ?_; (case ho => rfl); (case hg => rfl); (case hn => rfl); (case hr => first | (go_simp; done) | (go_simp; rfl)); intro w51 hw; have hg : wr.grownBy w51 (some go48) := (by rw [hw]; exact HP50.2); have hp_ : Kd.R (Kd.int .i64) 3 w51 w.heap.size (fun k_ => some k_ ≠ (v378 : Value).ownBlock) (.slice (some ⟨go48, 0, none⟩) x9_3.length co49) y386 := (by rw [hw, Ny386.out]; exact HP50.1); clear HP50; have n0_ := Aside0.mk (hp_); have n1_ := Aside0.mk (Kd.R_after (v := (.slice (some ⟨go48, 0, none⟩) x9_3.length co49)) (v1 := (.slice (some ⟨go48, 0, none⟩) x9_3.length co49)) (ok := (fun _ => True)) (by (with_reducible repeat (first | apply Kd.R_alloc | apply Kd.R_drewN | apply Kd.R_drew)); exact Kd.R_mono HO_10.out (fun _ hk => ⟨trivial, hk⟩)) hg (.inl rfl)); have n2_ := Aside0.mk (Kd.S_after (v := (.slice (some ⟨go48, 0, none⟩) x9_3.length co49)) (v1 := (.slice (some ⟨go48, 0, none⟩) x9_3.length co49)) (ok := (fun k_ => some k_ ≠ (v378 : Value).ownBlock ∧ k_ ≠ gb381)) (by (with_reducible repeat (first | apply Kd.S_alloc | apply Kd.S_drewN | apply Kd.S_drew)); exact Kd.S_mono HO_39.out (fun _ hk => ⟨⟨hk.2.1, hk.2.2⟩, hk.1⟩)) hg (.inl rfl)); have n3_ := Aside0.mk (blk_grown (g := gb381) (o := .cells #[.slice (some ad382) ((rd_T30 t370 x41_1).f0).length c380_0, .slice A380_1 ((rd_T30 t370 x41_1).f1).length c380_1] 30 (0, 0)) (by (with_reducible repeat (first | refine blk_drewN ?_ _ | refine blk_drew ?_ | refine blk_alloc ?_ _)); exact BK381.out) hg (Kd.R_ne HO_9.out BK381.out (by decide))); have n4_ := Aside0.mk ((show Kd.C (Kd.int .i64) w51 (some ad382) ((rd_T30 t370 x41_1).f0).length ((rd_T30 t370 x41_1).f0) from by rw [hw]; exact Kd.C_farP (p := ⟨go48, ((rd ((rd_T30 t370 x41_1).f0) x62_3) : Int).toNat, none⟩) (by repeat (first | (with_reducible exact HR380_0.out) | (with_reducible refine Kd.C_alloc ?_ _) | (with_reducible refine Kd.C_drewN ?_ _) | (with_reducible refine Kd.C_drew ?_) | exact HR380_0.out)) (fun ad_ h1_ h2_ e_ => RF380_0_HO_9.out ad_ h1_ h2_ (by rw [e_]; rfl)) (.int .i64 (wrap64 (x41_1 + 1))))); have n5_ := Aside0.mk ((show Kd.C (Kd.int .i64) w51 A380_1 ((rd_T30 t370 x41_1).f1).length ((rd_T30 t370 x41_1).f1) from by rw [hw]; exact Kd.C_farP (p := ⟨go48, ((rd ((rd_T30 t370 x41_1).f0) x62_3) : Int).toNat, none⟩) (by repeat (first | (with_reducible exact HR380_1.out) | (with_reducible refine Kd.C_alloc ?_ _) | (with_reducible refine Kd.C_drewN ?_ _) | (with_reducible refine Kd.C_drew ?_) | exact HR380_1.out)) (fun ad_ h1_ h2_ e_ => RF380_1_HO_9.out ad_ h1_ h2_ (by rw [e_]; rfl)) (.int .i64 (wrap64 (x41_1 + 1))))); have n6_ := Aside0.mk ((by rw [hw]; exact below_set (HB.out) GB48.out : Below w.heap.size w w51)); clear HO_9; clear HO_10; clear HO_39; clear BK381; clear HR380_0; clear HR380_1; clear HB; have HO_9 := n0_; have HO_10 := n1_; have HO_39 := n2_; have BK381 := n3_; have HR380_0 := n4_; have HR380_1 := n5_; have HB := n6_; clear n0_ n1_ n2_ n3_ n4_ n5_ n6_; clear hg hw hp_)); try go_wp2_with (first | ((with_reducible refine gate_store (t := 3) (p := 99) rfl ?_); (try (rw [drewN_self wr]; generalize hq_ : World.drewN wr _ = wr; have n0_ := Aside0.mk (Kd.R_at hq_ HO_9.out); have n1_ := Aside0.mk (Kd.R_at hq_ HO_10.out); have n2_ := Aside0.mk (Kd.S_at hq_ HO_39.out); have n3_ := Aside0.mk (blk_at hq_ BK381.out); have n4_ := Aside0.mk (Kd.C_at hq_ HR380_0.out); have n5_ := Aside0.mk (Kd.C_at hq_ HR380_1.out); have n6_ := Aside0.mk (below_at hq_ HB.out); clear hq_ HO_9 HO_10 HO_39 BK381 HR380_0 HR380_1 HB; have HO_9 := n0_; have HO_10 := n1_; have HO_39 := n2_; have BK381 := n3_; have HR380_0 := n4_; have HR380_1 := n5_; have HB := n6_; clear n0_ n1_ n2_ n3_ n4_ n5_ n6_; (try (have HP50 := Kd.R_putg HO_9.out ((rd ((rd_T30 t370 x41_1).f0) x62_3) : Int) (wrap64 (x41_1 + 1)))))); refine store_event (t := 3) (p := 99) (v := ?vo_w51) (w1 := (wr.setCell ⟨go48, ((rd ((rd_T30 t370 x41_1).f0) x62_3) : Int).toNat, none⟩ (.int .i64 (wrap64 (x41_1 + 1))))) ?hg ?ho ?hn ?hr ?_; (case ho => rfl); (case hg => rfl); (case hn => rfl); (case hr => first | (go_simp; done) | (go_simp; rfl)); intro w51 hw; have hg : wr.grownBy w51 (some go48) := (by rw [hw]; exact HP50.2); have hp_ : Kd.R (Kd.int .i64) 3 w51 w.heap.size (fun k_ => some k_ ≠ (v378 : Value).ownBlock) (.slice (some ⟨go48, 0, none⟩) x9_3.length co49) y386 := (by rw [hw, Ny386.out]; exact HP50.1); clear HP50; have n0_ := Aside0.mk (hp_); have n1_ := Aside0.mk (Kd.R_after (v := (.slice (some ⟨go48, 0, none⟩) x9_3.length co49)) (v1 := (.slice (some ⟨go48, 0, none⟩) x9_3.length co49)) (ok := (fun _ => True)) (by (with_reducible repeat (first | apply Kd.R_alloc | apply Kd.R_drewN | apply Kd.R_drew)); exact Kd.R_mono HO_10.out (fun _ hk => ⟨trivial, hk⟩)) hg (.inl rfl)); have n2_ := Aside0.mk (Kd.S_after (v := (.slice (some ⟨go48, 0, none⟩) x9_3.length co49)) (v1 := (.slice (some ⟨go48, 0, none⟩) x9_3.length co49)) (ok := (fun k_ => some k_ ≠ (v378 : Value).ownBlock ∧ k_ ≠ gb381)) (by (with_reducible repeat (first | apply Kd.S_alloc | apply Kd.S_drewN | apply Kd.S_drew)); exact Kd.S_mono HO_39.out (fun _ hk => ⟨⟨hk.2.1, hk.2.2⟩, hk.1⟩)) hg (.inl rfl)); have n3_ := Aside0.mk (blk_grown (g := gb381) (o := .cells #[.slice (some ad382) ((rd_T30 t370 x41_1).f0).length c380_0, .slice A380_1 ((rd_T30 t370 x41_1).f1).length c380_1] 30 (0, 0)) (by (with_reducible repeat (first | refine blk_drewN ?_ _ | refine blk_drew ?_ | refine blk_alloc ?_ _)); exact BK381.out) hg (Kd.R_ne HO_9.out BK381.out (by decide))); have n4_ := Aside0.mk ((show Kd.C (Kd.int .i64) w51 (some ad382) ((rd_T30 t370 x41_1).f0).length ((rd_T30 t370 x41_1).f0) from by rw [hw]; exact Kd.C_farP (p := ⟨go48, ((rd ((rd_T30 t370 x41_1).f0) x62_3) : Int).toNat, none⟩) (by repeat (first | (with_reducible exact HR380_0.out) | (with_reducible refine Kd.C_alloc ?_ _) | (with_reducible refine Kd.C_drewN ?_ _) | (with_reducible refine Kd.C_drew ?_) | exact HR380_0.out)) (fun ad_ h1_ h2_ e_ => RF380_0_HO_9.out ad_ h1_ h2_ (by rw [e_]; rfl)) (.int .i64 (wrap64 (x41_1 + 1))))); have n5_ := Aside0.mk ((show Kd.C (Kd.int .i64) w51 A380_1 ((rd_T30 t370 x41_1).f1).length ((rd_T30 t370 x41_1).f1) from by rw [hw]; exact Kd.C_farP (p := ⟨go48, ((rd ((rd_T30 t370 x41_1).f0) x62_3) : Int).toNat, none⟩) (by repeat (first | (with_reducible exact HR380_1.out) | (with_reducible refine Kd.C_alloc ?_ _) | (with_reducible refine Kd.C_drewN ?_ _) | (with_reducible refine Kd.C_drew ?_) | exact HR380_1.out)) (fun ad_ h1_ h2_ e_ => RF380_1_HO_9.out ad_ h1_ h2_ (by rw [e_]; rfl)) (.int .i64 (wrap64 (x41_1 + 1))))); have n6_ := Aside0.mk ((by rw [hw]; exact below_set (HB.out) GB48.out : Below w.heap.size w w51)); clear HO_9; clear HO_10; clear HO_39; clear BK381; clear HR380_0; clear HR380_1; clear HB; have HO_9 := n0_; have HO_10 := n1_; have HO_39 := n2_; have BK381 := n3_; have HR380_0 := n4_; have HR380_1 := n5_; have HB := n6_; clear n0_ n1_ n2_ n3_ n4_ n5_ n6_; clear hg hw hp_)))
         (first | go_roundg k3 | (refine Handed.intro k3 ?measure ?_; rotate_left; go_step; (repeat apply Exists.intro); (refine ⟨?rel, ?fr_⟩); (case fr_ => (simp only [add_plain]; rfl))))
         case measure => have := HK1.out; have := HJ19.out; have := HK3.out; omega
         case rel => exact ⟨(y386), (wrap64 (x62_3 + 1)), (by first | rfl | (simp; done) | (simp [*]; done)), H', ⟨by have := HK1.out; have := HJ19.out; have := HK3.out; omega⟩, ⟨by (with_reducible repeat (first | apply Kd.R_alloc | apply Kd.R_drewN | apply Kd.R_drew)); exact HO_9.out⟩, ⟨by (with_reducible repeat (first | apply Kd.R_alloc | apply Kd.R_drewN | apply Kd.R_drew)); exact Kd.R_mono HO_10.out (fun _ hk => hk.2)⟩, ⟨by (with_reducible repeat (first | apply Kd.S_alloc | apply Kd.S_drewN | apply Kd.S_drew)); exact Kd.S_mono HO_39.out (fun _ hk => ⟨hk.2, ⟨hk.1.1, hk.1.2⟩⟩)⟩, ⟨by (with_reducible repeat (first | refine blk_drewN ?_ _ | refine blk_drew ?_ | refine blk_alloc ?_ _)); exact BK381.out⟩, ⟨by repeat (first | (with_reducible exact HR380_0.out) | (with_reducible refine Kd.C_alloc ?_ _) | (with_reducible refine Kd.C_drewN ?_ _) | (with_reducible refine Kd.C_drew ?_) | exact HR380_0.out)⟩, ⟨by repeat (first | (with_reducible exact HR380_1.out) | (with_reducible refine Kd.C_alloc ?_ _) | (with_reducible refine Kd.C_drewN ?_ _) | (with_reducible refine Kd.C_drew ?_) | exact HR380_1.out)⟩, ⟨by repeat (first | (with_reducible first | exact HB.out | apply below_alloc | apply pw_below_drewN | apply below_drew1 | refine below_set ?_ GE381.out) | exact HB.out)⟩⟩
        rw [if_pos c36] at H
        have c36b0 : decide (0 < x62_3) = true := decide_eq_true c36
        clear c36
        obtain ⟨ji37, hji37⟩ : ∃ j_ : Int, (wrap64 (x62_3 - 1)) = j_ := ⟨_, rfl⟩
        replace H : (if 0 ≤ (ji37) then (if (ji37) < (((rd_T30 t370 x41_1).f0).length : Int) then (if (rd ((rd_T30 t370 x41_1).f0) (ji37)) ≥ (rd ((rd_T30 t370 x41_1).f0) x62_3) then (some false) else (orrerylaw21_OrderParts.l1 k3 a0 l1 l2 (x9_3.set ((rd ((rd_T30 t370 x41_1).f0) x62_3) : Int).toNat (wrap64 (x41_1 + 1))) x10_1 x41_1 t370 (t370.length : Int) x41_1 ((rd_T30 t370 x41_1).f0) (((rd_T30 t370 x41_1).f0).length : Int) (wrap64 (x62_3 + 1)) ((rd_T30 t370 x41_1).f0) ((rd_T30 t370 x41_1).f1))) else (none)) else (none)) = some r := by first | (rw [hji37] at H; exact H) | (simp only [hji37] at H ⊢; exact H)
        have hji37w : (IntKind.i64.wrap (x62_3 - 1)) = ji37 := (i64_w _).trans hji37
        by_cases c38 : 0 ≤ (ji37)
        case neg => rw [if_neg c38] at H; exact absurd H (by simp)
        rw [if_pos c38] at H
        have c38b0 : decide (0 ≤ (ji37)) = true := decide_eq_true c38
        clear c38
        by_cases c39 : (ji37) < (((rd_T30 t370 x41_1).f0).length : Int)
        case neg => rw [if_neg c39] at H; exact absurd H (by simp)
        rw [if_pos c39] at H
        have c39b0 : decide ((ji37) < (((rd_T30 t370 x41_1).f0).length : Int)) = true := decide_eq_true c39
        clear c39
        by_cases c40 : (rd ((rd_T30 t370 x41_1).f0) (ji37)) ≥ (rd ((rd_T30 t370 x41_1).f0) x62_3)
        case pos =>
         rw [if_pos c40] at H
         have c40b0 : decide ((rd ((rd_T30 t370 x41_1).f0) x62_3) ≤ (rd ((rd_T30 t370 x41_1).f0) (ji37))) = true := decide_eq_true c40
         clear c40
         obtain rfl := Option.some.inj H
         have p382 : 0 ≤ (x62_3 : Int) := of_decide_eq_true (by first | (with_reducible assumption) | assumption)
         have q382 : x62_3 < (((rd_T30 t370 x41_1).f0).length : Int) := of_decide_eq_true (by first | (with_reducible assumption) | assumption)
         obtain ⟨ad382, e382, hx382_0⟩ := Kd.at_int (by repeat (first | (with_reducible exact HR380_0.out) | (with_reducible refine Kd.C_alloc ?_ _) | (with_reducible refine Kd.C_drewN ?_ _) | (with_reducible refine Kd.C_drew ?_) | exact HR380_0.out)) x62_3 p382 q382
         cases e382
         replace p382 := eq_true p382
         replace q382 := eq_true q382
         obtain ⟨Ao41, co41, eo41⟩ := Kd.R_slice HO_9.out
         subst eo41
         have p383 : 0 ≤ ((rd ((rd_T30 t370 x41_1).f0) x62_3) : Int) := of_decide_eq_true (by first | (with_reducible assumption) | assumption)
         have q383 : (rd ((rd_T30 t370 x41_1).f0) x62_3) < (x9_3.length : Int) := of_decide_eq_true (by first | (with_reducible assumption) | assumption)
         obtain ⟨ad383, e383, hx383_0⟩ := Kd.at_int (Kd.R_reads' HO_9.out).2.2 (rd ((rd_T30 t370 x41_1).f0) x62_3) p383 q383
         cases e383
         replace p383 := eq_true p383
         replace q383 := eq_true q383
         have hcz42_0 : wr.cell? ⟨gb381, 0, none⟩ = some (.slice (some ad382) ((rd_T30 t370 x41_1).f0).length c380_0) := (blk_cell BK381.out 0).trans rfl
         have hcz42_1 : wr.cell? ⟨gb381, 1, none⟩ = some (.slice A380_1 ((rd_T30 t370 x41_1).f1).length c380_1) := (blk_cell BK381.out 1).trans rfl
         have hfz42_0 := blk_frozen BK381.out 0
         have hfz42_1 := blk_frozen BK381.out 1
         have p384 : 0 ≤ ((ji37) : Int) := of_decide_eq_true (by first | (with_reducible assumption) | assumption)
         have q384 : (ji37) < (((rd_T30 t370 x41_1).f0).length : Int) := of_decide_eq_true (by first | (with_reducible assumption) | assumption)
         obtain ⟨ad384, e384, hx384_0⟩ := Kd.at_int (by repeat (first | (with_reducible exact HR380_0.out) | (with_reducible refine Kd.C_alloc ?_ _) | (with_reducible refine Kd.C_drewN ?_ _) | (with_reducible refine Kd.C_drew ?_) | exact HR380_0.out)) (ji37) p384 q384
         obtain rfl : ad382 = ad384 := (by injection e384)
         replace p384 := eq_true p384
         replace q384 := eq_true q384
         go_wp2
         repeat (go_quiet (fail); try go_wp2)
         go_ret
         exact ⟨by first | rfl | (simp [errW_none, errW_some] <;> rfl) | (simp only [← hji37]; first | rfl | (simp [errW_none, errW_some] <;> rfl)) | (simp [*, errW_none, errW_some] <;> rfl), by repeat (first | (with_reducible first | exact HB.out | apply below_alloc | apply pw_below_drewN | apply below_drew1 | refine below_set ?_ GE381.out) | exact HB.out)⟩
        rw [if_neg c40] at H
        have c40b0 : decide ((rd ((rd_T30 t370 x41_1).f0) x62_3) ≤ (rd ((rd_T30 t370 x41_1).f0) (ji37))) = false := decide_eq_false c40
        clear c40
        obtain ⟨y385, hy385⟩ : ∃ y_ : List Int, y_ = (x9_3.set ((rd ((rd_T30 t370 x41_1).f0) x62_3) : Int).toNat (wrap64 (x41_1 + 1))) := ⟨_, rfl⟩
        replace H : (orrerylaw21_OrderParts.l1 k3 a0 l1 l2 y385 x10_1 x41_1 t370 (t370.length : Int) x41_1 ((rd_T30 t370 x41_1).f0) (((rd_T30 t370 x41_1).f0).length : Int) (wrap64 (x62_3 + 1)) ((rd_T30 t370 x41_1).f0) ((rd_T30 t370 x41_1).f1)) = some r := by first | (rw [hy385]; with_reducible exact H) | (have H2_ := (Option.bind_some _ _).symm.trans H; rw [hy385]; with_reducible exact H2_) | (have H2_ := (Option.bind_some _ _).symm.trans H; with_reducible exact H2_) | with_reducible exact H | (rw [hy385]; exact H) | exact H
        have Ny385 := Aside0.mk hy385
        clear hy385
        have H' := Aside0.mk H
        clear H
        have p382 : 0 ≤ (x62_3 : Int) := of_decide_eq_true (by first | (with_reducible assumption) | assumption)
        have q382 : x62_3 < (((rd_T30 t370 x41_1).f0).length : Int) := of_decide_eq_true (by first | (with_reducible assumption) | assumption)
        obtain ⟨ad382, e382, hx382_0⟩ := Kd.at_int (by repeat (first | (with_reducible exact HR380_0.out) | (with_reducible refine Kd.C_alloc ?_ _) | (with_reducible refine Kd.C_drewN ?_ _) | (with_reducible refine Kd.C_drew ?_) | exact HR380_0.out)) x62_3 p382 q382
        cases e382
        replace p382 := eq_true p382
        replace q382 := eq_true q382
        obtain ⟨Ao44, co44, eo44⟩ := Kd.R_slice HO_9.out
        subst eo44
        have p383 : 0 ≤ ((rd ((rd_T30 t370 x41_1).f0) x62_3) : Int) := of_decide_eq_true (by first | (with_reducible assumption) | assumption)
        have q383 : (rd ((rd_T30 t370 x41_1).f0) x62_3) < (x9_3.length : Int) := of_decide_eq_true (by first | (with_reducible assumption) | assumption)
        obtain ⟨ad383, e383, hx383_0⟩ := Kd.at_int (Kd.R_reads' HO_9.out).2.2 (rd ((rd_T30 t370 x41_1).f0) x62_3) p383 q383
        cases e383
        replace p383 := eq_true p383
        replace q383 := eq_true q383
        have hcz45_0 : wr.cell? ⟨gb381, 0, none⟩ = some (.slice (some ad382) ((rd_T30 t370 x41_1).f0).length c380_0) := (blk_cell BK381.out 0).trans rfl
        have hcz45_1 : wr.cell? ⟨gb381, 1, none⟩ = some (.slice A380_1 ((rd_T30 t370 x41_1).f1).length c380_1) := (blk_cell BK381.out 1).trans rfl
        have hfz45_0 := blk_frozen BK381.out 0
        have hfz45_1 := blk_frozen BK381.out 1
        have p384 : 0 ≤ ((ji37) : Int) := of_decide_eq_true (by first | (with_reducible assumption) | assumption)
        have q384 : (ji37) < (((rd_T30 t370 x41_1).f0).length : Int) := of_decide_eq_true (by first | (with_reducible assumption) | assumption)
        obtain ⟨ad384, e384, hx384_0⟩ := Kd.at_int (by repeat (first | (with_reducible exact HR380_0.out) | (with_reducible refine Kd.C_alloc ?_ _) | (with_reducible refine Kd.C_drewN ?_ _) | (with_reducible refine Kd.C_drew ?_) | exact HR380_0.out)) (ji37) p384 q384
        obtain rfl : ad382 = ad384 := (by injection e384)
        replace p384 := eq_true p384
        replace q384 := eq_true q384
        have p43 : 0 ≤ ((rd ((rd_T30 t370 x41_1).f0) x62_3) : Int) := of_decide_eq_true (by first | (with_reducible assumption) | assumption)
        have q43 : ((rd ((rd_T30 t370 x41_1).f0) x62_3) : Int) < ((x9_3.length : Int) : Int) := of_decide_eq_true (by first | (with_reducible assumption) | assumption)
        obtain ⟨go43, co43, eo43, gb43, gl43, cl43, HG43⟩ := Kd.R_form HO_9.out (by omega)
        (first | cases eo43 | (injection eo43 with ea_ en_ ec_; (first | subst ea_ | (injection ea_ with ea_; subst ea_)); subst ec_; clear en_))
        have GB43 := Aside0.mk gb43
        have GG43 := Aside0.mk HG43
        clear gb43 gl43 HG43
        (first | simp only [add_plain] at hx383_0 | skip)
        obtain ⟨hx43_0, hf43_0⟩ := Kd.R_celln 0 HO_9.out ((rd ((rd_T30 t370 x41_1).f0) x62_3) : Int) p43 q43
        replace p43 := eq_true p43
        replace q43 := eq_true q43
        have HP46 := Kd.R_putg HO_9.out ((rd ((rd_T30 t370 x41_1).f0) x62_3) : Int) (wrap64 (x41_1 + 1))
        go_wp2_with (first | ((with_reducible refine gate_store (t := 3) (p := 99) rfl ?_); (try (rw [drewN_self wr]; generalize hq_ : World.drewN wr _ = wr; have n0_ := Aside0.mk (Kd.R_at hq_ HO_9.out); have n1_ := Aside0.mk (Kd.R_at hq_ HO_10.out); have n2_ := Aside0.mk (Kd.S_at hq_ HO_39.out); have n3_ := Aside0.mk (blk_at hq_ BK381.out); have n4_ := Aside0.mk (Kd.C_at hq_ HR380_0.out); have n5_ := Aside0.mk (Kd.C_at hq_ HR380_1.out); have n6_ := Aside0.mk (below_at hq_ HB.out); clear hq_ HO_9 HO_10 HO_39 BK381 HR380_0 HR380_1 HB; have HO_9 := n0_; have HO_10 := n1_; have HO_39 := n2_; have BK381 := n3_; have HR380_0 := n4_; have HR380_1 := n5_; have HB := n6_; clear n0_ n1_ n2_ n3_ n4_ n5_ n6_; (try (have HP46 := Kd.R_putg HO_9.out ((rd ((rd_T30 t370 x41_1).f0) x62_3) : Int) (wrap64 (x41_1 + 1)))))); refine store_event (t := 3) (p := 99) (v := ?vo_w47) (w1 := (wr.setCell ⟨go43, ((rd ((rd_T30 t370 x41_1).f0) x62_3) : Int).toNat, none⟩ (.int .i64 (wrap64 (x41_1 + 1))))) ?hg ?ho ?hn ?hr ?_; (case ho => rfl); (case hg => rfl); (case hn => rfl); (case hr => first | (go_simp; done) | (go_simp; rfl)); intro w47 hw; have hg : wr.grownBy w47 (some go43) := (by rw [hw]; exact HP46.2); have hp_ : Kd.R (Kd.int .i64) 3 w47 w.heap.size (fun k_ => some k_ ≠ (v378 : Value).ownBlock) (.slice (some ⟨go43, 0, none⟩) x9_3.length co44) y385 := (by rw [hw, Ny385.out]; exact HP46.1); clear HP46; have n0_ := Aside0.mk (hp_); have n1_ := Aside0.mk (Kd.R_after (v := (.slice (some ⟨go43, 0, none⟩) x9_3.length co44)) (v1 := (.slice (some ⟨go43, 0, none⟩) x9_3.length co44)) (ok := (fun _ => True)) (by (with_reducible repeat (first | apply Kd.R_alloc | apply Kd.R_drewN | apply Kd.R_drew)); exact Kd.R_mono HO_10.out (fun _ hk => ⟨trivial, hk⟩)) hg (.inl rfl)); have n2_ := Aside0.mk (Kd.S_after (v := (.slice (some ⟨go43, 0, none⟩) x9_3.length co44)) (v1 := (.slice (some ⟨go43, 0, none⟩) x9_3.length co44)) (ok := (fun k_ => some k_ ≠ (v378 : Value).ownBlock ∧ k_ ≠ gb381)) (by (with_reducible repeat (first | apply Kd.S_alloc | apply Kd.S_drewN | apply Kd.S_drew)); exact Kd.S_mono HO_39.out (fun _ hk => ⟨⟨hk.2.1, hk.2.2⟩, hk.1⟩)) hg (.inl rfl)); have n3_ := Aside0.mk (blk_grown (g := gb381) (o := .cells #[.slice (some ad382) ((rd_T30 t370 x41_1).f0).length c380_0, .slice A380_1 ((rd_T30 t370 x41_1).f1).length c380_1] 30 (0, 0)) (by (with_reducible repeat (first | refine blk_drewN ?_ _ | refine blk_drew ?_ | refine blk_alloc ?_ _)); exact BK381.out) hg (Kd.R_ne HO_9.out BK381.out (by decide))); have n4_ := Aside0.mk ((show Kd.C (Kd.int .i64) w47 (some ad382) ((rd_T30 t370 x41_1).f0).length ((rd_T30 t370 x41_1).f0) from by rw [hw]; exact Kd.C_farP (p := ⟨go43, ((rd ((rd_T30 t370 x41_1).f0) x62_3) : Int).toNat, none⟩) (by repeat (first | (with_reducible exact HR380_0.out) | (with_reducible refine Kd.C_alloc ?_ _) | (with_reducible refine Kd.C_drewN ?_ _) | (with_reducible refine Kd.C_drew ?_) | exact HR380_0.out)) (fun ad_ h1_ h2_ e_ => RF380_0_HO_9.out ad_ h1_ h2_ (by rw [e_]; rfl)) (.int .i64 (wrap64 (x41_1 + 1))))); have n5_ := Aside0.mk ((show Kd.C (Kd.int .i64) w47 A380_1 ((rd_T30 t370 x41_1).f1).length ((rd_T30 t370 x41_1).f1) from by rw [hw]; exact Kd.C_farP (p := ⟨go43, ((rd ((rd_T30 t370 x41_1).f0) x62_3) : Int).toNat, none⟩) (by repeat (first | (with_reducible exact HR380_1.out) | (with_reducible refine Kd.C_alloc ?_ _) | (with_reducible refine Kd.C_drewN ?_ _) | (with_reducible refine Kd.C_drew ?_) | exact HR380_1.out)) (fun ad_ h1_ h2_ e_ => RF380_1_HO_9.out ad_ h1_ h2_ (by rw [e_]; rfl)) (.int .i64 (wrap64 (x41_1 + 1))))); have n6_ := Aside0.mk ((by rw [hw]; exact below_set (HB.out) GB43.out : Below w.heap.size w w47)); clear HO_9; clear HO_10; clear HO_39; clear BK381; clear HR380_0; clear HR380_1; clear HB; have HO_9 := n0_; have HO_10 := n1_; have HO_39 := n2_; have BK381 := n3_; have HR380_0 := n4_; have HR380_1 := n5_; have HB := n6_; clear n0_ n1_ n2_ n3_ n4_ n5_ n6_; clear hg hw hp_))
        repeat (go_quiet (first | ((with_reducible refine gate_store (t := 3) (p := 99) rfl ?_); (try (rw [drewN_self wr]; generalize hq_ : World.drewN wr _ = wr; have n0_ := Aside0.mk (Kd.R_at hq_ HO_9.out); have n1_ := Aside0.mk (Kd.R_at hq_ HO_10.out); have n2_ := Aside0.mk (Kd.S_at hq_ HO_39.out); have n3_ := Aside0.mk (blk_at hq_ BK381.out); have n4_ := Aside0.mk (Kd.C_at hq_ HR380_0.out); have n5_ := Aside0.mk (Kd.C_at hq_ HR380_1.out); have n6_ := Aside0.mk (below_at hq_ HB.out); clear hq_ HO_9 HO_10 HO_39 BK381 HR380_0 HR380_1 HB; have HO_9 := n0_; have HO_10 := n1_; have HO_39 := n2_; have BK381 := n3_; have HR380_0 := n4_; have HR380_1 := n5_; have HB := n6_; clear n0_ n1_ n2_ n3_ n4_ n5_ n6_; (try (have HP46 := Kd.R_putg HO_9.out ((rd ((rd_T30 t370 x41_1).f0) x62_3) : Int) (wrap64 (x41_1 + 1)))))); refine store_event (t := 3) (p := 99) (v := ?vo_w47) (w1 := (wr.setCell ⟨go43, ((rd ((rd_T30 t370 x41_1).f0) x62_3) : Int).toNat, none⟩ (.int .i64 (wrap64 (x41_1 + 1))))) ?hg ?ho ?hn ?hr ?_; (case ho => rfl); (case hg => rfl); (case hn => rfl); (case hr => first | (go_simp; done) | (go_simp; rfl)); intro w47 hw; have hg : wr.grownBy w47 (some go43) := (by rw [hw]; exact HP46.2); have hp_ : Kd.R (Kd.int .i64) 3 w47 w.heap.size (fun k_ => some k_ ≠ (v378 : Value).ownBlock) (.slice (some ⟨go43, 0, none⟩) x9_3.length co44) y385 := (by rw [hw, Ny385.out]; exact HP46.1); clear HP46; have n0_ := Aside0.mk (hp_); have n1_ := Aside0.mk (Kd.R_after (v := (.slice (some ⟨go43, 0, none⟩) x9_3.length co44)) (v1 := (.slice (some ⟨go43, 0, none⟩) x9_3.length co44)) (ok := (fun _ => True)) (by (with_reducible repeat (first | apply Kd.R_alloc | apply Kd.R_drewN | apply Kd.R_drew)); exact Kd.R_mono HO_10.out (fun _ hk => ⟨trivial, hk⟩)) hg (.inl rfl)); have n2_ := Aside0.mk (Kd.S_after (v := (.slice (some ⟨go43, 0, none⟩) x9_3.length co44)) (v1 := (.slice (some ⟨go43, 0, none⟩) x9_3.length co44)) (ok := (fun k_ => some k_ ≠ (v378 : Value).ownBlock ∧ k_ ≠ gb381)) (by (with_reducible repeat (first | apply Kd.S_alloc | apply Kd.S_drewN | apply Kd.S_drew)); exact Kd.S_mono HO_39.out (fun _ hk => ⟨⟨hk.2.1, hk.2.2⟩, hk.1⟩)) hg (.inl rfl)); have n3_ := Aside0.mk (blk_grown (g := gb381) (o := .cells #[.slice (some ad382) ((rd_T30 t370 x41_1).f0).length c380_0, .slice A380_1 ((rd_T30 t370 x41_1).f1).length c380_1] 30 (0, 0)) (by (with_reducible repeat (first | refine blk_drewN ?_ _ | refine blk_drew ?_ | refine blk_alloc ?_ _)); exact BK381.out) hg (Kd.R_ne HO_9.out BK381.out (by decide))); have n4_ := Aside0.mk ((show Kd.C (Kd.int .i64) w47 (some ad382) ((rd_T30 t370 x41_1).f0).length ((rd_T30 t370 x41_1).f0) from by rw [hw]; exact Kd.C_farP (p := ⟨go43, ((rd ((rd_T30 t370 x41_1).f0) x62_3) : Int).toNat, none⟩) (by repeat (first | (with_reducible exact HR380_0.out) | (with_reducible refine Kd.C_alloc ?_ _) | (with_reducible refine Kd.C_drewN ?_ _) | (with_reducible refine Kd.C_drew ?_) | exact HR380_0.out)) (fun ad_ h1_ h2_ e_ => RF380_0_HO_9.out ad_ h1_ h2_ (by rw [e_]; rfl)) (.int .i64 (wrap64 (x41_1 + 1))))); have n5_ := Aside0.mk ((show Kd.C (Kd.int .i64) w47 A380_1 ((rd_T30 t370 x41_1).f1).length ((rd_T30 t370 x41_1).f1) from by rw [hw]; exact Kd.C_farP (p := ⟨go43, ((rd ((rd_T30 t370 x41_1).f0) x62_3) : Int).toNat, none⟩) (by repeat (first | (with_reducible exact HR380_1.out) | (with_reducible refine Kd.C_alloc ?_ _) | (with_reducible refine Kd.C_drewN ?_ _) | (with_reducible refine Kd.C_drew ?_) | exact HR380_1.out)) (fun ad_ h1_ h2_ e_ => RF380_1_HO_9.out ad_ h1_ h2_ (by rw [e_]; rfl)) (.int .i64 (wrap64 (x41_1 + 1))))); have n6_ := Aside0.mk ((by rw [hw]; exact below_set (HB.out) GB43.out : Below w.heap.size w w47)); clear HO_9; clear HO_10; clear HO_39; clear BK381; clear HR380_0; clear HR380_1; clear HB; have HO_9 := n0_; have HO_10 := n1_; have HO_39 := n2_; have BK381 := n3_; have HR380_0 := n4_; have HR380_1 := n5_; have HB := n6_; clear n0_ n1_ n2_ n3_ n4_ n5_ n6_; clear hg hw hp_)); try go_wp2_with (first | ((with_reducible refine gate_store (t := 3) (p := 99) rfl ?_); (try (rw [drewN_self wr]; generalize hq_ : World.drewN wr _ = wr; have n0_ := Aside0.mk (Kd.R_at hq_ HO_9.out); have n1_ := Aside0.mk (Kd.R_at hq_ HO_10.out); have n2_ := Aside0.mk (Kd.S_at hq_ HO_39.out); have n3_ := Aside0.mk (blk_at hq_ BK381.out); have n4_ := Aside0.mk (Kd.C_at hq_ HR380_0.out); have n5_ := Aside0.mk (Kd.C_at hq_ HR380_1.out); have n6_ := Aside0.mk (below_at hq_ HB.out); clear hq_ HO_9 HO_10 HO_39 BK381 HR380_0 HR380_1 HB; have HO_9 := n0_; have HO_10 := n1_; have HO_39 := n2_; have BK381 := n3_; have HR380_0 := n4_; have HR380_1 := n5_; have HB := n6_; clear n0_ n1_ n2_ n3_ n4_ n5_ n6_; (try (have HP46 := Kd.R_putg HO_9.out ((rd ((rd_T30 t370 x41_1).f0) x62_3) : Int) (wrap64 (x41_1 + 1)))))); refine store_event (t := 3) (p := 99) (v := ?vo_w47) (w1 := (wr.setCell ⟨go43, ((rd ((rd_T30 t370 x41_1).f0) x62_3) : Int).toNat, none⟩ (.int .i64 (wrap64 (x41_1 + 1))))) ?hg ?ho ?hn ?hr ?_; (case ho => rfl); (case hg => rfl); (case hn => rfl); (case hr => first | (go_simp; done) | (go_simp; rfl)); intro w47 hw; have hg : wr.grownBy w47 (some go43) := (by rw [hw]; exact HP46.2); have hp_ : Kd.R (Kd.int .i64) 3 w47 w.heap.size (fun k_ => some k_ ≠ (v378 : Value).ownBlock) (.slice (some ⟨go43, 0, none⟩) x9_3.length co44) y385 := (by rw [hw, Ny385.out]; exact HP46.1); clear HP46; have n0_ := Aside0.mk (hp_); have n1_ := Aside0.mk (Kd.R_after (v := (.slice (some ⟨go43, 0, none⟩) x9_3.length co44)) (v1 := (.slice (some ⟨go43, 0, none⟩) x9_3.length co44)) (ok := (fun _ => True)) (by (with_reducible repeat (first | apply Kd.R_alloc | apply Kd.R_drewN | apply Kd.R_drew)); exact Kd.R_mono HO_10.out (fun _ hk => ⟨trivial, hk⟩)) hg (.inl rfl)); have n2_ := Aside0.mk (Kd.S_after (v := (.slice (some ⟨go43, 0, none⟩) x9_3.length co44)) (v1 := (.slice (some ⟨go43, 0, none⟩) x9_3.length co44)) (ok := (fun k_ => some k_ ≠ (v378 : Value).ownBlock ∧ k_ ≠ gb381)) (by (with_reducible repeat (first | apply Kd.S_alloc | apply Kd.S_drewN | apply Kd.S_drew)); exact Kd.S_mono HO_39.out (fun _ hk => ⟨⟨hk.2.1, hk.2.2⟩, hk.1⟩)) hg (.inl rfl)); have n3_ := Aside0.mk (blk_grown (g := gb381) (o := .cells #[.slice (some ad382) ((rd_T30 t370 x41_1).f0).length c380_0, .slice A380_1 ((rd_T30 t370 x41_1).f1).length c380_1] 30 (0, 0)) (by (with_reducible repeat (first | refine blk_drewN ?_ _ | refine blk_drew ?_ | refine blk_alloc ?_ _)); exact BK381.out) hg (Kd.R_ne HO_9.out BK381.out (by decide))); have n4_ := Aside0.mk ((show Kd.C (Kd.int .i64) w47 (some ad382) ((rd_T30 t370 x41_1).f0).length ((rd_T30 t370 x41_1).f0) from by rw [hw]; exact Kd.C_farP (p := ⟨go43, ((rd ((rd_T30 t370 x41_1).f0) x62_3) : Int).toNat, none⟩) (by repeat (first | (with_reducible exact HR380_0.out) | (with_reducible refine Kd.C_alloc ?_ _) | (with_reducible refine Kd.C_drewN ?_ _) | (with_reducible refine Kd.C_drew ?_) | exact HR380_0.out)) (fun ad_ h1_ h2_ e_ => RF380_0_HO_9.out ad_ h1_ h2_ (by rw [e_]; rfl)) (.int .i64 (wrap64 (x41_1 + 1))))); have n5_ := Aside0.mk ((show Kd.C (Kd.int .i64) w47 A380_1 ((rd_T30 t370 x41_1).f1).length ((rd_T30 t370 x41_1).f1) from by rw [hw]; exact Kd.C_farP (p := ⟨go43, ((rd ((rd_T30 t370 x41_1).f0) x62_3) : Int).toNat, none⟩) (by repeat (first | (with_reducible exact HR380_1.out) | (with_reducible refine Kd.C_alloc ?_ _) | (with_reducible refine Kd.C_drewN ?_ _) | (with_reducible refine Kd.C_drew ?_) | exact HR380_1.out)) (fun ad_ h1_ h2_ e_ => RF380_1_HO_9.out ad_ h1_ h2_ (by rw [e_]; rfl)) (.int .i64 (wrap64 (x41_1 + 1))))); have n6_ := Aside0.mk ((by rw [hw]; exact below_set (HB.out) GB43.out : Below w.heap.size w w47)); clear HO_9; clear HO_10; clear HO_39; clear BK381; clear HR380_0; clear HR380_1; clear HB; have HO_9 := n0_; have HO_10 := n1_; have HO_39 := n2_; have BK381 := n3_; have HR380_0 := n4_; have HR380_1 := n5_; have HB := n6_; clear n0_ n1_ n2_ n3_ n4_ n5_ n6_; clear hg hw hp_)))
        (first | go_roundg k3 | (refine Handed.intro k3 ?measure ?_; rotate_left; go_step; (repeat apply Exists.intro); (refine ⟨?rel, ?fr_⟩); (case fr_ => (simp only [add_plain]; rfl))))
        case measure => have := HK1.out; have := HJ19.out; have := HK3.out; omega
        case rel => exact ⟨(y385), (wrap64 (x62_3 + 1)), (by first | rfl | (simp; done) | (simp [*]; done)), H', ⟨by have := HK1.out; have := HJ19.out; have := HK3.out; omega⟩, ⟨by (with_reducible repeat (first | apply Kd.R_alloc | apply Kd.R_drewN | apply Kd.R_drew)); exact HO_9.out⟩, ⟨by (with_reducible repeat (first | apply Kd.R_alloc | apply Kd.R_drewN | apply Kd.R_drew)); exact Kd.R_mono HO_10.out (fun _ hk => hk.2)⟩, ⟨by (with_reducible repeat (first | apply Kd.S_alloc | apply Kd.S_drewN | apply Kd.S_drew)); exact Kd.S_mono HO_39.out (fun _ hk => ⟨hk.2, ⟨hk.1.1, hk.1.2⟩⟩)⟩, ⟨by (with_reducible repeat (first | refine blk_drewN ?_ _ | refine blk_drew ?_ | refine blk_alloc ?_ _)); exact BK381.out⟩, ⟨by repeat (first | (with_reducible exact HR380_0.out) | (with_reducible refine Kd.C_alloc ?_ _) | (with_reducible refine Kd.C_drewN ?_ _) | (with_reducible refine Kd.C_drew ?_) | exact HR380_0.out)⟩, ⟨by repeat (first | (with_reducible exact HR380_1.out) | (with_reducible refine Kd.C_alloc ?_ _) | (with_reducible refine Kd.C_drewN ?_ _) | (with_reducible refine Kd.C_drew ?_) | exact HR380_1.out)⟩, ⟨by repeat (first | (with_reducible first | exact HB.out | apply below_alloc | apply pw_below_drewN | apply below_drew1 | refine below_set ?_ GE381.out) | exact HB.out)⟩⟩
       rw [if_neg c28] at H
       have c28b0 : decide (x62_3 < (((rd_T30 t370 x41_1).f0).length : Int)) = false := decide_eq_false c28
       clear c28
       have H' := Aside0.mk H
       clear H
       have hcz53_0 : wr.cell? ⟨gb381, 0, none⟩ = some (.slice A380_0 ((rd_T30 t370 x41_1).f0).length c380_0) := (blk_cell BK381.out 0).trans rfl
       have hcz53_1 : wr.cell? ⟨gb381, 1, none⟩ = some (.slice A380_1 ((rd_T30 t370 x41_1).f1).length c380_1) := (blk_cell BK381.out 1).trans rfl
       have hfz53_0 := blk_frozen BK381.out 0
       have hfz53_1 := blk_frozen BK381.out 1
       go_wp2
       repeat (go_quiet (fail); try go_wp2)
       go_loopg [104] k3 (fun kq v104 w' => ∃ (x10_4 : List Int) (x104_4 : Int), v104 = .int .i64 x104_4 ∧ Aside0 (orrerylaw21_OrderParts.l2 kq a0 l1 l2 x9_3 x10_4 x41_1 t370 (t370.length : Int) x41_1 ((rd_T30 t370 x41_1).f1) (((rd_T30 t370 x41_1).f1).length : Int) x104_4 ((rd_T30 t370 x41_1).f0) ((rd_T30 t370 x41_1).f1) = some r) ∧ Aside0 (kq ≤ k3) ∧ Aside0 (Kd.R (Kd.int .i64) 3 w' w.heap.size (fun k_ => some k_ ≠ (v378 : Value).ownBlock) v375 x9_3) ∧ Aside0 (Kd.R (Kd.int .i64) 3 w' w.heap.size (fun k_ => some k_ ≠ (v375 : Value).ownBlock) v378 x10_4) ∧ Aside0 (Kd.S k30 30 w' w.heap.size (fun k_ => some k_ ≠ (v375 : Value).ownBlock ∧ some k_ ≠ (v378 : Value).ownBlock ∧ k_ ≠ gb381) (.slice (some ad380) t370.length co16) t370) ∧ Aside0 (w'.heap[gb381]? = some (.cells #[(.slice A380_0 ((rd_T30 t370 x41_1).f0).length c380_0), (.slice A380_1 ((rd_T30 t370 x41_1).f1).length c380_1)] 30 (0, 0))) ∧ Aside0 (Kd.C (Kd.int .i64) w' A380_0 ((rd_T30 t370 x41_1).f0).length ((rd_T30 t370 x41_1).f0)) ∧ Aside0 (Kd.C (Kd.int .i64) w' A380_1 ((rd_T30 t370 x41_1).f1).length ((rd_T30 t370 x41_1).f1)) ∧ Aside0 (Below w.heap.size w w'))
       case atStart => exact ⟨(x10_1), (0), (by first | rfl | (simp; done) | (simp [*]; done)), H', ⟨Nat.le_refl _⟩, ⟨by (with_reducible repeat (first | apply Kd.R_alloc | apply Kd.R_drewN | apply Kd.R_drew)); exact HO_9.out⟩, ⟨by (with_reducible repeat (first | apply Kd.R_alloc | apply Kd.R_drewN | apply Kd.R_drew)); exact HO_10.out⟩, ⟨by (with_reducible repeat (first | apply Kd.S_alloc | apply Kd.S_drewN | apply Kd.S_drew)); exact HO_39.out⟩, ⟨by (with_reducible repeat (first | refine blk_drewN ?_ _ | refine blk_drew ?_ | refine blk_alloc ?_ _)); exact BK381.out⟩, ⟨by repeat (first | (with_reducible exact HR380_0.out) | (with_reducible refine Kd.C_alloc ?_ _) | (with_reducible refine Kd.C_drewN ?_ _) | (with_reducible refine Kd.C_drew ?_) | exact HR380_0.out)⟩, ⟨by repeat (first | (with_reducible exact HR380_1.out) | (with_reducible refine Kd.C_alloc ?_ _) | (with_reducible refine Kd.C_drewN ?_ _) | (with_reducible refine Kd.C_drew ?_) | exact HR380_1.out)⟩, ⟨by repeat (first | (with_reducible first | exact HB.out | apply below_alloc | apply pw_below_drewN | apply below_drew1 | refine below_set ?_ GE381.out) | exact HB.out)⟩⟩
       case round =>
        clear H'
        try clear c1
        try clear c2
        try clear p2
        try clear c3
        try clear p3
        try clear q3
        try clear hx3
        try clear c4
        try clear p4
        try clear q4
        try clear hx4
        try clear hf4
        try clear c5
        try clear p6
        try clear c7
        try clear c7b0
        try clear c7b1
        try clear c8
        try clear c8b0
        try clear c8b1
        try clear c9
        try clear c9b0
        try clear c9b1
        try clear c17
        try clear c17b0
        try clear c18
        try clear c18b0
        try clear c19
        try clear c19b0
        try clear c23
        try clear c23b0
        try clear c23b1
        try clear c23b2
        try clear c26
        try clear c28
        try clear c28b0
        try clear c29
        try clear c29b0
        try clear c30
        try clear c30b0
        try clear c31
        try clear c31b0
        try clear c32
        try clear c32b0
        try clear c33
        try clear c33b0
        try clear c34
        try clear c34b0
        try clear c35
        try clear c35b0
        try clear c35b1
        try clear c36
        try clear c36b0
        try clear c38
        try clear c38b0
        try clear p38
        try clear q38
        try clear hx38
        try clear c39
        try clear c39b0
        try clear c40
        try clear c40b0
        try clear p43
        try clear q43
        try clear hx43
        try clear hf43
        try clear p48
        try clear q48
        try clear hx48
        try clear hf48
        try clear hcz22_0
        try clear hcz22_1
        try clear hcz24_0
        try clear hcz24_1
        try clear hcz25_0
        try clear hcz25_1
        try clear hcz27_0
        try clear hcz27_1
        try clear hcz42_0
        try clear hcz42_1
        try clear hcz45_0
        try clear hcz45_1
        try clear hcz53_0
        try clear hcz53_1
        try clear hfz22_0
        try clear hfz22_1
        try clear hfz24_0
        try clear hfz24_1
        try clear hfz25_0
        try clear hfz25_1
        try clear hfz27_0
        try clear hfz27_1
        try clear hfz42_0
        try clear hfz42_1
        try clear hfz45_0
        try clear hfz45_1
        try clear hfz53_0
        try clear hfz53_1
        try clear hx380_0
        try clear hx380_1
        try clear hx382_0
        try clear hx383_0
        try clear hx384_0
        try clear hx43_0
        try clear hx48_0
        try clear p2
        try clear p3
        try clear p380
        try clear p382
        try clear p383
        try clear p384
        try clear p43
        try clear p48
        try clear q3
        try clear q380
        try clear q382
        try clear q383
        try clear q384
        try clear q43
        try clear q48
        obtain ⟨x10_4, x104_4, rfl, HA, HK4, HO_9, HO_10, HO_39, BK381, HR380_0, HR380_1, HB⟩ := hrel
        cases gk with
        | zero => exact absurd HA.out (by simp [orrerylaw21_OrderParts.l2])
        | succ k4 =>
         have H := HA.out
         clear HA
         simp only [orrerylaw21_OrderParts.l2] at H
         by_cases c54 : x104_4 < (((rd_T30 t370 x41_1).f1).length : Int)
         case neg =>
          rw [if_neg c54] at H
          have c54b0 : decide (x104_4 < (((rd_T30 t370 x41_1).f1).length : Int)) = false := decide_eq_false c54
          clear c54
          have H' := Aside0.mk H
          clear H
          go_wp2
          repeat (go_quiet (fail); try go_wp2)
          (first | go_roundg k4 | (refine Handed.intro k4 ?measure ?_; rotate_left; go_step; (repeat apply Exists.intro); (refine ⟨?rel, ?fr_⟩); (case fr_ => (simp only [add_plain]; rfl))))
          case measure => have := HK1.out; have := HJ19.out; have := HK3.out; have := HK4.out; omega
          case rel => exact ⟨(x9_3), (x10_4), (wrap64 (x41_1 + 1)), (by first | rfl | (simp; done) | (simp [*]; done)), H', ⟨by have := HK1.out; have := HJ19.out; have := HK3.out; have := HK4.out; omega⟩, ⟨by (with_reducible repeat (first | apply Kd.R_alloc | apply Kd.R_drewN | apply Kd.R_drew)); exact HO_9.out⟩, ⟨by (with_reducible repeat (first | apply Kd.R_alloc | apply Kd.R_drewN | apply Kd.R_drew)); exact HO_10.out⟩, ⟨by (with_reducible repeat (first | apply Kd.S_alloc | apply Kd.S_drewN | apply Kd.S_drew)); exact Kd.S_mono HO_39.out (fun _ hk => ⟨hk.1, hk.2.1⟩)⟩, ⟨by repeat (first | (with_reducible first | exact HB.out | apply below_alloc | apply pw_below_drewN | apply below_drew1 | refine below_set ?_ GE381.out) | exact HB.out)⟩⟩
         rw [if_pos c54] at H
         have c54b0 : decide (x104_4 < (((rd_T30 t370 x41_1).f1).length : Int)) = true := decide_eq_true c54
         clear c54
         by_cases c55 : 0 ≤ x104_4
         case neg => rw [if_neg c55] at H; exact absurd H (by simp)
         rw [if_pos c55] at H
         have c55b0 : decide (0 ≤ x104_4) = true := decide_eq_true c55
         clear c55
         by_cases c56 : x104_4 < (((rd_T30 t370 x41_1).f1).length : Int)
         case neg => rw [if_neg c56] at H; exact absurd H (by simp)
         rw [if_pos c56] at H
         have c56b0 : decide (x104_4 < (((rd_T30 t370 x41_1).f1).length : Int)) = true := decide_eq_true c56
         clear c56
         by_cases c57 : (rd ((rd_T30 t370 x41_1).f1) x104_4) < 0
         case pos =>
          rw [if_pos c57] at H
          have c57b0 : decide ((rd ((rd_T30 t370 x41_1).f1) x104_4) < 0) = true := decide_eq_true c57
          clear c57
          obtain rfl := Option.some.inj H
          have p387 : 0 ≤ (x104_4 : Int) := of_decide_eq_true (by first | (with_reducible assumption) | assumption)
          have q387 : x104_4 < (((rd_T30 t370 x41_1).f1).length : Int) := of_decide_eq_true (by first | (with_reducible assumption) | assumption)
          obtain ⟨ad387, e387, hx387_0⟩ := Kd.at_int (by repeat (first | (with_reducible exact HR380_1.out) | (with_reducible refine Kd.C_alloc ?_ _) | (with_reducible refine Kd.C_drewN ?_ _) | (with_reducible refine Kd.C_drew ?_) | exact HR380_1.out)) x104_4 p387 q387
          cases e387
          replace p387 := eq_true p387
          replace q387 := eq_true q387
          go_wp2
          repeat (go_quiet (fail); try go_wp2)
          go_ret
          exact ⟨by first | rfl | (simp [errW_none, errW_some] <;> rfl) | (simp [*, errW_none, errW_some] <;> rfl), by repeat (first | (with_reducible first | exact HB.out | apply below_alloc | apply pw_below_drewN | apply below_drew1 | refine below_set ?_ GE381.out) | exact HB.out)⟩
         rw [if_neg c57] at H
         have c57b0 : decide ((rd ((rd_T30 t370 x41_1).f1) x104_4) < 0) = false := decide_eq_false c57
         clear c57
         by_cases c58 : (rd ((rd_T30 t370 x41_1).f1) x104_4) ≥ a0
         case pos =>
          rw [if_pos c58] at H
          have c58b0 : decide (a0 ≤ (rd ((rd_T30 t370 x41_1).f1) x104_4)) = true := decide_eq_true c58
          clear c58
          obtain rfl := Option.some.inj H
          have p387 : 0 ≤ (x104_4 : Int) := of_decide_eq_true (by first | (with_reducible assumption) | assumption)
          have q387 : x104_4 < (((rd_T30 t370 x41_1).f1).length : Int) := of_decide_eq_true (by first | (with_reducible assumption) | assumption)
          obtain ⟨ad387, e387, hx387_0⟩ := Kd.at_int (by repeat (first | (with_reducible exact HR380_1.out) | (with_reducible refine Kd.C_alloc ?_ _) | (with_reducible refine Kd.C_drewN ?_ _) | (with_reducible refine Kd.C_drew ?_) | exact HR380_1.out)) x104_4 p387 q387
          cases e387
          replace p387 := eq_true p387
          replace q387 := eq_true q387
          go_wp2
          repeat (go_quiet (fail); try go_wp2)
          go_ret
          exact ⟨by first | rfl | (simp [errW_none, errW_some] <;> rfl) | (simp [*, errW_none, errW_some] <;> rfl), by repeat (first | (with_reducible first | exact HB.out | apply below_alloc | apply pw_below_drewN | apply below_drew1 | refine below_set ?_ GE381.out) | exact HB.out)⟩
         rw [if_neg c58] at H
         have c58b0 : decide (a0 ≤ (rd ((rd_T30 t370 x41_1).f1) x104_4)) = false := decide_eq_false c58
         clear c58
         by_cases c59 : 0 ≤ (rd ((rd_T30 t370 x41_1).f1) x104_4)
         case neg => rw [if_neg c59] at H; exact absurd H (by simp)
         rw [if_pos c59] at H
         have c59b0 : decide (0 ≤ (rd ((rd_T30 t370 x41_1).f1) x104_4)) = true := decide_eq_true c59
         clear c59
         by_cases c60 : (rd ((rd_T30 t370 x41_1).f1) x104_4) < (x10_4.length : Int)
         case neg => rw [if_neg c60] at H; exact absurd H (by simp)
         rw [if_pos c60] at H
         have c60b0 : decide ((rd ((rd_T30 t370 x41_1).f1) x104_4) < (x10_4.length : Int)) = true := decide_eq_true c60
         clear c60
         by_cases c61 : (rd x10_4 (rd ((rd_T30 t370 x41_1).f1) x104_4)) = 0
         case neg =>
          rw [if_neg c61] at H
          have c61b0 : ((rd x10_4 (rd ((rd_T30 t370 x41_1).f1) x104_4)) == 0) = false := beq_eq_false_iff_ne.mpr c61
          have c61b1 : ((rd x10_4 (rd ((rd_T30 t370 x41_1).f1) x104_4)) != 0) = true := bne_iff_ne.mpr c61
          obtain rfl := Option.some.inj H
          have p387 : 0 ≤ (x104_4 : Int) := of_decide_eq_true (by first | (with_reducible assumption) | assumption)
          have q387 : x104_4 < (((rd_T30 t370 x41_1).f1).length : Int) := of_decide_eq_true (by first | (with_reducible assumption) | assumption)
          obtain ⟨ad387, e387, hx387_0⟩ := Kd.at_int (by repeat (first | (with_reducible exact HR380_1.out) | (with_reducible refine Kd.C_alloc ?_ _) | (with_reducible refine Kd.C_drewN ?_ _) | (with_reducible refine Kd.C_drew ?_) | exact HR380_1.out)) x104_4 p387 q387
          cases e387
          replace p387 := eq_true p387
          replace q387 := eq_true q387
          obtain ⟨Ao78, co78, eo78⟩ := Kd.R_slice HO_10.out
          subst eo78
          have p388 : 0 ≤ ((rd ((rd_T30 t370 x41_1).f1) x104_4) : Int) := of_decide_eq_true (by first | (with_reducible assumption) | assumption)
          have q388 : (rd ((rd_T30 t370 x41_1).f1) x104_4) < (x10_4.length : Int) := of_decide_eq_true (by first | (with_reducible assumption) | assumption)
          obtain ⟨ad388, e388, hx388_0⟩ := Kd.at_int (Kd.R_reads' HO_10.out).2.2 (rd ((rd_T30 t370 x41_1).f1) x104_4) p388 q388
          cases e388
          replace p388 := eq_true p388
          replace q388 := eq_true q388
          go_wp2
          repeat (go_quiet (fail); try go_wp2)
          go_ret
          exact ⟨by first | rfl | (simp [errW_none, errW_some] <;> rfl) | (simp [*, errW_none, errW_some] <;> rfl), by repeat (first | (with_reducible first | exact HB.out | apply below_alloc | apply pw_below_drewN | apply below_drew1 | refine below_set ?_ GE381.out) | exact HB.out)⟩
         rw [if_pos c61] at H
         have c61b0 : ((rd x10_4 (rd ((rd_T30 t370 x41_1).f1) x104_4)) == 0) = true := beq_iff_eq.mpr c61
         have c61b1 : ((rd x10_4 (rd ((rd_T30 t370 x41_1).f1) x104_4)) != 0) = false := bne_eq_false_iff_eq.mpr c61
         clear c61
         by_cases c62 : x104_4 > 0
         case neg =>
          rw [if_neg c62] at H
          have c62b0 : decide (0 < x104_4) = false := decide_eq_false c62
          clear c62
          obtain ⟨y391, hy391⟩ : ∃ y_ : List Int, y_ = (x10_4.set ((rd ((rd_T30 t370 x41_1).f1) x104_4) : Int).toNat (wrap64 (x41_1 + 1))) := ⟨_, rfl⟩
          replace H : (orrerylaw21_OrderParts.l2 k4 a0 l1 l2 x9_3 y391 x41_1 t370 (t370.length : Int) x41_1 ((rd_T30 t370 x41_1).f1) (((rd_T30 t370 x41_1).f1).length : Int) (wrap64 (x104_4 + 1)) ((rd_T30 t370 x41_1).f0) ((rd_T30 t370 x41_1).f1)) = some r := by first | (rw [hy391]; with_reducible exact H) | (have H2_ := (Option.bind_some _ _).symm.trans H; rw [hy391]; with_reducible exact H2_) | (have H2_ := (Option.bind_some _ _).symm.trans H; with_reducible exact H2_) | with_reducible exact H | (rw [hy391]; exact H) | exact H
          have Ny391 := Aside0.mk hy391
          clear hy391
          have H' := Aside0.mk H
          clear H
          have p387 : 0 ≤ (x104_4 : Int) := of_decide_eq_true (by first | (with_reducible assumption) | assumption)
          have q387 : x104_4 < (((rd_T30 t370 x41_1).f1).length : Int) := of_decide_eq_true (by first | (with_reducible assumption) | assumption)
          obtain ⟨ad387, e387, hx387_0⟩ := Kd.at_int (by repeat (first | (with_reducible exact HR380_1.out) | (with_reducible refine Kd.C_alloc ?_ _) | (with_reducible refine Kd.C_drewN ?_ _) | (with_reducible refine Kd.C_drew ?_) | exact HR380_1.out)) x104_4 p387 q387
          cases e387
          replace p387 := eq_true p387
          replace q387 := eq_true q387
          obtain ⟨Ao75, co75, eo75⟩ := Kd.R_slice HO_10.out
          subst eo75
          have p388 : 0 ≤ ((rd ((rd_T30 t370 x41_1).f1) x104_4) : Int) := of_decide_eq_true (by first | (with_reducible assumption) | assumption)
          have q388 : (rd ((rd_T30 t370 x41_1).f1) x104_4) < (x10_4.length : Int) := of_decide_eq_true (by first | (with_reducible assumption) | assumption)
          obtain ⟨ad388, e388, hx388_0⟩ := Kd.at_int (Kd.R_reads' HO_10.out).2.2 (rd ((rd_T30 t370 x41_1).f1) x104_4) p388 q388
          cases e388
          replace p388 := eq_true p388
          replace q388 := eq_true q388
          have p74 : 0 ≤ ((rd ((rd_T30 t370 x41_1).f1) x104_4) : Int) := of_decide_eq_true (by first | (with_reducible assumption) | assumption)
          have q74 : ((rd ((rd_T30 t370 x41_1).f1) x104_4) : Int) < ((x10_4.length : Int) : Int) := of_decide_eq_true (by first | (with_reducible assumption) | assumption)
          obtain ⟨go74, co74, eo74, gb74, gl74, cl74, HG74⟩ := Kd.R_form HO_10.out (by omega)
          (first | cases eo74 | (injection eo74 with ea_ en_ ec_; (first | subst ea_ | (injection ea_ with ea_; subst ea_)); subst ec_; clear en_))
          have GB74 := Aside0.mk gb74
          have GG74 := Aside0.mk HG74
          clear gb74 gl74 HG74
          (first | simp only [add_plain] at hx388_0 | skip)
          obtain ⟨hx74_0, hf74_0⟩ := Kd.R_celln 0 HO_10.out ((rd ((rd_T30 t370 x41_1).f1) x104_4) : Int) p74 q74
          replace p74 := eq_true p74
          replace q74 := eq_true q74
          have HP76 := Kd.R_putg HO_10.out ((rd ((rd_T30 t370 x41_1).f1) x104_4) : Int) (wrap64 (x41_1 + 1))
          go_wp2_with (first | ((with_reducible refine gate_store (t := 3) (p := 141) rfl ?_); (try (rw [drewN_self wr]; generalize hq_ : World.drewN wr _ = wr; have n0_ := Aside0.mk (Kd.R_at hq_ HO_9.out); have n1_ := Aside0.mk (Kd.R_at hq_ HO_10.out); have n2_ := Aside0.mk (Kd.S_at hq_ HO_39.out); have n3_ := Aside0.mk (blk_at hq_ BK381.out); have n4_ := Aside0.mk (Kd.C_at hq_ HR380_0.out); have n5_ := Aside0.mk (Kd.C_at hq_ HR380_1.out); have n6_ := Aside0.mk (below_at hq_ HB.out); clear hq_ HO_9 HO_10 HO_39 BK381 HR380_0 HR380_1 HB; have HO_9 := n0_; have HO_10 := n1_; have HO_39 := n2_; have BK381 := n3_; have HR380_0 := n4_; have HR380_1 := n5_; have HB := n6_; clear n0_ n1_ n2_ n3_ n4_ n5_ n6_; (try (have HP76 := Kd.R_putg HO_10.out ((rd ((rd_T30 t370 x41_1).f1) x104_4) : Int) (wrap64 (x41_1 + 1)))))); refine store_event (t := 3) (p := 141) (v := ?vo_w77) (w1 := (wr.setCell ⟨go74, ((rd ((rd_T30 t370 x41_1).f1) x104_4) : Int).toNat, none⟩ (.int .i64 (wrap64 (x41_1 + 1))))) ?hg ?ho ?hn ?hr ?_; (case ho => rfl); (case hg => rfl); (case hn => rfl); (case hr => first | (go_simp; done) | (go_simp; rfl)); intro w77 hw; have hg : wr.grownBy w77 (some go74) := (by rw [hw]; exact HP76.2); have hp_ : Kd.R (Kd.int .i64) 3 w77 w.heap.size (fun k_ => some k_ ≠ (v375 : Value).ownBlock) (.slice (some ⟨go74, 0, none⟩) x10_4.length co75) y391 := (by rw [hw, Ny391.out]; exact HP76.1); clear HP76; have n0_ := Aside0.mk (Kd.R_after (v := (.slice (some ⟨go74, 0, none⟩) x10_4.length co75)) (v1 := (.slice (some ⟨go74, 0, none⟩) x10_4.length co75)) (ok := (fun _ => True)) (by (with_reducible repeat (first | apply Kd.R_alloc | apply Kd.R_drewN | apply Kd.R_drew)); exact Kd.R_mono HO_9.out (fun _ hk => ⟨trivial, hk⟩)) hg (.inl rfl)); have n1_ := Aside0.mk (hp_); have n2_ := Aside0.mk (Kd.S_after (v := (.slice (some ⟨go74, 0, none⟩) x10_4.length co75)) (v1 := (.slice (some ⟨go74, 0, none⟩) x10_4.length co75)) (ok := (fun k_ => some k_ ≠ (v375 : Value).ownBlock ∧ k_ ≠ gb381)) (by (with_reducible repeat (first | apply Kd.S_alloc | apply Kd.S_drewN | apply Kd.S_drew)); exact Kd.S_mono HO_39.out (fun _ hk => ⟨⟨hk.1, hk.2.2⟩, hk.2.1⟩)) hg (.inl rfl)); have n3_ := Aside0.mk (blk_grown (g := gb381) (o := .cells #[.slice A380_0 ((rd_T30 t370 x41_1).f0).length c380_0, .slice (some ad387) ((rd_T30 t370 x41_1).f1).length c380_1] 30 (0, 0)) (by (with_reducible repeat (first | refine blk_drewN ?_ _ | refine blk_drew ?_ | refine blk_alloc ?_ _)); exact BK381.out) hg (Kd.R_ne HO_10.out BK381.out (by decide))); have n4_ := Aside0.mk ((show Kd.C (Kd.int .i64) w77 A380_0 ((rd_T30 t370 x41_1).f0).length ((rd_T30 t370 x41_1).f0) from by rw [hw]; exact Kd.C_farP (p := ⟨go74, ((rd ((rd_T30 t370 x41_1).f1) x104_4) : Int).toNat, none⟩) (by repeat (first | (with_reducible exact HR380_0.out) | (with_reducible refine Kd.C_alloc ?_ _) | (with_reducible refine Kd.C_drewN ?_ _) | (with_reducible refine Kd.C_drew ?_) | exact HR380_0.out)) (fun ad_ h1_ h2_ e_ => RF380_0_HO_10.out ad_ h1_ h2_ (by rw [e_]; rfl)) (.int .i64 (wrap64 (x41_1 + 1))))); have n5_ := Aside0.mk ((show Kd.C (Kd.int .i64) w77 (some ad387) ((rd_T30 t370 x41_1).f1).length ((rd_T30 t370 x41_1).f1) from by rw [hw]; exact Kd.C_farP (p := ⟨go74, ((rd ((rd_T30 t370 x41_1).f1) x104_4) : Int).toNat, none⟩) (by repeat (first | (with_reducible exact HR380_1.out) | (with_reducible refine Kd.C_alloc ?_ _) | (with_reducible refine Kd.C_drewN ?_ _) | (with_reducible refine Kd.C_drew ?_) | exact HR380_1.out)) (fun ad_ h1_ h2_ e_ => RF380_1_HO_10.out ad_ h1_ h2_ (by rw [e_]; rfl)) (.int .i64 (wrap64 (x41_1 + 1))))); have n6_ := Aside0.mk ((by rw [hw]; exact below_set (HB.out) GB74.out : Below w.heap.size w w77)); clear HO_9; clear HO_10; clear HO_39; clear BK381; clear HR380_0; clear HR380_1; clear HB; have HO_9 := n0_; have HO_10 := n1_; have HO_39 := n2_; have BK381 := n3_; have HR380_0 := n4_; have HR380_1 := n5_; have HB := n6_; clear n0_ n1_ n2_ n3_ n4_ n5_ n6_; clear hg hw hp_))
          repeat (go_quiet (first | ((with_reducible refine gate_store (t := 3) (p := 141) rfl ?_); (try (rw [drewN_self wr]; generalize hq_ : World.drewN wr _ = wr; have n0_ := Aside0.mk (Kd.R_at hq_ HO_9.out); have n1_ := Aside0.mk (Kd.R_at hq_ HO_10.out); have n2_ := Aside0.mk (Kd.S_at hq_ HO_39.out); have n3_ := Aside0.mk (blk_at hq_ BK381.out); have n4_ := Aside0.mk (Kd.C_at hq_ HR380_0.out); have n5_ := Aside0.mk (Kd.C_at hq_ HR380_1.out); have n6_ := Aside0.mk (below_at hq_ HB.out); clear hq_ HO_9 HO_10 HO_39 BK381 HR380_0 HR380_1 HB; have HO_9 := n0_; have HO_10 := n1_; have HO_39 := n2_; have BK381 := n3_; have HR380_0 := n4_; have HR380_1 := n5_; have HB := n6_; clear n0_ n1_ n2_ n3_ n4_ n5_ n6_; (try (have HP76 := Kd.R_putg HO_10.out ((rd ((rd_T30 t370 x41_1).f1) x104_4) : Int) (wrap64 (x41_1 + 1)))))); refine store_event (t := 3) (p := 141) (v := ?vo_w77) (w1 := (wr.setCell ⟨go74, ((rd ((rd_T30 t370 x41_1).f1) x104_4) : Int).toNat, none⟩ (.int .i64 (wrap64 (x41_1 + 1))))) ?hg ?ho ?hn ?hr ?_; (case ho => rfl); (case hg => rfl); (case hn => rfl); (case hr => first | (go_simp; done) | (go_simp; rfl)); intro w77 hw; have hg : wr.grownBy w77 (some go74) := (by rw [hw]; exact HP76.2); have hp_ : Kd.R (Kd.int .i64) 3 w77 w.heap.size (fun k_ => some k_ ≠ (v375 : Value).ownBlock) (.slice (some ⟨go74, 0, none⟩) x10_4.length co75) y391 := (by rw [hw, Ny391.out]; exact HP76.1); clear HP76; have n0_ := Aside0.mk (Kd.R_after (v := (.slice (some ⟨go74, 0, none⟩) x10_4.length co75)) (v1 := (.slice (some ⟨go74, 0, none⟩) x10_4.length co75)) (ok := (fun _ => True)) (by (with_reducible repeat (first | apply Kd.R_alloc | apply Kd.R_drewN | apply Kd.R_drew)); exact Kd.R_mono HO_9.out (fun _ hk => ⟨trivial, hk⟩)) hg (.inl rfl)); have n1_ := Aside0.mk (hp_); have n2_ := Aside0.mk (Kd.S_after (v := (.slice (some ⟨go74, 0, none⟩) x10_4.length co75)) (v1 := (.slice (some ⟨go74, 0, none⟩) x10_4.length co75)) (ok := (fun k_ => some k_ ≠ (v375 : Value).ownBlock ∧ k_ ≠ gb381)) (by (with_reducible repeat (first | apply Kd.S_alloc | apply Kd.S_drewN | apply Kd.S_drew)); exact Kd.S_mono HO_39.out (fun _ hk => ⟨⟨hk.1, hk.2.2⟩, hk.2.1⟩)) hg (.inl rfl)); have n3_ := Aside0.mk (blk_grown (g := gb381) (o := .cells #[.slice A380_0 ((rd_T30 t370 x41_1).f0).length c380_0, .slice (some ad387) ((rd_T30 t370 x41_1).f1).length c380_1] 30 (0, 0)) (by (with_reducible repeat (first | refine blk_drewN ?_ _ | refine blk_drew ?_ | refine blk_alloc ?_ _)); exact BK381.out) hg (Kd.R_ne HO_10.out BK381.out (by decide))); have n4_ := Aside0.mk ((show Kd.C (Kd.int .i64) w77 A380_0 ((rd_T30 t370 x41_1).f0).length ((rd_T30 t370 x41_1).f0) from by rw [hw]; exact Kd.C_farP (p := ⟨go74, ((rd ((rd_T30 t370 x41_1).f1) x104_4) : Int).toNat, none⟩) (by repeat (first | (with_reducible exact HR380_0.out) | (with_reducible refine Kd.C_alloc ?_ _) | (with_reducible refine Kd.C_drewN ?_ _) | (with_reducible refine Kd.C_drew ?_) | exact HR380_0.out)) (fun ad_ h1_ h2_ e_ => RF380_0_HO_10.out ad_ h1_ h2_ (by rw [e_]; rfl)) (.int .i64 (wrap64 (x41_1 + 1))))); have n5_ := Aside0.mk ((show Kd.C (Kd.int .i64) w77 (some ad387) ((rd_T30 t370 x41_1).f1).length ((rd_T30 t370 x41_1).f1) from by rw [hw]; exact Kd.C_farP (p := ⟨go74, ((rd ((rd_T30 t370 x41_1).f1) x104_4) : Int).toNat, none⟩) (by repeat (first | (with_reducible exact HR380_1.out) | (with_reducible refine Kd.C_alloc ?_ _) | (with_reducible refine Kd.C_drewN ?_ _) | (with_reducible refine Kd.C_drew ?_) | exact HR380_1.out)) (fun ad_ h1_ h2_ e_ => RF380_1_HO_10.out ad_ h1_ h2_ (by rw [e_]; rfl)) (.int .i64 (wrap64 (x41_1 + 1))))); have n6_ := Aside0.mk ((by rw [hw]; exact below_set (HB.out) GB74.out : Below w.heap.size w w77)); clear HO_9; clear HO_10; clear HO_39; clear BK381; clear HR380_0; clear HR380_1; clear HB; have HO_9 := n0_; have HO_10 := n1_; have HO_39 := n2_; have BK381 := n3_; have HR380_0 := n4_; have HR380_1 := n5_; have HB := n6_; clear n0_ n1_ n2_ n3_ n4_ n5_ n6_; clear hg hw hp_)); try go_wp2_with (first | ((with_reducible refine gate_store (t := 3) (p := 141) rfl ?_); (try (rw [drewN_self wr]; generalize hq_ : World.drewN wr _ = wr; have n0_ := Aside0.mk (Kd.R_at hq_ HO_9.out); have n1_ := Aside0.mk (Kd.R_at hq_ HO_10.out); have n2_ := Aside0.mk (Kd.S_at hq_ HO_39.out); have n3_ := Aside0.mk (blk_at hq_ BK381.out); have n4_ := Aside0.mk (Kd.C_at hq_ HR380_0.out); have n5_ := Aside0.mk (Kd.C_at hq_ HR380_1.out); have n6_ := Aside0.mk (below_at hq_ HB.out); clear hq_ HO_9 HO_10 HO_39 BK381 HR380_0 HR380_1 HB; have HO_9 := n0_; have HO_10 := n1_; have HO_39 := n2_; have BK381 := n3_; have HR380_0 := n4_; have HR380_1 := n5_; have HB := n6_; clear n0_ n1_ n2_ n3_ n4_ n5_ n6_; (try (have HP76 := Kd.R_putg HO_10.out ((rd ((rd_T30 t370 x41_1).f1) x104_4) : Int) (wrap64 (x41_1 + 1)))))); refine store_event (t := 3) (p := 141) (v := ?vo_w77) (w1 := (wr.setCell ⟨go74, ((rd ((rd_T30 t370 x41_1).f1) x104_4) : Int).toNat, none⟩ (.int .i64 (wrap64 (x41_1 + 1))))) ?hg ?ho ?hn ?hr ?_; (case ho => rfl); (case hg => rfl); (case hn => rfl); (case hr => first | (go_simp; done) | (go_simp; rfl)); intro w77 hw; have hg : wr.grownBy w77 (some go74) := (by rw [hw]; exact HP76.2); have hp_ : Kd.R (Kd.int .i64) 3 w77 w.heap.size (fun k_ => some k_ ≠ (v375 : Value).ownBlock) (.slice (some ⟨go74, 0, none⟩) x10_4.length co75) y391 := (by rw [hw, Ny391.out]; exact HP76.1); clear HP76; have n0_ := Aside0.mk (Kd.R_after (v := (.slice (some ⟨go74, 0, none⟩) x10_4.length co75)) (v1 := (.slice (some ⟨go74, 0, none⟩) x10_4.length co75)) (ok := (fun _ => True)) (by (with_reducible repeat (first | apply Kd.R_alloc | apply Kd.R_drewN | apply Kd.R_drew)); exact Kd.R_mono HO_9.out (fun _ hk => ⟨trivial, hk⟩)) hg (.inl rfl)); have n1_ := Aside0.mk (hp_); have n2_ := Aside0.mk (Kd.S_after (v := (.slice (some ⟨go74, 0, none⟩) x10_4.length co75)) (v1 := (.slice (some ⟨go74, 0, none⟩) x10_4.length co75)) (ok := (fun k_ => some k_ ≠ (v375 : Value).ownBlock ∧ k_ ≠ gb381)) (by (with_reducible repeat (first | apply Kd.S_alloc | apply Kd.S_drewN | apply Kd.S_drew)); exact Kd.S_mono HO_39.out (fun _ hk => ⟨⟨hk.1, hk.2.2⟩, hk.2.1⟩)) hg (.inl rfl)); have n3_ := Aside0.mk (blk_grown (g := gb381) (o := .cells #[.slice A380_0 ((rd_T30 t370 x41_1).f0).length c380_0, .slice (some ad387) ((rd_T30 t370 x41_1).f1).length c380_1] 30 (0, 0)) (by (with_reducible repeat (first | refine blk_drewN ?_ _ | refine blk_drew ?_ | refine blk_alloc ?_ _)); exact BK381.out) hg (Kd.R_ne HO_10.out BK381.out (by decide))); have n4_ := Aside0.mk ((show Kd.C (Kd.int .i64) w77 A380_0 ((rd_T30 t370 x41_1).f0).length ((rd_T30 t370 x41_1).f0) from by rw [hw]; exact Kd.C_farP (p := ⟨go74, ((rd ((rd_T30 t370 x41_1).f1) x104_4) : Int).toNat, none⟩) (by repeat (first | (with_reducible exact HR380_0.out) | (with_reducible refine Kd.C_alloc ?_ _) | (with_reducible refine Kd.C_drewN ?_ _) | (with_reducible refine Kd.C_drew ?_) | exact HR380_0.out)) (fun ad_ h1_ h2_ e_ => RF380_0_HO_10.out ad_ h1_ h2_ (by rw [e_]; rfl)) (.int .i64 (wrap64 (x41_1 + 1))))); have n5_ := Aside0.mk ((show Kd.C (Kd.int .i64) w77 (some ad387) ((rd_T30 t370 x41_1).f1).length ((rd_T30 t370 x41_1).f1) from by rw [hw]; exact Kd.C_farP (p := ⟨go74, ((rd ((rd_T30 t370 x41_1).f1) x104_4) : Int).toNat, none⟩) (by repeat (first | (with_reducible exact HR380_1.out) | (with_reducible refine Kd.C_alloc ?_ _) | (with_reducible refine Kd.C_drewN ?_ _) | (with_reducible refine Kd.C_drew ?_) | exact HR380_1.out)) (fun ad_ h1_ h2_ e_ => RF380_1_HO_10.out ad_ h1_ h2_ (by rw [e_]; rfl)) (.int .i64 (wrap64 (x41_1 + 1))))); have n6_ := Aside0.mk ((by rw [hw]; exact below_set (HB.out) GB74.out : Below w.heap.size w w77)); clear HO_9; clear HO_10; clear HO_39; clear BK381; clear HR380_0; clear HR380_1; clear HB; have HO_9 := n0_; have HO_10 := n1_; have HO_39 := n2_; have BK381 := n3_; have HR380_0 := n4_; have HR380_1 := n5_; have HB := n6_; clear n0_ n1_ n2_ n3_ n4_ n5_ n6_; clear hg hw hp_)))
          (first | go_roundg k4 | (refine Handed.intro k4 ?measure ?_; rotate_left; go_step; (repeat apply Exists.intro); (refine ⟨?rel, ?fr_⟩); (case fr_ => (simp only [add_plain]; rfl))))
          case measure => have := HK1.out; have := HJ19.out; have := HK3.out; have := HK4.out; omega
          case rel => exact ⟨(y391), (wrap64 (x104_4 + 1)), (by first | rfl | (simp; done) | (simp [*]; done)), H', ⟨by have := HK1.out; have := HJ19.out; have := HK3.out; have := HK4.out; omega⟩, ⟨by (with_reducible repeat (first | apply Kd.R_alloc | apply Kd.R_drewN | apply Kd.R_drew)); exact Kd.R_mono HO_9.out (fun _ hk => hk.2)⟩, ⟨by (with_reducible repeat (first | apply Kd.R_alloc | apply Kd.R_drewN | apply Kd.R_drew)); exact HO_10.out⟩, ⟨by (with_reducible repeat (first | apply Kd.S_alloc | apply Kd.S_drewN | apply Kd.S_drew)); exact Kd.S_mono HO_39.out (fun _ hk => ⟨hk.1.1, ⟨hk.2, hk.1.2⟩⟩)⟩, ⟨by (with_reducible repeat (first | refine blk_drewN ?_ _ | refine blk_drew ?_ | refine blk_alloc ?_ _)); exact BK381.out⟩, ⟨by repeat (first | (with_reducible exact HR380_0.out) | (with_reducible refine Kd.C_alloc ?_ _) | (with_reducible refine Kd.C_drewN ?_ _) | (with_reducible refine Kd.C_drew ?_) | exact HR380_0.out)⟩, ⟨by repeat (first | (with_reducible exact HR380_1.out) | (with_reducible refine Kd.C_alloc ?_ _) | (with_reducible refine Kd.C_drewN ?_ _) | (with_reducible refine Kd.C_drew ?_) | exact HR380_1.out)⟩, ⟨by repeat (first | (with_reducible first | exact HB.out | apply below_alloc | apply pw_below_drewN | apply below_drew1 | refine below_set ?_ GE381.out) | exact HB.out)⟩⟩
         rw [if_pos c62] at H
         have c62b0 : decide (0 < x104_4) = true := decide_eq_true c62
         clear c62
         obtain ⟨ji63, hji63⟩ : ∃ j_ : Int, (wrap64 (x104_4 - 1)) = j_ := ⟨_, rfl⟩
         replace H : (if 0 ≤ (ji63) then (if (ji63) < (((rd_T30 t370 x41_1).f1).length : Int) then (if (rd ((rd_T30 t370 x41_1).f1) (ji63)) ≥ (rd ((rd_T30 t370 x41_1).f1) x104_4) then (some false) else (orrerylaw21_OrderParts.l2 k4 a0 l1 l2 x9_3 (x10_4.set ((rd ((rd_T30 t370 x41_1).f1) x104_4) : Int).toNat (wrap64 (x41_1 + 1))) x41_1 t370 (t370.length : Int) x41_1 ((rd_T30 t370 x41_1).f1) (((rd_T30 t370 x41_1).f1).length : Int) (wrap64 (x104_4 + 1)) ((rd_T30 t370 x41_1).f0) ((rd_T30 t370 x41_1).f1))) else (none)) else (none)) = some r := by first | (rw [hji63] at H; exact H) | (simp only [hji63] at H ⊢; exact H)
         have hji63w : (IntKind.i64.wrap (x104_4 - 1)) = ji63 := (i64_w _).trans hji63
         by_cases c64 : 0 ≤ (ji63)
         case neg => rw [if_neg c64] at H; exact absurd H (by simp)
         rw [if_pos c64] at H
         have c64b0 : decide (0 ≤ (ji63)) = true := decide_eq_true c64
         clear c64
         by_cases c65 : (ji63) < (((rd_T30 t370 x41_1).f1).length : Int)
         case neg => rw [if_neg c65] at H; exact absurd H (by simp)
         rw [if_pos c65] at H
         have c65b0 : decide ((ji63) < (((rd_T30 t370 x41_1).f1).length : Int)) = true := decide_eq_true c65
         clear c65
         by_cases c66 : (rd ((rd_T30 t370 x41_1).f1) (ji63)) ≥ (rd ((rd_T30 t370 x41_1).f1) x104_4)
         case pos =>
          rw [if_pos c66] at H
          have c66b0 : decide ((rd ((rd_T30 t370 x41_1).f1) x104_4) ≤ (rd ((rd_T30 t370 x41_1).f1) (ji63))) = true := decide_eq_true c66
          clear c66
          obtain rfl := Option.some.inj H
          have p387 : 0 ≤ (x104_4 : Int) := of_decide_eq_true (by first | (with_reducible assumption) | assumption)
          have q387 : x104_4 < (((rd_T30 t370 x41_1).f1).length : Int) := of_decide_eq_true (by first | (with_reducible assumption) | assumption)
          obtain ⟨ad387, e387, hx387_0⟩ := Kd.at_int (by repeat (first | (with_reducible exact HR380_1.out) | (with_reducible refine Kd.C_alloc ?_ _) | (with_reducible refine Kd.C_drewN ?_ _) | (with_reducible refine Kd.C_drew ?_) | exact HR380_1.out)) x104_4 p387 q387
          cases e387
          replace p387 := eq_true p387
          replace q387 := eq_true q387
          obtain ⟨Ao67, co67, eo67⟩ := Kd.R_slice HO_10.out
          subst eo67
          have p388 : 0 ≤ ((rd ((rd_T30 t370 x41_1).f1) x104_4) : Int) := of_decide_eq_true (by first | (with_reducible assumption) | assumption)
          have q388 : (rd ((rd_T30 t370 x41_1).f1) x104_4) < (x10_4.length : Int) := of_decide_eq_true (by first | (with_reducible assumption) | assumption)
          obtain ⟨ad388, e388, hx388_0⟩ := Kd.at_int (Kd.R_reads' HO_10.out).2.2 (rd ((rd_T30 t370 x41_1).f1) x104_4) p388 q388
          cases e388
          replace p388 := eq_true p388
          replace q388 := eq_true q388
          have hcz68_0 : wr.cell? ⟨gb381, 0, none⟩ = some (.slice A380_0 ((rd_T30 t370 x41_1).f0).length c380_0) := (blk_cell BK381.out 0).trans rfl
          have hcz68_1 : wr.cell? ⟨gb381, 1, none⟩ = some (.slice (some ad387) ((rd_T30 t370 x41_1).f1).length c380_1) := (blk_cell BK381.out 1).trans rfl
          have hfz68_0 := blk_frozen BK381.out 0
          have hfz68_1 := blk_frozen BK381.out 1
          have p389 : 0 ≤ ((ji63) : Int) := of_decide_eq_true (by first | (with_reducible assumption) | assumption)
          have q389 : (ji63) < (((rd_T30 t370 x41_1).f1).length : Int) := of_decide_eq_true (by first | (with_reducible assumption) | assumption)
          obtain ⟨ad389, e389, hx389_0⟩ := Kd.at_int (by repeat (first | (with_reducible exact HR380_1.out) | (with_reducible refine Kd.C_alloc ?_ _) | (with_reducible refine Kd.C_drewN ?_ _) | (with_reducible refine Kd.C_drew ?_) | exact HR380_1.out)) (ji63) p389 q389
          obtain rfl : ad387 = ad389 := (by injection e389)
          replace p389 := eq_true p389
          replace q389 := eq_true q389
          go_wp2
          repeat (go_quiet (fail); try go_wp2)
          go_ret
          exact ⟨by first | rfl | (simp [errW_none, errW_some] <;> rfl) | (simp only [← hji63]; first | rfl | (simp [errW_none, errW_some] <;> rfl)) | (simp [*, errW_none, errW_some] <;> rfl), by repeat (first | (with_reducible first | exact HB.out | apply below_alloc | apply pw_below_drewN | apply below_drew1 | refine below_set ?_ GE381.out) | exact HB.out)⟩
         rw [if_neg c66] at H
         have c66b0 : decide ((rd ((rd_T30 t370 x41_1).f1) x104_4) ≤ (rd ((rd_T30 t370 x41_1).f1) (ji63))) = false := decide_eq_false c66
         clear c66
         obtain ⟨y390, hy390⟩ : ∃ y_ : List Int, y_ = (x10_4.set ((rd ((rd_T30 t370 x41_1).f1) x104_4) : Int).toNat (wrap64 (x41_1 + 1))) := ⟨_, rfl⟩
         replace H : (orrerylaw21_OrderParts.l2 k4 a0 l1 l2 x9_3 y390 x41_1 t370 (t370.length : Int) x41_1 ((rd_T30 t370 x41_1).f1) (((rd_T30 t370 x41_1).f1).length : Int) (wrap64 (x104_4 + 1)) ((rd_T30 t370 x41_1).f0) ((rd_T30 t370 x41_1).f1)) = some r := by first | (rw [hy390]; with_reducible exact H) | (have H2_ := (Option.bind_some _ _).symm.trans H; rw [hy390]; with_reducible exact H2_) | (have H2_ := (Option.bind_some _ _).symm.trans H; with_reducible exact H2_) | with_reducible exact H | (rw [hy390]; exact H) | exact H
         have Ny390 := Aside0.mk hy390
         clear hy390
         have H' := Aside0.mk H
         clear H
         have p387 : 0 ≤ (x104_4 : Int) := of_decide_eq_true (by first | (with_reducible assumption) | assumption)
         have q387 : x104_4 < (((rd_T30 t370 x41_1).f1).length : Int) := of_decide_eq_true (by first | (with_reducible assumption) | assumption)
         obtain ⟨ad387, e387, hx387_0⟩ := Kd.at_int (by repeat (first | (with_reducible exact HR380_1.out) | (with_reducible refine Kd.C_alloc ?_ _) | (with_reducible refine Kd.C_drewN ?_ _) | (with_reducible refine Kd.C_drew ?_) | exact HR380_1.out)) x104_4 p387 q387
         cases e387
         replace p387 := eq_true p387
         replace q387 := eq_true q387
         obtain ⟨Ao70, co70, eo70⟩ := Kd.R_slice HO_10.out
         subst eo70
         have p388 : 0 ≤ ((rd ((rd_T30 t370 x41_1).f1) x104_4) : Int) := of_decide_eq_true (by first | (with_reducible assumption) | assumption)
         have q388 : (rd ((rd_T30 t370 x41_1).f1) x104_4) < (x10_4.length : Int) := of_decide_eq_true (by first | (with_reducible assumption) | assumption)
         obtain ⟨ad388, e388, hx388_0⟩ := Kd.at_int (Kd.R_reads' HO_10.out).2.2 (rd ((rd_T30 t370 x41_1).f1) x104_4) p388 q388
         cases e388
         replace p388 := eq_true p388
         replace q388 := eq_true q388
         have hcz71_0 : wr.cell? ⟨gb381, 0, none⟩ = some (.slice A380_0 ((rd_T30 t370 x41_1).f0).length c380_0) := (blk_cell BK381.out 0).trans rfl
         have hcz71_1 : wr.cell? ⟨gb381, 1, none⟩ = some (.slice (some ad387) ((rd_T30 t370 x41_1).f1).length c380_1) := (blk_cell BK381.out 1).trans rfl
         have hfz71_0 := blk_frozen BK381.out 0
         have hfz71_1 := blk_frozen BK381.out 1
         have p389 : 0 ≤ ((ji63) : Int) := of_decide_eq_true (by first | (with_reducible assumption) | assumption)
         have q389 : (ji63) < (((rd_T30 t370 x41_1).f1).length : Int) := of_decide_eq_true (by first | (with_reducible assumption) | assumption)
         obtain ⟨ad389, e389, hx389_0⟩ := Kd.at_int (by repeat (first | (with_reducible exact HR380_1.out) | (with_reducible refine Kd.C_alloc ?_ _) | (with_reducible refine Kd.C_drewN ?_ _) | (with_reducible refine Kd.C_drew ?_) | exact HR380_1.out)) (ji63) p389 q389
         obtain rfl : ad387 = ad389 := (by injection e389)
         replace p389 := eq_true p389
         replace q389 := eq_true q389
         have p69 : 0 ≤ ((rd ((rd_T30 t370 x41_1).f1) x104_4) : Int) := of_decide_eq_true (by first | (with_reducible assumption) | assumption)
         have q69 : ((rd ((rd_T30 t370 x41_1).f1) x104_4) : Int) < ((x10_4.length : Int) : Int) := of_decide_eq_true (by first | (with_reducible assumption) | assumption)
         obtain ⟨go69, co69, eo69, gb69, gl69, cl69, HG69⟩ := Kd.R_form HO_10.out (by omega)
         (first | cases eo69 | (injection eo69 with ea_ en_ ec_; (first | subst ea_ | (injection ea_ with ea_; subst ea_)); subst ec_; clear en_))
         have GB69 := Aside0.mk gb69
         have GG69 := Aside0.mk HG69
         clear gb69 gl69 HG69
         (first | simp only [add_plain] at hx388_0 | skip)
         obtain ⟨hx69_0, hf69_0⟩ := Kd.R_celln 0 HO_10.out ((rd ((rd_T30 t370 x41_1).f1) x104_4) : Int) p69 q69
         replace p69 := eq_true p69
         replace q69 := eq_true q69
         have HP72 := Kd.R_putg HO_10.out ((rd ((rd_T30 t370 x41_1).f1) x104_4) : Int) (wrap64 (x41_1 + 1))
         go_wp2_with (first | ((with_reducible refine gate_store (t := 3) (p := 141) rfl ?_); (try (rw [drewN_self wr]; generalize hq_ : World.drewN wr _ = wr; have n0_ := Aside0.mk (Kd.R_at hq_ HO_9.out); have n1_ := Aside0.mk (Kd.R_at hq_ HO_10.out); have n2_ := Aside0.mk (Kd.S_at hq_ HO_39.out); have n3_ := Aside0.mk (blk_at hq_ BK381.out); have n4_ := Aside0.mk (Kd.C_at hq_ HR380_0.out); have n5_ := Aside0.mk (Kd.C_at hq_ HR380_1.out); have n6_ := Aside0.mk (below_at hq_ HB.out); clear hq_ HO_9 HO_10 HO_39 BK381 HR380_0 HR380_1 HB; have HO_9 := n0_; have HO_10 := n1_; have HO_39 := n2_; have BK381 := n3_; have HR380_0 := n4_; have HR380_1 := n5_; have HB := n6_; clear n0_ n1_ n2_ n3_ n4_ n5_ n6_; (try (have HP72 := Kd.R_putg HO_10.out ((rd ((rd_T30 t370 x41_1).f1) x104_4) : Int) (wrap64 (x41_1 + 1)))))); refine store_event (t := 3) (p := 141) (v := ?vo_w73) (w1 := (wr.setCell ⟨go69, ((rd ((rd_T30 t370 x41_1).f1) x104_4) : Int).toNat, none⟩ (.int .i64 (wrap64 (x41_1 + 1))))) ?hg ?ho ?hn ?hr ?_; (case ho => rfl); (case hg => rfl); (case hn => rfl); (case hr => first | (go_simp; done) | (go_simp; rfl)); intro w73 hw; have hg : wr.grownBy w73 (some go69) := (by rw [hw]; exact HP72.2); have hp_ : Kd.R (Kd.int .i64) 3 w73 w.heap.size (fun k_ => some k_ ≠ (v375 : Value).ownBlock) (.slice (some ⟨go69, 0, none⟩) x10_4.length co70) y390 := (by rw [hw, Ny390.out]; exact HP72.1); clear HP72; have n0_ := Aside0.mk (Kd.R_after (v := (.slice (some ⟨go69, 0, none⟩) x10_4.length co70)) (v1 := (.slice (some ⟨go69, 0, none⟩) x10_4.length co70)) (ok := (fun _ => True)) (by (with_reducible repeat (first | apply Kd.R_alloc | apply Kd.R_drewN | apply Kd.R_drew)); exact Kd.R_mono HO_9.out (fun _ hk => ⟨trivial, hk⟩)) hg (.inl rfl)); have n1_ := Aside0.mk (hp_); have n2_ := Aside0.mk (Kd.S_after (v := (.slice (some ⟨go69, 0, none⟩) x10_4.length co70)) (v1 := (.slice (some ⟨go69, 0, none⟩) x10_4.length co70)) (ok := (fun k_ => some k_ ≠ (v375 : Value).ownBlock ∧ k_ ≠ gb381)) (by (with_reducible repeat (first | apply Kd.S_alloc | apply Kd.S_drewN | apply Kd.S_drew)); exact Kd.S_mono HO_39.out (fun _ hk => ⟨⟨hk.1, hk.2.2⟩, hk.2.1⟩)) hg (.inl rfl)); have n3_ := Aside0.mk (blk_grown (g := gb381) (o := .cells #[.slice A380_0 ((rd_T30 t370 x41_1).f0).length c380_0, .slice (some ad387) ((rd_T30 t370 x41_1).f1).length c380_1] 30 (0, 0)) (by (with_reducible repeat (first | refine blk_drewN ?_ _ | refine blk_drew ?_ | refine blk_alloc ?_ _)); exact BK381.out) hg (Kd.R_ne HO_10.out BK381.out (by decide))); have n4_ := Aside0.mk ((show Kd.C (Kd.int .i64) w73 A380_0 ((rd_T30 t370 x41_1).f0).length ((rd_T30 t370 x41_1).f0) from by rw [hw]; exact Kd.C_farP (p := ⟨go69, ((rd ((rd_T30 t370 x41_1).f1) x104_4) : Int).toNat, none⟩) (by repeat (first | (with_reducible exact HR380_0.out) | (with_reducible refine Kd.C_alloc ?_ _) | (with_reducible refine Kd.C_drewN ?_ _) | (with_reducible refine Kd.C_drew ?_) | exact HR380_0.out)) (fun ad_ h1_ h2_ e_ => RF380_0_HO_10.out ad_ h1_ h2_ (by rw [e_]; rfl)) (.int .i64 (wrap64 (x41_1 + 1))))); have n5_ := Aside0.mk ((show Kd.C (Kd.int .i64) w73 (some ad387) ((rd_T30 t370 x41_1).f1).length ((rd_T30 t370 x41_1).f1) from by rw [hw]; exact Kd.C_farP (p := ⟨go69, ((rd ((rd_T30 t370 x41_1).f1) x104_4) : Int).toNat, none⟩) (by repeat (first | (with_reducible exact HR380_1.out) | (with_reducible refine Kd.C_alloc ?_ _) | (with_reducible refine Kd.C_drewN ?_ _) | (with_reducible refine Kd.C_drew ?_) | exact HR380_1.out)) (fun ad_ h1_ h2_ e_ => RF380_1_HO_10.out ad_ h1_ h2_ (by rw [e_]; rfl)) (.int .i64 (wrap64 (x41_1 + 1))))); have n6_ := Aside0.mk ((by rw [hw]; exact below_set (HB.out) GB69.out : Below w.heap.size w w73)); clear HO_9; clear HO_10; clear HO_39; clear BK381; clear HR380_0; clear HR380_1; clear HB; have HO_9 := n0_; have HO_10 := n1_; have HO_39 := n2_; have BK381 := n3_; have HR380_0 := n4_; have HR380_1 := n5_; have HB := n6_; clear n0_ n1_ n2_ n3_ n4_ n5_ n6_; clear hg hw hp_))
         repeat (go_quiet (first | ((with_reducible refine gate_store (t := 3) (p := 141) rfl ?_); (try (rw [drewN_self wr]; generalize hq_ : World.drewN wr _ = wr; have n0_ := Aside0.mk (Kd.R_at hq_ HO_9.out); have n1_ := Aside0.mk (Kd.R_at hq_ HO_10.out); have n2_ := Aside0.mk (Kd.S_at hq_ HO_39.out); have n3_ := Aside0.mk (blk_at hq_ BK381.out); have n4_ := Aside0.mk (Kd.C_at hq_ HR380_0.out); have n5_ := Aside0.mk (Kd.C_at hq_ HR380_1.out); have n6_ := Aside0.mk (below_at hq_ HB.out); clear hq_ HO_9 HO_10 HO_39 BK381 HR380_0 HR380_1 HB; have HO_9 := n0_; have HO_10 := n1_; have HO_39 := n2_; have BK381 := n3_; have HR380_0 := n4_; have HR380_1 := n5_; have HB := n6_; clear n0_ n1_ n2_ n3_ n4_ n5_ n6_; (try (have HP72 := Kd.R_putg HO_10.out ((rd ((rd_T30 t370 x41_1).f1) x104_4) : Int) (wrap64 (x41_1 + 1)))))); refine store_event (t := 3) (p := 141) (v := ?vo_w73) (w1 := (wr.setCell ⟨go69, ((rd ((rd_T30 t370 x41_1).f1) x104_4) : Int).toNat, none⟩ (.int .i64 (wrap64 (x41_1 + 1))))) ?hg ?ho ?hn ?hr ?_; (case ho => rfl); (case hg => rfl); (case hn => rfl); (case hr => first | (go_simp; done) | (go_simp; rfl)); intro w73 hw; have hg : wr.grownBy w73 (some go69) := (by rw [hw]; exact HP72.2); have hp_ : Kd.R (Kd.int .i64) 3 w73 w.heap.size (fun k_ => some k_ ≠ (v375 : Value).ownBlock) (.slice (some ⟨go69, 0, none⟩) x10_4.length co70) y390 := (by rw [hw, Ny390.out]; exact HP72.1); clear HP72; have n0_ := Aside0.mk (Kd.R_after (v := (.slice (some ⟨go69, 0, none⟩) x10_4.length co70)) (v1 := (.slice (some ⟨go69, 0, none⟩) x10_4.length co70)) (ok := (fun _ => True)) (by (with_reducible repeat (first | apply Kd.R_alloc | apply Kd.R_drewN | apply Kd.R_drew)); exact Kd.R_mono HO_9.out (fun _ hk => ⟨trivial, hk⟩)) hg (.inl rfl)); have n1_ := Aside0.mk (hp_); have n2_ := Aside0.mk (Kd.S_after (v := (.slice (some ⟨go69, 0, none⟩) x10_4.length co70)) (v1 := (.slice (some ⟨go69, 0, none⟩) x10_4.length co70)) (ok := (fun k_ => some k_ ≠ (v375 : Value).ownBlock ∧ k_ ≠ gb381)) (by (with_reducible repeat (first | apply Kd.S_alloc | apply Kd.S_drewN | apply Kd.S_drew)); exact Kd.S_mono HO_39.out (fun _ hk => ⟨⟨hk.1, hk.2.2⟩, hk.2.1⟩)) hg (.inl rfl)); have n3_ := Aside0.mk (blk_grown (g := gb381) (o := .cells #[.slice A380_0 ((rd_T30 t370 x41_1).f0).length c380_0, .slice (some ad387) ((rd_T30 t370 x41_1).f1).length c380_1] 30 (0, 0)) (by (with_reducible repeat (first | refine blk_drewN ?_ _ | refine blk_drew ?_ | refine blk_alloc ?_ _)); exact BK381.out) hg (Kd.R_ne HO_10.out BK381.out (by decide))); have n4_ := Aside0.mk ((show Kd.C (Kd.int .i64) w73 A380_0 ((rd_T30 t370 x41_1).f0).length ((rd_T30 t370 x41_1).f0) from by rw [hw]; exact Kd.C_farP (p := ⟨go69, ((rd ((rd_T30 t370 x41_1).f1) x104_4) : Int).toNat, none⟩) (by repeat (first | (with_reducible exact HR380_0.out) | (with_reducible refine Kd.C_alloc ?_ _) | (with_reducible refine Kd.C_drewN ?_ _) | (with_reducible refine Kd.C_drew ?_) | exact HR380_0.out)) (fun ad_ h1_ h2_ e_ => RF380_0_HO_10.out ad_ h1_ h2_ (by rw [e_]; rfl)) (.int .i64 (wrap64 (x41_1 + 1))))); have n5_ := Aside0.mk ((show Kd.C (Kd.int .i64) w73 (some ad387) ((rd_T30 t370 x41_1).f1).length ((rd_T30 t370 x41_1).f1) from by rw [hw]; exact Kd.C_farP (p := ⟨go69, ((rd ((rd_T30 t370 x41_1).f1) x104_4) : Int).toNat, none⟩) (by repeat (first | (with_reducible exact HR380_1.out) | (with_reducible refine Kd.C_alloc ?_ _) | (with_reducible refine Kd.C_drewN ?_ _) | (with_reducible refine Kd.C_drew ?_) | exact HR380_1.out)) (fun ad_ h1_ h2_ e_ => RF380_1_HO_10.out ad_ h1_ h2_ (by rw [e_]; rfl)) (.int .i64 (wrap64 (x41_1 + 1))))); have n6_ := Aside0.mk ((by rw [hw]; exact below_set (HB.out) GB69.out : Below w.heap.size w w73)); clear HO_9; clear HO_10; clear HO_39; clear BK381; clear HR380_0; clear HR380_1; clear HB; have HO_9 := n0_; have HO_10 := n1_; have HO_39 := n2_; have BK381 := n3_; have HR380_0 := n4_; have HR380_1 := n5_; have HB := n6_; clear n0_ n1_ n2_ n3_ n4_ n5_ n6_; clear hg hw hp_)); try go_wp2_with (first | ((with_reducible refine gate_store (t := 3) (p := 141) rfl ?_); (try (rw [drewN_self wr]; generalize hq_ : World.drewN wr _ = wr; have n0_ := Aside0.mk (Kd.R_at hq_ HO_9.out); have n1_ := Aside0.mk (Kd.R_at hq_ HO_10.out); have n2_ := Aside0.mk (Kd.S_at hq_ HO_39.out); have n3_ := Aside0.mk (blk_at hq_ BK381.out); have n4_ := Aside0.mk (Kd.C_at hq_ HR380_0.out); have n5_ := Aside0.mk (Kd.C_at hq_ HR380_1.out); have n6_ := Aside0.mk (below_at hq_ HB.out); clear hq_ HO_9 HO_10 HO_39 BK381 HR380_0 HR380_1 HB; have HO_9 := n0_; have HO_10 := n1_; have HO_39 := n2_; have BK381 := n3_; have HR380_0 := n4_; have HR380_1 := n5_; have HB := n6_; clear n0_ n1_ n2_ n3_ n4_ n5_ n6_; (try (have HP72 := Kd.R_putg HO_10.out ((rd ((rd_T30 t370 x41_1).f1) x104_4) : Int) (wrap64 (x41_1 + 1)))))); refine store_event (t := 3) (p := 141) (v := ?vo_w73) (w1 := (wr.setCell ⟨go69, ((rd ((rd_T30 t370 x41_1).f1) x104_4) : Int).toNat, none⟩ (.int .i64 (wrap64 (x41_1 + 1))))) ?hg ?ho ?hn ?hr ?_; (case ho => rfl); (case hg => rfl); (case hn => rfl); (case hr => first | (go_simp; done) | (go_simp; rfl)); intro w73 hw; have hg : wr.grownBy w73 (some go69) := (by rw [hw]; exact HP72.2); have hp_ : Kd.R (Kd.int .i64) 3 w73 w.heap.size (fun k_ => some k_ ≠ (v375 : Value).ownBlock) (.slice (some ⟨go69, 0, none⟩) x10_4.length co70) y390 := (by rw [hw, Ny390.out]; exact HP72.1); clear HP72; have n0_ := Aside0.mk (Kd.R_after (v := (.slice (some ⟨go69, 0, none⟩) x10_4.length co70)) (v1 := (.slice (some ⟨go69, 0, none⟩) x10_4.length co70)) (ok := (fun _ => True)) (by (with_reducible repeat (first | apply Kd.R_alloc | apply Kd.R_drewN | apply Kd.R_drew)); exact Kd.R_mono HO_9.out (fun _ hk => ⟨trivial, hk⟩)) hg (.inl rfl)); have n1_ := Aside0.mk (hp_); have n2_ := Aside0.mk (Kd.S_after (v := (.slice (some ⟨go69, 0, none⟩) x10_4.length co70)) (v1 := (.slice (some ⟨go69, 0, none⟩) x10_4.length co70)) (ok := (fun k_ => some k_ ≠ (v375 : Value).ownBlock ∧ k_ ≠ gb381)) (by (with_reducible repeat (first | apply Kd.S_alloc | apply Kd.S_drewN | apply Kd.S_drew)); exact Kd.S_mono HO_39.out (fun _ hk => ⟨⟨hk.1, hk.2.2⟩, hk.2.1⟩)) hg (.inl rfl)); have n3_ := Aside0.mk (blk_grown (g := gb381) (o := .cells #[.slice A380_0 ((rd_T30 t370 x41_1).f0).length c380_0, .slice (some ad387) ((rd_T30 t370 x41_1).f1).length c380_1] 30 (0, 0)) (by (with_reducible repeat (first | refine blk_drewN ?_ _ | refine blk_drew ?_ | refine blk_alloc ?_ _)); exact BK381.out) hg (Kd.R_ne HO_10.out BK381.out (by decide))); have n4_ := Aside0.mk ((show Kd.C (Kd.int .i64) w73 A380_0 ((rd_T30 t370 x41_1).f0).length ((rd_T30 t370 x41_1).f0) from by rw [hw]; exact Kd.C_farP (p := ⟨go69, ((rd ((rd_T30 t370 x41_1).f1) x104_4) : Int).toNat, none⟩) (by repeat (first | (with_reducible exact HR380_0.out) | (with_reducible refine Kd.C_alloc ?_ _) | (with_reducible refine Kd.C_drewN ?_ _) | (with_reducible refine Kd.C_drew ?_) | exact HR380_0.out)) (fun ad_ h1_ h2_ e_ => RF380_0_HO_10.out ad_ h1_ h2_ (by rw [e_]; rfl)) (.int .i64 (wrap64 (x41_1 + 1))))); have n5_ := Aside0.mk ((show Kd.C (Kd.int .i64) w73 (some ad387) ((rd_T30 t370 x41_1).f1).length ((rd_T30 t370 x41_1).f1) from by rw [hw]; exact Kd.C_farP (p := ⟨go69, ((rd ((rd_T30 t370 x41_1).f1) x104_4) : Int).toNat, none⟩) (by repeat (first | (with_reducible exact HR380_1.out) | (with_reducible refine Kd.C_alloc ?_ _) | (with_reducible refine Kd.C_drewN ?_ _) | (with_reducible refine Kd.C_drew ?_) | exact HR380_1.out)) (fun ad_ h1_ h2_ e_ => RF380_1_HO_10.out ad_ h1_ h2_ (by rw [e_]; rfl)) (.int .i64 (wrap64 (x41_1 + 1))))); have n6_ := Aside0.mk ((by rw [hw]; exact below_set (HB.out) GB69.out : Below w.heap.size w w73)); clear HO_9; clear HO_10; clear HO_39; clear BK381; clear HR380_0; clear HR380_1; clear HB; have HO_9 := n0_; have HO_10 := n1_; have HO_39 := n2_; have BK381 := n3_; have HR380_0 := n4_; have HR380_1 := n5_; have HB := n6_; clear n0_ n1_ n2_ n3_ n4_ n5_ n6_; clear hg hw hp_)))
         (first | go_roundg k4 | (refine Handed.intro k4 ?measure ?_; rotate_left; go_step; (repeat apply Exists.intro); (refine ⟨?rel, ?fr_⟩); (case fr_ => (simp only [add_plain]; rfl))))
         case measure => have := HK1.out; have := HJ19.out; have := HK3.out; have := HK4.out; omega
         case rel => exact ⟨(y390), (wrap64 (x104_4 + 1)), (by first | rfl | (simp; done) | (simp [*]; done)), H', ⟨by have := HK1.out; have := HJ19.out; have := HK3.out; have := HK4.out; omega⟩, ⟨by (with_reducible repeat (first | apply Kd.R_alloc | apply Kd.R_drewN | apply Kd.R_drew)); exact Kd.R_mono HO_9.out (fun _ hk => hk.2)⟩, ⟨by (with_reducible repeat (first | apply Kd.R_alloc | apply Kd.R_drewN | apply Kd.R_drew)); exact HO_10.out⟩, ⟨by (with_reducible repeat (first | apply Kd.S_alloc | apply Kd.S_drewN | apply Kd.S_drew)); exact Kd.S_mono HO_39.out (fun _ hk => ⟨hk.1.1, ⟨hk.2, hk.1.2⟩⟩)⟩, ⟨by (with_reducible repeat (first | refine blk_drewN ?_ _ | refine blk_drew ?_ | refine blk_alloc ?_ _)); exact BK381.out⟩, ⟨by repeat (first | (with_reducible exact HR380_0.out) | (with_reducible refine Kd.C_alloc ?_ _) | (with_reducible refine Kd.C_drewN ?_ _) | (with_reducible refine Kd.C_drew ?_) | exact HR380_0.out)⟩, ⟨by repeat (first | (with_reducible exact HR380_1.out) | (with_reducible refine Kd.C_alloc ?_ _) | (with_reducible refine Kd.C_drewN ?_ _) | (with_reducible refine Kd.C_drew ?_) | exact HR380_1.out)⟩, ⟨by repeat (first | (with_reducible first | exact HB.out | apply below_alloc | apply pw_below_drewN | apply below_drew1 | refine below_set ?_ GE381.out) | exact HB.out)⟩⟩

end Go.Proofs.Ytlaneafplmbcnaa.PO
