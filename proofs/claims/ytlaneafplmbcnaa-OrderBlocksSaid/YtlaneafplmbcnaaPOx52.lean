/- What the Go functions of this part compute, as Lean functions, and that the machine's calls come to just that; written for this claim by a program of the session (gen.sh, after the kit's printer). -/
import Derived.Test.YtlaneafplmbcnaaPOx0
import Derived.Test.YtlaneafplmbcnaaSq
import Derived.Test.YtlaneafplmbcnaaPOx49
import Derived.Test.YtlaneafplmbcnaaPOx50
import Derived.Test.YtlaneafplmbcnaaPOx51
namespace Go.Proofs.Ytlaneafplmbcnaa.PO
open Go.RowKit Go.Proofs.YtlaneafplmbcnaaW.PrintWords Go.Proofs.YtlaneafplmbcnaaW.PrintLast Go.Proofs.YtlaneafplmbcnaaW.PrintMore
attribute [local go_sem] max2_int min2_int max_two min_two max_three min_three max_four min_four   -- for this text's walks alone
set_option linter.unusedVariables false
set_option linter.unusedSimpArgs false

/-! ### orreryref21_Blocks: function 10 -/
mutual
def orreryref21_Blocks.l0 : Nat → Int → List Int → List (List Int) → List Int → List (S30) → Int → Option ((List (S30)) × Int)
  | 0, _, _, _, _, _, _ => none
  | k + 1, x0, x2, x8, x9, x10, x11 => if x11 > 0 then (orreryref21_Blocks.l1 k x0 x2 x8 x9 x10 x11 0) else (some (x10, 0))
def orreryref21_Blocks.l1 : Nat → Int → List Int → List (List Int) → List Int → List (S30) → Int → Int → Option ((List (S30)) × Int)
  | 0, _, _, _, _, _, _, _ => none
  | k + 1, x0, x2, x8, x9, x10, x11, x12 => if x12 < x0 then (if 0 ≤ x12 then (if x12 < (x9.length : Int) then (if (rd x9 x12) = 1 then (orreryref21_Blocks.j2 k x0 x2 x8 x9 x10 x11 x12 true) else ((orreryref21_free.f k x8 x9 x12).bind fun t325 => (orreryref21_Blocks.j2 k x0 x2 x8 x9 x10 x11 x12 (!t325)))) else (none)) else (none)) else (orreryref21_Blocks.l0 k x0 x2 x8 x9 x10 x11)
def orreryref21_Blocks.j2 : Nat → Int → List Int → List (List Int) → List Int → List (S30) → Int → Int → Bool → Option ((List (S30)) × Int)
  | 0, _, _, _, _, _, _, _, _ => none
  | k + 1, x0, x2, x8, x9, x10, x11, x12, x48 => if x48 = true then (orreryref21_Blocks.l1 k x0 x2 x8 x9 x10 x11 (wrap64 (x12 + 1))) else (if 0 ≤ x0 then (if (x0 : Int).toNat ≤ 35184372088832 then (orreryref21_Blocks.l2 k x0 x2 x8 x9 x10 x11 x12 (List.replicate (x0 : Int).toNat 0) 0 ([] : List Int)) else (none)) else (none))
def orreryref21_Blocks.l2 : Nat → Int → List Int → List (List Int) → List Int → List (S30) → Int → Int → List Int → Int → List Int → Option ((List (S30)) × Int)
  | 0, _, _, _, _, _, _, _, _, _, _ => none
  | k + 1, x0, x2, x8, x9, x10, x11, x12, x14, x15, x327000 => if x15 < x0 then (if x15 = x12 then (if x327000.length < 17592186044416 then (if 0 ≤ x15 then (if x15 < (x2.length : Int) then (if 0 ≤ (rd x2 x15) then (if (rd x2 x15) < (x14.length : Int) then (if x15 < (x9.length : Int) then (orreryref21_Blocks.l2 k x0 x2 x8 (x9.set (x15 : Int).toNat 1) x10 (wrap64 (x11 - 1)) x12 (x14.set ((rd x2 x15) : Int).toNat 1) (wrap64 (x15 + 1)) (x327000 ++ [x15])) else (none)) else (none)) else (none)) else (none)) else (none)) else (none)) else (if 0 ≤ x12 then (if x12 < (x8.length : Int) then (if 0 ≤ x15 then (if x15 < ((rd_L3 x8 x12).length : Int) then (if (rd (rd_L3 x8 x12) x15) = 1 then (if x15 < (x8.length : Int) then (if x12 < ((rd_L3 x8 x15).length : Int) then (if (rd (rd_L3 x8 x15) x12) = 1 then (if x327000.length < 17592186044416 then (if x15 < (x2.length : Int) then (if 0 ≤ (rd x2 x15) then (if (rd x2 x15) < (x14.length : Int) then (if x15 < (x9.length : Int) then (orreryref21_Blocks.l2 k x0 x2 x8 (x9.set (x15 : Int).toNat 1) x10 (wrap64 (x11 - 1)) x12 (x14.set ((rd x2 x15) : Int).toNat 1) (wrap64 (x15 + 1)) (x327000 ++ [x15])) else (none)) else (none)) else (none)) else (none)) else (none)) else (orreryref21_Blocks.l2 k x0 x2 x8 x9 x10 x11 x12 x14 (wrap64 (x15 + 1)) x327000)) else (none)) else (none)) else (orreryref21_Blocks.l2 k x0 x2 x8 x9 x10 x11 x12 x14 (wrap64 (x15 + 1)) x327000)) else (none)) else (none)) else (none)) else (none))) else (orreryref21_Blocks.l3 k x0 x2 x8 x9 x10 x11 x14 (x14.length : Int) 0 x327000 ([] : List Int))
def orreryref21_Blocks.l3 : Nat → Int → List Int → List (List Int) → List Int → List (S30) → Int → List Int → Int → Int → List Int → List Int → Option ((List (S30)) × Int)
  | 0, _, _, _, _, _, _, _, _, _, _, _ => none
  | k + 1, x0, x2, x8, x9, x10, x11, x14, x98, x99, x327000, x327001 => if x99 < x98 then (if 0 ≤ x99 then (if x99 < (x14.length : Int) then (if (rd x14 x99) = 1 then (if x327001.length < 17592186044416 then (orreryref21_Blocks.l3 k x0 x2 x8 x9 x10 x11 x14 x98 (wrap64 (x99 + 1)) x327000 (x327001 ++ [x99])) else (none)) else (orreryref21_Blocks.l3 k x0 x2 x8 x9 x10 x11 x14 x98 (wrap64 (x99 + 1)) x327000 x327001)) else (none)) else (none)) else (if x10.length < 2932031007402 then (orreryref21_Blocks.l0 k x0 x2 x8 x9 (x10 ++ [(⟨x327000, x327001⟩ : S30)]) x11) else (none))
end
def orreryref21_Blocks.f (k : Nat) (a0 : Int) (l1 : List (S33)) (l2 : List Int) : Option ((List (S30)) × Int) := (orreryref20_Told.f k a0 l1 l2).bind fun t314 => (if t314 = true then ((orreryref21_Reach.f k a0 l1 l2).bind fun t315 => (if 0 ≤ a0 then (if (a0 : Int).toNat ≤ 35184372088832 then (orreryref21_Blocks.l0 k a0 l2 t315 (List.replicate (a0 : Int).toNat 0) (([] : List (S30))) a0) else (none)) else (none))) else (some (([] : List (S30)), 170)))
theorem orreryref21_Blocks.mono_l : ∀ k, (∀ y0 y1 y2 y3 y4 y5, LeO (orreryref21_Blocks.l0 k y0 y1 y2 y3 y4 y5) (orreryref21_Blocks.l0 (k + 1) y0 y1 y2 y3 y4 y5)) ∧ (∀ y0 y1 y2 y3 y4 y5 y6, LeO (orreryref21_Blocks.l1 k y0 y1 y2 y3 y4 y5 y6) (orreryref21_Blocks.l1 (k + 1) y0 y1 y2 y3 y4 y5 y6)) ∧ (∀ y0 y1 y2 y3 y4 y5 y6 y7, LeO (orreryref21_Blocks.j2 k y0 y1 y2 y3 y4 y5 y6 y7) (orreryref21_Blocks.j2 (k + 1) y0 y1 y2 y3 y4 y5 y6 y7)) ∧ (∀ y0 y1 y2 y3 y4 y5 y6 y7 y8 y9, LeO (orreryref21_Blocks.l2 k y0 y1 y2 y3 y4 y5 y6 y7 y8 y9) (orreryref21_Blocks.l2 (k + 1) y0 y1 y2 y3 y4 y5 y6 y7 y8 y9)) ∧ (∀ y0 y1 y2 y3 y4 y5 y6 y7 y8 y9 y10, LeO (orreryref21_Blocks.l3 k y0 y1 y2 y3 y4 y5 y6 y7 y8 y9 y10) (orreryref21_Blocks.l3 (k + 1) y0 y1 y2 y3 y4 y5 y6 y7 y8 y9 y10))
  | 0 => ⟨fun _ _ _ _ _ _ r h => by simp [orreryref21_Blocks.l0] at h, fun _ _ _ _ _ _ _ r h => by simp [orreryref21_Blocks.l1] at h, fun _ _ _ _ _ _ _ _ r h => by simp [orreryref21_Blocks.j2] at h, fun _ _ _ _ _ _ _ _ _ _ r h => by simp [orreryref21_Blocks.l2] at h, fun _ _ _ _ _ _ _ _ _ _ _ r h => by simp [orreryref21_Blocks.l3] at h⟩
  | k + 1 => by
    obtain ⟨ih0, ih1, ih2, ih3, ih4⟩ := orreryref21_Blocks.mono_l k
    refine ⟨?_, ?_, ?_, ?_, ?_⟩
    · intro y0 y1 y2 y3 y4 y5
      unfold orreryref21_Blocks.l0
      repeat' first
      | (with_reducible exact ih0 _ _ _ _ _ _)
      | (with_reducible exact ih1 _ _ _ _ _ _ _)
      | (with_reducible exact ih2 _ _ _ _ _ _ _ _)
      | (with_reducible exact ih3 _ _ _ _ _ _ _ _ _ _)
      | (with_reducible exact ih4 _ _ _ _ _ _ _ _ _ _ _)
      | (with_reducible exact orreryref20_Told.mono _ _ _ _)
      | (with_reducible exact orreryref21_Reach.mono _ _ _ _)
      | (with_reducible exact orreryref21_free.mono _ _ _ _)
      | (with_reducible exact LeO.refl _)
      | (with_reducible exact LeO.none _)
      | (with_reducible refine LeO.ite ?_ ?_)
      | (with_reducible refine LeO.bind ?_ (fun _ => ?_))
      | exact ih0 _ _ _ _ _ _
      | exact ih1 _ _ _ _ _ _ _
      | exact ih2 _ _ _ _ _ _ _ _
      | exact ih3 _ _ _ _ _ _ _ _ _ _
      | exact ih4 _ _ _ _ _ _ _ _ _ _ _
      | exact orreryref20_Told.mono _ _ _ _
      | exact orreryref21_Reach.mono _ _ _ _
      | exact orreryref21_free.mono _ _ _ _
      | exact LeO.none _
      | refine LeO.ite ?_ ?_
      | refine LeO.bind ?_ (fun _ => ?_)
    · intro y0 y1 y2 y3 y4 y5 y6
      unfold orreryref21_Blocks.l1
      repeat' first
      | (with_reducible exact ih0 _ _ _ _ _ _)
      | (with_reducible exact ih1 _ _ _ _ _ _ _)
      | (with_reducible exact ih2 _ _ _ _ _ _ _ _)
      | (with_reducible exact ih3 _ _ _ _ _ _ _ _ _ _)
      | (with_reducible exact ih4 _ _ _ _ _ _ _ _ _ _ _)
      | (with_reducible exact orreryref20_Told.mono _ _ _ _)
      | (with_reducible exact orreryref21_Reach.mono _ _ _ _)
      | (with_reducible exact orreryref21_free.mono _ _ _ _)
      | (with_reducible exact LeO.refl _)
      | (with_reducible exact LeO.none _)
      | (with_reducible refine LeO.ite ?_ ?_)
      | (with_reducible refine LeO.bind ?_ (fun _ => ?_))
      | exact ih0 _ _ _ _ _ _
      | exact ih1 _ _ _ _ _ _ _
      | exact ih2 _ _ _ _ _ _ _ _
      | exact ih3 _ _ _ _ _ _ _ _ _ _
      | exact ih4 _ _ _ _ _ _ _ _ _ _ _
      | exact orreryref20_Told.mono _ _ _ _
      | exact orreryref21_Reach.mono _ _ _ _
      | exact orreryref21_free.mono _ _ _ _
      | exact LeO.none _
      | refine LeO.ite ?_ ?_
      | refine LeO.bind ?_ (fun _ => ?_)
    · intro y0 y1 y2 y3 y4 y5 y6 y7
      unfold orreryref21_Blocks.j2
      repeat' first
      | (with_reducible exact ih0 _ _ _ _ _ _)
      | (with_reducible exact ih1 _ _ _ _ _ _ _)
      | (with_reducible exact ih2 _ _ _ _ _ _ _ _)
      | (with_reducible exact ih3 _ _ _ _ _ _ _ _ _ _)
      | (with_reducible exact ih4 _ _ _ _ _ _ _ _ _ _ _)
      | (with_reducible exact orreryref20_Told.mono _ _ _ _)
      | (with_reducible exact orreryref21_Reach.mono _ _ _ _)
      | (with_reducible exact orreryref21_free.mono _ _ _ _)
      | (with_reducible exact LeO.refl _)
      | (with_reducible exact LeO.none _)
      | (with_reducible refine LeO.ite ?_ ?_)
      | (with_reducible refine LeO.bind ?_ (fun _ => ?_))
      | exact ih0 _ _ _ _ _ _
      | exact ih1 _ _ _ _ _ _ _
      | exact ih2 _ _ _ _ _ _ _ _
      | exact ih3 _ _ _ _ _ _ _ _ _ _
      | exact ih4 _ _ _ _ _ _ _ _ _ _ _
      | exact orreryref20_Told.mono _ _ _ _
      | exact orreryref21_Reach.mono _ _ _ _
      | exact orreryref21_free.mono _ _ _ _
      | exact LeO.none _
      | refine LeO.ite ?_ ?_
      | refine LeO.bind ?_ (fun _ => ?_)
    · intro y0 y1 y2 y3 y4 y5 y6 y7 y8 y9
      unfold orreryref21_Blocks.l2
      repeat' first
      | (with_reducible exact ih0 _ _ _ _ _ _)
      | (with_reducible exact ih1 _ _ _ _ _ _ _)
      | (with_reducible exact ih2 _ _ _ _ _ _ _ _)
      | (with_reducible exact ih3 _ _ _ _ _ _ _ _ _ _)
      | (with_reducible exact ih4 _ _ _ _ _ _ _ _ _ _ _)
      | (with_reducible exact orreryref20_Told.mono _ _ _ _)
      | (with_reducible exact orreryref21_Reach.mono _ _ _ _)
      | (with_reducible exact orreryref21_free.mono _ _ _ _)
      | (with_reducible exact LeO.refl _)
      | (with_reducible exact LeO.none _)
      | (with_reducible refine LeO.ite ?_ ?_)
      | (with_reducible refine LeO.bind ?_ (fun _ => ?_))
      | exact ih0 _ _ _ _ _ _
      | exact ih1 _ _ _ _ _ _ _
      | exact ih2 _ _ _ _ _ _ _ _
      | exact ih3 _ _ _ _ _ _ _ _ _ _
      | exact ih4 _ _ _ _ _ _ _ _ _ _ _
      | exact orreryref20_Told.mono _ _ _ _
      | exact orreryref21_Reach.mono _ _ _ _
      | exact orreryref21_free.mono _ _ _ _
      | exact LeO.none _
      | refine LeO.ite ?_ ?_
      | refine LeO.bind ?_ (fun _ => ?_)
    · intro y0 y1 y2 y3 y4 y5 y6 y7 y8 y9 y10
      unfold orreryref21_Blocks.l3
      repeat' first
      | (with_reducible exact ih0 _ _ _ _ _ _)
      | (with_reducible exact ih1 _ _ _ _ _ _ _)
      | (with_reducible exact ih2 _ _ _ _ _ _ _ _)
      | (with_reducible exact ih3 _ _ _ _ _ _ _ _ _ _)
      | (with_reducible exact ih4 _ _ _ _ _ _ _ _ _ _ _)
      | (with_reducible exact orreryref20_Told.mono _ _ _ _)
      | (with_reducible exact orreryref21_Reach.mono _ _ _ _)
      | (with_reducible exact orreryref21_free.mono _ _ _ _)
      | (with_reducible exact LeO.refl _)
      | (with_reducible exact LeO.none _)
      | (with_reducible refine LeO.ite ?_ ?_)
      | (with_reducible refine LeO.bind ?_ (fun _ => ?_))
      | exact ih0 _ _ _ _ _ _
      | exact ih1 _ _ _ _ _ _ _
      | exact ih2 _ _ _ _ _ _ _ _
      | exact ih3 _ _ _ _ _ _ _ _ _ _
      | exact ih4 _ _ _ _ _ _ _ _ _ _ _
      | exact orreryref20_Told.mono _ _ _ _
      | exact orreryref21_Reach.mono _ _ _ _
      | exact orreryref21_free.mono _ _ _ _
      | exact LeO.none _
      | refine LeO.ite ?_ ?_
      | refine LeO.bind ?_ (fun _ => ?_)
theorem orreryref21_Blocks.mono : ∀ a0 a1 a2 k, LeO (orreryref21_Blocks.f k a0 a1 a2) (orreryref21_Blocks.f (k + 1) a0 a1 a2) := by
 intro a0 a1 a2 k
 obtain ⟨ih0, ih1, ih2, ih3, ih4⟩ := orreryref21_Blocks.mono_l k
 unfold orreryref21_Blocks.f
 repeat' first
     | (with_reducible exact ih0 _ _ _ _ _ _)
     | (with_reducible exact ih1 _ _ _ _ _ _ _)
     | (with_reducible exact ih2 _ _ _ _ _ _ _ _)
     | (with_reducible exact ih3 _ _ _ _ _ _ _ _ _ _)
     | (with_reducible exact ih4 _ _ _ _ _ _ _ _ _ _ _)
     | (with_reducible exact orreryref20_Told.mono _ _ _ _)
     | (with_reducible exact orreryref21_Reach.mono _ _ _ _)
     | (with_reducible exact orreryref21_free.mono _ _ _ _)
     | (with_reducible exact LeO.refl _)
     | (with_reducible exact LeO.none _)
     | (with_reducible refine LeO.ite ?_ ?_)
     | (with_reducible refine LeO.bind ?_ (fun _ => ?_))
     | exact ih0 _ _ _ _ _ _
     | exact ih1 _ _ _ _ _ _ _
     | exact ih2 _ _ _ _ _ _ _ _
     | exact ih3 _ _ _ _ _ _ _ _ _ _
     | exact ih4 _ _ _ _ _ _ _ _ _ _ _
     | exact orreryref20_Told.mono _ _ _ _
     | exact orreryref21_Reach.mono _ _ _ _
     | exact orreryref21_free.mono _ _ _ _
     | exact LeO.none _
     | refine LeO.ite ?_ ?_
     | refine LeO.bind ?_ (fun _ => ?_)
set_option maxHeartbeats 8000000 in
set_option maxRecDepth 100000 in
theorem orreryref21_Blocks.calls (k : Nat) (a0 : Int) (A1 : Option Addr) (c1 : Nat) (l1 : List (S33)) (A2 : Option Addr) (c2 : Nat) (l2 : List Int) (r1 : List (S30)) (r2 : Int) (w : World) (hr1 : Kd.C k33 w A1 l1.length l1) (hc1 : l1.length ≤ c1) (hr2 : Kd.C (Kd.int .i64) w A2 l2.length l2) (hc2 : l2.length ≤ c2) (h : orreryref21_Blocks.f k a0 l1 l2 = some (r1, r2)) :
    Calls Try.prog 10 #[.int .i64 a0, .slice A1 l1.length c1, .slice A2 l2.length c2] w fun e w' => ∃ v0_ : Value, e = .returned (.tuple #[v0_, .int .i64 r2]) ∧ Kd.S k30 30 w' w.heap.size (fun _ => True) v0_ r1 ∧ Below w.heap.size w w' := by
 have hu30 := Try.underlying30
 have HR1 := Aside0.mk hr1
 have HC1 := Aside0.mk hc1
 clear hr1 hc1
 have HR2 := Aside0.mk hr2
 have HC2 := Aside0.mk hc2
 clear hr2 hc2
 have HB := Aside0.mk (Below.refl w.heap.size w)
 have H : ((orreryref20_Told.f k a0 l1 l2).bind fun t314 => (if t314 = true then ((orreryref21_Reach.f k a0 l1 l2).bind fun t315 => (if 0 ≤ a0 then (if (a0 : Int).toNat ≤ 35184372088832 then (orreryref21_Blocks.l0 k a0 l2 t315 (List.replicate (a0 : Int).toNat 0) (([] : List (S30))) a0) else (none)) else (none))) else (some (([] : List (S30)), 170)))) = some (r1, r2) := h
 clear h
 replace H := Option.bind_eq_some_iff.mp H
 obtain ⟨t314, A40, H⟩ := H
 replace H : (if t314 = true then ((orreryref21_Reach.f k a0 l1 l2).bind fun t315 => (if 0 ≤ a0 then (if (a0 : Int).toNat ≤ 35184372088832 then (orreryref21_Blocks.l0 k a0 l2 t315 (List.replicate (a0 : Int).toNat 0) (([] : List (S30))) a0) else (none)) else (none))) else (some (([] : List (S30)), 170))) = some (r1, r2) := H
 have A4 := Aside0.mk A40
 clear A40
 by_cases c5 : t314 = true
 case neg =>
  replace c5 := Bool.eq_false_iff.mpr c5
  subst c5
  have H1 : (some (([] : List (S30)), 170)) = some (r1, r2) := by rw [if_neg (show ¬ (false = true) by decide)] at H; exact H
  clear H
  have H := H1
  clear H1
  simp only [Option.some.injEq, Prod.mk.injEq] at H
  obtain ⟨rfl, rfl⟩ := H
  go_enter Try.func10, Try.ntmps10
  go_wp2_with (first | ((with_reducible refine gate_callee (f := 12) rfl ?_); refine goesL_ (some 20) rfl rfl Try.func12 (by kernel_rfl) rfl #[.int .i64 a0, .slice A1 l1.length c1, .slice A2 l2.length c2] rfl (by (try simp only [List.map_toArray, List.map_cons, List.map_nil]); first | done | rfl | (simp only [List.length_drop, List.length_take]; rfl)) ?_; (with_reducible refine (orreryref20_Told.calls k a0 _ _ l1 _ _ l2 false _ ?side1 ?side2 ?side3 ?side4 A4.out).mono ?_); (case side1 => repeat (first | exact HR1.out | (with_reducible refine Kd.C_alloc ?_ _) | (with_reducible refine Kd.C_drewN ?_ _) | (with_reducible refine Kd.C_drew ?_))); (case side2 => exact HC1.out); (case side3 => repeat (first | exact HR2.out | (with_reducible refine Kd.C_alloc ?_ _) | (with_reducible refine Kd.C_drewN ?_ _) | (with_reducible refine Kd.C_drew ?_))); (case side4 => exact HC2.out); rintro e w93 ⟨rfl, hb⟩; refine ⟨_, rfl, ?_⟩; have n0_ := Aside0.mk (below_step (by repeat (first | (with_reducible first | exact HB.out | apply below_alloc | apply pw_below_drewN | apply below_drew1) | exact HB.out)) hb); clear HB; have HB := n0_; clear n0_; (try clear hb); (try clear hb2); (try clear hk); (try clear hi)))
  go_ret2
  exact ⟨_, by first | rfl | (simp [errW_none, errW_some] <;> rfl) | (simp [*, errW_none, errW_some] <;> rfl), by first | exact Kd.S_nil _ _ _ _ _ | exact Kd.N_nil _ _ _ _ _ | exact Kd.V_nil _ _ _ _ _ | exact Kd.Q_nil _ _ _ _ _ | exact Kd.R_nil _ _ _ _ _, by repeat (first | (with_reducible first | exact HB.out | apply below_alloc | apply pw_below_drewN | apply below_drew1) | exact HB.out)⟩
 subst c5
 have H1 : ((orreryref21_Reach.f k a0 l1 l2).bind fun t315 => (if 0 ≤ a0 then (if (a0 : Int).toNat ≤ 35184372088832 then (orreryref21_Blocks.l0 k a0 l2 t315 (List.replicate (a0 : Int).toNat 0) (([] : List (S30))) a0) else (none)) else (none))) = some (r1, r2) := by rw [if_pos rfl] at H; exact H
 clear H
 have H := H1
 clear H1
 replace H := Option.bind_eq_some_iff.mp H
 obtain ⟨t315, A60, H⟩ := H
 replace H : (if 0 ≤ a0 then (if (a0 : Int).toNat ≤ 35184372088832 then (orreryref21_Blocks.l0 k a0 l2 t315 (List.replicate (a0 : Int).toNat 0) (([] : List (S30))) a0) else (none)) else (none)) = some (r1, r2) := H
 have A6 := Aside0.mk A60
 clear A60
 by_cases c7 : 0 ≤ a0
 case neg => rw [if_neg c7] at H; exact absurd H (by simp)
 rw [if_pos c7] at H
 have c7b0 := eq_true c7
 have c7b1 : decide (0 ≤ a0) = true := decide_eq_true c7
 clear c7
 by_cases c8 : (a0 : Int).toNat ≤ 35184372088832
 case neg => rw [if_neg c8] at H; exact absurd H (by simp)
 rw [if_pos c8] at H
 have c8b0 := eq_true c8
 have c8b1 : decide ((a0 : Int).toNat ≤ 35184372088832) = true := decide_eq_true c8
 clear c8
 obtain ⟨y318, hy318⟩ : ∃ y_ : List Int, y_ = (List.replicate (a0 : Int).toNat 0) := ⟨_, rfl⟩
 replace H : (orreryref21_Blocks.l0 k a0 l2 t315 y318 (([] : List (S30))) a0) = some (r1, r2) := by first | (rw [hy318]; with_reducible exact H) | (have H2_ := (Option.bind_some _ _).symm.trans H; rw [hy318]; with_reducible exact H2_) | (have H2_ := (Option.bind_some _ _).symm.trans H; with_reducible exact H2_) | with_reducible exact H | (rw [hy318]; exact H) | exact H
 have Ny318 := Aside0.mk hy318
 clear hy318
 obtain ⟨y321, hy321⟩ : ∃ y_ : List (S30), y_ = (([] : List (S30))) := ⟨_, rfl⟩
 replace H : (orreryref21_Blocks.l0 k a0 l2 t315 y318 y321 a0) = some (r1, r2) := by first | (rw [hy321]; with_reducible exact H) | (have H2_ := (Option.bind_some _ _).symm.trans H; rw [hy321]; with_reducible exact H2_) | (have H2_ := (Option.bind_some _ _).symm.trans H; with_reducible exact H2_) | with_reducible exact H | (rw [hy321]; exact H) | exact H
 have Ny321 := Aside0.mk hy321
 clear hy321
 have H' := Aside0.mk H
 clear H
 go_enter Try.func10, Try.ntmps10
 go_wp2_with (first | ((with_reducible refine gate_callee (f := 12) rfl ?_); refine goesL_ (some 20) rfl rfl Try.func12 (by kernel_rfl) rfl #[.int .i64 a0, .slice A1 l1.length c1, .slice A2 l2.length c2] rfl (by (try simp only [List.map_toArray, List.map_cons, List.map_nil]); first | done | rfl | (simp only [List.length_drop, List.length_take]; rfl)) ?_; (with_reducible refine (orreryref20_Told.calls k a0 _ _ l1 _ _ l2 true _ ?side1 ?side2 ?side3 ?side4 A4.out).mono ?_); (case side1 => repeat (first | exact HR1.out | (with_reducible refine Kd.C_alloc ?_ _) | (with_reducible refine Kd.C_drewN ?_ _) | (with_reducible refine Kd.C_drew ?_))); (case side2 => exact HC1.out); (case side3 => repeat (first | exact HR2.out | (with_reducible refine Kd.C_alloc ?_ _) | (with_reducible refine Kd.C_drewN ?_ _) | (with_reducible refine Kd.C_drew ?_))); (case side4 => exact HC2.out); rintro e w9 ⟨rfl, hb⟩; refine ⟨_, rfl, ?_⟩; have n0_ := Aside0.mk (below_step (by repeat (first | (with_reducible first | exact HB.out | apply below_alloc | apply pw_below_drewN | apply below_drew1) | exact HB.out)) hb); clear HB; have HB := n0_; clear n0_; (try clear hb); (try clear hb2); (try clear hk); (try clear hi)) | ((with_reducible refine gate_callee (f := 14) rfl ?_); refine goesL_ (some 25) rfl rfl Try.func14 (by kernel_rfl) rfl #[.int .i64 a0, .slice A1 l1.length c1, .slice A2 l2.length c2] rfl (by (try simp only [List.map_toArray, List.map_cons, List.map_nil]); first | done | rfl | (simp only [List.length_drop, List.length_take]; rfl)) ?_; (with_reducible refine (orreryref21_Reach.calls k a0 _ _ l1 _ _ l2 t315 _ ?side1 ?side2 ?side3 ?side4 A6.out).mono ?_); (case side1 => repeat (first | exact (Kd.C_below HR1.out HB.out) | (with_reducible refine Kd.C_alloc ?_ _) | (with_reducible refine Kd.C_drewN ?_ _) | (with_reducible refine Kd.C_drew ?_))); (case side2 => exact HC1.out); (case side3 => repeat (first | exact (Kd.C_below HR2.out HB.out) | (with_reducible refine Kd.C_alloc ?_ _) | (with_reducible refine Kd.C_drewN ?_ _) | (with_reducible refine Kd.C_drew ?_))); (case side4 => exact HC2.out); rintro e w10 ⟨v316, rfl, ho0, hb⟩; refine ⟨_, rfl, ?_⟩; have n0_ := Aside0.mk (Kd.S_lower ho0 (below_size (by repeat (first | (with_reducible first | exact HB.out | apply below_alloc | apply pw_below_drewN | apply below_drew1) | exact HB.out)))); have n1_ := Aside0.mk (below_step (by repeat (first | (with_reducible first | exact HB.out | apply below_alloc | apply pw_below_drewN | apply below_drew1) | exact HB.out)) hb); clear HB; have HO317 := n0_; have HB := n1_; clear n0_ n1_; (try clear hb); (try clear hb2); (try clear hk); (try clear hi); (try clear ho0)) | ((with_reducible refine gate_dst (N := 27) rfl ?_); refine Kd.R_make (Kd.int .i64) _ 3 rfl (N := 27) rfl 23 _ _ rfl a0 rfl rfl Try.underlying23 (.int .i64 0) 8 info3 rfl (by decide) (by omega) 0 (ok := fun _ => True) (okp := fun _ => True) rfl (fun _ hk => hk) trivial (of_decide_eq_true (by first | (with_reducible assumption) | assumption)) (Nat.le_trans (Nat.mul_le_mul_right _ (of_decide_eq_true (by first | (with_reducible assumption) | assumption) : a0.toNat ≤ 35184372088832)) (by omega)) (Below.refl _ _) (Nat.le_refl _) ?_; intro v319 w11 ho12 hb hg_ hnew_; clear hg_ hnew_; (first | rw [← Ny318.out] at ho12 | (simp only [Int.reduceToNat] at ho12; rw [← Ny318.out] at ho12)); have n0_ := Aside0.mk (Kd.S_elder' (by (with_reducible repeat (first | apply Kd.S_alloc | apply Kd.S_drewN | apply Kd.S_drew)); exact HO317.out) (Kd.R_base ho12) hb); have n1_ := Aside0.mk (Kd.R_lower ho12 (below_size (by repeat (first | (with_reducible first | exact HB.out | apply below_alloc | apply pw_below_drewN | apply below_drew1) | exact HB.out)))); have n2_ := Aside0.mk (below_step (by repeat (first | (with_reducible first | exact HB.out | apply below_alloc | apply pw_below_drewN | apply below_drew1) | exact HB.out)) hb); clear HO317; clear HB; have HO317 := n0_; have HO320 := n1_; have HB := n2_; clear n0_ n1_ n2_; clear hb ho12) | ((with_reducible refine gate_dst (N := 28) rfl ?_); refine Kd.S_lit k30 _ 30 ?hg (N := 28) ?hd (xs := ([] : List (S30))) (inner := []) (ok := fun _ => True) (okp := fun _ => True) ?hr ?hp (fun _ hk => hk) trivial (Below.refl _ _) (Nat.le_refl _) (by simp) ?_; (case hd => rfl); (case hg => rfl); (case hr => first | (go_simp; done) | (go_simp; rfl)); (case hp => exact (Reps.none _ _)); intro v322 w13 ho14 hb hg_ hnew_; clear hg_ hnew_; (first | rw [← Ny321.out] at ho14 | (simp only [Int.reduceToNat] at ho14; rw [← Ny321.out] at ho14)); have n0_ := Aside0.mk (Kd.S_below (by (with_reducible repeat (first | apply Kd.S_alloc | apply Kd.S_drewN | apply Kd.S_drew)); exact HO317.out) hb); have n1_ := Aside0.mk (Kd.R_below (by (with_reducible repeat (first | apply Kd.R_alloc | apply Kd.R_drewN | apply Kd.R_drew)); exact HO320.out) hb); have n2_ := Aside0.mk (Kd.S_lower (Kd.S_new' ho14 (Kd.R_lt (by (with_reducible repeat (first | apply Kd.R_alloc | apply Kd.R_drewN | apply Kd.R_drew)); exact HO320.out))) (below_size (by repeat (first | (with_reducible first | exact HB.out | apply below_alloc | apply pw_below_drewN | apply below_drew1) | exact HB.out)))); have n3_ := Aside0.mk (below_step (by repeat (first | (with_reducible first | exact HB.out | apply below_alloc | apply pw_below_drewN | apply below_drew1) | exact HB.out)) hb); clear HO317; clear HO320; clear HB; have HO317 := n0_; have HO320 := n1_; have HO323 := n2_; have HB := n3_; clear n0_ n1_ n2_ n3_; clear hb ho14))
 go_loopg [10, 11] k (fun kq v10 v11 w' => ∃ (x9_1 : List Int) (x10_1 : List (S30)) (x11_1 : Int), v11 = .int .i64 x11_1 ∧ Aside0 (orreryref21_Blocks.l0 kq a0 l2 t315 x9_1 x10_1 x11_1 = some (r1, r2)) ∧ Aside0 (kq ≤ k) ∧ Aside0 (Kd.S (Kd.slice 3 (Kd.int .i64)) 23 w' w.heap.size (fun k_ => some k_ ≠ (v319 : Value).ownBlock) v316 t315) ∧ Aside0 (Kd.R (Kd.int .i64) 3 w' w.heap.size (fun _ => True) v319 x9_1) ∧ Aside0 (Kd.S k30 30 w' w.heap.size (fun k_ => some k_ ≠ (v319 : Value).ownBlock) v10 x10_1) ∧ Aside0 (Below w.heap.size w w'))
 case atStart => exact ⟨(y318), (y321), (a0), (by first | rfl | (simp; done) | (simp [*]; done)), H', ⟨Nat.le_refl _⟩, ⟨by (with_reducible repeat (first | apply Kd.S_alloc | apply Kd.S_drewN | apply Kd.S_drew)); exact Kd.S_mono HO317.out (fun _ hk => hk.2)⟩, ⟨by (with_reducible repeat (first | apply Kd.R_alloc | apply Kd.R_drewN | apply Kd.R_drew)); exact HO320.out⟩, ⟨by (with_reducible repeat (first | apply Kd.S_alloc | apply Kd.S_drewN | apply Kd.S_drew)); exact Kd.S_mono HO323.out (fun _ hk => hk.2)⟩, ⟨by repeat (first | (with_reducible first | exact HB.out | apply below_alloc | apply pw_below_drewN | apply below_drew1) | exact HB.out)⟩⟩
 case round =>
  clear H'
  try clear c1
  try clear c2
  try clear p2
  try clear c5
  try clear c7
  try clear c7b0
  try clear c7b1
  try clear c8
  try clear c8b0
  try clear c8b1
  try clear c10
  try clear c12
  try clear c14
  obtain ⟨x9_1, x10_1, x11_1, rfl, HA, HK1, HO_8, HO_9, HO_10, HB⟩ := hrel
  cases gk with
  | zero => exact absurd HA.out (by simp [orreryref21_Blocks.l0])
  | succ k1 =>
   have H := HA.out
   clear HA
   simp only [orreryref21_Blocks.l0] at H
   by_cases c15 : x11_1 > 0
   case neg =>
    rw [if_neg c15] at H
    have c15b0 : decide (0 < x11_1) = false := decide_eq_false c15
    clear c15
    simp only [Option.some.injEq, Prod.mk.injEq] at H
    obtain ⟨rfl, rfl⟩ := H
    go_wp2
    go_ret2
    exact ⟨_, by first | rfl | (simp [errW_none, errW_some] <;> rfl) | (simp [*, errW_none, errW_some] <;> rfl), by (with_reducible repeat (first | apply Kd.S_alloc | apply Kd.S_drewN | apply Kd.S_drew)); exact Kd.S_mono HO_10.out (fun _ hk => trivial), by repeat (first | (with_reducible first | exact HB.out | apply below_alloc | apply pw_below_drewN | apply below_drew1) | exact HB.out)⟩
   rw [if_pos c15] at H
   have c15b0 : decide (0 < x11_1) = true := decide_eq_true c15
   clear c15
   have H' := Aside0.mk H
   clear H
   go_wp2
   go_loopg [10, 11, 12] k1 (fun kq v10 v11 v12 w' => ∃ (x9_2 : List Int) (x10_2 : List (S30)) (x11_2 : Int) (x12_2 : Int), v11 = .int .i64 x11_2 ∧ v12 = .int .i64 x12_2 ∧ Aside0 (orreryref21_Blocks.l1 kq a0 l2 t315 x9_2 x10_2 x11_2 x12_2 = some (r1, r2)) ∧ Aside0 (kq ≤ k1) ∧ Aside0 (Kd.S (Kd.slice 3 (Kd.int .i64)) 23 w' w.heap.size (fun k_ => some k_ ≠ (v319 : Value).ownBlock) v316 t315) ∧ Aside0 (Kd.R (Kd.int .i64) 3 w' w.heap.size (fun _ => True) v319 x9_2) ∧ Aside0 (Kd.S k30 30 w' w.heap.size (fun k_ => some k_ ≠ (v319 : Value).ownBlock) v10 x10_2) ∧ Aside0 (Below w.heap.size w w'))
   case atStart => exact ⟨(x9_1), (x10_1), (x11_1), (0), (by first | rfl | (simp; done) | (simp [*]; done)), (by first | rfl | (simp; done) | (simp [*]; done)), H', ⟨Nat.le_refl _⟩, ⟨by (with_reducible repeat (first | apply Kd.S_alloc | apply Kd.S_drewN | apply Kd.S_drew)); exact HO_8.out⟩, ⟨by (with_reducible repeat (first | apply Kd.R_alloc | apply Kd.R_drewN | apply Kd.R_drew)); exact HO_9.out⟩, ⟨by (with_reducible repeat (first | apply Kd.S_alloc | apply Kd.S_drewN | apply Kd.S_drew)); exact HO_10.out⟩, ⟨by repeat (first | (with_reducible first | exact HB.out | apply below_alloc | apply pw_below_drewN | apply below_drew1) | exact HB.out)⟩⟩
   case round =>
    clear H'
    try clear c1
    try clear c2
    try clear p2
    try clear c5
    try clear c7
    try clear c7b0
    try clear c7b1
    try clear c8
    try clear c8b0
    try clear c8b1
    try clear c10
    try clear c12
    try clear c14
    try clear c15
    try clear c15b0
    try clear p2
    obtain ⟨x9_2, x10_2, x11_2, x12_2, rfl, rfl, HA, HK2, HO_8, HO_9, HO_10, HB⟩ := hrel
    cases gk with
    | zero => exact absurd HA.out (by simp [orreryref21_Blocks.l1])
    | succ k2 =>
     have H := HA.out
     clear HA
     simp only [orreryref21_Blocks.l1] at H
     by_cases c16 : x12_2 < a0
     case neg =>
      rw [if_neg c16] at H
      have c16b0 : decide (x12_2 < a0) = false := decide_eq_false c16
      clear c16
      have H' := Aside0.mk H
      clear H
      go_wp2
      (first | go_roundg k2 | (refine Handed.intro k2 ?measure ?_; rotate_left; go_step; (repeat apply Exists.intro); (refine ⟨?rel, ?fr_⟩); (case fr_ => (simp only [add_plain]; rfl))))
      case measure => have := HK1.out; have := HK2.out; omega
      case rel => exact ⟨(x9_2), (x10_2), (x11_2), (by first | rfl | (simp; done) | (simp [*]; done)), H', ⟨by have := HK1.out; have := HK2.out; omega⟩, ⟨by (with_reducible repeat (first | apply Kd.S_alloc | apply Kd.S_drewN | apply Kd.S_drew)); exact HO_8.out⟩, ⟨by (with_reducible repeat (first | apply Kd.R_alloc | apply Kd.R_drewN | apply Kd.R_drew)); exact HO_9.out⟩, ⟨by (with_reducible repeat (first | apply Kd.S_alloc | apply Kd.S_drewN | apply Kd.S_drew)); exact HO_10.out⟩, ⟨by repeat (first | (with_reducible first | exact HB.out | apply below_alloc | apply pw_below_drewN | apply below_drew1) | exact HB.out)⟩⟩
     rw [if_pos c16] at H
     have c16b0 : decide (x12_2 < a0) = true := decide_eq_true c16
     clear c16
     have HC17 := Aside0.mk H
     clear H
     go_upto_region 11 with (fail)
     go_cut [48] (fun v48 wc => ∃ (kq : Nat) (x48_16 : Bool), v48 = .bool x48_16 ∧ Aside0 (orreryref21_Blocks.j2 kq a0 l2 t315 x9_2 x10_2 x11_2 x12_2 x48_16 = some (r1, r2)) ∧ Aside0 (kq ≤ k2) ∧ Aside0 (Kd.S (Kd.slice 3 (Kd.int .i64)) 23 wc w.heap.size (fun k_ => some k_ ≠ (v319 : Value).ownBlock) v316 t315) ∧ Aside0 (Kd.R (Kd.int .i64) 3 wc w.heap.size (fun _ => True) v319 x9_2) ∧ Aside0 (Kd.S k30 30 wc w.heap.size (fun k_ => some k_ ≠ (v319 : Value).ownBlock) u10 x10_2) ∧ Aside0 (Below w.heap.size w wc))
     case first =>
      have H := HC17.out
      clear HC17
      by_cases c18 : 0 ≤ x12_2
      case neg => rw [if_neg c18] at H; exact absurd H (by simp)
      rw [if_pos c18] at H
      have c18b0 : decide (0 ≤ x12_2) = true := decide_eq_true c18
      clear c18
      (first | rw [c18b0] | (simp only [i64_w, i32_w]; rw [c18b0]) | skip)
      by_cases c19 : x12_2 < (x9_2.length : Int)
      case neg => rw [if_neg c19] at H; exact absurd H (by simp)
      rw [if_pos c19] at H
      have c19b0 : decide (x12_2 < (x9_2.length : Int)) = true := decide_eq_true c19
      clear c19
      by_cases c20 : (rd x9_2 x12_2) = 1
      case pos =>
       rw [if_pos c20] at H
       have c20b0 : ((rd x9_2 x12_2) == 1) = true := beq_iff_eq.mpr c20
       have c20b1 : ((rd x9_2 x12_2) != 1) = false := bne_eq_false_iff_eq.mpr c20
       clear c20
       have H' := Aside0.mk H
       clear H
       obtain ⟨Ao21, co21, eo21⟩ := Kd.R_slice HO_9.out
       subst eo21
       have p324 : 0 ≤ (x12_2 : Int) := of_decide_eq_true (by first | (with_reducible assumption) | assumption)
       have q324 : x12_2 < (x9_2.length : Int) := of_decide_eq_true (by first | (with_reducible assumption) | assumption)
       obtain ⟨ad324, e324, hx324_0⟩ := Kd.at_int (Kd.R_reads' HO_9.out).2.2 x12_2 p324 q324
       cases e324
       replace p324 := eq_true p324
       replace q324 := eq_true q324
       go_wp2
       go_meet
       case rel => exact ⟨_, (true), (by first | rfl | (simp; done) | (simp [*]; done)), H', ⟨by have := HK1.out; have := HK2.out; first | omega | exact Nat.le_refl _⟩, ⟨by (with_reducible repeat (first | apply Kd.S_alloc | apply Kd.S_drewN | apply Kd.S_drew)); exact HO_8.out⟩, ⟨by (with_reducible repeat (first | apply Kd.R_alloc | apply Kd.R_drewN | apply Kd.R_drew)); exact HO_9.out⟩, ⟨by (with_reducible repeat (first | apply Kd.S_alloc | apply Kd.S_drewN | apply Kd.S_drew)); exact HO_10.out⟩, ⟨by repeat (first | (with_reducible first | exact HB.out | apply below_alloc | apply pw_below_drewN | apply below_drew1) | exact HB.out)⟩⟩
      rw [if_neg c20] at H
      have c20b0 : ((rd x9_2 x12_2) == 1) = false := beq_eq_false_iff_ne.mpr c20
      have c20b1 : ((rd x9_2 x12_2) != 1) = true := bne_iff_ne.mpr c20
      replace H := Option.bind_eq_some_iff.mp H
      obtain ⟨t325, A220, H⟩ := H
      replace H : (orreryref21_Blocks.j2 k2 a0 l2 t315 x9_2 x10_2 x11_2 x12_2 (!t325)) = some (r1, r2) := H
      have A22 := Aside0.mk A220
      clear A220
      have H' := Aside0.mk H
      clear H
      obtain ⟨Ao23, co23, eo23⟩ := Kd.R_slice HO_9.out
      subst eo23
      have p324 : 0 ≤ (x12_2 : Int) := of_decide_eq_true (by first | (with_reducible assumption) | assumption)
      have q324 : x12_2 < (x9_2.length : Int) := of_decide_eq_true (by first | (with_reducible assumption) | assumption)
      obtain ⟨ad324, e324, hx324_0⟩ := Kd.at_int (Kd.R_reads' HO_9.out).2.2 x12_2 p324 q324
      cases e324
      replace p324 := eq_true p324
      replace q324 := eq_true q324
      obtain ⟨Ao24, co24, eo24⟩ := Kd.S_slice HO_8.out
      subst eo24
      go_wp2_with (first | (go_at_call 19; (with_reducible refine (orreryref21_free.calls k2 _ _ t315 _ _ x9_2 x12_2 t325 _ ?side1 ?side2 ?side3 ?side4 A22.out).mono ?_); (case side1 => repeat (first | exact (Kd.S_reads' HO_8.out).2.2 | (with_reducible refine Kd.C_alloc ?_ _) | (with_reducible refine Kd.C_drewN ?_ _) | (with_reducible refine Kd.C_drew ?_))); (case side2 => exact (Kd.S_reads' HO_8.out).2.1); (case side3 => repeat (first | exact (Kd.R_reads' HO_9.out).2.2 | (with_reducible refine Kd.C_alloc ?_ _) | (with_reducible refine Kd.C_drewN ?_ _) | (with_reducible refine Kd.C_drew ?_))); (case side4 => exact (Kd.R_reads' HO_9.out).2.1); rintro e w' ⟨rfl, ⟨nd, rfl⟩⟩))
      go_meet
      case rel => exact ⟨_, (!t325), (by first | rfl | (simp; done) | (simp [*]; done)), H', ⟨by have := HK1.out; have := HK2.out; first | omega | exact Nat.le_refl _⟩, ⟨by (with_reducible repeat (first | apply Kd.S_alloc | apply Kd.S_drewN | apply Kd.S_drew)); exact HO_8.out⟩, ⟨by (with_reducible repeat (first | apply Kd.R_alloc | apply Kd.R_drewN | apply Kd.R_drew)); exact HO_9.out⟩, ⟨by (with_reducible repeat (first | apply Kd.S_alloc | apply Kd.S_drewN | apply Kd.S_drew)); exact HO_10.out⟩, ⟨by repeat (first | (with_reducible first | exact HB.out | apply below_alloc | apply pw_below_drewN | apply below_drew1) | exact HB.out)⟩⟩
     case rest =>
      clear HC17
      try clear c1
      try clear c2
      try clear p2
      try clear p3
      try clear q3
      try clear hx3
      try clear c5
      try clear c7
      try clear c7b0
      try clear c7b1
      try clear c8
      try clear c8b0
      try clear c8b1
      try clear c10
      try clear c12
      try clear c14
      try clear c15
      try clear c15b0
      try clear c16
      try clear c16b0
      try clear c18
      try clear c18b0
      try clear c19
      try clear c19b0
      try clear c20
      try clear c20b0
      try clear c20b1
      try clear hx324_0
      try clear p2
      try clear p324
      try clear q324
      obtain ⟨kq, x48_16, rfl, HA, HJ16, HO_8, HO_9, HO_10, HB⟩ := hcut
      cases kq with
      | zero => exact absurd HA.out (by simp [orreryref21_Blocks.j2])
      | succ kj16 =>
       have H := HA.out
       clear HA
       simp only [orreryref21_Blocks.j2] at H
       by_cases c25 : x48_16 = true
       case pos =>
        subst c25
        have H1 : (orreryref21_Blocks.l1 kj16 a0 l2 t315 x9_2 x10_2 x11_2 (wrap64 (x12_2 + 1))) = some (r1, r2) := by rw [if_pos rfl] at H; exact H
        clear H
        have H := H1
        clear H1
        have H' := Aside0.mk H
        clear H
        go_wp2
        (first | go_roundg kj16 | (refine Handed.intro kj16 ?measure ?_; rotate_left; go_step; (repeat apply Exists.intro); (refine ⟨?rel, ?fr_⟩); (case fr_ => (simp only [add_plain]; rfl))))
        case measure => have := HK1.out; have := HK2.out; have := HJ16.out; omega
        case rel => exact ⟨(x9_2), (x10_2), (x11_2), (wrap64 (x12_2 + 1)), (by first | rfl | (simp; done) | (simp [*]; done)), (by first | rfl | (simp; done) | (simp [*]; done)), H', ⟨by have := HK1.out; have := HK2.out; have := HJ16.out; omega⟩, ⟨by (with_reducible repeat (first | apply Kd.S_alloc | apply Kd.S_drewN | apply Kd.S_drew)); exact HO_8.out⟩, ⟨by (with_reducible repeat (first | apply Kd.R_alloc | apply Kd.R_drewN | apply Kd.R_drew)); exact HO_9.out⟩, ⟨by (with_reducible repeat (first | apply Kd.S_alloc | apply Kd.S_drewN | apply Kd.S_drew)); exact HO_10.out⟩, ⟨by repeat (first | (with_reducible first | exact HB.out | apply below_alloc | apply pw_below_drewN | apply below_drew1) | exact HB.out)⟩⟩
       replace c25 := Bool.eq_false_iff.mpr c25
       subst c25
       have H1 : (if 0 ≤ a0 then (if (a0 : Int).toNat ≤ 35184372088832 then (orreryref21_Blocks.l2 kj16 a0 l2 t315 x9_2 x10_2 x11_2 x12_2 (List.replicate (a0 : Int).toNat 0) 0 ([] : List Int)) else (none)) else (none)) = some (r1, r2) := by rw [if_neg (show ¬ (false = true) by decide)] at H; exact H
       clear H
       have H := H1
       clear H1
       by_cases c26 : 0 ≤ a0
       case neg => rw [if_neg c26] at H; exact absurd H (by simp)
       rw [if_pos c26] at H
       have c26b0 := eq_true c26
       have c26b1 : decide (0 ≤ a0) = true := decide_eq_true c26
       clear c26
       by_cases c27 : (a0 : Int).toNat ≤ 35184372088832
       case neg => rw [if_neg c27] at H; exact absurd H (by simp)
       rw [if_pos c27] at H
       have c27b0 := eq_true c27
       have c27b1 : decide ((a0 : Int).toNat ≤ 35184372088832) = true := decide_eq_true c27
       clear c27
       obtain ⟨y327, hy327⟩ : ∃ y_ : List Int, y_ = (List.replicate (a0 : Int).toNat 0) := ⟨_, rfl⟩
       replace H : (orreryref21_Blocks.l2 kj16 a0 l2 t315 x9_2 x10_2 x11_2 x12_2 y327 0 ([] : List Int)) = some (r1, r2) := by first | (rw [hy327]; with_reducible exact H) | (have H2_ := (Option.bind_some _ _).symm.trans H; rw [hy327]; with_reducible exact H2_) | (have H2_ := (Option.bind_some _ _).symm.trans H; with_reducible exact H2_) | with_reducible exact H | (rw [hy327]; exact H) | exact H
       have Ny327 := Aside0.mk hy327
       clear hy327
       have H' := Aside0.mk H
       clear H
       go_wp2_with (first | ((with_reducible refine gate_dst (N := 13) rfl ?_); refine box_event ?hg (N := 13) ?hd (cs := #[.slice none 0 0, .slice none 0 0]) (t := 30) ?hr ?_; (case hd => rfl); (case hg => rfl); (case hr => first | (go_simp; done) | (go_simp; rfl)); intro gb326 hg w28 hbox hb; have n0_ := Aside0.mk (Kd.S_below (by (with_reducible repeat (first | apply Kd.S_alloc | apply Kd.S_drewN | apply Kd.S_drew)); exact HO_8.out) hb); have n1_ := Aside0.mk (Kd.R_below (by (with_reducible repeat (first | apply Kd.R_alloc | apply Kd.R_drewN | apply Kd.R_drew)); exact HO_9.out) hb); have n2_ := Aside0.mk (Kd.S_below (Kd.S_elderB (by (with_reducible repeat (first | apply Kd.S_alloc | apply Kd.S_drewN | apply Kd.S_drew)); exact HO_10.out) gb326 (Nat.le_of_eq hg.symm)) hb); have n3_ := Aside0.mk (below_step (by repeat (first | (with_reducible first | exact HB.out | apply below_alloc | apply pw_below_drewN | apply below_drew1) | exact HB.out)) hb); have n4_ := Aside0.mk (hbox); have n5_ := Aside0.mk ((by rw [hg]; exact (below_size (by repeat (first | (with_reducible first | exact HB.out | apply below_alloc | apply pw_below_drewN | apply below_drew1) | exact HB.out))) : w.heap.size ≤ gb326)); have n6_ := Aside0.mk ((by rw [hg]; exact (below_size (by repeat (first | (with_reducible first | exact HB.out | apply below_alloc | apply pw_below_drewN | apply below_drew1) | exact HB.out))) : w.heap.size ≤ gb326)); clear HO_8; clear HO_9; clear HO_10; clear HB; have HO_8 := n0_; have HO_9 := n1_; have HO_10 := n2_; have HB := n3_; have BK326 := n4_; have GW326 := n5_; have GE326 := n6_; clear n0_ n1_ n2_ n3_ n4_ n5_ n6_; clear hb hbox hg; have hcz29_0 : w28.cell? ⟨gb326, 0, none⟩ = some (.slice none 0 0) := (blk_cell BK326.out 0).trans rfl; have hcz29_1 : w28.cell? ⟨gb326, 1, none⟩ = some (.slice none 0 0) := (blk_cell BK326.out 1).trans rfl; have hfz29_0 := blk_frozen BK326.out 0; have hfz29_1 := blk_frozen BK326.out 1) | ((with_reducible refine gate_dst (N := 51) rfl ?_); refine Kd.R_make (Kd.int .i64) _ 3 rfl (N := 51) rfl 23 _ _ rfl a0 rfl rfl Try.underlying23 (.int .i64 0) 8 info3 rfl (by decide) (by omega) 0 (ok := fun _ => True) (okp := fun _ => True) rfl (fun _ hk => hk) trivial (of_decide_eq_true (by first | (with_reducible assumption) | assumption)) (Nat.le_trans (Nat.mul_le_mul_right _ (of_decide_eq_true (by first | (with_reducible assumption) | assumption) : a0.toNat ≤ 35184372088832)) (by omega)) (Below.refl _ _) (Nat.le_refl _) ?_; intro v328 w30 ho31 hb hg_ hnew_; clear hg_ hnew_; (first | rw [← Ny327.out] at ho31 | (simp only [Int.reduceToNat] at ho31; rw [← Ny327.out] at ho31)); have n0_ := Aside0.mk (Kd.S_elder' (by (with_reducible repeat (first | apply Kd.S_alloc | apply Kd.S_drewN | apply Kd.S_drew)); exact (Kd.S_mono (Kd.S_far (p := ⟨gb326, 1, none⟩) (Kd.S_far (p := ⟨gb326, 0, none⟩) (Kd.S_types HO_8.out BK326.out (by decide)) (fun _ hk => hk.2) (.slice none 0 0)) (fun _ hk => hk.2) (.slice none 0 0)) (fun _ h_ => h_.1))) (Kd.R_base ho31) hb); have n1_ := Aside0.mk (Kd.R_elder' (by (with_reducible repeat (first | apply Kd.R_alloc | apply Kd.R_drewN | apply Kd.R_drew)); exact (Kd.R_mono (Kd.R_far (p := ⟨gb326, 1, none⟩) (Kd.R_far (p := ⟨gb326, 0, none⟩) (Kd.R_types HO_9.out BK326.out (by decide)) (fun _ hk => hk.2) (.slice none 0 0)) (fun _ hk => hk.2) (.slice none 0 0)) (fun _ h_ => h_.1))) (Kd.R_base ho31) hb); have n2_ := Aside0.mk (Kd.S_elder' (by (with_reducible repeat (first | apply Kd.S_alloc | apply Kd.S_drewN | apply Kd.S_drew)); exact (Kd.S_mono (Kd.S_far (p := ⟨gb326, 1, none⟩) (Kd.S_far (p := ⟨gb326, 0, none⟩) (Kd.S_mono HO_10.out (fun k_ hk => (⟨hk, hk.2⟩ : _ ∧ k_ ≠ gb326))) (fun _ hk => hk.2) (.slice none 0 0)) (fun _ hk => hk.2) (.slice none 0 0)) (fun _ h_ => h_.1))) (Kd.R_base ho31) hb); have n3_ := Aside0.mk (Kd.R_lower (Kd.R_new' ho31 (Kd.R_lt (by (with_reducible repeat (first | apply Kd.R_alloc | apply Kd.R_drewN | apply Kd.R_drew)); exact (Kd.R_mono (Kd.R_far (p := ⟨gb326, 1, none⟩) (Kd.R_far (p := ⟨gb326, 0, none⟩) (Kd.R_types HO_9.out BK326.out (by decide)) (fun _ hk => hk.2) (.slice none 0 0)) (fun _ hk => hk.2) (.slice none 0 0)) (fun _ h_ => h_.1))))) (below_size (by repeat (first | (with_reducible first | exact HB.out | apply below_alloc | apply pw_below_drewN | apply below_drew1 | refine below_set ?_ GE326.out) | exact HB.out)))); have n4_ := Aside0.mk (blk_below (g := gb326) (o := .cells #[.slice none 0 0, .slice none 0 0] 30 (0, 0)) (by (with_reducible repeat (first | refine blk_drewN ?_ _ | refine blk_drew ?_ | refine blk_alloc ?_ _)); refine blk_put (cs := #[.slice none 0 0, .slice none 0 0]) ?_ 1 _ rfl; (with_reducible repeat (first | refine blk_drewN ?_ _ | refine blk_drew ?_ | refine blk_alloc ?_ _)); refine blk_put (cs := #[.slice none 0 0, .slice none 0 0]) ?_ 0 _ rfl; (with_reducible repeat (first | refine blk_drewN ?_ _ | refine blk_drew ?_ | refine blk_alloc ?_ _)); exact BK326.out) hb); have n5_ := Aside0.mk (below_step (by repeat (first | (with_reducible first | exact HB.out | apply below_alloc | apply pw_below_drewN | apply below_drew1 | refine below_set ?_ GE326.out) | exact HB.out)) hb); clear HO_8; clear HO_9; clear HO_10; clear BK326; clear HB; have HO_8 := n0_; have HO_9 := n1_; have HO_10 := n2_; have HO329 := n3_; have BK326 := n4_; have HB := n5_; clear n0_ n1_ n2_ n3_ n4_ n5_; clear hb ho31))
       go_loopg [11, 15] kj16 (fun kq v11 v15 w' => ∃ (x9_4 : List Int) (x11_4 : Int) (x14_4 : List Int) (x15_4 : Int) (x327000_4 : List Int) (u327000 : Value), v11 = .int .i64 x11_4 ∧ v15 = .int .i64 x15_4 ∧ Aside0 (orreryref21_Blocks.l2 kq a0 l2 t315 x9_4 x10_2 x11_4 x12_2 x14_4 x15_4 x327000_4 = some (r1, r2)) ∧ Aside0 (kq ≤ kj16) ∧ Aside0 (Kd.S (Kd.slice 3 (Kd.int .i64)) 23 w' w.heap.size (fun k_ => some k_ ≠ (v319 : Value).ownBlock ∧ some k_ ≠ (v328 : Value).ownBlock ∧ some k_ ≠ (u327000 : Value).ownBlock) v316 t315) ∧ Aside0 (Kd.R (Kd.int .i64) 3 w' w.heap.size (fun k_ => some k_ ≠ (v328 : Value).ownBlock ∧ some k_ ≠ (u327000 : Value).ownBlock) v319 x9_4) ∧ Aside0 (Kd.S k30 30 w' w.heap.size (fun k_ => some k_ ≠ (v319 : Value).ownBlock ∧ some k_ ≠ (v328 : Value).ownBlock ∧ some k_ ≠ (u327000 : Value).ownBlock ∧ k_ ≠ gb326) u10 x10_2) ∧ Aside0 (Kd.R (Kd.int .i64) 3 w' w.heap.size (fun k_ => some k_ ≠ (v319 : Value).ownBlock ∧ some k_ ≠ (u327000 : Value).ownBlock) v328 x14_4) ∧ Aside0 (Kd.R (Kd.int .i64) 3 w' w.heap.size (fun k_ => some k_ ≠ (v319 : Value).ownBlock ∧ some k_ ≠ (v328 : Value).ownBlock) u327000 x327000_4) ∧ Aside0 (w'.heap[gb326]? = some (.cells #[u327000, (.slice none 0 0)] 30 (0, 0))) ∧ Aside0 (Below w.heap.size w w'))
       case atStart => exact ⟨(x9_2), (x11_2), (y327), (0), (([] : List Int)), (.slice none 0 0), (by first | rfl | (simp; done) | (simp [*]; done)), (by first | rfl | (simp; done) | (simp [*]; done)), H', ⟨Nat.le_refl _⟩, ⟨by (with_reducible repeat (first | apply Kd.S_alloc | apply Kd.S_drewN | apply Kd.S_drew)); exact Kd.S_mono HO_8.out (fun _ hk => ⟨hk.1, ⟨hk.2, (by simp [Value.ownBlock])⟩⟩)⟩, ⟨by (with_reducible repeat (first | apply Kd.R_alloc | apply Kd.R_drewN | apply Kd.R_drew)); exact Kd.R_mono HO_9.out (fun _ hk => ⟨hk.2, (by simp [Value.ownBlock])⟩)⟩, ⟨by (with_reducible repeat (first | apply Kd.S_alloc | apply Kd.S_drewN | apply Kd.S_drew)); exact Kd.S_mono HO_10.out (fun _ hk => ⟨hk.1.1, ⟨hk.2, ⟨(by simp [Value.ownBlock]), hk.1.2⟩⟩⟩)⟩, ⟨by (with_reducible repeat (first | apply Kd.R_alloc | apply Kd.R_drewN | apply Kd.R_drew)); exact Kd.R_mono HO329.out (fun _ hk => ⟨hk.2, (by simp [Value.ownBlock])⟩)⟩, ⟨by first | exact Kd.R_nil _ _ _ _ _ | exact Kd.N_nil _ _ _ _ _ | exact Kd.V_nil _ _ _ _ _ | exact Kd.Q_nil _ _ _ _ _ | exact Kd.S_nil _ _ _ _ _⟩, ⟨by (with_reducible repeat (first | refine blk_drewN ?_ _ | refine blk_drew ?_ | refine blk_alloc ?_ _)); exact BK326.out⟩, ⟨by repeat (first | (with_reducible first | exact HB.out | apply below_alloc | apply pw_below_drewN | apply below_drew1 | refine below_set ?_ GE326.out) | exact HB.out)⟩⟩
       case round =>
        clear H'
        try clear c1
        try clear c2
        try clear p2
        try clear p3
        try clear q3
        try clear hx3
        try clear c5
        try clear p6
        try clear c7
        try clear c7b0
        try clear c7b1
        try clear c8
        try clear c8b0
        try clear c8b1
        try clear c10
        try clear c12
        try clear c14
        try clear c15
        try clear c15b0
        try clear c16
        try clear c16b0
        try clear c18
        try clear c18b0
        try clear c19
        try clear c19b0
        try clear c20
        try clear c20b0
        try clear c20b1
        try clear c25
        try clear c26
        try clear c26b0
        try clear c26b1
        try clear c27
        try clear c27b0
        try clear c27b1
        try clear hcz29_0
        try clear hcz29_1
        try clear hfz29_0
        try clear hfz29_1
        try clear hx324_0
        try clear p2
        try clear p3
        try clear p324
        try clear q3
        try clear q324
        obtain ⟨x9_4, x11_4, x14_4, x15_4, x327000_4, u327000, rfl, rfl, HA, HK4, HO_8, HO_9, HO_10, HO_14, HO_327000, BK326, HB⟩ := hrel
        cases gk with
        | zero => exact absurd HA.out (by simp [orreryref21_Blocks.l2])
        | succ k4 =>
         have H := HA.out
         clear HA
         simp only [orreryref21_Blocks.l2] at H
         by_cases c32 : x15_4 < a0
         case neg =>
          rw [if_neg c32] at H
          have c32b0 : decide (x15_4 < a0) = false := decide_eq_false c32
          clear c32
          have H' := Aside0.mk H
          clear H
          obtain ⟨Ao78, co78, eo78⟩ := Kd.R_slice HO_14.out
          subst eo78
          go_wp2
          go_loopg [99] k4 (fun kq v99 w' => ∃ (x99_5 : Int) (x327001_5 : List Int) (u327001 : Value), v99 = .int .i64 x99_5 ∧ Aside0 (orreryref21_Blocks.l3 kq a0 l2 t315 x9_4 x10_2 x11_4 x14_4 (x14_4.length : Int) x99_5 x327000_4 x327001_5 = some (r1, r2)) ∧ Aside0 (kq ≤ k4) ∧ Aside0 (Kd.S (Kd.slice 3 (Kd.int .i64)) 23 w' w.heap.size (fun k_ => some k_ ≠ (v319 : Value).ownBlock ∧ some k_ ≠ ((.slice Ao78 x14_4.length co78) : Value).ownBlock ∧ some k_ ≠ (u327000 : Value).ownBlock ∧ some k_ ≠ (u327001 : Value).ownBlock) v316 t315) ∧ Aside0 (Kd.R (Kd.int .i64) 3 w' w.heap.size (fun k_ => some k_ ≠ ((.slice Ao78 x14_4.length co78) : Value).ownBlock ∧ some k_ ≠ (u327000 : Value).ownBlock ∧ some k_ ≠ (u327001 : Value).ownBlock) v319 x9_4) ∧ Aside0 (Kd.S k30 30 w' w.heap.size (fun k_ => some k_ ≠ (v319 : Value).ownBlock ∧ some k_ ≠ ((.slice Ao78 x14_4.length co78) : Value).ownBlock ∧ some k_ ≠ (u327000 : Value).ownBlock ∧ some k_ ≠ (u327001 : Value).ownBlock ∧ k_ ≠ gb326) u10 x10_2) ∧ Aside0 (Kd.R (Kd.int .i64) 3 w' w.heap.size (fun k_ => some k_ ≠ (v319 : Value).ownBlock ∧ some k_ ≠ (u327000 : Value).ownBlock ∧ some k_ ≠ (u327001 : Value).ownBlock) (.slice Ao78 x14_4.length co78) x14_4) ∧ Aside0 (Kd.R (Kd.int .i64) 3 w' w.heap.size (fun k_ => some k_ ≠ (v319 : Value).ownBlock ∧ some k_ ≠ ((.slice Ao78 x14_4.length co78) : Value).ownBlock ∧ some k_ ≠ (u327001 : Value).ownBlock) u327000 x327000_4) ∧ Aside0 (Kd.R (Kd.int .i64) 3 w' w.heap.size (fun k_ => some k_ ≠ (v319 : Value).ownBlock ∧ some k_ ≠ ((.slice Ao78 x14_4.length co78) : Value).ownBlock ∧ some k_ ≠ (u327000 : Value).ownBlock) u327001 x327001_5) ∧ Aside0 (w'.heap[gb326]? = some (.cells #[u327000, u327001] 30 (0, 0))) ∧ Aside0 (Below w.heap.size w w'))
          case atStart => exact ⟨(0), (([] : List Int)), (.slice none 0 0), (by first | rfl | (simp; done) | (simp [*]; done)), H', ⟨Nat.le_refl _⟩, ⟨by (with_reducible repeat (first | apply Kd.S_alloc | apply Kd.S_drewN | apply Kd.S_drew)); exact Kd.S_mono HO_8.out (fun _ hk => ⟨hk.1, ⟨hk.2.1, ⟨hk.2.2, (by simp [Value.ownBlock])⟩⟩⟩)⟩, ⟨by (with_reducible repeat (first | apply Kd.R_alloc | apply Kd.R_drewN | apply Kd.R_drew)); exact Kd.R_mono HO_9.out (fun _ hk => ⟨hk.1, ⟨hk.2, (by simp [Value.ownBlock])⟩⟩)⟩, ⟨by (with_reducible repeat (first | apply Kd.S_alloc | apply Kd.S_drewN | apply Kd.S_drew)); exact Kd.S_mono HO_10.out (fun _ hk => ⟨hk.1, ⟨hk.2.1, ⟨hk.2.2.1, ⟨(by simp [Value.ownBlock]), hk.2.2.2⟩⟩⟩⟩)⟩, ⟨by (with_reducible repeat (first | apply Kd.R_alloc | apply Kd.R_drewN | apply Kd.R_drew)); exact Kd.R_mono HO_14.out (fun _ hk => ⟨hk.1, ⟨hk.2, (by simp [Value.ownBlock])⟩⟩)⟩, ⟨by (with_reducible repeat (first | apply Kd.R_alloc | apply Kd.R_drewN | apply Kd.R_drew)); exact Kd.R_mono HO_327000.out (fun _ hk => ⟨hk.1, ⟨hk.2, (by simp [Value.ownBlock])⟩⟩)⟩, ⟨by first | exact Kd.R_nil _ _ _ _ _ | exact Kd.N_nil _ _ _ _ _ | exact Kd.V_nil _ _ _ _ _ | exact Kd.Q_nil _ _ _ _ _ | exact Kd.S_nil _ _ _ _ _⟩, ⟨by (with_reducible repeat (first | refine blk_drewN ?_ _ | refine blk_drew ?_ | refine blk_alloc ?_ _)); exact BK326.out⟩, ⟨by repeat (first | (with_reducible first | exact HB.out | apply below_alloc | apply pw_below_drewN | apply below_drew1 | refine below_set ?_ GE326.out) | exact HB.out)⟩⟩
          case round =>
           clear H'
           try clear c1
           try clear c2
           try clear p2
           try clear c3
           try clear p3
           try clear q3
           try clear hx3
           try clear hf3
           try clear c4
           try clear p4
           try clear q4
           try clear hx4
           try clear hf4
           try clear c5
           try clear c6
           try clear p6
           try clear q6
           try clear hx6
           try clear hf6
           try clear c7
           try clear c7b0
           try clear c7b1
           try clear c8
           try clear c8b0
           try clear c8b1
           try clear c10
           try clear c12
           try clear c14
           try clear c15
           try clear c15b0
           try clear c16
           try clear c16b0
           try clear c18
           try clear c18b0
           try clear c19
           try clear c19b0
           try clear c20
           try clear c20b0
           try clear c20b1
           try clear c25
           try clear c26
           try clear c26b0
           try clear c26b1
           try clear c27
           try clear c27b0
           try clear c27b1
           try clear c32
           try clear c32b0
           try clear p32
           try clear q32
           try clear hx32
           try clear c33
           try clear c33b0
           try clear c33b1
           try clear p33
           try clear q33
           try clear hx33
           try clear c34
           try clear p34
           try clear q34
           try clear hx34
           try clear c35
           try clear c35b0
           try clear c36
           try clear c36b0
           try clear c37
           try clear c37b0
           try clear c38
           try clear c38b0
           try clear p39
           try clear q39
           try clear hx39
           try clear hf39
           try clear c40
           try clear c40b0
           try clear p41
           try clear q41
           try clear hx41
           try clear hf41
           try clear c51
           try clear c51b0
           try clear c52
           try clear c52b0
           try clear c53
           try clear c53b0
           try clear c54
           try clear c54b0
           try clear c55
           try clear c55b0
           try clear c55b1
           try clear c56
           try clear c56b0
           try clear c57
           try clear c57b0
           try clear c58
           try clear c58b0
           try clear c58b1
           try clear c59
           try clear c60
           try clear c60b0
           try clear c61
           try clear c61b0
           try clear c62
           try clear c62b0
           try clear p63
           try clear q63
           try clear hx63
           try clear hf63
           try clear c64
           try clear c64b0
           try clear p64
           try clear p65
           try clear q65
           try clear hx65
           try clear hf65
           try clear hcz29_0
           try clear hcz29_1
           try clear hcz42_0
           try clear hcz42_1
           try clear hcz45_0
           try clear hcz45_1
           try clear hcz67_0
           try clear hcz67_1
           try clear hcz70_0
           try clear hcz70_1
           try clear hfz29_0
           try clear hfz29_1
           try clear hfz42_0
           try clear hfz42_1
           try clear hfz45_0
           try clear hfz45_1
           try clear hfz67_0
           try clear hfz67_1
           try clear hfz70_0
           try clear hfz70_1
           try clear hx324_0
           try clear hx333_0
           try clear hx336_0
           try clear hx337_0
           try clear hx338_0
           try clear hx339_0
           try clear hx343_0
           try clear hx39_0
           try clear hx41_0
           try clear hx63_0
           try clear hx65_0
           try clear p2
           try clear p3
           try clear p324
           try clear p333
           try clear p336
           try clear p337
           try clear p338
           try clear p339
           try clear p343
           try clear p39
           try clear p41
           try clear p6
           try clear p63
           try clear p65
           try clear q3
           try clear q324
           try clear q333
           try clear q336
           try clear q337
           try clear q338
           try clear q339
           try clear q343
           try clear q39
           try clear q41
           try clear q63
           try clear q65
           obtain ⟨x99_5, x327001_5, u327001, rfl, HA, HK5, HO_8, HO_9, HO_10, HO_14, HO_327000, HO_327001, BK326, HB⟩ := hrel
           cases gk with
           | zero => exact absurd HA.out (by simp [orreryref21_Blocks.l3])
           | succ k5 =>
            have H := HA.out
            clear HA
            simp only [orreryref21_Blocks.l3] at H
            by_cases c79 : x99_5 < (x14_4.length : Int)
            case neg =>
             rw [if_neg c79] at H
             have c79b0 : decide (x99_5 < (x14_4.length : Int)) = false := decide_eq_false c79
             clear c79
             by_cases c88 : x10_2.length < 2932031007402
             case neg => rw [if_neg c88] at H; exact absurd H (by simp)
             rw [if_pos c88] at H
             have LMc88 := Aside0.mk c88
             clear c88
             obtain ⟨y350, hy350⟩ : ∃ y_ : List (S30), y_ = (x10_2 ++ [(⟨x327000_4, x327001_5⟩ : S30)]) := ⟨_, rfl⟩
             replace H : (orreryref21_Blocks.l0 k5 a0 l2 t315 x9_4 y350 x11_4) = some (r1, r2) := by first | (rw [hy350]; with_reducible exact H) | (have H2_ := (Option.bind_some _ _).symm.trans H; rw [hy350]; with_reducible exact H2_) | (have H2_ := (Option.bind_some _ _).symm.trans H; with_reducible exact H2_) | with_reducible exact H | (rw [hy350]; exact H) | exact H
             have Ny350 := Aside0.mk hy350
             clear hy350
             have H' := Aside0.mk H
             clear H
             have hcz89_0 : wr.cell? ⟨gb326, 0, none⟩ = some (u327000) := (blk_cell BK326.out 0).trans rfl
             have hcz89_1 : wr.cell? ⟨gb326, 1, none⟩ = some (u327001) := (blk_cell BK326.out 1).trans rfl
             have hfz89_0 := blk_frozen BK326.out 0
             have hfz89_1 := blk_frozen BK326.out 1
             obtain ⟨Ao91, co91, eo91⟩ := Kd.R_slice HO_327000.out
             subst eo91
             obtain ⟨Ao92, co92, eo92⟩ := Kd.R_slice HO_327001.out
             subst eo92
             go_wp2_with (first | ((with_reducible refine gate_builtin (b := .append) (xs := #[.tmp 114, .tmp 116]) rfl ?_); at_builtin; refine Kd.S_append k30 (w0 := w) w.heap.size rfl (.tmp 114) (.tmp 116) 24 30 (.agg #[(.slice none 0 0), (.slice none 0 0)]) 48 rfl Try.underlying24 info30 rfl (by decide) (by omega) u10 x10_2 (⟨x327000_4, x327001_5⟩ : S30) [.slice Ao91 x327000_4.length co91, .slice Ao92 x327001_5.length co92] (fun k_ => some k_ ≠ (v319 : Value).ownBlock ∧ some k_ ≠ (.slice Ao78 x14_4.length co78 : Value).ownBlock ∧ k_ ≠ gb326) (fun k_ => some k_ = (.slice Ao91 x327000_4.length co91 : Value).ownBlock ∨ some k_ = (.slice Ao92 x327001_5.length co92 : Value).ownBlock) rfl rfl ?aP (fun k_ hk_ => hk_.elim (fun h_ => ((Kd.R_mono (ok' := fun k_ => ((fun k_ => some k_ ≠ (v319 : Value).ownBlock ∧ some k_ ≠ (.slice Ao78 x14_4.length co78 : Value).ownBlock ∧ k_ ≠ gb326)) k_ ∧ some k_ ≠ (u10 : Value).ownBlock) (Kd.R_types (Kd.R_apart' (HO_327000.out) (Kd.S_typed HO_10.out) (by decide)) BK326.out (by decide)) (fun k_ hk => ⟨⟨hk.1.1.1, ⟨hk.1.1.2.1, hk.2⟩⟩, hk.1.2⟩))).1 k_ h_.symm) (fun h_ => ((Kd.R_mono (ok' := fun k_ => ((fun k_ => some k_ ≠ (v319 : Value).ownBlock ∧ some k_ ≠ (.slice Ao78 x14_4.length co78 : Value).ownBlock ∧ k_ ≠ gb326)) k_ ∧ some k_ ≠ (u10 : Value).ownBlock) (Kd.R_types (Kd.R_apart' (HO_327001.out) (Kd.S_typed HO_10.out) (by decide)) BK326.out (by decide)) (fun k_ hk => ⟨⟨hk.1.1.1, ⟨hk.1.1.2.1, hk.2⟩⟩, hk.1.2⟩))).1 k_ h_.symm)) ?aF ?aO ?aB ?aS ?aL ?_; (case aP => exact k30_mkM _ _ _ (⟨x327000_4, x327001_5⟩ : S30) (Kd.R_mono (Kd.R_tight rfl (Kd.R_mono (ok' := fun k_ => ((fun k_ => some k_ ≠ (v319 : Value).ownBlock ∧ some k_ ≠ (.slice Ao78 x14_4.length co78 : Value).ownBlock ∧ k_ ≠ gb326)) k_ ∧ some k_ ≠ (u10 : Value).ownBlock) (Kd.R_types (Kd.R_apart' (HO_327000.out) (Kd.S_typed HO_10.out) (by decide)) BK326.out (by decide)) (fun k_ hk => ⟨⟨hk.1.1.1, ⟨hk.1.1.2.1, hk.2⟩⟩, hk.1.2⟩))) (fun _ h_ => Or.inl h_)) (Kd.R_mono (Kd.R_tight rfl (Kd.R_mono (ok' := fun k_ => ((fun k_ => some k_ ≠ (v319 : Value).ownBlock ∧ some k_ ≠ (.slice Ao78 x14_4.length co78 : Value).ownBlock ∧ k_ ≠ gb326)) k_ ∧ some k_ ≠ (u10 : Value).ownBlock) (Kd.R_types (Kd.R_apart' (HO_327001.out) (Kd.S_typed HO_10.out) (by decide)) BK326.out (by decide)) (fun k_ hk => ⟨⟨hk.1.1.1, ⟨hk.1.1.2.1, hk.2⟩⟩, hk.1.2⟩))) (fun _ h_ => Or.inr (h_)))); (case aB => exact (by repeat (first | (with_reducible first | exact HB.out | apply below_alloc | apply pw_below_drewN | apply below_drew1 | refine below_set ?_ GE326.out) | exact HB.out))); (case aF => exact (fun k_ hk => ⟨Kd.fresh' (Kd.R_lt (by (with_reducible repeat (first | apply Kd.R_alloc | apply Kd.R_drewN | apply Kd.R_drew)); exact HO_9.out)) k_ hk, Kd.fresh' (Kd.R_lt (by (with_reducible repeat (first | apply Kd.R_alloc | apply Kd.R_drewN | apply Kd.R_drew)); exact HO_14.out)) k_ hk, Kd.freshB (g := gb326) (o := .cells #[.slice Ao91 x327000_4.length co91, .slice Ao92 x327001_5.length co92] 30 (0, 0)) (by (with_reducible repeat (first | refine blk_drewN ?_ _ | refine blk_drew ?_ | refine blk_alloc ?_ _)); exact BK326.out) k_ hk⟩)); (case aO => exact (by (with_reducible repeat (first | apply Kd.S_alloc | apply Kd.S_drewN | apply Kd.S_drew)); exact Kd.S_mono HO_10.out (fun k_ hk => ⟨⟨hk.1, ⟨hk.2.1, hk.2.2.2.2⟩⟩, fun e_ => e_.elim (fun h_ => hk.2.2.1 h_) (fun h_ => hk.2.2.2.1 h_)⟩))); (case aS => exact (below_size (by repeat (first | (with_reducible first | exact HB.out | apply below_alloc | apply pw_below_drewN | apply below_drew1 | refine below_set ?_ GE326.out) | exact HB.out)))); (case aL => have := LMc88.out; omega); intro v351 w90 ho hb hg hat; rw [← Ny350.out] at ho; have n0_ := Aside0.mk (Kd.S_over' (by (with_reducible repeat (first | apply Kd.S_alloc | apply Kd.S_drewN | apply Kd.S_drew)); exact HO_8.out) (Kd.S_typed (by (with_reducible repeat (first | apply Kd.S_alloc | apply Kd.S_drewN | apply Kd.S_drew)); exact HO_10.out)) (by decide) hg); have n1_ := Aside0.mk (Kd.R_over' (by (with_reducible repeat (first | apply Kd.R_alloc | apply Kd.R_drewN | apply Kd.R_drew)); exact HO_9.out) (Kd.S_typed (by (with_reducible repeat (first | apply Kd.S_alloc | apply Kd.S_drewN | apply Kd.S_drew)); exact HO_10.out)) (by decide) hg); have n2_ := Aside0.mk (Kd.R_over' (by (with_reducible repeat (first | apply Kd.R_alloc | apply Kd.R_drewN | apply Kd.R_drew)); exact HO_14.out) (Kd.S_typed (by (with_reducible repeat (first | apply Kd.S_alloc | apply Kd.S_drewN | apply Kd.S_drew)); exact HO_10.out)) (by decide) hg); have n3_ := Aside0.mk (blk_grown (g := gb326) (o := .cells #[.slice Ao91 x327000_4.length co91, .slice Ao92 x327001_5.length co92] 30 (0, 0)) (by (with_reducible repeat (first | refine blk_drewN ?_ _ | refine blk_drew ?_ | refine blk_alloc ?_ _)); exact BK326.out) hg (Kd.S_away HO_10.out (fun _ hk => hk.2.2.2.2))); have n4_ := Aside0.mk (hb); have n5_ := Aside0.mk (ho); clear HO_8; clear HO_9; clear HO_14; clear BK326; clear HB; clear HO_10; clear HO_327000; clear HO_327001; have HO_8 := n0_; have HO_9 := n1_; have HO_14 := n2_; have BK326 := n3_; have HB := n4_; have HO352 := n5_; clear n0_ n1_ n2_ n3_ n4_ n5_; clear ho hb hg hat))
             (first | go_roundg k5 | (refine Handed.intro k5 ?measure ?_; rotate_left; go_step; (repeat apply Exists.intro); (refine ⟨?rel, ?fr_⟩); (case fr_ => (simp only [add_plain]; rfl))))
             case measure => have := HK1.out; have := HK2.out; have := HJ16.out; have := HK4.out; have := HK5.out; omega
             case rel => exact ⟨(x9_4), (y350), (x11_4), (by first | rfl | (simp; done) | (simp [*]; done)), H', ⟨by have := HK1.out; have := HK2.out; have := HJ16.out; have := HK4.out; have := HK5.out; omega⟩, ⟨by (with_reducible repeat (first | apply Kd.S_alloc | apply Kd.S_drewN | apply Kd.S_drew)); exact Kd.S_mono HO_8.out (fun _ hk => hk.1)⟩, ⟨by (with_reducible repeat (first | apply Kd.R_alloc | apply Kd.R_drewN | apply Kd.R_drew)); exact Kd.R_mono HO_9.out (fun _ hk => trivial)⟩, ⟨by (with_reducible repeat (first | apply Kd.S_alloc | apply Kd.S_drewN | apply Kd.S_drew)); exact Kd.S_mono HO352.out (fun _ hk => hk.1)⟩, ⟨by repeat (first | (with_reducible first | exact HB.out | apply below_alloc | apply pw_below_drewN | apply below_drew1 | refine below_set ?_ GE326.out) | exact HB.out)⟩⟩
            rw [if_pos c79] at H
            have c79b0 : decide (x99_5 < (x14_4.length : Int)) = true := decide_eq_true c79
            clear c79
            by_cases c80 : 0 ≤ x99_5
            case neg => rw [if_neg c80] at H; exact absurd H (by simp)
            rw [if_pos c80] at H
            have c80b0 : decide (0 ≤ x99_5) = true := decide_eq_true c80
            clear c80
            by_cases c81 : x99_5 < (x14_4.length : Int)
            case neg => rw [if_neg c81] at H; exact absurd H (by simp)
            rw [if_pos c81] at H
            have c81b0 : decide (x99_5 < (x14_4.length : Int)) = true := decide_eq_true c81
            clear c81
            by_cases c82 : (rd x14_4 x99_5) = 1
            case neg =>
             rw [if_neg c82] at H
             have c82b0 : ((rd x14_4 x99_5) == 1) = false := beq_eq_false_iff_ne.mpr c82
             have c82b1 : ((rd x14_4 x99_5) != 1) = true := bne_iff_ne.mpr c82
             have H' := Aside0.mk H
             clear H
             have p346 : 0 ≤ (x99_5 : Int) := of_decide_eq_true (by first | (with_reducible assumption) | assumption)
             have q346 : x99_5 < (x14_4.length : Int) := of_decide_eq_true (by first | (with_reducible assumption) | assumption)
             obtain ⟨ad346, e346, hx346_0⟩ := Kd.at_int (Kd.R_reads' HO_14.out).2.2 x99_5 p346 q346
             cases e346
             replace p346 := eq_true p346
             replace q346 := eq_true q346
             go_wp2
             (first | go_roundg k5 | (refine Handed.intro k5 ?measure ?_; rotate_left; go_step; (repeat apply Exists.intro); (refine ⟨?rel, ?fr_⟩); (case fr_ => (simp only [add_plain]; rfl))))
             case measure => have := HK1.out; have := HK2.out; have := HJ16.out; have := HK4.out; have := HK5.out; omega
             case rel => exact ⟨(wrap64 (x99_5 + 1)), (x327001_5), (u327001), (by first | rfl | (simp; done) | (simp [*]; done)), H', ⟨by have := HK1.out; have := HK2.out; have := HJ16.out; have := HK4.out; have := HK5.out; omega⟩, ⟨by (with_reducible repeat (first | apply Kd.S_alloc | apply Kd.S_drewN | apply Kd.S_drew)); exact HO_8.out⟩, ⟨by (with_reducible repeat (first | apply Kd.R_alloc | apply Kd.R_drewN | apply Kd.R_drew)); exact HO_9.out⟩, ⟨by (with_reducible repeat (first | apply Kd.S_alloc | apply Kd.S_drewN | apply Kd.S_drew)); exact HO_10.out⟩, ⟨by (with_reducible repeat (first | apply Kd.R_alloc | apply Kd.R_drewN | apply Kd.R_drew)); exact HO_14.out⟩, ⟨by (with_reducible repeat (first | apply Kd.R_alloc | apply Kd.R_drewN | apply Kd.R_drew)); exact HO_327000.out⟩, ⟨by (with_reducible repeat (first | apply Kd.R_alloc | apply Kd.R_drewN | apply Kd.R_drew)); exact HO_327001.out⟩, ⟨by (with_reducible repeat (first | refine blk_drewN ?_ _ | refine blk_drew ?_ | refine blk_alloc ?_ _)); exact BK326.out⟩, ⟨by repeat (first | (with_reducible first | exact HB.out | apply below_alloc | apply pw_below_drewN | apply below_drew1 | refine below_set ?_ GE326.out) | exact HB.out)⟩⟩
            rw [if_pos c82] at H
            have c82b0 : ((rd x14_4 x99_5) == 1) = true := beq_iff_eq.mpr c82
            have c82b1 : ((rd x14_4 x99_5) != 1) = false := bne_eq_false_iff_eq.mpr c82
            clear c82
            by_cases c83 : x327001_5.length < 17592186044416
            case neg => rw [if_neg c83] at H; exact absurd H (by simp)
            rw [if_pos c83] at H
            have LMc83 := Aside0.mk c83
            clear c83
            obtain ⟨y347, hy347⟩ : ∃ y_ : List Int, y_ = (x327001_5 ++ [x99_5]) := ⟨_, rfl⟩
            replace H : (orreryref21_Blocks.l3 k5 a0 l2 t315 x9_4 x10_2 x11_4 x14_4 (x14_4.length : Int) (wrap64 (x99_5 + 1)) x327000_4 y347) = some (r1, r2) := by first | (rw [hy347]; with_reducible exact H) | (have H2_ := (Option.bind_some _ _).symm.trans H; rw [hy347]; with_reducible exact H2_) | (have H2_ := (Option.bind_some _ _).symm.trans H; with_reducible exact H2_) | with_reducible exact H | (rw [hy347]; exact H) | exact H
            have Ny347 := Aside0.mk hy347
            clear hy347
            have H' := Aside0.mk H
            clear H
            have p346 : 0 ≤ (x99_5 : Int) := of_decide_eq_true (by first | (with_reducible assumption) | assumption)
            have q346 : x99_5 < (x14_4.length : Int) := of_decide_eq_true (by first | (with_reducible assumption) | assumption)
            obtain ⟨ad346, e346, hx346_0⟩ := Kd.at_int (Kd.R_reads' HO_14.out).2.2 x99_5 p346 q346
            cases e346
            replace p346 := eq_true p346
            replace q346 := eq_true q346
            have hcz84_0 : wr.cell? ⟨gb326, 0, none⟩ = some (u327000) := (blk_cell BK326.out 0).trans rfl
            have hcz84_1 : wr.cell? ⟨gb326, 1, none⟩ = some (u327001) := (blk_cell BK326.out 1).trans rfl
            have hfz84_0 := blk_frozen BK326.out 0
            have hfz84_1 := blk_frozen BK326.out 1
            go_wp2_with (first | ((with_reducible refine gate_builtin (b := .append) (xs := #[.tmp 108, .tmp 110]) rfl ?_); at_builtin; refine Kd.R_append (Kd.int .i64) (w0 := w) w.heap.size rfl (.tmp 108) (.tmp 110) 23 3 (.int .i64 0) 8 rfl Try.underlying23 info3 rfl (by decide) (by omega) u327001 x327001_5 x99_5 [.int .i64 x99_5] (fun k_ => some k_ ≠ (v319 : Value).ownBlock ∧ some k_ ≠ (.slice (some ad346) x14_4.length co78 : Value).ownBlock ∧ some k_ ≠ (u327000 : Value).ownBlock) (fun _ => False) rfl rfl ?aP (fun _ hk => hk.elim) ?aF ?aO ?aB ?aS ?aL ?_; (case aP => exact rfl); (case aB => exact (by repeat (first | (with_reducible first | exact HB.out | apply below_alloc | apply pw_below_drewN | apply below_drew1 | refine below_set ?_ GE326.out) | exact HB.out))); (case aF => exact (fun k_ hk => ⟨Kd.fresh' (Kd.R_lt (by (with_reducible repeat (first | apply Kd.R_alloc | apply Kd.R_drewN | apply Kd.R_drew)); exact HO_9.out)) k_ hk, Kd.fresh' (Kd.R_lt (by (with_reducible repeat (first | apply Kd.R_alloc | apply Kd.R_drewN | apply Kd.R_drew)); exact HO_14.out)) k_ hk, Kd.fresh' (Kd.R_lt (by (with_reducible repeat (first | apply Kd.R_alloc | apply Kd.R_drewN | apply Kd.R_drew)); exact HO_327000.out)) k_ hk⟩)); (case aO => exact (by (with_reducible repeat (first | apply Kd.R_alloc | apply Kd.R_drewN | apply Kd.R_drew)); exact HO_327001.out)); (case aS => exact (below_size (by repeat (first | (with_reducible first | exact HB.out | apply below_alloc | apply pw_below_drewN | apply below_drew1 | refine below_set ?_ GE326.out) | exact HB.out)))); (case aL => have := LMc83.out; omega); intro v348 w85 ho hb hg hat; rw [← Ny347.out] at ho; have n0_ := Aside0.mk (Kd.S_after (ok := (fun k_ => some k_ ≠ (v319 : Value).ownBlock ∧ some k_ ≠ (.slice (some ad346) x14_4.length co78 : Value).ownBlock ∧ some k_ ≠ (u327000 : Value).ownBlock)) (by (with_reducible repeat (first | apply Kd.S_alloc | apply Kd.S_drewN | apply Kd.S_drew)); exact Kd.S_mono HO_8.out (fun _ hk => ⟨⟨hk.1, ⟨hk.2.1, hk.2.2.1⟩⟩, hk.2.2.2⟩)) hg hat); have n1_ := Aside0.mk (Kd.R_after (ok := (fun k_ => some k_ ≠ (.slice (some ad346) x14_4.length co78 : Value).ownBlock ∧ some k_ ≠ (u327000 : Value).ownBlock)) (by (with_reducible repeat (first | apply Kd.R_alloc | apply Kd.R_drewN | apply Kd.R_drew)); exact Kd.R_mono HO_9.out (fun _ hk => ⟨⟨hk.1, hk.2.1⟩, hk.2.2⟩)) hg hat); have n2_ := Aside0.mk (Kd.S_after (ok := (fun k_ => some k_ ≠ (v319 : Value).ownBlock ∧ some k_ ≠ (.slice (some ad346) x14_4.length co78 : Value).ownBlock ∧ some k_ ≠ (u327000 : Value).ownBlock ∧ k_ ≠ gb326)) (by (with_reducible repeat (first | apply Kd.S_alloc | apply Kd.S_drewN | apply Kd.S_drew)); exact Kd.S_mono HO_10.out (fun _ hk => ⟨⟨hk.1, ⟨hk.2.1, ⟨hk.2.2.1, hk.2.2.2.2⟩⟩⟩, hk.2.2.2.1⟩)) hg hat); have n3_ := Aside0.mk (Kd.R_after (ok := (fun k_ => some k_ ≠ (v319 : Value).ownBlock ∧ some k_ ≠ (u327000 : Value).ownBlock)) (by (with_reducible repeat (first | apply Kd.R_alloc | apply Kd.R_drewN | apply Kd.R_drew)); exact Kd.R_mono HO_14.out (fun _ hk => ⟨⟨hk.1, hk.2.1⟩, hk.2.2⟩)) hg hat); have n4_ := Aside0.mk (Kd.R_after (ok := (fun k_ => some k_ ≠ (v319 : Value).ownBlock ∧ some k_ ≠ (.slice (some ad346) x14_4.length co78 : Value).ownBlock)) (by (with_reducible repeat (first | apply Kd.R_alloc | apply Kd.R_drewN | apply Kd.R_drew)); exact Kd.R_mono HO_327000.out (fun _ hk => ⟨⟨hk.1, hk.2.1⟩, hk.2.2⟩)) hg hat); have n5_ := Aside0.mk (blk_grown (g := gb326) (o := .cells #[u327000, u327001] 30 (0, 0)) (by (with_reducible repeat (first | refine blk_drewN ?_ _ | refine blk_drew ?_ | refine blk_alloc ?_ _)); exact BK326.out) hg (Kd.R_ne HO_327001.out BK326.out (by decide))); have n6_ := Aside0.mk (hb); have n7_ := Aside0.mk (ho); clear HO_8; clear HO_9; clear HO_10; clear HO_14; clear HO_327000; clear BK326; clear HB; clear HO_327001; have HO_8 := n0_; have HO_9 := n1_; have HO_10 := n2_; have HO_14 := n3_; have HO_327000 := n4_; have BK326 := n5_; have HB := n6_; have HO349 := n7_; clear n0_ n1_ n2_ n3_ n4_ n5_ n6_ n7_; clear ho hb hg hat; obtain ⟨Ao86, co86, eo86⟩ := Kd.R_slice HO349.out; subst eo86; have hcz87_0 : w85.cell? ⟨gb326, 0, none⟩ = some (u327000) := (blk_cell BK326.out 0).trans rfl; have hcz87_1 : w85.cell? ⟨gb326, 1, none⟩ = some (u327001) := (blk_cell BK326.out 1).trans rfl; have hfz87_0 := blk_frozen BK326.out 0; have hfz87_1 := blk_frozen BK326.out 1))
            (first | go_roundg k5 | (refine Handed.intro k5 ?measure ?_; rotate_left; go_step; (repeat apply Exists.intro); (refine ⟨?rel, ?fr_⟩); (case fr_ => (simp only [add_plain]; rfl))))
            case measure => have := HK1.out; have := HK2.out; have := HJ16.out; have := HK4.out; have := HK5.out; omega
            case rel => exact ⟨(wrap64 (x99_5 + 1)), (y347), (.slice Ao86 y347.length co86), (by first | rfl | (simp; done) | (simp [*]; done)), H', ⟨by have := HK1.out; have := HK2.out; have := HJ16.out; have := HK4.out; have := HK5.out; omega⟩, ⟨by (with_reducible repeat (first | apply Kd.S_alloc | apply Kd.S_drewN | apply Kd.S_drew)); exact Kd.S_mono (Kd.S_far (p := ⟨gb326, 1, none⟩) (Kd.S_types HO_8.out BK326.out (by decide)) (fun _ hk => hk.2) (.slice Ao86 y347.length co86)) (fun _ hk => ⟨hk.1.1.1, ⟨hk.1.1.2.1, ⟨hk.1.1.2.2, hk.1.2⟩⟩⟩)⟩, ⟨by (with_reducible repeat (first | apply Kd.R_alloc | apply Kd.R_drewN | apply Kd.R_drew)); exact Kd.R_mono (Kd.R_far (p := ⟨gb326, 1, none⟩) (Kd.R_types HO_9.out BK326.out (by decide)) (fun _ hk => hk.2) (.slice Ao86 y347.length co86)) (fun _ hk => ⟨hk.1.1.1, ⟨hk.1.1.2, hk.1.2⟩⟩)⟩, ⟨by (with_reducible repeat (first | apply Kd.S_alloc | apply Kd.S_drewN | apply Kd.S_drew)); exact Kd.S_mono (Kd.S_far (p := ⟨gb326, 1, none⟩) (Kd.S_mono HO_10.out (fun k_ hk => (⟨hk, hk.1.2.2.2⟩ : _ ∧ k_ ≠ gb326))) (fun _ hk => hk.2) (.slice Ao86 y347.length co86)) (fun _ hk => ⟨hk.1.1.1, ⟨hk.1.1.2.1, ⟨hk.1.1.2.2.1, ⟨hk.1.2, hk.1.1.2.2.2⟩⟩⟩⟩)⟩, ⟨by (with_reducible repeat (first | apply Kd.R_alloc | apply Kd.R_drewN | apply Kd.R_drew)); exact Kd.R_mono (Kd.R_far (p := ⟨gb326, 1, none⟩) (Kd.R_types HO_14.out BK326.out (by decide)) (fun _ hk => hk.2) (.slice Ao86 y347.length co86)) (fun _ hk => ⟨hk.1.1.1, ⟨hk.1.1.2, hk.1.2⟩⟩)⟩, ⟨by (with_reducible repeat (first | apply Kd.R_alloc | apply Kd.R_drewN | apply Kd.R_drew)); exact Kd.R_mono (Kd.R_far (p := ⟨gb326, 1, none⟩) (Kd.R_types HO_327000.out BK326.out (by decide)) (fun _ hk => hk.2) (.slice Ao86 y347.length co86)) (fun _ hk => ⟨hk.1.1.1, ⟨hk.1.1.2, hk.1.2⟩⟩)⟩, ⟨by (with_reducible repeat (first | apply Kd.R_alloc | apply Kd.R_drewN | apply Kd.R_drew)); exact Kd.R_mono (Kd.R_far (p := ⟨gb326, 1, none⟩) (Kd.R_types HO349.out BK326.out (by decide)) (fun _ hk => hk.2) (.slice Ao86 y347.length co86)) (fun _ hk => ⟨hk.1.1, ⟨hk.1.2.1, hk.1.2.2⟩⟩)⟩, ⟨by (with_reducible repeat (first | refine blk_drewN ?_ _ | refine blk_drew ?_ | refine blk_alloc ?_ _)); refine blk_put (cs := #[u327000, u327001]) ?_ 1 _ rfl; (with_reducible repeat (first | refine blk_drewN ?_ _ | refine blk_drew ?_ | refine blk_alloc ?_ _)); exact BK326.out⟩, ⟨by repeat (first | (with_reducible first | exact HB.out | apply below_alloc | apply pw_below_drewN | apply below_drew1 | refine below_set ?_ GE326.out) | exact HB.out)⟩⟩
         rw [if_pos c32] at H
         have c32b0 : decide (x15_4 < a0) = true := decide_eq_true c32
         clear c32
         by_cases c33 : x15_4 = x12_2
         case pos =>
          rw [if_pos c33] at H
          have c33b0 : (x15_4 == x12_2) = true := beq_iff_eq.mpr c33
          have c33b1 : (x15_4 != x12_2) = false := bne_eq_false_iff_eq.mpr c33
          clear c33
          by_cases c34 : x327000_4.length < 17592186044416
          case neg => rw [if_neg c34] at H; exact absurd H (by simp)
          rw [if_pos c34] at H
          have LMc34 := Aside0.mk c34
          clear c34
          obtain ⟨y330, hy330⟩ : ∃ y_ : List Int, y_ = (x327000_4 ++ [x15_4]) := ⟨_, rfl⟩
          replace H : (if 0 ≤ x15_4 then (if x15_4 < (l2.length : Int) then (if 0 ≤ (rd l2 x15_4) then (if (rd l2 x15_4) < (x14_4.length : Int) then (if x15_4 < (x9_4.length : Int) then (orreryref21_Blocks.l2 k4 a0 l2 t315 (x9_4.set (x15_4 : Int).toNat 1) x10_2 (wrap64 (x11_4 - 1)) x12_2 (x14_4.set ((rd l2 x15_4) : Int).toNat 1) (wrap64 (x15_4 + 1)) y330) else (none)) else (none)) else (none)) else (none)) else (none)) = some (r1, r2) := by first | (rw [hy330]; with_reducible exact H) | (have H2_ := (Option.bind_some _ _).symm.trans H; rw [hy330]; with_reducible exact H2_) | (have H2_ := (Option.bind_some _ _).symm.trans H; with_reducible exact H2_) | with_reducible exact H | (rw [hy330]; exact H) | exact H
          have Ny330 := Aside0.mk hy330
          clear hy330
          by_cases c35 : 0 ≤ x15_4
          case neg => rw [if_neg c35] at H; exact absurd H (by simp)
          rw [if_pos c35] at H
          have c35b0 : decide (0 ≤ x15_4) = true := decide_eq_true c35
          clear c35
          by_cases c36 : x15_4 < (l2.length : Int)
          case neg => rw [if_neg c36] at H; exact absurd H (by simp)
          rw [if_pos c36] at H
          have c36b0 : decide (x15_4 < (l2.length : Int)) = true := decide_eq_true c36
          clear c36
          by_cases c37 : 0 ≤ (rd l2 x15_4)
          case neg => rw [if_neg c37] at H; exact absurd H (by simp)
          rw [if_pos c37] at H
          have c37b0 : decide (0 ≤ (rd l2 x15_4)) = true := decide_eq_true c37
          clear c37
          by_cases c38 : (rd l2 x15_4) < (x14_4.length : Int)
          case neg => rw [if_neg c38] at H; exact absurd H (by simp)
          rw [if_pos c38] at H
          have c38b0 : decide ((rd l2 x15_4) < (x14_4.length : Int)) = true := decide_eq_true c38
          clear c38
          obtain ⟨y334, hy334⟩ : ∃ y_ : List Int, y_ = (x14_4.set ((rd l2 x15_4) : Int).toNat 1) := ⟨_, rfl⟩
          replace H : (if x15_4 < (x9_4.length : Int) then (orreryref21_Blocks.l2 k4 a0 l2 t315 (x9_4.set (x15_4 : Int).toNat 1) x10_2 (wrap64 (x11_4 - 1)) x12_2 y334 (wrap64 (x15_4 + 1)) y330) else (none)) = some (r1, r2) := by first | (rw [hy334]; with_reducible exact H) | (have H2_ := (Option.bind_some _ _).symm.trans H; rw [hy334]; with_reducible exact H2_) | (have H2_ := (Option.bind_some _ _).symm.trans H; with_reducible exact H2_) | with_reducible exact H | (rw [hy334]; exact H) | exact H
          have Ny334 := Aside0.mk hy334
          clear hy334
          by_cases c40 : x15_4 < (x9_4.length : Int)
          case neg => rw [if_neg c40] at H; exact absurd H (by simp)
          rw [if_pos c40] at H
          have c40b0 : decide (x15_4 < (x9_4.length : Int)) = true := decide_eq_true c40
          clear c40
          obtain ⟨y335, hy335⟩ : ∃ y_ : List Int, y_ = (x9_4.set (x15_4 : Int).toNat 1) := ⟨_, rfl⟩
          replace H : (orreryref21_Blocks.l2 k4 a0 l2 t315 y335 x10_2 (wrap64 (x11_4 - 1)) x12_2 y334 (wrap64 (x15_4 + 1)) y330) = some (r1, r2) := by first | (rw [hy335]; with_reducible exact H) | (have H2_ := (Option.bind_some _ _).symm.trans H; rw [hy335]; with_reducible exact H2_) | (have H2_ := (Option.bind_some _ _).symm.trans H; with_reducible exact H2_) | with_reducible exact H | (rw [hy335]; exact H) | exact H
          have Ny335 := Aside0.mk hy335
          clear hy335
          have H' := Aside0.mk H
          clear H
          have hcz42_0 : wr.cell? ⟨gb326, 0, none⟩ = some (u327000) := (blk_cell BK326.out 0).trans rfl
          have hcz42_1 : wr.cell? ⟨gb326, 1, none⟩ = some (.slice none 0 0) := (blk_cell BK326.out 1).trans rfl
          have hfz42_0 := blk_frozen BK326.out 0
          have hfz42_1 := blk_frozen BK326.out 1
          go_wp2_with (first | ((with_reducible refine gate_builtin (b := .append) (xs := #[.tmp 81, .tmp 83]) rfl ?_); at_builtin; refine Kd.R_append (Kd.int .i64) (w0 := w) w.heap.size rfl (.tmp 81) (.tmp 83) 23 3 (.int .i64 0) 8 rfl Try.underlying23 info3 rfl (by decide) (by omega) u327000 x327000_4 x15_4 [.int .i64 x15_4] (fun k_ => some k_ ≠ (v319 : Value).ownBlock ∧ some k_ ≠ (v328 : Value).ownBlock) (fun _ => False) rfl rfl ?aP (fun _ hk => hk.elim) ?aF ?aO ?aB ?aS ?aL ?_; (case aP => exact rfl); (case aB => exact (by repeat (first | (with_reducible first | exact HB.out | apply below_alloc | apply pw_below_drewN | apply below_drew1 | refine below_set ?_ GE326.out) | exact HB.out))); (case aF => exact (fun k_ hk => ⟨Kd.fresh' (Kd.R_lt (by (with_reducible repeat (first | apply Kd.R_alloc | apply Kd.R_drewN | apply Kd.R_drew)); exact HO_9.out)) k_ hk, Kd.fresh' (Kd.R_lt (by (with_reducible repeat (first | apply Kd.R_alloc | apply Kd.R_drewN | apply Kd.R_drew)); exact HO_14.out)) k_ hk⟩)); (case aO => exact (by (with_reducible repeat (first | apply Kd.R_alloc | apply Kd.R_drewN | apply Kd.R_drew)); exact HO_327000.out)); (case aS => exact (below_size (by repeat (first | (with_reducible first | exact HB.out | apply below_alloc | apply pw_below_drewN | apply below_drew1 | refine below_set ?_ GE326.out) | exact HB.out)))); (case aL => have := LMc34.out; omega); intro v331 w43 ho hb hg hat; rw [← Ny330.out] at ho; have n0_ := Aside0.mk (Kd.S_after (ok := (fun k_ => some k_ ≠ (v319 : Value).ownBlock ∧ some k_ ≠ (v328 : Value).ownBlock)) (by (with_reducible repeat (first | apply Kd.S_alloc | apply Kd.S_drewN | apply Kd.S_drew)); exact Kd.S_mono HO_8.out (fun _ hk => ⟨⟨hk.1, hk.2.1⟩, hk.2.2⟩)) hg hat); have n1_ := Aside0.mk (Kd.R_after (ok := (fun k_ => some k_ ≠ (v328 : Value).ownBlock)) (by (with_reducible repeat (first | apply Kd.R_alloc | apply Kd.R_drewN | apply Kd.R_drew)); exact HO_9.out) hg hat); have n2_ := Aside0.mk (Kd.S_after (ok := (fun k_ => some k_ ≠ (v319 : Value).ownBlock ∧ some k_ ≠ (v328 : Value).ownBlock ∧ k_ ≠ gb326)) (by (with_reducible repeat (first | apply Kd.S_alloc | apply Kd.S_drewN | apply Kd.S_drew)); exact Kd.S_mono HO_10.out (fun _ hk => ⟨⟨hk.1, ⟨hk.2.1, hk.2.2.2⟩⟩, hk.2.2.1⟩)) hg hat); have n3_ := Aside0.mk (Kd.R_after (ok := (fun k_ => some k_ ≠ (v319 : Value).ownBlock)) (by (with_reducible repeat (first | apply Kd.R_alloc | apply Kd.R_drewN | apply Kd.R_drew)); exact HO_14.out) hg hat); have n4_ := Aside0.mk (blk_grown (g := gb326) (o := .cells #[u327000, .slice none 0 0] 30 (0, 0)) (by (with_reducible repeat (first | refine blk_drewN ?_ _ | refine blk_drew ?_ | refine blk_alloc ?_ _)); exact BK326.out) hg (Kd.R_ne HO_327000.out BK326.out (by decide))); have n5_ := Aside0.mk (hb); have n6_ := Aside0.mk (ho); clear HO_8; clear HO_9; clear HO_10; clear HO_14; clear BK326; clear HB; clear HO_327000; have HO_8 := n0_; have HO_9 := n1_; have HO_10 := n2_; have HO_14 := n3_; have BK326 := n4_; have HB := n5_; have HO332 := n6_; clear n0_ n1_ n2_ n3_ n4_ n5_ n6_; clear ho hb hg hat; obtain ⟨Ao44, co44, eo44⟩ := Kd.R_slice HO332.out; subst eo44; have hcz45_0 : w43.cell? ⟨gb326, 0, none⟩ = some (u327000) := (blk_cell BK326.out 0).trans rfl; have hcz45_1 : w43.cell? ⟨gb326, 1, none⟩ = some (.slice none 0 0) := (blk_cell BK326.out 1).trans rfl; have hfz45_0 := blk_frozen BK326.out 0; have hfz45_1 := blk_frozen BK326.out 1) | ((with_reducible refine gate_store (t := 23) (p := 85) rfl ?_); refine store_event (t := 23) (p := 85) (v := ?vo_w46) (w1 := (w43.setCell ⟨gb326, 0, none⟩ (.slice Ao44 y330.length co44))) ?hg ?ho ?hn ?hr ?_; (case ho => rfl); (case hg => rfl); (case hn => rfl); (case hr => first | (go_simp; done) | (go_simp; rfl)); intro w46 hw; have n0_ : Aside0 (Kd.S (Kd.slice 3 (Kd.int .i64)) 23 w46 w.heap.size (fun k_ => some k_ ≠ (v319 : Value).ownBlock ∧ some k_ ≠ (v328 : Value).ownBlock ∧ some k_ ≠ (.slice Ao44 y330.length co44 : Value).ownBlock) v316 t315) := ⟨(by rw [hw]; exact (by (with_reducible repeat (first | apply Kd.S_alloc | apply Kd.S_drewN | apply Kd.S_drew)); exact Kd.S_mono (Kd.S_far (p := ⟨gb326, 0, none⟩) (Kd.S_types HO_8.out BK326.out (by decide)) (fun _ hk => hk.2) (.slice Ao44 y330.length co44)) (fun _ hk => ⟨hk.1.1.1, ⟨hk.1.1.2, hk.1.2⟩⟩)))⟩; have n1_ : Aside0 (Kd.R (Kd.int .i64) 3 w46 w.heap.size (fun k_ => some k_ ≠ (v328 : Value).ownBlock ∧ some k_ ≠ (.slice Ao44 y330.length co44 : Value).ownBlock) v319 x9_4) := ⟨(by rw [hw]; exact (by (with_reducible repeat (first | apply Kd.R_alloc | apply Kd.R_drewN | apply Kd.R_drew)); exact Kd.R_mono (Kd.R_far (p := ⟨gb326, 0, none⟩) (Kd.R_types HO_9.out BK326.out (by decide)) (fun _ hk => hk.2) (.slice Ao44 y330.length co44)) (fun _ hk => ⟨hk.1.1, hk.1.2⟩)))⟩; have n2_ : Aside0 (Kd.S k30 30 w46 w.heap.size (fun k_ => some k_ ≠ (v319 : Value).ownBlock ∧ some k_ ≠ (v328 : Value).ownBlock ∧ some k_ ≠ (.slice Ao44 y330.length co44 : Value).ownBlock ∧ k_ ≠ gb326) u10 x10_2) := ⟨(by rw [hw]; exact (by (with_reducible repeat (first | apply Kd.S_alloc | apply Kd.S_drewN | apply Kd.S_drew)); exact Kd.S_mono (Kd.S_far (p := ⟨gb326, 0, none⟩) (Kd.S_mono HO_10.out (fun k_ hk => (⟨hk, hk.1.2.2⟩ : _ ∧ k_ ≠ gb326))) (fun _ hk => hk.2) (.slice Ao44 y330.length co44)) (fun _ hk => ⟨hk.1.1.1, ⟨hk.1.1.2.1, ⟨hk.1.2, hk.1.1.2.2⟩⟩⟩)))⟩; have n3_ : Aside0 (Kd.R (Kd.int .i64) 3 w46 w.heap.size (fun k_ => some k_ ≠ (v319 : Value).ownBlock ∧ some k_ ≠ (.slice Ao44 y330.length co44 : Value).ownBlock) v328 x14_4) := ⟨(by rw [hw]; exact (by (with_reducible repeat (first | apply Kd.R_alloc | apply Kd.R_drewN | apply Kd.R_drew)); exact Kd.R_mono (Kd.R_far (p := ⟨gb326, 0, none⟩) (Kd.R_types HO_14.out BK326.out (by decide)) (fun _ hk => hk.2) (.slice Ao44 y330.length co44)) (fun _ hk => ⟨hk.1.1, hk.1.2⟩)))⟩; have n4_ : Aside0 (Kd.R (Kd.int .i64) 3 w46 w.heap.size (fun k_ => some k_ ≠ (v319 : Value).ownBlock ∧ some k_ ≠ (v328 : Value).ownBlock) (.slice Ao44 y330.length co44) y330) := ⟨(by rw [hw]; exact (by (with_reducible repeat (first | apply Kd.R_alloc | apply Kd.R_drewN | apply Kd.R_drew)); exact Kd.R_mono (Kd.R_far (p := ⟨gb326, 0, none⟩) (Kd.R_types HO332.out BK326.out (by decide)) (fun _ hk => hk.2) (.slice Ao44 y330.length co44)) (fun _ hk => ⟨hk.1.1, hk.1.2⟩)))⟩; have n5_ : Aside0 (w46.heap[gb326]? = some (.cells #[.slice Ao44 y330.length co44, .slice none 0 0] 30 (0, 0))) := ⟨(by rw [hw]; exact (by (with_reducible repeat (first | refine blk_drewN ?_ _ | refine blk_drew ?_ | refine blk_alloc ?_ _)); refine blk_put (cs := #[u327000, .slice none 0 0]) ?_ 0 _ rfl; (with_reducible repeat (first | refine blk_drewN ?_ _ | refine blk_drew ?_ | refine blk_alloc ?_ _)); exact BK326.out))⟩; have n6_ : Aside0 (Below w.heap.size w w46) := ⟨(by rw [hw]; exact (by repeat (first | (with_reducible first | exact HB.out | apply below_alloc | apply pw_below_drewN | apply below_drew1 | refine below_set ?_ GE326.out) | exact HB.out)))⟩; clear hw; clear HO_8; clear HO_9; clear HO_10; clear HO_14; clear HO332; clear BK326; clear HB; have HO_8 := n0_; have HO_9 := n1_; have HO_10 := n2_; have HO_14 := n3_; have HO332 := n4_; have BK326 := n5_; have HB := n6_; clear n0_ n1_ n2_ n3_ n4_ n5_ n6_; have p333 : 0 ≤ (x15_4 : Int) := of_decide_eq_true (by first | (with_reducible assumption) | assumption); have q333 : x15_4 < (l2.length : Int) := of_decide_eq_true (by first | (with_reducible assumption) | assumption); obtain ⟨ad333, e333, hx333_0⟩ := Kd.at_int HR2.out x15_4 p333 q333; cases e333; replace hx333_0 := (HB.out.cell (World.block_lt_of_cell? w _ hx333_0)).trans hx333_0; replace p333 := eq_true p333; replace q333 := eq_true q333; have p39 : 0 ≤ ((rd l2 x15_4) : Int) := of_decide_eq_true (by first | (with_reducible assumption) | assumption); have q39 : ((rd l2 x15_4) : Int) < ((x14_4.length : Int) : Int) := of_decide_eq_true (by first | (with_reducible assumption) | assumption); obtain ⟨go39, co39, eo39, gb39, gl39, cl39, HG39⟩ := Kd.R_form HO_14.out (by omega); (first | cases eo39 | (injection eo39 with ea_ en_ ec_; (first | subst ea_ | (injection ea_ with ea_; subst ea_)); subst ec_; clear en_)); have GB39 := Aside0.mk gb39; have GG39 := Aside0.mk HG39; clear gb39 gl39 HG39; obtain ⟨hx39_0, hf39_0⟩ := Kd.R_celln 0 HO_14.out ((rd l2 x15_4) : Int) p39 q39; replace p39 := eq_true p39; replace q39 := eq_true q39; obtain ⟨hy47_, hz47_⟩ := Kd.R_celln 0 HO_14.out ((rd l2 x15_4) : Int) (of_decide_eq_true (by first | (with_reducible assumption) | assumption)) (of_decide_eq_true (by first | (with_reducible assumption) | assumption)); have HP47 := Kd.R_putg HO_14.out ((rd l2 x15_4) : Int) 1) | ((with_reducible refine gate_store (t := 3) (p := 91) rfl ?_); refine store_event (t := 3) (p := 91) (v := ?vo_w48) (w1 := (w46.setCell ⟨go39, ((rd l2 x15_4) : Int).toNat, none⟩ (.int .i64 1))) ?hg ?ho ?hn ?hr ?_; (case ho => rfl); (case hg => rfl); (case hn => rfl); (case hr => first | (go_simp; done) | (go_simp; rfl)); intro w48 hw; have hg : w46.grownBy w48 (some go39) := (by rw [hw]; exact HP47.2); have hp_ : Kd.R (Kd.int .i64) 3 w48 w.heap.size (fun k_ => some k_ ≠ (v319 : Value).ownBlock ∧ some k_ ≠ (.slice Ao44 y330.length co44 : Value).ownBlock) (.slice (some ⟨go39, 0, none⟩) x14_4.length co39) y334 := (by rw [hw, Ny334.out]; exact HP47.1); clear HP47; have n0_ := Aside0.mk (Kd.S_after (v := (.slice (some ⟨go39, 0, none⟩) x14_4.length co39)) (v1 := (.slice (some ⟨go39, 0, none⟩) x14_4.length co39)) (ok := (fun k_ => some k_ ≠ (v319 : Value).ownBlock ∧ some k_ ≠ (.slice Ao44 y330.length co44 : Value).ownBlock)) (by (with_reducible repeat (first | apply Kd.S_alloc | apply Kd.S_drewN | apply Kd.S_drew)); exact Kd.S_mono HO_8.out (fun _ hk => ⟨⟨hk.1, hk.2.2⟩, hk.2.1⟩)) hg (.inl rfl)); have n1_ := Aside0.mk (Kd.R_after (v := (.slice (some ⟨go39, 0, none⟩) x14_4.length co39)) (v1 := (.slice (some ⟨go39, 0, none⟩) x14_4.length co39)) (ok := (fun k_ => some k_ ≠ (.slice Ao44 y330.length co44 : Value).ownBlock)) (by (with_reducible repeat (first | apply Kd.R_alloc | apply Kd.R_drewN | apply Kd.R_drew)); exact Kd.R_mono HO_9.out (fun _ hk => ⟨hk.2, hk.1⟩)) hg (.inl rfl)); have n2_ := Aside0.mk (Kd.S_after (v := (.slice (some ⟨go39, 0, none⟩) x14_4.length co39)) (v1 := (.slice (some ⟨go39, 0, none⟩) x14_4.length co39)) (ok := (fun k_ => some k_ ≠ (v319 : Value).ownBlock ∧ some k_ ≠ (.slice Ao44 y330.length co44 : Value).ownBlock ∧ k_ ≠ gb326)) (by (with_reducible repeat (first | apply Kd.S_alloc | apply Kd.S_drewN | apply Kd.S_drew)); exact Kd.S_mono HO_10.out (fun _ hk => ⟨⟨hk.1, ⟨hk.2.2.1, hk.2.2.2⟩⟩, hk.2.1⟩)) hg (.inl rfl)); have n3_ := Aside0.mk (hp_); have n4_ := Aside0.mk (blk_grown (g := gb326) (o := .cells #[.slice Ao44 y330.length co44, .slice none 0 0] 30 (0, 0)) (by (with_reducible repeat (first | refine blk_drewN ?_ _ | refine blk_drew ?_ | refine blk_alloc ?_ _)); exact BK326.out) hg (Kd.R_ne HO_14.out BK326.out (by decide))); have n5_ := Aside0.mk (Kd.R_after (v := (.slice (some ⟨go39, 0, none⟩) x14_4.length co39)) (v1 := (.slice (some ⟨go39, 0, none⟩) x14_4.length co39)) (ok := (fun k_ => some k_ ≠ (v319 : Value).ownBlock)) (by (with_reducible repeat (first | apply Kd.R_alloc | apply Kd.R_drewN | apply Kd.R_drew)); exact HO332.out) hg (.inl rfl)); have n6_ := Aside0.mk ((by rw [hw]; exact below_set (HB.out) GB39.out : Below w.heap.size w w48)); clear HO_8; clear HO_9; clear HO_10; clear HO_14; clear BK326; clear HO332; clear HB; have HO_8 := n0_; have HO_9 := n1_; have HO_10 := n2_; have HO_14 := n3_; have BK326 := n4_; have HO332 := n5_; have HB := n6_; clear n0_ n1_ n2_ n3_ n4_ n5_ n6_; clear hg hw hp_; have p41 : 0 ≤ (x15_4 : Int) := of_decide_eq_true (by first | (with_reducible assumption) | assumption); have q41 : (x15_4 : Int) < ((x9_4.length : Int) : Int) := of_decide_eq_true (by first | (with_reducible assumption) | assumption); obtain ⟨go41, co41, eo41, gb41, gl41, cl41, HG41⟩ := Kd.R_form HO_9.out (by omega); (first | cases eo41 | (injection eo41 with ea_ en_ ec_; (first | subst ea_ | (injection ea_ with ea_; subst ea_)); subst ec_; clear en_)); have GB41 := Aside0.mk gb41; have GG41 := Aside0.mk HG41; clear gb41 gl41 HG41; obtain ⟨hx41_0, hf41_0⟩ := Kd.R_celln 0 HO_9.out (x15_4 : Int) p41 q41; replace p41 := eq_true p41; replace q41 := eq_true q41; obtain ⟨hy49_, hz49_⟩ := Kd.R_celln 0 HO_9.out (x15_4 : Int) (of_decide_eq_true (by first | (with_reducible assumption) | assumption)) (of_decide_eq_true (by first | (with_reducible assumption) | assumption)); have HP49 := Kd.R_putg HO_9.out (x15_4 : Int) 1) | ((with_reducible refine gate_store (t := 3) (p := 94) rfl ?_); refine store_event (t := 3) (p := 94) (v := ?vo_w50) (w1 := (w48.setCell ⟨go41, (x15_4 : Int).toNat, none⟩ (.int .i64 1))) ?hg ?ho ?hn ?hr ?_; (case ho => rfl); (case hg => rfl); (case hn => rfl); (case hr => first | (go_simp; done) | (go_simp; rfl)); intro w50 hw; have hg : w48.grownBy w50 (some go41) := (by rw [hw]; exact HP49.2); have hp_ : Kd.R (Kd.int .i64) 3 w50 w.heap.size (fun k_ => some k_ ≠ (.slice Ao44 y330.length co44 : Value).ownBlock ∧ some k_ ≠ (.slice (some ⟨go39, 0, none⟩) x14_4.length co39 : Value).ownBlock) (.slice (some ⟨go41, 0, none⟩) x9_4.length co41) y335 := (by rw [hw, Ny335.out]; exact HP49.1); clear HP49; have n0_ := Aside0.mk (Kd.S_after (v := (.slice (some ⟨go41, 0, none⟩) x9_4.length co41)) (v1 := (.slice (some ⟨go41, 0, none⟩) x9_4.length co41)) (ok := (fun k_ => some k_ ≠ (.slice (some ⟨go39, 0, none⟩) x14_4.length co39 : Value).ownBlock ∧ some k_ ≠ (.slice Ao44 y330.length co44 : Value).ownBlock)) (by (with_reducible repeat (first | apply Kd.S_alloc | apply Kd.S_drewN | apply Kd.S_drew)); exact Kd.S_mono HO_8.out (fun _ hk => ⟨⟨hk.2, hk.1.2⟩, hk.1.1⟩)) hg (.inl rfl)); have n1_ := Aside0.mk (hp_); have n2_ := Aside0.mk (Kd.S_after (v := (.slice (some ⟨go41, 0, none⟩) x9_4.length co41)) (v1 := (.slice (some ⟨go41, 0, none⟩) x9_4.length co41)) (ok := (fun k_ => some k_ ≠ (.slice (some ⟨go39, 0, none⟩) x14_4.length co39 : Value).ownBlock ∧ some k_ ≠ (.slice Ao44 y330.length co44 : Value).ownBlock ∧ k_ ≠ gb326)) (by (with_reducible repeat (first | apply Kd.S_alloc | apply Kd.S_drewN | apply Kd.S_drew)); exact Kd.S_mono HO_10.out (fun _ hk => ⟨⟨hk.2, ⟨hk.1.2.1, hk.1.2.2⟩⟩, hk.1.1⟩)) hg (.inl rfl)); have n3_ := Aside0.mk (Kd.R_after (v := (.slice (some ⟨go41, 0, none⟩) x9_4.length co41)) (v1 := (.slice (some ⟨go41, 0, none⟩) x9_4.length co41)) (ok := (fun k_ => some k_ ≠ (.slice Ao44 y330.length co44 : Value).ownBlock)) (by (with_reducible repeat (first | apply Kd.R_alloc | apply Kd.R_drewN | apply Kd.R_drew)); exact Kd.R_mono HO_14.out (fun _ hk => ⟨hk.2, hk.1⟩)) hg (.inl rfl)); have n4_ := Aside0.mk (blk_grown (g := gb326) (o := .cells #[.slice Ao44 y330.length co44, .slice none 0 0] 30 (0, 0)) (by (with_reducible repeat (first | refine blk_drewN ?_ _ | refine blk_drew ?_ | refine blk_alloc ?_ _)); exact BK326.out) hg (Kd.R_ne HO_9.out BK326.out (by decide))); have n5_ := Aside0.mk (Kd.R_after (v := (.slice (some ⟨go41, 0, none⟩) x9_4.length co41)) (v1 := (.slice (some ⟨go41, 0, none⟩) x9_4.length co41)) (ok := (fun k_ => some k_ ≠ (.slice (some ⟨go39, 0, none⟩) x14_4.length co39 : Value).ownBlock)) (by (with_reducible repeat (first | apply Kd.R_alloc | apply Kd.R_drewN | apply Kd.R_drew)); exact Kd.R_mono HO332.out (fun _ hk => ⟨hk.2, hk.1⟩)) hg (.inl rfl)); have n6_ := Aside0.mk ((by rw [hw]; exact below_set (HB.out) GB41.out : Below w.heap.size w w50)); clear HO_8; clear HO_9; clear HO_10; clear HO_14; clear BK326; clear HO332; clear HB; have HO_8 := n0_; have HO_9 := n1_; have HO_10 := n2_; have HO_14 := n3_; have BK326 := n4_; have HO332 := n5_; have HB := n6_; clear n0_ n1_ n2_ n3_ n4_ n5_ n6_; clear hg hw hp_))
          (first | go_roundg k4 | (refine Handed.intro k4 ?measure ?_; rotate_left; go_step; (repeat apply Exists.intro); (refine ⟨?rel, ?fr_⟩); (case fr_ => (simp only [add_plain]; rfl))))
          case measure => have := HK1.out; have := HK2.out; have := HJ16.out; have := HK4.out; omega
          case rel => exact ⟨(y335), (wrap64 (x11_4 - 1)), (y334), (wrap64 (x15_4 + 1)), (y330), (.slice Ao44 y330.length co44), (by first | rfl | (simp; done) | (simp [*]; done)), (by first | rfl | (simp; done) | (simp [*]; done)), H', ⟨by have := HK1.out; have := HK2.out; have := HJ16.out; have := HK4.out; omega⟩, ⟨by (with_reducible repeat (first | apply Kd.S_alloc | apply Kd.S_drewN | apply Kd.S_drew)); exact Kd.S_mono HO_8.out (fun _ hk => ⟨hk.2, ⟨hk.1.1, hk.1.2⟩⟩)⟩, ⟨by (with_reducible repeat (first | apply Kd.R_alloc | apply Kd.R_drewN | apply Kd.R_drew)); exact Kd.R_mono HO_9.out (fun _ hk => ⟨hk.2, hk.1⟩)⟩, ⟨by (with_reducible repeat (first | apply Kd.S_alloc | apply Kd.S_drewN | apply Kd.S_drew)); exact Kd.S_mono HO_10.out (fun _ hk => ⟨hk.2, ⟨hk.1.1, ⟨hk.1.2.1, hk.1.2.2⟩⟩⟩)⟩, ⟨by (with_reducible repeat (first | apply Kd.R_alloc | apply Kd.R_drewN | apply Kd.R_drew)); exact Kd.R_mono HO_14.out (fun _ hk => ⟨hk.2, hk.1⟩)⟩, ⟨by (with_reducible repeat (first | apply Kd.R_alloc | apply Kd.R_drewN | apply Kd.R_drew)); exact Kd.R_mono HO332.out (fun _ hk => ⟨hk.2, hk.1⟩)⟩, ⟨by (with_reducible repeat (first | refine blk_drewN ?_ _ | refine blk_drew ?_ | refine blk_alloc ?_ _)); exact BK326.out⟩, ⟨by repeat (first | (with_reducible first | exact HB.out | apply below_alloc | apply pw_below_drewN | apply below_drew1 | refine below_set ?_ GE326.out) | exact HB.out)⟩⟩
         rw [if_neg c33] at H
         have c33b0 : (x15_4 == x12_2) = false := beq_eq_false_iff_ne.mpr c33
         have c33b1 : (x15_4 != x12_2) = true := bne_iff_ne.mpr c33
         by_cases c51 : 0 ≤ x12_2
         case neg => rw [if_neg c51] at H; exact absurd H (by simp)
         rw [if_pos c51] at H
         have c51b0 : decide (0 ≤ x12_2) = true := decide_eq_true c51
         clear c51
         by_cases c52 : x12_2 < (t315.length : Int)
         case neg => rw [if_neg c52] at H; exact absurd H (by simp)
         rw [if_pos c52] at H
         have c52b0 : decide (x12_2 < (t315.length : Int)) = true := decide_eq_true c52
         clear c52
         by_cases c53 : 0 ≤ x15_4
         case neg => rw [if_neg c53] at H; exact absurd H (by simp)
         rw [if_pos c53] at H
         have c53b0 : decide (0 ≤ x15_4) = true := decide_eq_true c53
         clear c53
         by_cases c54 : x15_4 < ((rd_L3 t315 x12_2).length : Int)
         case neg => rw [if_neg c54] at H; exact absurd H (by simp)
         rw [if_pos c54] at H
         have c54b0 : decide (x15_4 < ((rd_L3 t315 x12_2).length : Int)) = true := decide_eq_true c54
         clear c54
         by_cases c55 : (rd (rd_L3 t315 x12_2) x15_4) = 1
         case neg =>
          rw [if_neg c55] at H
          have c55b0 : ((rd (rd_L3 t315 x12_2) x15_4) == 1) = false := beq_eq_false_iff_ne.mpr c55
          have c55b1 : ((rd (rd_L3 t315 x12_2) x15_4) != 1) = true := bne_iff_ne.mpr c55
          have H' := Aside0.mk H
          clear H
          obtain ⟨Ao77, co77, eo77⟩ := Kd.S_slice HO_8.out
          subst eo77
          have p336 : 0 ≤ (x12_2 : Int) := of_decide_eq_true (by first | (with_reducible assumption) | assumption)
          have q336 : x12_2 < (t315.length : Int) := of_decide_eq_true (by first | (with_reducible assumption) | assumption)
          obtain ⟨ad336, A336_0, c336_0, e336, hx336_0, hl336_0, hi336_0⟩ := at_L3 (Kd.S_reads' HO_8.out).2.2 x12_2 p336 q336
          cases e336
          obtain ⟨ce336, hce336, hMe336, hcc336⟩ := Kd.S_get HO_8.out [] x12_2 p336 (by first | exact q336 | exact of_decide_eq_true (by first | (with_reducible assumption) | assumption) | (have e_ := (Kd.S_reads' HO_8.out).1; omega))
          obtain ⟨ve336_0, rfl, ge336_0⟩ := hMe336
          have hv336_0 := hcc336 0 _ rfl
          rw [Nat.add_zero, show ((Kd.slice 3 (Kd.int .i64))).sz = 1 from rfl, Nat.mul_one] at hv336_0
          replace hv336_0 := Option.some.inj (hv336_0.symm.trans hx336_0)
          rw [hv336_0] at ge336_0
          have HL336_0 := Aside0.mk (show Kd.R (Kd.int .i64) 3 _ _ _ _ (rd_L3 t315 x12_2) from ge336_0)
          clear hv336_0 ge336_0
          have RF336_0_HO_9 := Aside0.mk (Kd.R_farB HL336_0.out (fun k_ hk => hk.1.1))
          have RF336_0_HO_14 := Aside0.mk (Kd.R_farB HL336_0.out (fun k_ hk => hk.1.2.1))
          have RF336_0_HO_327000 := Aside0.mk (Kd.R_farB HL336_0.out (fun k_ hk => hk.1.2.2))
          clear hcc336 hce336
          have HR336_0 := Aside0.mk hi336_0
          have HC336_0 := Aside0.mk hl336_0
          clear hi336_0 hl336_0
          replace p336 := eq_true p336
          replace q336 := eq_true q336
          have p337 : 0 ≤ (x15_4 : Int) := of_decide_eq_true (by first | (with_reducible assumption) | assumption)
          have q337 : x15_4 < ((rd_L3 t315 x12_2).length : Int) := of_decide_eq_true (by first | (with_reducible assumption) | assumption)
          obtain ⟨ad337, e337, hx337_0⟩ := Kd.at_int (by repeat (first | (with_reducible exact HR336_0.out) | (with_reducible refine Kd.C_alloc ?_ _) | (with_reducible refine Kd.C_drewN ?_ _) | (with_reducible refine Kd.C_drew ?_) | exact HR336_0.out)) x15_4 p337 q337
          cases e337
          replace p337 := eq_true p337
          replace q337 := eq_true q337
          go_wp2
          (first | go_roundg k4 | (refine Handed.intro k4 ?measure ?_; rotate_left; go_step; (repeat apply Exists.intro); (refine ⟨?rel, ?fr_⟩); (case fr_ => (simp only [add_plain]; rfl))))
          case measure => have := HK1.out; have := HK2.out; have := HJ16.out; have := HK4.out; omega
          case rel => exact ⟨(x9_4), (x11_4), (x14_4), (wrap64 (x15_4 + 1)), (x327000_4), (u327000), (by first | rfl | (simp; done) | (simp [*]; done)), (by first | rfl | (simp; done) | (simp [*]; done)), H', ⟨by have := HK1.out; have := HK2.out; have := HJ16.out; have := HK4.out; omega⟩, ⟨by (with_reducible repeat (first | apply Kd.S_alloc | apply Kd.S_drewN | apply Kd.S_drew)); exact HO_8.out⟩, ⟨by (with_reducible repeat (first | apply Kd.R_alloc | apply Kd.R_drewN | apply Kd.R_drew)); exact HO_9.out⟩, ⟨by (with_reducible repeat (first | apply Kd.S_alloc | apply Kd.S_drewN | apply Kd.S_drew)); exact HO_10.out⟩, ⟨by (with_reducible repeat (first | apply Kd.R_alloc | apply Kd.R_drewN | apply Kd.R_drew)); exact HO_14.out⟩, ⟨by (with_reducible repeat (first | apply Kd.R_alloc | apply Kd.R_drewN | apply Kd.R_drew)); exact HO_327000.out⟩, ⟨by (with_reducible repeat (first | refine blk_drewN ?_ _ | refine blk_drew ?_ | refine blk_alloc ?_ _)); exact BK326.out⟩, ⟨by repeat (first | (with_reducible first | exact HB.out | apply below_alloc | apply pw_below_drewN | apply below_drew1 | refine below_set ?_ GE326.out) | exact HB.out)⟩⟩
         rw [if_pos c55] at H
         have c55b0 : ((rd (rd_L3 t315 x12_2) x15_4) == 1) = true := beq_iff_eq.mpr c55
         have c55b1 : ((rd (rd_L3 t315 x12_2) x15_4) != 1) = false := bne_eq_false_iff_eq.mpr c55
         clear c55
         by_cases c56 : x15_4 < (t315.length : Int)
         case neg => rw [if_neg c56] at H; exact absurd H (by simp)
         rw [if_pos c56] at H
         have c56b0 : decide (x15_4 < (t315.length : Int)) = true := decide_eq_true c56
         clear c56
         by_cases c57 : x12_2 < ((rd_L3 t315 x15_4).length : Int)
         case neg => rw [if_neg c57] at H; exact absurd H (by simp)
         rw [if_pos c57] at H
         have c57b0 : decide (x12_2 < ((rd_L3 t315 x15_4).length : Int)) = true := decide_eq_true c57
         clear c57
         by_cases c58 : (rd (rd_L3 t315 x15_4) x12_2) = 1
         case neg =>
          rw [if_neg c58] at H
          have c58b0 : ((rd (rd_L3 t315 x15_4) x12_2) == 1) = false := beq_eq_false_iff_ne.mpr c58
          have c58b1 : ((rd (rd_L3 t315 x15_4) x12_2) != 1) = true := bne_iff_ne.mpr c58
          have H' := Aside0.mk H
          clear H
          obtain ⟨Ao76, co76, eo76⟩ := Kd.S_slice HO_8.out
          subst eo76
          have p336 : 0 ≤ (x12_2 : Int) := of_decide_eq_true (by first | (with_reducible assumption) | assumption)
          have q336 : x12_2 < (t315.length : Int) := of_decide_eq_true (by first | (with_reducible assumption) | assumption)
          obtain ⟨ad336, A336_0, c336_0, e336, hx336_0, hl336_0, hi336_0⟩ := at_L3 (Kd.S_reads' HO_8.out).2.2 x12_2 p336 q336
          cases e336
          obtain ⟨ce336, hce336, hMe336, hcc336⟩ := Kd.S_get HO_8.out [] x12_2 p336 (by first | exact q336 | exact of_decide_eq_true (by first | (with_reducible assumption) | assumption) | (have e_ := (Kd.S_reads' HO_8.out).1; omega))
          obtain ⟨ve336_0, rfl, ge336_0⟩ := hMe336
          have hv336_0 := hcc336 0 _ rfl
          rw [Nat.add_zero, show ((Kd.slice 3 (Kd.int .i64))).sz = 1 from rfl, Nat.mul_one] at hv336_0
          replace hv336_0 := Option.some.inj (hv336_0.symm.trans hx336_0)
          rw [hv336_0] at ge336_0
          have HL336_0 := Aside0.mk (show Kd.R (Kd.int .i64) 3 _ _ _ _ (rd_L3 t315 x12_2) from ge336_0)
          clear hv336_0 ge336_0
          have RF336_0_HO_9 := Aside0.mk (Kd.R_farB HL336_0.out (fun k_ hk => hk.1.1))
          have RF336_0_HO_14 := Aside0.mk (Kd.R_farB HL336_0.out (fun k_ hk => hk.1.2.1))
          have RF336_0_HO_327000 := Aside0.mk (Kd.R_farB HL336_0.out (fun k_ hk => hk.1.2.2))
          clear hcc336 hce336
          have HR336_0 := Aside0.mk hi336_0
          have HC336_0 := Aside0.mk hl336_0
          clear hi336_0 hl336_0
          replace p336 := eq_true p336
          replace q336 := eq_true q336
          have p337 : 0 ≤ (x15_4 : Int) := of_decide_eq_true (by first | (with_reducible assumption) | assumption)
          have q337 : x15_4 < ((rd_L3 t315 x12_2).length : Int) := of_decide_eq_true (by first | (with_reducible assumption) | assumption)
          obtain ⟨ad337, e337, hx337_0⟩ := Kd.at_int (by repeat (first | (with_reducible exact HR336_0.out) | (with_reducible refine Kd.C_alloc ?_ _) | (with_reducible refine Kd.C_drewN ?_ _) | (with_reducible refine Kd.C_drew ?_) | exact HR336_0.out)) x15_4 p337 q337
          cases e337
          replace p337 := eq_true p337
          replace q337 := eq_true q337
          have p338 : 0 ≤ (x15_4 : Int) := of_decide_eq_true (by first | (with_reducible assumption) | assumption)
          have q338 : x15_4 < (t315.length : Int) := of_decide_eq_true (by first | (with_reducible assumption) | assumption)
          obtain ⟨ad338, A338_0, c338_0, e338, hx338_0, hl338_0, hi338_0⟩ := at_L3 (Kd.S_reads' HO_8.out).2.2 x15_4 p338 q338
          obtain rfl : ad336 = ad338 := (by injection e338)
          obtain ⟨ce338, hce338, hMe338, hcc338⟩ := Kd.S_get HO_8.out [] x15_4 p338 (by first | exact q338 | exact of_decide_eq_true (by first | (with_reducible assumption) | assumption) | (have e_ := (Kd.S_reads' HO_8.out).1; omega))
          obtain ⟨ve338_0, rfl, ge338_0⟩ := hMe338
          have hv338_0 := hcc338 0 _ rfl
          rw [Nat.add_zero, show ((Kd.slice 3 (Kd.int .i64))).sz = 1 from rfl, Nat.mul_one] at hv338_0
          replace hv338_0 := Option.some.inj (hv338_0.symm.trans hx338_0)
          rw [hv338_0] at ge338_0
          have HL338_0 := Aside0.mk (show Kd.R (Kd.int .i64) 3 _ _ _ _ (rd_L3 t315 x15_4) from ge338_0)
          clear hv338_0 ge338_0
          have RF338_0_HO_9 := Aside0.mk (Kd.R_farB HL338_0.out (fun k_ hk => hk.1.1))
          have RF338_0_HO_14 := Aside0.mk (Kd.R_farB HL338_0.out (fun k_ hk => hk.1.2.1))
          have RF338_0_HO_327000 := Aside0.mk (Kd.R_farB HL338_0.out (fun k_ hk => hk.1.2.2))
          clear hcc338 hce338
          have HR338_0 := Aside0.mk hi338_0
          have HC338_0 := Aside0.mk hl338_0
          clear hi338_0 hl338_0
          replace p338 := eq_true p338
          replace q338 := eq_true q338
          have p339 : 0 ≤ (x12_2 : Int) := of_decide_eq_true (by first | (with_reducible assumption) | assumption)
          have q339 : x12_2 < ((rd_L3 t315 x15_4).length : Int) := of_decide_eq_true (by first | (with_reducible assumption) | assumption)
          obtain ⟨ad339, e339, hx339_0⟩ := Kd.at_int (by repeat (first | (with_reducible exact HR338_0.out) | (with_reducible refine Kd.C_alloc ?_ _) | (with_reducible refine Kd.C_drewN ?_ _) | (with_reducible refine Kd.C_drew ?_) | exact HR338_0.out)) x12_2 p339 q339
          cases e339
          replace p339 := eq_true p339
          replace q339 := eq_true q339
          go_wp2
          (first | go_roundg k4 | (refine Handed.intro k4 ?measure ?_; rotate_left; go_step; (repeat apply Exists.intro); (refine ⟨?rel, ?fr_⟩); (case fr_ => (simp only [add_plain]; rfl))))
          case measure => have := HK1.out; have := HK2.out; have := HJ16.out; have := HK4.out; omega
          case rel => exact ⟨(x9_4), (x11_4), (x14_4), (wrap64 (x15_4 + 1)), (x327000_4), (u327000), (by first | rfl | (simp; done) | (simp [*]; done)), (by first | rfl | (simp; done) | (simp [*]; done)), H', ⟨by have := HK1.out; have := HK2.out; have := HJ16.out; have := HK4.out; omega⟩, ⟨by (with_reducible repeat (first | apply Kd.S_alloc | apply Kd.S_drewN | apply Kd.S_drew)); exact HO_8.out⟩, ⟨by (with_reducible repeat (first | apply Kd.R_alloc | apply Kd.R_drewN | apply Kd.R_drew)); exact HO_9.out⟩, ⟨by (with_reducible repeat (first | apply Kd.S_alloc | apply Kd.S_drewN | apply Kd.S_drew)); exact HO_10.out⟩, ⟨by (with_reducible repeat (first | apply Kd.R_alloc | apply Kd.R_drewN | apply Kd.R_drew)); exact HO_14.out⟩, ⟨by (with_reducible repeat (first | apply Kd.R_alloc | apply Kd.R_drewN | apply Kd.R_drew)); exact HO_327000.out⟩, ⟨by (with_reducible repeat (first | refine blk_drewN ?_ _ | refine blk_drew ?_ | refine blk_alloc ?_ _)); exact BK326.out⟩, ⟨by repeat (first | (with_reducible first | exact HB.out | apply below_alloc | apply pw_below_drewN | apply below_drew1 | refine below_set ?_ GE326.out) | exact HB.out)⟩⟩
         rw [if_pos c58] at H
         have c58b0 : ((rd (rd_L3 t315 x15_4) x12_2) == 1) = true := beq_iff_eq.mpr c58
         have c58b1 : ((rd (rd_L3 t315 x15_4) x12_2) != 1) = false := bne_eq_false_iff_eq.mpr c58
         clear c58
         by_cases c59 : x327000_4.length < 17592186044416
         case neg => rw [if_neg c59] at H; exact absurd H (by simp)
         rw [if_pos c59] at H
         have LMc59 := Aside0.mk c59
         clear c59
         obtain ⟨y340, hy340⟩ : ∃ y_ : List Int, y_ = (x327000_4 ++ [x15_4]) := ⟨_, rfl⟩
         replace H : (if x15_4 < (l2.length : Int) then (if 0 ≤ (rd l2 x15_4) then (if (rd l2 x15_4) < (x14_4.length : Int) then (if x15_4 < (x9_4.length : Int) then (orreryref21_Blocks.l2 k4 a0 l2 t315 (x9_4.set (x15_4 : Int).toNat 1) x10_2 (wrap64 (x11_4 - 1)) x12_2 (x14_4.set ((rd l2 x15_4) : Int).toNat 1) (wrap64 (x15_4 + 1)) y340) else (none)) else (none)) else (none)) else (none)) = some (r1, r2) := by first | (rw [hy340]; with_reducible exact H) | (have H2_ := (Option.bind_some _ _).symm.trans H; rw [hy340]; with_reducible exact H2_) | (have H2_ := (Option.bind_some _ _).symm.trans H; with_reducible exact H2_) | with_reducible exact H | (rw [hy340]; exact H) | exact H
         have Ny340 := Aside0.mk hy340
         clear hy340
         by_cases c60 : x15_4 < (l2.length : Int)
         case neg => rw [if_neg c60] at H; exact absurd H (by simp)
         rw [if_pos c60] at H
         have c60b0 : decide (x15_4 < (l2.length : Int)) = true := decide_eq_true c60
         clear c60
         by_cases c61 : 0 ≤ (rd l2 x15_4)
         case neg => rw [if_neg c61] at H; exact absurd H (by simp)
         rw [if_pos c61] at H
         have c61b0 : decide (0 ≤ (rd l2 x15_4)) = true := decide_eq_true c61
         clear c61
         by_cases c62 : (rd l2 x15_4) < (x14_4.length : Int)
         case neg => rw [if_neg c62] at H; exact absurd H (by simp)
         rw [if_pos c62] at H
         have c62b0 : decide ((rd l2 x15_4) < (x14_4.length : Int)) = true := decide_eq_true c62
         clear c62
         obtain ⟨y344, hy344⟩ : ∃ y_ : List Int, y_ = (x14_4.set ((rd l2 x15_4) : Int).toNat 1) := ⟨_, rfl⟩
         replace H : (if x15_4 < (x9_4.length : Int) then (orreryref21_Blocks.l2 k4 a0 l2 t315 (x9_4.set (x15_4 : Int).toNat 1) x10_2 (wrap64 (x11_4 - 1)) x12_2 y344 (wrap64 (x15_4 + 1)) y340) else (none)) = some (r1, r2) := by first | (rw [hy344]; with_reducible exact H) | (have H2_ := (Option.bind_some _ _).symm.trans H; rw [hy344]; with_reducible exact H2_) | (have H2_ := (Option.bind_some _ _).symm.trans H; with_reducible exact H2_) | with_reducible exact H | (rw [hy344]; exact H) | exact H
         have Ny344 := Aside0.mk hy344
         clear hy344
         by_cases c64 : x15_4 < (x9_4.length : Int)
         case neg => rw [if_neg c64] at H; exact absurd H (by simp)
         rw [if_pos c64] at H
         have c64b0 : decide (x15_4 < (x9_4.length : Int)) = true := decide_eq_true c64
         clear c64
         obtain ⟨y345, hy345⟩ : ∃ y_ : List Int, y_ = (x9_4.set (x15_4 : Int).toNat 1) := ⟨_, rfl⟩
         replace H : (orreryref21_Blocks.l2 k4 a0 l2 t315 y345 x10_2 (wrap64 (x11_4 - 1)) x12_2 y344 (wrap64 (x15_4 + 1)) y340) = some (r1, r2) := by first | (rw [hy345]; with_reducible exact H) | (have H2_ := (Option.bind_some _ _).symm.trans H; rw [hy345]; with_reducible exact H2_) | (have H2_ := (Option.bind_some _ _).symm.trans H; with_reducible exact H2_) | with_reducible exact H | (rw [hy345]; exact H) | exact H
         have Ny345 := Aside0.mk hy345
         clear hy345
         have H' := Aside0.mk H
         clear H
         obtain ⟨Ao66, co66, eo66⟩ := Kd.S_slice HO_8.out
         subst eo66
         have p336 : 0 ≤ (x12_2 : Int) := of_decide_eq_true (by first | (with_reducible assumption) | assumption)
         have q336 : x12_2 < (t315.length : Int) := of_decide_eq_true (by first | (with_reducible assumption) | assumption)
         obtain ⟨ad336, A336_0, c336_0, e336, hx336_0, hl336_0, hi336_0⟩ := at_L3 (Kd.S_reads' HO_8.out).2.2 x12_2 p336 q336
         cases e336
         obtain ⟨ce336, hce336, hMe336, hcc336⟩ := Kd.S_get HO_8.out [] x12_2 p336 (by first | exact q336 | exact of_decide_eq_true (by first | (with_reducible assumption) | assumption) | (have e_ := (Kd.S_reads' HO_8.out).1; omega))
         obtain ⟨ve336_0, rfl, ge336_0⟩ := hMe336
         have hv336_0 := hcc336 0 _ rfl
         rw [Nat.add_zero, show ((Kd.slice 3 (Kd.int .i64))).sz = 1 from rfl, Nat.mul_one] at hv336_0
         replace hv336_0 := Option.some.inj (hv336_0.symm.trans hx336_0)
         rw [hv336_0] at ge336_0
         have HL336_0 := Aside0.mk (show Kd.R (Kd.int .i64) 3 _ _ _ _ (rd_L3 t315 x12_2) from ge336_0)
         clear hv336_0 ge336_0
         have RF336_0_HO_9 := Aside0.mk (Kd.R_farB HL336_0.out (fun k_ hk => hk.1.1))
         have RF336_0_HO_14 := Aside0.mk (Kd.R_farB HL336_0.out (fun k_ hk => hk.1.2.1))
         have RF336_0_HO_327000 := Aside0.mk (Kd.R_farB HL336_0.out (fun k_ hk => hk.1.2.2))
         clear hcc336 hce336
         have HR336_0 := Aside0.mk hi336_0
         have HC336_0 := Aside0.mk hl336_0
         clear hi336_0 hl336_0
         replace p336 := eq_true p336
         replace q336 := eq_true q336
         have p337 : 0 ≤ (x15_4 : Int) := of_decide_eq_true (by first | (with_reducible assumption) | assumption)
         have q337 : x15_4 < ((rd_L3 t315 x12_2).length : Int) := of_decide_eq_true (by first | (with_reducible assumption) | assumption)
         obtain ⟨ad337, e337, hx337_0⟩ := Kd.at_int (by repeat (first | (with_reducible exact HR336_0.out) | (with_reducible refine Kd.C_alloc ?_ _) | (with_reducible refine Kd.C_drewN ?_ _) | (with_reducible refine Kd.C_drew ?_) | exact HR336_0.out)) x15_4 p337 q337
         cases e337
         replace p337 := eq_true p337
         replace q337 := eq_true q337
         have p338 : 0 ≤ (x15_4 : Int) := of_decide_eq_true (by first | (with_reducible assumption) | assumption)
         have q338 : x15_4 < (t315.length : Int) := of_decide_eq_true (by first | (with_reducible assumption) | assumption)
         obtain ⟨ad338, A338_0, c338_0, e338, hx338_0, hl338_0, hi338_0⟩ := at_L3 (Kd.S_reads' HO_8.out).2.2 x15_4 p338 q338
         obtain rfl : ad336 = ad338 := (by injection e338)
         obtain ⟨ce338, hce338, hMe338, hcc338⟩ := Kd.S_get HO_8.out [] x15_4 p338 (by first | exact q338 | exact of_decide_eq_true (by first | (with_reducible assumption) | assumption) | (have e_ := (Kd.S_reads' HO_8.out).1; omega))
         obtain ⟨ve338_0, rfl, ge338_0⟩ := hMe338
         have hv338_0 := hcc338 0 _ rfl
         rw [Nat.add_zero, show ((Kd.slice 3 (Kd.int .i64))).sz = 1 from rfl, Nat.mul_one] at hv338_0
         replace hv338_0 := Option.some.inj (hv338_0.symm.trans hx338_0)
         rw [hv338_0] at ge338_0
         have HL338_0 := Aside0.mk (show Kd.R (Kd.int .i64) 3 _ _ _ _ (rd_L3 t315 x15_4) from ge338_0)
         clear hv338_0 ge338_0
         have RF338_0_HO_9 := Aside0.mk (Kd.R_farB HL338_0.out (fun k_ hk => hk.1.1))
         have RF338_0_HO_14 := Aside0.mk (Kd.R_farB HL338_0.out (fun k_ hk => hk.1.2.1))
         have RF338_0_HO_327000 := Aside0.mk (Kd.R_farB HL338_0.out (fun k_ hk => hk.1.2.2))
         clear hcc338 hce338
         have HR338_0 := Aside0.mk hi338_0
         have HC338_0 := Aside0.mk hl338_0
         clear hi338_0 hl338_0
         replace p338 := eq_true p338
         replace q338 := eq_true q338
         have p339 : 0 ≤ (x12_2 : Int) := of_decide_eq_true (by first | (with_reducible assumption) | assumption)
         have q339 : x12_2 < ((rd_L3 t315 x15_4).length : Int) := of_decide_eq_true (by first | (with_reducible assumption) | assumption)
         obtain ⟨ad339, e339, hx339_0⟩ := Kd.at_int (by repeat (first | (with_reducible exact HR338_0.out) | (with_reducible refine Kd.C_alloc ?_ _) | (with_reducible refine Kd.C_drewN ?_ _) | (with_reducible refine Kd.C_drew ?_) | exact HR338_0.out)) x12_2 p339 q339
         cases e339
         replace p339 := eq_true p339
         replace q339 := eq_true q339
         have hcz67_0 : wr.cell? ⟨gb326, 0, none⟩ = some (u327000) := (blk_cell BK326.out 0).trans rfl
         have hcz67_1 : wr.cell? ⟨gb326, 1, none⟩ = some (.slice none 0 0) := (blk_cell BK326.out 1).trans rfl
         have hfz67_0 := blk_frozen BK326.out 0
         have hfz67_1 := blk_frozen BK326.out 1
         go_wp2_with (first | ((with_reducible refine gate_builtin (b := .append) (xs := #[.tmp 81, .tmp 83]) rfl ?_); at_builtin; refine Kd.R_append (Kd.int .i64) (w0 := w) w.heap.size rfl (.tmp 81) (.tmp 83) 23 3 (.int .i64 0) 8 rfl Try.underlying23 info3 rfl (by decide) (by omega) u327000 x327000_4 x15_4 [.int .i64 x15_4] (fun k_ => some k_ ≠ (v319 : Value).ownBlock ∧ some k_ ≠ (v328 : Value).ownBlock) (fun _ => False) rfl rfl ?aP (fun _ hk => hk.elim) ?aF ?aO ?aB ?aS ?aL ?_; (case aP => exact rfl); (case aB => exact (by repeat (first | (with_reducible first | exact HB.out | apply below_alloc | apply pw_below_drewN | apply below_drew1 | refine below_set ?_ GE326.out) | exact HB.out))); (case aF => exact (fun k_ hk => ⟨Kd.fresh' (Kd.R_lt (by (with_reducible repeat (first | apply Kd.R_alloc | apply Kd.R_drewN | apply Kd.R_drew)); exact HO_9.out)) k_ hk, Kd.fresh' (Kd.R_lt (by (with_reducible repeat (first | apply Kd.R_alloc | apply Kd.R_drewN | apply Kd.R_drew)); exact HO_14.out)) k_ hk⟩)); (case aO => exact (by (with_reducible repeat (first | apply Kd.R_alloc | apply Kd.R_drewN | apply Kd.R_drew)); exact HO_327000.out)); (case aS => exact (below_size (by repeat (first | (with_reducible first | exact HB.out | apply below_alloc | apply pw_below_drewN | apply below_drew1 | refine below_set ?_ GE326.out) | exact HB.out)))); (case aL => have := LMc59.out; omega); intro v341 w68 ho hb hg hat; rw [← Ny340.out] at ho; have n0_ := Aside0.mk (Kd.S_after (ok := (fun k_ => some k_ ≠ (v319 : Value).ownBlock ∧ some k_ ≠ (v328 : Value).ownBlock)) (by (with_reducible repeat (first | apply Kd.S_alloc | apply Kd.S_drewN | apply Kd.S_drew)); exact Kd.S_mono HO_8.out (fun _ hk => ⟨⟨hk.1, hk.2.1⟩, hk.2.2⟩)) hg hat); have n1_ := Aside0.mk (Kd.R_after (ok := (fun k_ => some k_ ≠ (v328 : Value).ownBlock)) (by (with_reducible repeat (first | apply Kd.R_alloc | apply Kd.R_drewN | apply Kd.R_drew)); exact HO_9.out) hg hat); have n2_ := Aside0.mk (Kd.S_after (ok := (fun k_ => some k_ ≠ (v319 : Value).ownBlock ∧ some k_ ≠ (v328 : Value).ownBlock ∧ k_ ≠ gb326)) (by (with_reducible repeat (first | apply Kd.S_alloc | apply Kd.S_drewN | apply Kd.S_drew)); exact Kd.S_mono HO_10.out (fun _ hk => ⟨⟨hk.1, ⟨hk.2.1, hk.2.2.2⟩⟩, hk.2.2.1⟩)) hg hat); have n3_ := Aside0.mk (Kd.R_after (ok := (fun k_ => some k_ ≠ (v319 : Value).ownBlock)) (by (with_reducible repeat (first | apply Kd.R_alloc | apply Kd.R_drewN | apply Kd.R_drew)); exact HO_14.out) hg hat); have n4_ := Aside0.mk (blk_grown (g := gb326) (o := .cells #[u327000, .slice none 0 0] 30 (0, 0)) (by (with_reducible repeat (first | refine blk_drewN ?_ _ | refine blk_drew ?_ | refine blk_alloc ?_ _)); exact BK326.out) hg (Kd.R_ne HO_327000.out BK326.out (by decide))); have n5_ := Aside0.mk (Kd.R_after (ok := (fun k_ => some k_ ≠ (.slice (some ad336) t315.length co66 : Value).ownBlock ∧ some k_ ≠ (v319 : Value).ownBlock ∧ some k_ ≠ (v328 : Value).ownBlock)) (by (with_reducible repeat (first | apply Kd.R_alloc | apply Kd.R_drewN | apply Kd.R_drew)); exact Kd.R_mono HL336_0.out (fun _ hk => ⟨⟨hk.2, ⟨hk.1.1, hk.1.2.1⟩⟩, hk.1.2.2⟩)) hg hat); have n6_ := Aside0.mk (Kd.R_after (ok := (fun k_ => some k_ ≠ (.slice (some ad336) t315.length co66 : Value).ownBlock ∧ some k_ ≠ (v319 : Value).ownBlock ∧ some k_ ≠ (v328 : Value).ownBlock)) (by (with_reducible repeat (first | apply Kd.R_alloc | apply Kd.R_drewN | apply Kd.R_drew)); exact Kd.R_mono HL338_0.out (fun _ hk => ⟨⟨hk.2, ⟨hk.1.1, hk.1.2.1⟩⟩, hk.1.2.2⟩)) hg hat); have n7_ := Aside0.mk (hb); have n8_ := Aside0.mk (ho); clear HO_8; clear HO_9; clear HO_10; clear HO_14; clear BK326; clear HL336_0; clear HL338_0; clear HB; clear HO_327000; have HO_8 := n0_; have HO_9 := n1_; have HO_10 := n2_; have HO_14 := n3_; have BK326 := n4_; have HL336_0 := n5_; have HL338_0 := n6_; have HB := n7_; have HO342 := n8_; clear n0_ n1_ n2_ n3_ n4_ n5_ n6_ n7_ n8_; clear ho hb hg hat; obtain ⟨Ao69, co69, eo69⟩ := Kd.R_slice HO342.out; subst eo69; have hcz70_0 : w68.cell? ⟨gb326, 0, none⟩ = some (u327000) := (blk_cell BK326.out 0).trans rfl; have hcz70_1 : w68.cell? ⟨gb326, 1, none⟩ = some (.slice none 0 0) := (blk_cell BK326.out 1).trans rfl; have hfz70_0 := blk_frozen BK326.out 0; have hfz70_1 := blk_frozen BK326.out 1) | ((with_reducible refine gate_store (t := 23) (p := 85) rfl ?_); refine store_event (t := 23) (p := 85) (v := ?vo_w71) (w1 := (w68.setCell ⟨gb326, 0, none⟩ (.slice Ao69 y340.length co69))) ?hg ?ho ?hn ?hr ?_; (case ho => rfl); (case hg => rfl); (case hn => rfl); (case hr => first | (go_simp; done) | (go_simp; rfl)); intro w71 hw; have n0_ : Aside0 (Kd.S (Kd.slice 3 (Kd.int .i64)) 23 w71 w.heap.size (fun k_ => some k_ ≠ (v319 : Value).ownBlock ∧ some k_ ≠ (v328 : Value).ownBlock ∧ some k_ ≠ (.slice Ao69 y340.length co69 : Value).ownBlock) (.slice (some ad336) t315.length co66) t315) := ⟨(by rw [hw]; exact (by (with_reducible repeat (first | apply Kd.S_alloc | apply Kd.S_drewN | apply Kd.S_drew)); exact Kd.S_mono (Kd.S_far (p := ⟨gb326, 0, none⟩) (Kd.S_types HO_8.out BK326.out (by decide)) (fun _ hk => hk.2) (.slice Ao69 y340.length co69)) (fun _ hk => ⟨hk.1.1.1, ⟨hk.1.1.2, hk.1.2⟩⟩)))⟩; have n1_ : Aside0 (Kd.R (Kd.int .i64) 3 w71 w.heap.size (fun k_ => some k_ ≠ (v328 : Value).ownBlock ∧ some k_ ≠ (.slice Ao69 y340.length co69 : Value).ownBlock) v319 x9_4) := ⟨(by rw [hw]; exact (by (with_reducible repeat (first | apply Kd.R_alloc | apply Kd.R_drewN | apply Kd.R_drew)); exact Kd.R_mono (Kd.R_far (p := ⟨gb326, 0, none⟩) (Kd.R_types HO_9.out BK326.out (by decide)) (fun _ hk => hk.2) (.slice Ao69 y340.length co69)) (fun _ hk => ⟨hk.1.1, hk.1.2⟩)))⟩; have n2_ : Aside0 (Kd.S k30 30 w71 w.heap.size (fun k_ => some k_ ≠ (v319 : Value).ownBlock ∧ some k_ ≠ (v328 : Value).ownBlock ∧ some k_ ≠ (.slice Ao69 y340.length co69 : Value).ownBlock ∧ k_ ≠ gb326) u10 x10_2) := ⟨(by rw [hw]; exact (by (with_reducible repeat (first | apply Kd.S_alloc | apply Kd.S_drewN | apply Kd.S_drew)); exact Kd.S_mono (Kd.S_far (p := ⟨gb326, 0, none⟩) (Kd.S_mono HO_10.out (fun k_ hk => (⟨hk, hk.1.2.2⟩ : _ ∧ k_ ≠ gb326))) (fun _ hk => hk.2) (.slice Ao69 y340.length co69)) (fun _ hk => ⟨hk.1.1.1, ⟨hk.1.1.2.1, ⟨hk.1.2, hk.1.1.2.2⟩⟩⟩)))⟩; have n3_ : Aside0 (Kd.R (Kd.int .i64) 3 w71 w.heap.size (fun k_ => some k_ ≠ (v319 : Value).ownBlock ∧ some k_ ≠ (.slice Ao69 y340.length co69 : Value).ownBlock) v328 x14_4) := ⟨(by rw [hw]; exact (by (with_reducible repeat (first | apply Kd.R_alloc | apply Kd.R_drewN | apply Kd.R_drew)); exact Kd.R_mono (Kd.R_far (p := ⟨gb326, 0, none⟩) (Kd.R_types HO_14.out BK326.out (by decide)) (fun _ hk => hk.2) (.slice Ao69 y340.length co69)) (fun _ hk => ⟨hk.1.1, hk.1.2⟩)))⟩; have n4_ : Aside0 (Kd.R (Kd.int .i64) 3 w71 w.heap.size (fun k_ => some k_ ≠ (.slice (some ad336) t315.length co66 : Value).ownBlock ∧ some k_ ≠ (v319 : Value).ownBlock ∧ some k_ ≠ (v328 : Value).ownBlock ∧ some k_ ≠ (.slice Ao69 y340.length co69 : Value).ownBlock) (.slice (some ad337) (rd_L3 t315 x12_2).length c336_0) (rd_L3 t315 x12_2)) := ⟨(by rw [hw]; exact (by (with_reducible repeat (first | apply Kd.R_alloc | apply Kd.R_drewN | apply Kd.R_drew)); exact Kd.R_mono (Kd.R_far (p := ⟨gb326, 0, none⟩) (Kd.R_types HL336_0.out BK326.out (by decide)) (fun _ hk => hk.2) (.slice Ao69 y340.length co69)) (fun _ hk => ⟨hk.1.1.1, ⟨hk.1.1.2.1, ⟨hk.1.1.2.2, hk.1.2⟩⟩⟩)))⟩; have n5_ : Aside0 (Kd.R (Kd.int .i64) 3 w71 w.heap.size (fun k_ => some k_ ≠ (.slice (some ad336) t315.length co66 : Value).ownBlock ∧ some k_ ≠ (v319 : Value).ownBlock ∧ some k_ ≠ (v328 : Value).ownBlock ∧ some k_ ≠ (.slice Ao69 y340.length co69 : Value).ownBlock) (.slice (some ad339) (rd_L3 t315 x15_4).length c338_0) (rd_L3 t315 x15_4)) := ⟨(by rw [hw]; exact (by (with_reducible repeat (first | apply Kd.R_alloc | apply Kd.R_drewN | apply Kd.R_drew)); exact Kd.R_mono (Kd.R_far (p := ⟨gb326, 0, none⟩) (Kd.R_types HL338_0.out BK326.out (by decide)) (fun _ hk => hk.2) (.slice Ao69 y340.length co69)) (fun _ hk => ⟨hk.1.1.1, ⟨hk.1.1.2.1, ⟨hk.1.1.2.2, hk.1.2⟩⟩⟩)))⟩; have n6_ : Aside0 (Kd.R (Kd.int .i64) 3 w71 w.heap.size (fun k_ => some k_ ≠ (v319 : Value).ownBlock ∧ some k_ ≠ (v328 : Value).ownBlock) (.slice Ao69 y340.length co69) y340) := ⟨(by rw [hw]; exact (by (with_reducible repeat (first | apply Kd.R_alloc | apply Kd.R_drewN | apply Kd.R_drew)); exact Kd.R_mono (Kd.R_far (p := ⟨gb326, 0, none⟩) (Kd.R_types HO342.out BK326.out (by decide)) (fun _ hk => hk.2) (.slice Ao69 y340.length co69)) (fun _ hk => ⟨hk.1.1, hk.1.2⟩)))⟩; have n7_ : Aside0 (w71.heap[gb326]? = some (.cells #[.slice Ao69 y340.length co69, .slice none 0 0] 30 (0, 0))) := ⟨(by rw [hw]; exact (by (with_reducible repeat (first | refine blk_drewN ?_ _ | refine blk_drew ?_ | refine blk_alloc ?_ _)); refine blk_put (cs := #[u327000, .slice none 0 0]) ?_ 0 _ rfl; (with_reducible repeat (first | refine blk_drewN ?_ _ | refine blk_drew ?_ | refine blk_alloc ?_ _)); exact BK326.out))⟩; have n8_ : Aside0 (Below w.heap.size w w71) := ⟨(by rw [hw]; exact (by repeat (first | (with_reducible first | exact HB.out | apply below_alloc | apply pw_below_drewN | apply below_drew1 | refine below_set ?_ GE326.out) | exact HB.out)))⟩; clear hw; clear HO_8; clear HO_9; clear HO_10; clear HO_14; clear HL336_0; clear HL338_0; clear HO342; clear BK326; clear HB; have HO_8 := n0_; have HO_9 := n1_; have HO_10 := n2_; have HO_14 := n3_; have HL336_0 := n4_; have HL338_0 := n5_; have HO342 := n6_; have BK326 := n7_; have HB := n8_; clear n0_ n1_ n2_ n3_ n4_ n5_ n6_ n7_ n8_; have p343 : 0 ≤ (x15_4 : Int) := of_decide_eq_true (by first | (with_reducible assumption) | assumption); have q343 : x15_4 < (l2.length : Int) := of_decide_eq_true (by first | (with_reducible assumption) | assumption); obtain ⟨ad343, e343, hx343_0⟩ := Kd.at_int HR2.out x15_4 p343 q343; cases e343; replace hx343_0 := (HB.out.cell (World.block_lt_of_cell? w _ hx343_0)).trans hx343_0; replace p343 := eq_true p343; replace q343 := eq_true q343; have p63 : 0 ≤ ((rd l2 x15_4) : Int) := of_decide_eq_true (by first | (with_reducible assumption) | assumption); have q63 : ((rd l2 x15_4) : Int) < ((x14_4.length : Int) : Int) := of_decide_eq_true (by first | (with_reducible assumption) | assumption); obtain ⟨go63, co63, eo63, gb63, gl63, cl63, HG63⟩ := Kd.R_form HO_14.out (by omega); (first | cases eo63 | (injection eo63 with ea_ en_ ec_; (first | subst ea_ | (injection ea_ with ea_; subst ea_)); subst ec_; clear en_)); have GB63 := Aside0.mk gb63; have GG63 := Aside0.mk HG63; clear gb63 gl63 HG63; obtain ⟨hx63_0, hf63_0⟩ := Kd.R_celln 0 HO_14.out ((rd l2 x15_4) : Int) p63 q63; replace p63 := eq_true p63; replace q63 := eq_true q63; obtain ⟨hy72_, hz72_⟩ := Kd.R_celln 0 HO_14.out ((rd l2 x15_4) : Int) (of_decide_eq_true (by first | (with_reducible assumption) | assumption)) (of_decide_eq_true (by first | (with_reducible assumption) | assumption)); have HP72 := Kd.R_putg HO_14.out ((rd l2 x15_4) : Int) 1) | ((with_reducible refine gate_store (t := 3) (p := 91) rfl ?_); refine store_event (t := 3) (p := 91) (v := ?vo_w73) (w1 := (w71.setCell ⟨go63, ((rd l2 x15_4) : Int).toNat, none⟩ (.int .i64 1))) ?hg ?ho ?hn ?hr ?_; (case ho => rfl); (case hg => rfl); (case hn => rfl); (case hr => first | (go_simp; done) | (go_simp; rfl)); intro w73 hw; have hg : w71.grownBy w73 (some go63) := (by rw [hw]; exact HP72.2); have hp_ : Kd.R (Kd.int .i64) 3 w73 w.heap.size (fun k_ => some k_ ≠ (v319 : Value).ownBlock ∧ some k_ ≠ (.slice Ao69 y340.length co69 : Value).ownBlock) (.slice (some ⟨go63, 0, none⟩) x14_4.length co63) y344 := (by rw [hw, Ny344.out]; exact HP72.1); clear HP72; have n0_ := Aside0.mk (Kd.S_after (v := (.slice (some ⟨go63, 0, none⟩) x14_4.length co63)) (v1 := (.slice (some ⟨go63, 0, none⟩) x14_4.length co63)) (ok := (fun k_ => some k_ ≠ (v319 : Value).ownBlock ∧ some k_ ≠ (.slice Ao69 y340.length co69 : Value).ownBlock)) (by (with_reducible repeat (first | apply Kd.S_alloc | apply Kd.S_drewN | apply Kd.S_drew)); exact Kd.S_mono HO_8.out (fun _ hk => ⟨⟨hk.1, hk.2.2⟩, hk.2.1⟩)) hg (.inl rfl)); have n1_ := Aside0.mk (Kd.R_after (v := (.slice (some ⟨go63, 0, none⟩) x14_4.length co63)) (v1 := (.slice (some ⟨go63, 0, none⟩) x14_4.length co63)) (ok := (fun k_ => some k_ ≠ (.slice Ao69 y340.length co69 : Value).ownBlock)) (by (with_reducible repeat (first | apply Kd.R_alloc | apply Kd.R_drewN | apply Kd.R_drew)); exact Kd.R_mono HO_9.out (fun _ hk => ⟨hk.2, hk.1⟩)) hg (.inl rfl)); have n2_ := Aside0.mk (Kd.S_after (v := (.slice (some ⟨go63, 0, none⟩) x14_4.length co63)) (v1 := (.slice (some ⟨go63, 0, none⟩) x14_4.length co63)) (ok := (fun k_ => some k_ ≠ (v319 : Value).ownBlock ∧ some k_ ≠ (.slice Ao69 y340.length co69 : Value).ownBlock ∧ k_ ≠ gb326)) (by (with_reducible repeat (first | apply Kd.S_alloc | apply Kd.S_drewN | apply Kd.S_drew)); exact Kd.S_mono HO_10.out (fun _ hk => ⟨⟨hk.1, ⟨hk.2.2.1, hk.2.2.2⟩⟩, hk.2.1⟩)) hg (.inl rfl)); have n3_ := Aside0.mk (hp_); have n4_ := Aside0.mk (blk_grown (g := gb326) (o := .cells #[.slice Ao69 y340.length co69, .slice none 0 0] 30 (0, 0)) (by (with_reducible repeat (first | refine blk_drewN ?_ _ | refine blk_drew ?_ | refine blk_alloc ?_ _)); exact BK326.out) hg (Kd.R_ne HO_14.out BK326.out (by decide))); have n5_ := Aside0.mk (Kd.R_after (v := (.slice (some ⟨go63, 0, none⟩) x14_4.length co63)) (v1 := (.slice (some ⟨go63, 0, none⟩) x14_4.length co63)) (ok := (fun k_ => some k_ ≠ (.slice (some ad336) t315.length co66 : Value).ownBlock ∧ some k_ ≠ (v319 : Value).ownBlock ∧ some k_ ≠ (.slice Ao69 y340.length co69 : Value).ownBlock)) (by (with_reducible repeat (first | apply Kd.R_alloc | apply Kd.R_drewN | apply Kd.R_drew)); exact Kd.R_mono HL336_0.out (fun _ hk => ⟨⟨hk.1, ⟨hk.2.1, hk.2.2.2⟩⟩, hk.2.2.1⟩)) hg (.inl rfl)); have n6_ := Aside0.mk (Kd.R_after (v := (.slice (some ⟨go63, 0, none⟩) x14_4.length co63)) (v1 := (.slice (some ⟨go63, 0, none⟩) x14_4.length co63)) (ok := (fun k_ => some k_ ≠ (.slice (some ad336) t315.length co66 : Value).ownBlock ∧ some k_ ≠ (v319 : Value).ownBlock ∧ some k_ ≠ (.slice Ao69 y340.length co69 : Value).ownBlock)) (by (with_reducible repeat (first | apply Kd.R_alloc | apply Kd.R_drewN | apply Kd.R_drew)); exact Kd.R_mono HL338_0.out (fun _ hk => ⟨⟨hk.1, ⟨hk.2.1, hk.2.2.2⟩⟩, hk.2.2.1⟩)) hg (.inl rfl)); have n7_ := Aside0.mk (Kd.R_after (v := (.slice (some ⟨go63, 0, none⟩) x14_4.length co63)) (v1 := (.slice (some ⟨go63, 0, none⟩) x14_4.length co63)) (ok := (fun k_ => some k_ ≠ (v319 : Value).ownBlock)) (by (with_reducible repeat (first | apply Kd.R_alloc | apply Kd.R_drewN | apply Kd.R_drew)); exact HO342.out) hg (.inl rfl)); have n8_ := Aside0.mk ((by rw [hw]; exact below_set (HB.out) GB63.out : Below w.heap.size w w73)); clear HO_8; clear HO_9; clear HO_10; clear HO_14; clear BK326; clear HL336_0; clear HL338_0; clear HO342; clear HB; have HO_8 := n0_; have HO_9 := n1_; have HO_10 := n2_; have HO_14 := n3_; have BK326 := n4_; have HL336_0 := n5_; have HL338_0 := n6_; have HO342 := n7_; have HB := n8_; clear n0_ n1_ n2_ n3_ n4_ n5_ n6_ n7_ n8_; clear hg hw hp_; have p65 : 0 ≤ (x15_4 : Int) := of_decide_eq_true (by first | (with_reducible assumption) | assumption); have q65 : (x15_4 : Int) < ((x9_4.length : Int) : Int) := of_decide_eq_true (by first | (with_reducible assumption) | assumption); obtain ⟨go65, co65, eo65, gb65, gl65, cl65, HG65⟩ := Kd.R_form HO_9.out (by omega); (first | cases eo65 | (injection eo65 with ea_ en_ ec_; (first | subst ea_ | (injection ea_ with ea_; subst ea_)); subst ec_; clear en_)); have GB65 := Aside0.mk gb65; have GG65 := Aside0.mk HG65; clear gb65 gl65 HG65; obtain ⟨hx65_0, hf65_0⟩ := Kd.R_celln 0 HO_9.out (x15_4 : Int) p65 q65; replace p65 := eq_true p65; replace q65 := eq_true q65; obtain ⟨hy74_, hz74_⟩ := Kd.R_celln 0 HO_9.out (x15_4 : Int) (of_decide_eq_true (by first | (with_reducible assumption) | assumption)) (of_decide_eq_true (by first | (with_reducible assumption) | assumption)); have HP74 := Kd.R_putg HO_9.out (x15_4 : Int) 1) | ((with_reducible refine gate_store (t := 3) (p := 94) rfl ?_); refine store_event (t := 3) (p := 94) (v := ?vo_w75) (w1 := (w73.setCell ⟨go65, (x15_4 : Int).toNat, none⟩ (.int .i64 1))) ?hg ?ho ?hn ?hr ?_; (case ho => rfl); (case hg => rfl); (case hn => rfl); (case hr => first | (go_simp; done) | (go_simp; rfl)); intro w75 hw; have hg : w73.grownBy w75 (some go65) := (by rw [hw]; exact HP74.2); have hp_ : Kd.R (Kd.int .i64) 3 w75 w.heap.size (fun k_ => some k_ ≠ (.slice Ao69 y340.length co69 : Value).ownBlock ∧ some k_ ≠ (.slice (some ⟨go63, 0, none⟩) x14_4.length co63 : Value).ownBlock) (.slice (some ⟨go65, 0, none⟩) x9_4.length co65) y345 := (by rw [hw, Ny345.out]; exact HP74.1); clear HP74; have n0_ := Aside0.mk (Kd.S_after (v := (.slice (some ⟨go65, 0, none⟩) x9_4.length co65)) (v1 := (.slice (some ⟨go65, 0, none⟩) x9_4.length co65)) (ok := (fun k_ => some k_ ≠ (.slice (some ⟨go63, 0, none⟩) x14_4.length co63 : Value).ownBlock ∧ some k_ ≠ (.slice Ao69 y340.length co69 : Value).ownBlock)) (by (with_reducible repeat (first | apply Kd.S_alloc | apply Kd.S_drewN | apply Kd.S_drew)); exact Kd.S_mono HO_8.out (fun _ hk => ⟨⟨hk.2, hk.1.2⟩, hk.1.1⟩)) hg (.inl rfl)); have n1_ := Aside0.mk (hp_); have n2_ := Aside0.mk (Kd.S_after (v := (.slice (some ⟨go65, 0, none⟩) x9_4.length co65)) (v1 := (.slice (some ⟨go65, 0, none⟩) x9_4.length co65)) (ok := (fun k_ => some k_ ≠ (.slice (some ⟨go63, 0, none⟩) x14_4.length co63 : Value).ownBlock ∧ some k_ ≠ (.slice Ao69 y340.length co69 : Value).ownBlock ∧ k_ ≠ gb326)) (by (with_reducible repeat (first | apply Kd.S_alloc | apply Kd.S_drewN | apply Kd.S_drew)); exact Kd.S_mono HO_10.out (fun _ hk => ⟨⟨hk.2, ⟨hk.1.2.1, hk.1.2.2⟩⟩, hk.1.1⟩)) hg (.inl rfl)); have n3_ := Aside0.mk (Kd.R_after (v := (.slice (some ⟨go65, 0, none⟩) x9_4.length co65)) (v1 := (.slice (some ⟨go65, 0, none⟩) x9_4.length co65)) (ok := (fun k_ => some k_ ≠ (.slice Ao69 y340.length co69 : Value).ownBlock)) (by (with_reducible repeat (first | apply Kd.R_alloc | apply Kd.R_drewN | apply Kd.R_drew)); exact Kd.R_mono HO_14.out (fun _ hk => ⟨hk.2, hk.1⟩)) hg (.inl rfl)); have n4_ := Aside0.mk (blk_grown (g := gb326) (o := .cells #[.slice Ao69 y340.length co69, .slice none 0 0] 30 (0, 0)) (by (with_reducible repeat (first | refine blk_drewN ?_ _ | refine blk_drew ?_ | refine blk_alloc ?_ _)); exact BK326.out) hg (Kd.R_ne HO_9.out BK326.out (by decide))); have n5_ := Aside0.mk (Kd.R_after (v := (.slice (some ⟨go65, 0, none⟩) x9_4.length co65)) (v1 := (.slice (some ⟨go65, 0, none⟩) x9_4.length co65)) (ok := (fun k_ => some k_ ≠ (.slice (some ad336) t315.length co66 : Value).ownBlock ∧ some k_ ≠ (.slice (some ⟨go63, 0, none⟩) x14_4.length co63 : Value).ownBlock ∧ some k_ ≠ (.slice Ao69 y340.length co69 : Value).ownBlock)) (by (with_reducible repeat (first | apply Kd.R_alloc | apply Kd.R_drewN | apply Kd.R_drew)); exact Kd.R_mono HL336_0.out (fun _ hk => ⟨⟨hk.1.1, ⟨hk.2, hk.1.2.2⟩⟩, hk.1.2.1⟩)) hg (.inl rfl)); have n6_ := Aside0.mk (Kd.R_after (v := (.slice (some ⟨go65, 0, none⟩) x9_4.length co65)) (v1 := (.slice (some ⟨go65, 0, none⟩) x9_4.length co65)) (ok := (fun k_ => some k_ ≠ (.slice (some ad336) t315.length co66 : Value).ownBlock ∧ some k_ ≠ (.slice (some ⟨go63, 0, none⟩) x14_4.length co63 : Value).ownBlock ∧ some k_ ≠ (.slice Ao69 y340.length co69 : Value).ownBlock)) (by (with_reducible repeat (first | apply Kd.R_alloc | apply Kd.R_drewN | apply Kd.R_drew)); exact Kd.R_mono HL338_0.out (fun _ hk => ⟨⟨hk.1.1, ⟨hk.2, hk.1.2.2⟩⟩, hk.1.2.1⟩)) hg (.inl rfl)); have n7_ := Aside0.mk (Kd.R_after (v := (.slice (some ⟨go65, 0, none⟩) x9_4.length co65)) (v1 := (.slice (some ⟨go65, 0, none⟩) x9_4.length co65)) (ok := (fun k_ => some k_ ≠ (.slice (some ⟨go63, 0, none⟩) x14_4.length co63 : Value).ownBlock)) (by (with_reducible repeat (first | apply Kd.R_alloc | apply Kd.R_drewN | apply Kd.R_drew)); exact Kd.R_mono HO342.out (fun _ hk => ⟨hk.2, hk.1⟩)) hg (.inl rfl)); have n8_ := Aside0.mk ((by rw [hw]; exact below_set (HB.out) GB65.out : Below w.heap.size w w75)); clear HO_8; clear HO_9; clear HO_10; clear HO_14; clear BK326; clear HL336_0; clear HL338_0; clear HO342; clear HB; have HO_8 := n0_; have HO_9 := n1_; have HO_10 := n2_; have HO_14 := n3_; have BK326 := n4_; have HL336_0 := n5_; have HL338_0 := n6_; have HO342 := n7_; have HB := n8_; clear n0_ n1_ n2_ n3_ n4_ n5_ n6_ n7_ n8_; clear hg hw hp_))
         (first | go_roundg k4 | (refine Handed.intro k4 ?measure ?_; rotate_left; go_step; (repeat apply Exists.intro); (refine ⟨?rel, ?fr_⟩); (case fr_ => (simp only [add_plain]; rfl))))
         case measure => have := HK1.out; have := HK2.out; have := HJ16.out; have := HK4.out; omega
         case rel => exact ⟨(y345), (wrap64 (x11_4 - 1)), (y344), (wrap64 (x15_4 + 1)), (y340), (.slice Ao69 y340.length co69), (by first | rfl | (simp; done) | (simp [*]; done)), (by first | rfl | (simp; done) | (simp [*]; done)), H', ⟨by have := HK1.out; have := HK2.out; have := HJ16.out; have := HK4.out; omega⟩, ⟨by (with_reducible repeat (first | apply Kd.S_alloc | apply Kd.S_drewN | apply Kd.S_drew)); exact Kd.S_mono HO_8.out (fun _ hk => ⟨hk.2, ⟨hk.1.1, hk.1.2⟩⟩)⟩, ⟨by (with_reducible repeat (first | apply Kd.R_alloc | apply Kd.R_drewN | apply Kd.R_drew)); exact Kd.R_mono HO_9.out (fun _ hk => ⟨hk.2, hk.1⟩)⟩, ⟨by (with_reducible repeat (first | apply Kd.S_alloc | apply Kd.S_drewN | apply Kd.S_drew)); exact Kd.S_mono HO_10.out (fun _ hk => ⟨hk.2, ⟨hk.1.1, ⟨hk.1.2.1, hk.1.2.2⟩⟩⟩)⟩, ⟨by (with_reducible repeat (first | apply Kd.R_alloc | apply Kd.R_drewN | apply Kd.R_drew)); exact Kd.R_mono HO_14.out (fun _ hk => ⟨hk.2, hk.1⟩)⟩, ⟨by (with_reducible repeat (first | apply Kd.R_alloc | apply Kd.R_drewN | apply Kd.R_drew)); exact Kd.R_mono HO342.out (fun _ hk => ⟨hk.2, hk.1⟩)⟩, ⟨by (with_reducible repeat (first | refine blk_drewN ?_ _ | refine blk_drew ?_ | refine blk_alloc ?_ _)); exact BK326.out⟩, ⟨by repeat (first | (with_reducible first | exact HB.out | apply below_alloc | apply pw_below_drewN | apply below_drew1 | refine below_set ?_ GE326.out) | exact HB.out)⟩⟩

end Go.Proofs.Ytlaneafplmbcnaa.PO
