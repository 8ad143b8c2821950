/- What the Go functions of this part compute, as Lean functions, and that the machine's calls come to just that; written for this claim by a program of the session (gen.sh, after the kit's printer). -/
import Derived.Test.YtamloclgignfgaaPAx0
namespace Go.Proofs.Ytamloclgignfgaa.PA
open Go.RowKit Go.Proofs.YtamloclgignfgaaW.PrintWords Go.Proofs.YtamloclgignfgaaW.PrintLast Go.Proofs.YtamloclgignfgaaW.PrintMore
attribute [local go_sem] max2_int min2_int max_two min_two max_three min_three max_four min_four   -- for this text's walks alone
set_option linter.unusedVariables false
set_option linter.unusedSimpArgs false

/-! ### orreryref19_More: function 17 -/
mutual
def orreryref19_More.l0 : Nat → List (List Int) → Int → List Int → List Int → List Int → Int → Int → Option (Bool)
  | 0, _, _, _, _, _, _, _ => none
  | k + 1, x0, x1, x2, x7, x20, x21, x22 => if x22 < x21 then (if 0 ≤ x22 then (if x22 < (x20.length : Int) then (if (rd x20 x22) < 0 then (if x22 < (x7.length : Int) then (orreryref19_More.l0 k x0 x1 x2 (x7.set (x22 : Int).toNat 1) x20 x21 (wrap64 (x22 + 1))) else (none)) else (orreryref19_More.l0 k x0 x1 x2 x7 x20 x21 (wrap64 (x22 + 1)))) else (none)) else (none)) else (if 0 ≤ x1 then (if (x1 : Int).toNat ≤ 35184372088832 then ((some (List.replicate (x1 : Int).toNat 0 : List Int)).bind fun y134 => (orreryref19_More.l1 k x0 x1 x2 x7 y134 (y134.length : Int) 0)) else (none)) else (none))
def orreryref19_More.l1 : Nat → List (List Int) → Int → List Int → List Int → List Int → Int → Int → Option (Bool)
  | 0, _, _, _, _, _, _, _ => none
  | k + 1, x0, x1, x2, x7, x10, x36, x37 => if x37 < x36 then (if 0 ≤ x37 then (if x37 < (x10.length : Int) then (orreryref19_More.l1 k x0 x1 x2 x7 (x10.set (x37 : Int).toNat (-1)) x36 (wrap64 (x37 + 1))) else (none)) else (none)) else (orreryref19_More.l2 k x0 x1 x7 x10 x2 (x2.length : Int) 0)
def orreryref19_More.l2 : Nat → List (List Int) → Int → List Int → List Int → List Int → Int → Int → Option (Bool)
  | 0, _, _, _, _, _, _, _ => none
  | k + 1, x0, x1, x7, x10, x44, x45, x46 => if x46 < x45 then (if 0 ≤ x46 then (if x46 < (x44.length : Int) then (if (rd x44 x46) ≥ 0 then (if 0 ≤ (rd x44 x46) then (if (rd x44 x46) < (x10.length : Int) then (orreryref19_More.l2 k x0 x1 x7 (x10.set ((rd x44 x46) : Int).toNat x46) x44 x45 (wrap64 (x46 + 1))) else (none)) else (none)) else (orreryref19_More.l2 k x0 x1 x7 x10 x44 x45 (wrap64 (x46 + 1)))) else (none)) else (none)) else (orreryref19_More.l3 k x0 x1 x7 x10 true)
def orreryref19_More.l3 : Nat → List (List Int) → Int → List Int → List Int → Bool → Option (Bool)
  | 0, _, _, _, _, _ => none
  | k + 1, x0, x1, x7, x10, x14 => if x14 = true then (orreryref19_More.l4 k x0 x1 x7 x10 false (x0.length : Int) 0) else (some false)
def orreryref19_More.l4 : Nat → List (List Int) → Int → List Int → List Int → Bool → Int → Int → Option (Bool)
  | 0, _, _, _, _, _, _, _ => none
  | k + 1, x0, x1, x7, x10, x14, x60, x61 => if x61 < x60 then (if 0 ≤ x61 then (if x61 < (x7.length : Int) then (if (rd x7 x61) = 0 then (orreryref19_More.l4 k x0 x1 x7 x10 x14 x60 (wrap64 (x61 + 1))) else (orreryref19_More.l5 k x0 x1 x7 x10 x14 x61 0 x60 x61)) else (none)) else (none)) else (orreryref19_More.l3 k x0 x1 x7 x10 x14)
def orreryref19_More.l5 : Nat → List (List Int) → Int → List Int → List Int → Bool → Int → Int → Int → Int → Option (Bool)
  | 0, _, _, _, _, _, _, _, _, _ => none
  | k + 1, x0, x1, x7, x10, x14, x15, x16, x60, x61 => if x16 < x1 then (if 0 ≤ x15 then (if x15 < (x0.length : Int) then (if 0 ≤ x16 then (if x16 < ((rd_L3 x0 x15).length : Int) then (if (rd (rd_L3 x0 x15) x16) < 0 then (orreryref19_More.l5 k x0 x1 x7 x10 x14 x15 (wrap64 (x16 + 1)) x60 x61) else (if x16 < (x10.length : Int) then (if (rd x10 x16) < 0 then (some true) else (if 0 ≤ (rd x10 x16) then (if (rd x10 x16) < (x7.length : Int) then (if (rd x7 (rd x10 x16)) = 0 then (orreryref19_More.l5 k x0 x1 (x7.set ((rd x10 x16) : Int).toNat 1) x10 true x15 (wrap64 (x16 + 1)) x60 x61) else (orreryref19_More.l5 k x0 x1 x7 x10 x14 x15 (wrap64 (x16 + 1)) x60 x61)) else (none)) else (none))) else (none))) else (none)) else (none)) else (none)) else (none)) else (orreryref19_More.l4 k x0 x1 x7 x10 x14 x60 (wrap64 (x61 + 1)))
end
def orreryref19_More.f (k : Nat) (l0 : List (List Int)) (a1 : Int) (l2 : List Int) : Option (Bool) := if 0 ≤ (l0.length : Int) then (if ((l0.length : Int) : Int).toNat ≤ 35184372088832 then (orreryref19_More.l0 k l0 a1 l2 (List.replicate ((l0.length : Int) : Int).toNat 0) l2 (l2.length : Int) 0) else (none)) else (none)
theorem orreryref19_More.mono_l : ∀ k, (∀ y0 y1 y2 y3 y4 y5 y6, LeO (orreryref19_More.l0 k y0 y1 y2 y3 y4 y5 y6) (orreryref19_More.l0 (k + 1) y0 y1 y2 y3 y4 y5 y6)) ∧ (∀ y0 y1 y2 y3 y4 y5 y6, LeO (orreryref19_More.l1 k y0 y1 y2 y3 y4 y5 y6) (orreryref19_More.l1 (k + 1) y0 y1 y2 y3 y4 y5 y6)) ∧ (∀ y0 y1 y2 y3 y4 y5 y6, LeO (orreryref19_More.l2 k y0 y1 y2 y3 y4 y5 y6) (orreryref19_More.l2 (k + 1) y0 y1 y2 y3 y4 y5 y6)) ∧ (∀ y0 y1 y2 y3 y4, LeO (orreryref19_More.l3 k y0 y1 y2 y3 y4) (orreryref19_More.l3 (k + 1) y0 y1 y2 y3 y4)) ∧ (∀ y0 y1 y2 y3 y4 y5 y6, LeO (orreryref19_More.l4 k y0 y1 y2 y3 y4 y5 y6) (orreryref19_More.l4 (k + 1) y0 y1 y2 y3 y4 y5 y6)) ∧ (∀ y0 y1 y2 y3 y4 y5 y6 y7 y8, LeO (orreryref19_More.l5 k y0 y1 y2 y3 y4 y5 y6 y7 y8) (orreryref19_More.l5 (k + 1) y0 y1 y2 y3 y4 y5 y6 y7 y8))
  | 0 => ⟨fun _ _ _ _ _ _ _ r h => by simp [orreryref19_More.l0] at h, fun _ _ _ _ _ _ _ r h => by simp [orreryref19_More.l1] at h, fun _ _ _ _ _ _ _ r h => by simp [orreryref19_More.l2] at h, fun _ _ _ _ _ r h => by simp [orreryref19_More.l3] at h, fun _ _ _ _ _ _ _ r h => by simp [orreryref19_More.l4] at h, fun _ _ _ _ _ _ _ _ _ r h => by simp [orreryref19_More.l5] at h⟩
  | k + 1 => by
    obtain ⟨ih0, ih1, ih2, ih3, ih4, ih5⟩ := orreryref19_More.mono_l k
    refine ⟨?_, ?_, ?_, ?_, ?_, ?_⟩
    · intro y0 y1 y2 y3 y4 y5 y6
      unfold orreryref19_More.l0
      repeat' first
      | (with_reducible exact ih0 _ _ _ _ _ _ _)
      | (with_reducible exact ih1 _ _ _ _ _ _ _)
      | (with_reducible exact ih2 _ _ _ _ _ _ _)
      | (with_reducible exact ih3 _ _ _ _ _)
      | (with_reducible exact ih4 _ _ _ _ _ _ _)
      | (with_reducible exact ih5 _ _ _ _ _ _ _ _ _)
      | (with_reducible exact LeO.refl _)
      | (with_reducible exact LeO.none _)
      | (with_reducible refine LeO.ite ?_ ?_)
      | (with_reducible refine LeO.bind ?_ (fun _ => ?_))
      | exact ih0 _ _ _ _ _ _ _
      | exact ih1 _ _ _ _ _ _ _
      | exact ih2 _ _ _ _ _ _ _
      | exact ih3 _ _ _ _ _
      | exact ih4 _ _ _ _ _ _ _
      | exact ih5 _ _ _ _ _ _ _ _ _
      | exact LeO.none _
      | refine LeO.ite ?_ ?_
      | refine LeO.bind ?_ (fun _ => ?_)
    · intro y0 y1 y2 y3 y4 y5 y6
      unfold orreryref19_More.l1
      repeat' first
      | (with_reducible exact ih0 _ _ _ _ _ _ _)
      | (with_reducible exact ih1 _ _ _ _ _ _ _)
      | (with_reducible exact ih2 _ _ _ _ _ _ _)
      | (with_reducible exact ih3 _ _ _ _ _)
      | (with_reducible exact ih4 _ _ _ _ _ _ _)
      | (with_reducible exact ih5 _ _ _ _ _ _ _ _ _)
      | (with_reducible exact LeO.refl _)
      | (with_reducible exact LeO.none _)
      | (with_reducible refine LeO.ite ?_ ?_)
      | (with_reducible refine LeO.bind ?_ (fun _ => ?_))
      | exact ih0 _ _ _ _ _ _ _
      | exact ih1 _ _ _ _ _ _ _
      | exact ih2 _ _ _ _ _ _ _
      | exact ih3 _ _ _ _ _
      | exact ih4 _ _ _ _ _ _ _
      | exact ih5 _ _ _ _ _ _ _ _ _
      | exact LeO.none _
      | refine LeO.ite ?_ ?_
      | refine LeO.bind ?_ (fun _ => ?_)
    · intro y0 y1 y2 y3 y4 y5 y6
      unfold orreryref19_More.l2
      repeat' first
      | (with_reducible exact ih0 _ _ _ _ _ _ _)
      | (with_reducible exact ih1 _ _ _ _ _ _ _)
      | (with_reducible exact ih2 _ _ _ _ _ _ _)
      | (with_reducible exact ih3 _ _ _ _ _)
      | (with_reducible exact ih4 _ _ _ _ _ _ _)
      | (with_reducible exact ih5 _ _ _ _ _ _ _ _ _)
      | (with_reducible exact LeO.refl _)
      | (with_reducible exact LeO.none _)
      | (with_reducible refine LeO.ite ?_ ?_)
      | (with_reducible refine LeO.bind ?_ (fun _ => ?_))
      | exact ih0 _ _ _ _ _ _ _
      | exact ih1 _ _ _ _ _ _ _
      | exact ih2 _ _ _ _ _ _ _
      | exact ih3 _ _ _ _ _
      | exact ih4 _ _ _ _ _ _ _
      | exact ih5 _ _ _ _ _ _ _ _ _
      | exact LeO.none _
      | refine LeO.ite ?_ ?_
      | refine LeO.bind ?_ (fun _ => ?_)
    · intro y0 y1 y2 y3 y4
      unfold orreryref19_More.l3
      repeat' first
      | (with_reducible exact ih0 _ _ _ _ _ _ _)
      | (with_reducible exact ih1 _ _ _ _ _ _ _)
      | (with_reducible exact ih2 _ _ _ _ _ _ _)
      | (with_reducible exact ih3 _ _ _ _ _)
      | (with_reducible exact ih4 _ _ _ _ _ _ _)
      | (with_reducible exact ih5 _ _ _ _ _ _ _ _ _)
      | (with_reducible exact LeO.refl _)
      | (with_reducible exact LeO.none _)
      | (with_reducible refine LeO.ite ?_ ?_)
      | (with_reducible refine LeO.bind ?_ (fun _ => ?_))
      | exact ih0 _ _ _ _ _ _ _
      | exact ih1 _ _ _ _ _ _ _
      | exact ih2 _ _ _ _ _ _ _
      | exact ih3 _ _ _ _ _
      | exact ih4 _ _ _ _ _ _ _
      | exact ih5 _ _ _ _ _ _ _ _ _
      | exact LeO.none _
      | refine LeO.ite ?_ ?_
      | refine LeO.bind ?_ (fun _ => ?_)
    · intro y0 y1 y2 y3 y4 y5 y6
      unfold orreryref19_More.l4
      repeat' first
      | (with_reducible exact ih0 _ _ _ _ _ _ _)
      | (with_reducible exact ih1 _ _ _ _ _ _ _)
      | (with_reducible exact ih2 _ _ _ _ _ _ _)
      | (with_reducible exact ih3 _ _ _ _ _)
      | (with_reducible exact ih4 _ _ _ _ _ _ _)
      | (with_reducible exact ih5 _ _ _ _ _ _ _ _ _)
      | (with_reducible exact LeO.refl _)
      | (with_reducible exact LeO.none _)
      | (with_reducible refine LeO.ite ?_ ?_)
      | (with_reducible refine LeO.bind ?_ (fun _ => ?_))
      | exact ih0 _ _ _ _ _ _ _
      | exact ih1 _ _ _ _ _ _ _
      | exact ih2 _ _ _ _ _ _ _
      | exact ih3 _ _ _ _ _
      | exact ih4 _ _ _ _ _ _ _
      | exact ih5 _ _ _ _ _ _ _ _ _
      | exact LeO.none _
      | refine LeO.ite ?_ ?_
      | refine LeO.bind ?_ (fun _ => ?_)
    · intro y0 y1 y2 y3 y4 y5 y6 y7 y8
      unfold orreryref19_More.l5
      repeat' first
      | (with_reducible exact ih0 _ _ _ _ _ _ _)
      | (with_reducible exact ih1 _ _ _ _ _ _ _)
      | (with_reducible exact ih2 _ _ _ _ _ _ _)
      | (with_reducible exact ih3 _ _ _ _ _)
      | (with_reducible exact ih4 _ _ _ _ _ _ _)
      | (with_reducible exact ih5 _ _ _ _ _ _ _ _ _)
      | (with_reducible exact LeO.refl _)
      | (with_reducible exact LeO.none _)
      | (with_reducible refine LeO.ite ?_ ?_)
      | (with_reducible refine LeO.bind ?_ (fun _ => ?_))
      | exact ih0 _ _ _ _ _ _ _
      | exact ih1 _ _ _ _ _ _ _
      | exact ih2 _ _ _ _ _ _ _
      | exact ih3 _ _ _ _ _
      | exact ih4 _ _ _ _ _ _ _
      | exact ih5 _ _ _ _ _ _ _ _ _
      | exact LeO.none _
      | refine LeO.ite ?_ ?_
      | refine LeO.bind ?_ (fun _ => ?_)
theorem orreryref19_More.mono : ∀ a0 a1 a2 k, LeO (orreryref19_More.f k a0 a1 a2) (orreryref19_More.f (k + 1) a0 a1 a2) := by
 intro a0 a1 a2 k
 obtain ⟨ih0, ih1, ih2, ih3, ih4, ih5⟩ := orreryref19_More.mono_l k
 unfold orreryref19_More.f
 repeat' first
     | (with_reducible exact ih0 _ _ _ _ _ _ _)
     | (with_reducible exact ih1 _ _ _ _ _ _ _)
     | (with_reducible exact ih2 _ _ _ _ _ _ _)
     | (with_reducible exact ih3 _ _ _ _ _)
     | (with_reducible exact ih4 _ _ _ _ _ _ _)
     | (with_reducible exact ih5 _ _ _ _ _ _ _ _ _)
     | (with_reducible exact LeO.refl _)
     | (with_reducible exact LeO.none _)
     | (with_reducible refine LeO.ite ?_ ?_)
     | (with_reducible refine LeO.bind ?_ (fun _ => ?_))
     | exact ih0 _ _ _ _ _ _ _
     | exact ih1 _ _ _ _ _ _ _
     | exact ih2 _ _ _ _ _ _ _
     | exact ih3 _ _ _ _ _
     | exact ih4 _ _ _ _ _ _ _
     | exact ih5 _ _ _ _ _ _ _ _ _
     | exact LeO.none _
     | refine LeO.ite ?_ ?_
     | refine LeO.bind ?_ (fun _ => ?_)
set_option maxHeartbeats 8000000 in
set_option maxRecDepth 100000 in
theorem orreryref19_More.calls (k : Nat) (A0 : Option Addr) (c0 : Nat) (l0 : List (List Int)) (a1 : Int) (A2 : Option Addr) (c2 : Nat) (l2 : List Int) (r : Bool) (w : World) (hr0 : Kd.C (Kd.slice 3 (Kd.int .i64)) w A0 l0.length l0) (hc0 : l0.length ≤ c0) (hr2 : Kd.C (Kd.int .i64) w A2 l2.length l2) (hc2 : l2.length ≤ c2) (h : orreryref19_More.f k l0 a1 l2 = some r) :
    Calls Try.prog 17 #[.slice A0 l0.length c0, .int .i64 a1, .slice A2 l2.length c2] w fun e w' => e = .returned (.bool r) ∧ Below w.heap.size w w' := by
 have HR0 := Aside0.mk hr0
 have HC0 := Aside0.mk hc0
 clear hr0 hc0
 have HR2 := Aside0.mk hr2
 have HC2 := Aside0.mk hc2
 clear hr2 hc2
 have HB := Aside0.mk (Below.refl w.heap.size w)
 have H : (if 0 ≤ (l0.length : Int) then (if ((l0.length : Int) : Int).toNat ≤ 35184372088832 then (orreryref19_More.l0 k l0 a1 l2 (List.replicate ((l0.length : Int) : Int).toNat 0) l2 (l2.length : Int) 0) else (none)) else (none)) = some r := h
 clear h
 by_cases c4 : 0 ≤ (l0.length : Int)
 case neg => rw [if_neg c4] at H; exact absurd H (by simp)
 rw [if_pos c4] at H
 have c4b0 := eq_true c4
 have c4b1 : decide (0 ≤ (l0.length : Int)) = true := decide_eq_true c4
 clear c4
 by_cases c5 : ((l0.length : Int) : Int).toNat ≤ 35184372088832
 case neg => rw [if_neg c5] at H; exact absurd H (by simp)
 rw [if_pos c5] at H
 have c5b0 := eq_true c5
 have c5b1 : decide (((l0.length : Int) : Int).toNat ≤ 35184372088832) = true := decide_eq_true c5
 clear c5
 obtain ⟨y129, hy129⟩ : ∃ y_ : List Int, y_ = (List.replicate ((l0.length : Int) : Int).toNat 0) := ⟨_, rfl⟩
 replace H : (orreryref19_More.l0 k l0 a1 l2 y129 l2 (l2.length : Int) 0) = some r := by first | (rw [hy129]; with_reducible exact H) | (have H2_ := (Option.bind_some _ _).symm.trans H; rw [hy129]; with_reducible exact H2_) | (have H2_ := (Option.bind_some _ _).symm.trans H; with_reducible exact H2_) | with_reducible exact H | (rw [hy129]; exact H) | exact H
 have Ny129 := Aside0.mk hy129
 clear hy129
 have H' := Aside0.mk H
 clear H
 go_enter Try.func17, Try.ntmps17
 go_wp2_with (first | ((with_reducible refine gate_dst (N := 19) rfl ?_); refine Kd.R_make (Kd.int .i64) _ 3 rfl (N := 19) rfl 23 _ _ rfl (l0.length : Int) rfl rfl Try.underlying23 (.int .i64 0) 8 info3 rfl (by decide) (by omega) 0 (ok := fun _ => True) (okp := fun _ => True) rfl (fun _ hk => hk) trivial (of_decide_eq_true (by first | (with_reducible assumption) | assumption)) (Nat.le_trans (Nat.mul_le_mul_right _ (of_decide_eq_true (by first | (with_reducible assumption) | assumption) : (l0.length : Int).toNat ≤ 35184372088832)) (by omega)) (Below.refl _ _) (Nat.le_refl _) ?_; intro v130 w6 ho7 hb hg_ hnew_; clear hg_ hnew_; (first | rw [← Ny129.out] at ho7 | (simp only [Int.reduceToNat] at ho7; rw [← Ny129.out] at ho7)); have n0_ := Aside0.mk (Kd.R_lower ho7 (below_size (by repeat (first | (with_reducible first | exact HB.out | apply below_alloc | apply pw_below_drewN | apply below_drew1) | exact HB.out)))); have n1_ := Aside0.mk (below_step (by repeat (first | (with_reducible first | exact HB.out | apply below_alloc | apply pw_below_drewN | apply below_drew1) | exact HB.out)) hb); clear HB; have HO131 := n0_; have HB := n1_; clear n0_ n1_; clear hb ho7))
 go_loopg [22] k (fun kq v22 w' => ∃ (x7_1 : List Int) (x22_1 : Int), v22 = .int .i64 x22_1 ∧ Aside0 (orreryref19_More.l0 kq l0 a1 l2 x7_1 l2 (l2.length : Int) x22_1 = some r) ∧ Aside0 (kq ≤ k) ∧ Aside0 (Kd.R (Kd.int .i64) 3 w' w.heap.size (fun _ => True) v130 x7_1) ∧ Aside0 (Below w.heap.size w w'))
 case atStart => exact ⟨(y129), (0), (by first | rfl | (simp; done) | (simp [*]; done)), H', ⟨Nat.le_refl _⟩, ⟨by (with_reducible repeat (first | apply Kd.R_alloc | apply Kd.R_drewN | apply Kd.R_drew)); exact HO131.out⟩, ⟨by repeat (first | (with_reducible first | exact HB.out | apply below_alloc | apply pw_below_drewN | apply below_drew1) | exact HB.out)⟩⟩
 case round =>
  clear H'
  try clear c1
  try clear c2
  try clear p2
  try clear c4
  try clear c4b0
  try clear c4b1
  try clear c5
  try clear c5b0
  try clear c5b1
  obtain ⟨x7_1, x22_1, rfl, HA, HK1, HO_7, HB⟩ := hrel
  cases gk with
  | zero => exact absurd HA.out (by simp [orreryref19_More.l0])
  | succ k1 =>
   have H := HA.out
   clear HA
   simp only [orreryref19_More.l0] at H
   by_cases c8 : x22_1 < (l2.length : Int)
   case pos =>
    rw [if_pos c8] at H
    have c8b0 : decide (x22_1 < (l2.length : Int)) = true := decide_eq_true c8
    clear c8
    by_cases c9 : 0 ≤ x22_1
    case neg => rw [if_neg c9] at H; exact absurd H (by simp)
    rw [if_pos c9] at H
    have c9b0 : decide (0 ≤ x22_1) = true := decide_eq_true c9
    clear c9
    by_cases c10 : x22_1 < (l2.length : Int)
    case neg => rw [if_neg c10] at H; exact absurd H (by simp)
    rw [if_pos c10] at H
    have c10b0 : decide (x22_1 < (l2.length : Int)) = true := decide_eq_true c10
    clear c10
    by_cases c11 : (rd l2 x22_1) < 0
    case neg =>
     rw [if_neg c11] at H
     have c11b0 : decide ((rd l2 x22_1) < 0) = false := decide_eq_false c11
     clear c11
     have H' := Aside0.mk H
     clear H
     have p132 : 0 ≤ (x22_1 : Int) := of_decide_eq_true (by first | (with_reducible assumption) | assumption)
     have q132 : x22_1 < (l2.length : Int) := of_decide_eq_true (by first | (with_reducible assumption) | assumption)
     obtain ⟨ad132, e132, hx132_0⟩ := Kd.at_int HR2.out x22_1 p132 q132
     cases e132
     replace hx132_0 := (HB.out.cell (World.block_lt_of_cell? w _ hx132_0)).trans hx132_0
     replace p132 := eq_true p132
     replace q132 := eq_true q132
     go_wp2
     (first | go_roundg k1 | (refine Handed.intro k1 ?measure ?_; rotate_left; go_step; (repeat apply Exists.intro); (refine ⟨?rel, ?fr_⟩); (case fr_ => (simp only [add_plain]; rfl))))
     case measure => have := HK1.out; omega
     case rel => exact ⟨(x7_1), (wrap64 (x22_1 + 1)), (by first | rfl | (simp; done) | (simp [*]; done)), H', ⟨by have := HK1.out; omega⟩, ⟨by (with_reducible repeat (first | apply Kd.R_alloc | apply Kd.R_drewN | apply Kd.R_drew)); exact HO_7.out⟩, ⟨by repeat (first | (with_reducible first | exact HB.out | apply below_alloc | apply pw_below_drewN | apply below_drew1) | exact HB.out)⟩⟩
    rw [if_pos c11] at H
    have c11b0 : decide ((rd l2 x22_1) < 0) = true := decide_eq_true c11
    clear c11
    by_cases c12 : x22_1 < (x7_1.length : Int)
    case neg => rw [if_neg c12] at H; exact absurd H (by simp)
    rw [if_pos c12] at H
    have c12b0 : decide (x22_1 < (x7_1.length : Int)) = true := decide_eq_true c12
    clear c12
    obtain ⟨y133, hy133⟩ : ∃ y_ : List Int, y_ = (x7_1.set (x22_1 : Int).toNat 1) := ⟨_, rfl⟩
    replace H : (orreryref19_More.l0 k1 l0 a1 l2 y133 l2 (l2.length : Int) (wrap64 (x22_1 + 1))) = some r := by first | (rw [hy133]; with_reducible exact H) | (have H2_ := (Option.bind_some _ _).symm.trans H; rw [hy133]; with_reducible exact H2_) | (have H2_ := (Option.bind_some _ _).symm.trans H; with_reducible exact H2_) | with_reducible exact H | (rw [hy133]; exact H) | exact H
    have Ny133 := Aside0.mk hy133
    clear hy133
    have H' := Aside0.mk H
    clear H
    have p132 : 0 ≤ (x22_1 : Int) := of_decide_eq_true (by first | (with_reducible assumption) | assumption)
    have q132 : x22_1 < (l2.length : Int) := of_decide_eq_true (by first | (with_reducible assumption) | assumption)
    obtain ⟨ad132, e132, hx132_0⟩ := Kd.at_int HR2.out x22_1 p132 q132
    cases e132
    replace hx132_0 := (HB.out.cell (World.block_lt_of_cell? w _ hx132_0)).trans hx132_0
    replace p132 := eq_true p132
    replace q132 := eq_true q132
    have p13 : 0 ≤ (x22_1 : Int) := of_decide_eq_true (by first | (with_reducible assumption) | assumption)
    have q13 : (x22_1 : Int) < ((x7_1.length : Int) : Int) := of_decide_eq_true (by first | (with_reducible assumption) | assumption)
    obtain ⟨go13, co13, eo13, gb13, gl13, cl13, HG13⟩ := Kd.R_form HO_7.out (by omega)
    (first | cases eo13 | (injection eo13 with ea_ en_ ec_; (first | subst ea_ | (injection ea_ with ea_; subst ea_)); subst ec_; clear en_))
    have GB13 := Aside0.mk gb13
    have GG13 := Aside0.mk HG13
    clear gb13 gl13 HG13
    obtain ⟨hx13_0, hf13_0⟩ := Kd.R_celln 0 HO_7.out (x22_1 : Int) p13 q13
    replace p13 := eq_true p13
    replace q13 := eq_true q13
    have HP14 := Kd.R_putg HO_7.out (x22_1 : Int) 1
    go_wp2_with (first | ((with_reducible refine gate_store (t := 3) (p := 31) rfl ?_); refine store_event (t := 3) (p := 31) (v := ?vo_w15) (w1 := (wr.setCell ⟨go13, (x22_1 : Int).toNat, none⟩ (.int .i64 1))) ?hg ?ho ?hn ?hr ?_; (case ho => rfl); (case hg => rfl); (case hn => rfl); (case hr => first | (go_simp; done) | (go_simp; rfl)); intro w15 hw; have hg : wr.grownBy w15 (some go13) := (by rw [hw]; exact HP14.2); have hp_ : Kd.R (Kd.int .i64) 3 w15 w.heap.size (fun _ => True) (.slice (some ⟨go13, 0, none⟩) x7_1.length co13) y133 := (by rw [hw, Ny133.out]; exact HP14.1); clear HP14; have n0_ := Aside0.mk (hp_); have n1_ := Aside0.mk ((by rw [hw]; exact below_set (HB.out) GB13.out : Below w.heap.size w w15)); clear HO_7; clear HB; have HO_7 := n0_; have HB := n1_; clear n0_ n1_; clear hg hw hp_))
    (first | go_roundg k1 | (refine Handed.intro k1 ?measure ?_; rotate_left; go_step; (repeat apply Exists.intro); (refine ⟨?rel, ?fr_⟩); (case fr_ => (simp only [add_plain]; rfl))))
    case measure => have := HK1.out; omega
    case rel => exact ⟨(y133), (wrap64 (x22_1 + 1)), (by first | rfl | (simp; done) | (simp [*]; done)), H', ⟨by have := HK1.out; omega⟩, ⟨by (with_reducible repeat (first | apply Kd.R_alloc | apply Kd.R_drewN | apply Kd.R_drew)); exact HO_7.out⟩, ⟨by repeat (first | (with_reducible first | exact HB.out | apply below_alloc | apply pw_below_drewN | apply below_drew1) | exact HB.out)⟩⟩
   rw [if_neg c8] at H
   have c8b0 : decide (x22_1 < (l2.length : Int)) = false := decide_eq_false c8
   clear c8
   by_cases c16 : 0 ≤ a1
   case neg => rw [if_neg c16] at H; exact absurd H (by simp)
   rw [if_pos c16] at H
   have c16b0 := eq_true c16
   have c16b1 : decide (0 ≤ a1) = true := decide_eq_true c16
   clear c16
   by_cases c17 : (a1 : Int).toNat ≤ 35184372088832
   case neg => rw [if_neg c17] at H; exact absurd H (by simp)
   rw [if_pos c17] at H
   have c17b0 := eq_true c17
   have c17b1 : decide ((a1 : Int).toNat ≤ 35184372088832) = true := decide_eq_true c17
   clear c17
   obtain ⟨y134, hy134⟩ : ∃ y_ : List Int, y_ = (List.replicate (a1 : Int).toNat 0) := ⟨_, rfl⟩
   replace H : (orreryref19_More.l1 k1 l0 a1 l2 x7_1 y134 (y134.length : Int) 0) = some r := by first | (rw [hy134]; with_reducible exact H) | (have H2_ := (Option.bind_some _ _).symm.trans H; rw [hy134]; with_reducible exact H2_) | (have H2_ := (Option.bind_some _ _).symm.trans H; with_reducible exact H2_) | with_reducible exact H | (rw [hy134]; exact H) | exact H
   have Ny134 := Aside0.mk hy134
   clear hy134
   have H' := Aside0.mk H
   clear H
   go_wp2_with (first | ((with_reducible refine gate_dst (N := 34) rfl ?_); refine Kd.R_make (Kd.int .i64) _ 3 rfl (N := 34) rfl 23 _ _ rfl a1 rfl rfl Try.underlying23 (.int .i64 0) 8 info3 rfl (by decide) (by omega) 0 (ok := fun _ => True) (okp := fun _ => True) rfl (fun _ hk => hk) trivial (of_decide_eq_true (by first | (with_reducible assumption) | assumption)) (Nat.le_trans (Nat.mul_le_mul_right _ (of_decide_eq_true (by first | (with_reducible assumption) | assumption) : a1.toNat ≤ 35184372088832)) (by omega)) (Below.refl _ _) (Nat.le_refl _) ?_; intro v135 w18 ho19 hb hg_ hnew_; clear hg_ hnew_; (first | rw [← Ny134.out] at ho19 | (simp only [Int.reduceToNat] at ho19; rw [← Ny134.out] at ho19)); have n0_ := Aside0.mk (Kd.R_elder' (by (with_reducible repeat (first | apply Kd.R_alloc | apply Kd.R_drewN | apply Kd.R_drew)); exact HO_7.out) (Kd.R_base ho19) hb); have n1_ := Aside0.mk (Kd.R_lower (Kd.R_new' ho19 (Kd.R_lt (by (with_reducible repeat (first | apply Kd.R_alloc | apply Kd.R_drewN | apply Kd.R_drew)); exact HO_7.out))) (below_size (by repeat (first | (with_reducible first | exact HB.out | apply below_alloc | apply pw_below_drewN | apply below_drew1) | exact HB.out)))); have n2_ := Aside0.mk (below_step (by repeat (first | (with_reducible first | exact HB.out | apply below_alloc | apply pw_below_drewN | apply below_drew1) | exact HB.out)) hb); clear HO_7; clear HB; have HO_7 := n0_; have HO136 := n1_; have HB := n2_; clear n0_ n1_ n2_; clear hb ho19; obtain ⟨Ao20, co20, eo20⟩ := Kd.R_slice HO136.out; subst eo20))
   go_loopg [37] k1 (fun kq v37 w' => ∃ (x10_2 : List Int) (x37_2 : Int), v37 = .int .i64 x37_2 ∧ Aside0 (orreryref19_More.l1 kq l0 a1 l2 x7_1 x10_2 (y134.length : Int) x37_2 = some r) ∧ Aside0 (kq ≤ k1) ∧ Aside0 (Kd.R (Kd.int .i64) 3 w' w.heap.size (fun k_ => some k_ ≠ ((.slice Ao20 y134.length co20) : Value).ownBlock) v130 x7_1) ∧ Aside0 (Kd.R (Kd.int .i64) 3 w' w.heap.size (fun k_ => some k_ ≠ (v130 : Value).ownBlock) (.slice Ao20 y134.length co20) x10_2) ∧ Aside0 (Below w.heap.size w w'))
   case atStart => exact ⟨(y134), (0), (by first | rfl | (simp; done) | (simp [*]; done)), H', ⟨Nat.le_refl _⟩, ⟨by (with_reducible repeat (first | apply Kd.R_alloc | apply Kd.R_drewN | apply Kd.R_drew)); exact Kd.R_mono HO_7.out (fun _ hk => hk.2)⟩, ⟨by (with_reducible repeat (first | apply Kd.R_alloc | apply Kd.R_drewN | apply Kd.R_drew)); exact Kd.R_mono HO136.out (fun _ hk => hk.2)⟩, ⟨by repeat (first | (with_reducible first | exact HB.out | apply below_alloc | apply pw_below_drewN | apply below_drew1) | exact HB.out)⟩⟩
   case round =>
    clear H'
    try clear c1
    try clear p1
    try clear q1
    try clear hx1
    try clear c2
    try clear p2
    try clear c4
    try clear c4b0
    try clear c4b1
    try clear c5
    try clear c5b0
    try clear c5b1
    try clear p6
    try clear c8
    try clear c8b0
    try clear c9
    try clear c9b0
    try clear c10
    try clear c10b0
    try clear c11
    try clear c11b0
    try clear c12
    try clear c12b0
    try clear p13
    try clear q13
    try clear hx13
    try clear hf13
    try clear c16
    try clear c16b0
    try clear c16b1
    try clear c17
    try clear c17b0
    try clear c17b1
    try clear hx132_0
    try clear hx13_0
    try clear p13
    try clear p132
    try clear p2
    try clear q13
    try clear q132
    obtain ⟨x10_2, x37_2, rfl, HA, HK2, HO_7, HO_10, HB⟩ := hrel
    have hl10_2 := (Kd.R_reads' HO_10.out).1
    rw [hl10_2] at HO_10
    (try simp only [hl10_2])
    (try simp only [hl10_2] at HO_7)
    cases gk with
    | zero => exact absurd HA.out (by simp [orreryref19_More.l1])
    | succ k2 =>
     have H := HA.out
     clear HA
     simp only [orreryref19_More.l1] at H
     by_cases c21 : x37_2 < (y134.length : Int)
     case pos =>
      rw [if_pos c21] at H
      have c21b0 : decide (x37_2 < (y134.length : Int)) = true := decide_eq_true c21
      clear c21
      (try (have c21b0r := c21b0; simp only [hl10_2] at c21b0r))
      by_cases c22 : 0 ≤ x37_2
      case neg => rw [if_neg c22] at H; exact absurd H (by simp)
      rw [if_pos c22] at H
      have c22b0 : decide (0 ≤ x37_2) = true := decide_eq_true c22
      clear c22
      (try (have c22b0r := c22b0; simp only [hl10_2] at c22b0r))
      by_cases c23 : x37_2 < (x10_2.length : Int)
      case neg => rw [if_neg c23] at H; exact absurd H (by simp)
      rw [if_pos c23] at H
      have c23b0 : decide (x37_2 < (x10_2.length : Int)) = true := decide_eq_true c23
      clear c23
      (try (have c23b0r := c23b0; simp only [hl10_2] at c23b0r))
      obtain ⟨y137, hy137⟩ : ∃ y_ : List Int, y_ = (x10_2.set (x37_2 : Int).toNat (-1)) := ⟨_, rfl⟩
      replace H : (orreryref19_More.l1 k2 l0 a1 l2 x7_1 y137 (y134.length : Int) (wrap64 (x37_2 + 1))) = some r := by first | (rw [hy137]; with_reducible exact H) | (have H2_ := (Option.bind_some _ _).symm.trans H; rw [hy137]; with_reducible exact H2_) | (have H2_ := (Option.bind_some _ _).symm.trans H; with_reducible exact H2_) | with_reducible exact H | (rw [hy137]; exact H) | exact H
      have Ny137 := Aside0.mk hy137
      clear hy137
      have H' := Aside0.mk H
      clear H
      have p24 : 0 ≤ (x37_2 : Int) := of_decide_eq_true (by first | (with_reducible assumption) | assumption)
      have q24 : (x37_2 : Int) < ((x10_2.length : Int) : Int) := of_decide_eq_true (by first | (with_reducible assumption) | assumption)
      obtain ⟨go24, co24, eo24, gb24, gl24, cl24, HG24⟩ := Kd.R_form HO_10.out (by omega)
      (first | cases eo24 | (injection eo24 with ea_ en_ ec_; (first | subst ea_ | (injection ea_ with ea_; subst ea_)); subst ec_; clear en_))
      have GB24 := Aside0.mk gb24
      have GG24 := Aside0.mk HG24
      clear gb24 gl24 HG24
      obtain ⟨hx24_0, hf24_0⟩ := Kd.R_celln 0 HO_10.out (x37_2 : Int) p24 q24
      replace p24 := eq_true p24
      replace q24 := eq_true q24
      have HP25 := Kd.R_putg HO_10.out (x37_2 : Int) (-1)
      go_wp2_with (first | ((with_reducible refine gate_store (t := 3) (p := 42) rfl ?_); refine store_event (t := 3) (p := 42) (v := ?vo_w26) (w1 := (wr.setCell ⟨go24, (x37_2 : Int).toNat, none⟩ (.int .i64 (-1)))) ?hg ?ho ?hn ?hr ?_; (case ho => rfl); (case hg => rfl); (case hn => rfl); (case hr => first | (go_simp; done) | (go_simp; rfl)); intro w26 hw; have hg : wr.grownBy w26 (some go24) := (by rw [hw]; exact HP25.2); have hp_ : Kd.R (Kd.int .i64) 3 w26 w.heap.size (fun k_ => some k_ ≠ (v130 : Value).ownBlock) (.slice (some ⟨go24, 0, none⟩) x10_2.length co20) y137 := (by rw [hw, Ny137.out]; exact HP25.1); clear HP25; have n0_ := Aside0.mk (Kd.R_after (v := (.slice (some ⟨go24, 0, none⟩) x10_2.length co20)) (v1 := (.slice (some ⟨go24, 0, none⟩) x10_2.length co20)) (ok := (fun _ => True)) (by (with_reducible repeat (first | apply Kd.R_alloc | apply Kd.R_drewN | apply Kd.R_drew)); exact Kd.R_mono HO_7.out (fun _ hk => ⟨trivial, hk⟩)) hg (.inl rfl)); have n1_ := Aside0.mk (hp_); have n2_ := Aside0.mk ((by rw [hw]; exact below_set (HB.out) GB24.out : Below w.heap.size w w26)); clear HO_7; clear HO_10; clear HB; have HO_7 := n0_; have HO_10 := n1_; have HB := n2_; clear n0_ n1_ n2_; clear hg hw hp_))
      (try simp only [← hl10_2])
      (first | go_roundg k2 | (refine Handed.intro k2 ?measure ?_; rotate_left; go_step; (repeat apply Exists.intro); (refine ⟨?rel, ?fr_⟩); (case fr_ => (simp only [add_plain]; rfl))))
      case measure => have := HK1.out; have := HK2.out; omega
      case rel => exact ⟨(y137), (wrap64 (x37_2 + 1)), (by first | rfl | (simp; done) | (simp [*]; done)), H', ⟨by have := HK1.out; have := HK2.out; omega⟩, ⟨by (try simp only [hl10_2]); (with_reducible repeat (first | apply Kd.R_alloc | apply Kd.R_drewN | apply Kd.R_drew)); exact Kd.R_mono HO_7.out (fun _ hk => hk.2)⟩, ⟨by (try simp only [hl10_2]); (with_reducible repeat (first | apply Kd.R_alloc | apply Kd.R_drewN | apply Kd.R_drew)); exact HO_10.out⟩, ⟨by repeat (first | (with_reducible first | exact HB.out | apply below_alloc | apply pw_below_drewN | apply below_drew1) | exact HB.out)⟩⟩
     rw [if_neg c21] at H
     have c21b0 : decide (x37_2 < (y134.length : Int)) = false := decide_eq_false c21
     clear c21
     (try (have c21b0r := c21b0; simp only [hl10_2] at c21b0r))
     have H' := Aside0.mk H
     clear H
     go_wp2
     go_loopg [46] k2 (fun kq v46 w' => ∃ (x10_3 : List Int) (x46_3 : Int), v46 = .int .i64 x46_3 ∧ Aside0 (orreryref19_More.l2 kq l0 a1 x7_1 x10_3 l2 (l2.length : Int) x46_3 = some r) ∧ Aside0 (kq ≤ k2) ∧ Aside0 (Kd.R (Kd.int .i64) 3 w' w.heap.size (fun k_ => some k_ ≠ ((.slice Ao20 x10_2.length co20) : Value).ownBlock) v130 x7_1) ∧ Aside0 (Kd.R (Kd.int .i64) 3 w' w.heap.size (fun k_ => some k_ ≠ (v130 : Value).ownBlock) (.slice Ao20 x10_2.length co20) x10_3) ∧ Aside0 (Below w.heap.size w w'))
     case atStart => exact ⟨(x10_2), (0), (by first | rfl | (simp; done) | (simp [*]; done)), H', ⟨Nat.le_refl _⟩, ⟨by (try simp only [hl10_2]); (with_reducible repeat (first | apply Kd.R_alloc | apply Kd.R_drewN | apply Kd.R_drew)); exact HO_7.out⟩, ⟨by (try simp only [hl10_2]); (with_reducible repeat (first | apply Kd.R_alloc | apply Kd.R_drewN | apply Kd.R_drew)); exact HO_10.out⟩, ⟨by repeat (first | (with_reducible first | exact HB.out | apply below_alloc | apply pw_below_drewN | apply below_drew1) | exact HB.out)⟩⟩
     case round =>
      clear H'
      try clear c1
      try clear p1
      try clear q1
      try clear hx1
      try clear c2
      try clear p2
      try clear q2
      try clear hx2
      try clear c4
      try clear c4b0
      try clear c4b1
      try clear c5
      try clear c5b0
      try clear c5b1
      try clear p6
      try clear c8
      try clear c8b0
      try clear c9
      try clear c9b0
      try clear c10
      try clear c10b0
      try clear c11
      try clear c11b0
      try clear c12
      try clear c12b0
      try clear p13
      try clear q13
      try clear hx13
      try clear hf13
      try clear c16
      try clear c16b0
      try clear c16b1
      try clear c17
      try clear c17b0
      try clear c17b1
      try clear c21
      try clear c21b0
      try clear c22
      try clear c22b0
      try clear c23
      try clear c23b0
      try clear p24
      try clear q24
      try clear hx24
      try clear hf24
      try clear hx132_0
      try clear hx13_0
      try clear hx24_0
      try clear p1
      try clear p13
      try clear p132
      try clear p2
      try clear p24
      try clear p6
      try clear q1
      try clear q13
      try clear q132
      try clear q24
      obtain ⟨x10_3, x46_3, rfl, HA, HK3, HO_7, HO_10, HB⟩ := hrel
      have hl10_3 := (Kd.R_reads' HO_10.out).1
      rw [hl10_3] at HO_10
      (try simp only [hl10_3])
      (try simp only [hl10_3] at HO_7)
      cases gk with
      | zero => exact absurd HA.out (by simp [orreryref19_More.l2])
      | succ k3 =>
       have H := HA.out
       clear HA
       simp only [orreryref19_More.l2] at H
       by_cases c27 : x46_3 < (l2.length : Int)
       case pos =>
        rw [if_pos c27] at H
        have c27b0 : decide (x46_3 < (l2.length : Int)) = true := decide_eq_true c27
        clear c27
        (try (have c27b0r := c27b0; simp only [hl10_2, hl10_3] at c27b0r))
        by_cases c28 : 0 ≤ x46_3
        case neg => rw [if_neg c28] at H; exact absurd H (by simp)
        rw [if_pos c28] at H
        have c28b0 : decide (0 ≤ x46_3) = true := decide_eq_true c28
        clear c28
        (try (have c28b0r := c28b0; simp only [hl10_2, hl10_3] at c28b0r))
        by_cases c29 : x46_3 < (l2.length : Int)
        case neg => rw [if_neg c29] at H; exact absurd H (by simp)
        rw [if_pos c29] at H
        have c29b0 : decide (x46_3 < (l2.length : Int)) = true := decide_eq_true c29
        clear c29
        (try (have c29b0r := c29b0; simp only [hl10_2, hl10_3] at c29b0r))
        by_cases c30 : (rd l2 x46_3) ≥ 0
        case neg =>
         rw [if_neg c30] at H
         have c30b0 : decide (0 ≤ (rd l2 x46_3)) = false := decide_eq_false c30
         clear c30
         (try (have c30b0r := c30b0; simp only [hl10_2, hl10_3] at c30b0r))
         have H' := Aside0.mk H
         clear H
         have p138 : 0 ≤ (x46_3 : Int) := of_decide_eq_true (by first | (with_reducible assumption) | assumption)
         have q138 : x46_3 < (l2.length : Int) := of_decide_eq_true (by first | (with_reducible assumption) | assumption)
         obtain ⟨ad138, e138, hx138_0⟩ := Kd.at_int HR2.out x46_3 p138 q138
         cases e138
         replace hx138_0 := (HB.out.cell (World.block_lt_of_cell? w _ hx138_0)).trans hx138_0
         replace p138 := eq_true p138
         replace q138 := eq_true q138
         go_wp2
         (try simp only [← hl10_3])
         (first | go_roundg k3 | (refine Handed.intro k3 ?measure ?_; rotate_left; go_step; (repeat apply Exists.intro); (refine ⟨?rel, ?fr_⟩); (case fr_ => (simp only [add_plain]; rfl))))
         case measure => have := HK1.out; have := HK2.out; have := HK3.out; omega
         case rel => exact ⟨(x10_3), (wrap64 (x46_3 + 1)), (by first | rfl | (simp; done) | (simp [*]; done)), H', ⟨by have := HK1.out; have := HK2.out; have := HK3.out; omega⟩, ⟨by (try simp only [hl10_2]); (try simp only [hl10_3]); (with_reducible repeat (first | apply Kd.R_alloc | apply Kd.R_drewN | apply Kd.R_drew)); exact HO_7.out⟩, ⟨by (try simp only [hl10_2]); (try simp only [hl10_3]); (with_reducible repeat (first | apply Kd.R_alloc | apply Kd.R_drewN | apply Kd.R_drew)); exact HO_10.out⟩, ⟨by repeat (first | (with_reducible first | exact HB.out | apply below_alloc | apply pw_below_drewN | apply below_drew1) | exact HB.out)⟩⟩
        rw [if_pos c30] at H
        have c30b0 : decide (0 ≤ (rd l2 x46_3)) = true := decide_eq_true c30
        clear c30
        (try (have c30b0r := c30b0; simp only [hl10_2, hl10_3] at c30b0r))
        by_cases c31 : 0 ≤ (rd l2 x46_3)
        case neg => rw [if_neg c31] at H; exact absurd H (by simp)
        rw [if_pos c31] at H
        have c31b0 : decide (0 ≤ (rd l2 x46_3)) = true := decide_eq_true c31
        clear c31
        (try (have c31b0r := c31b0; simp only [hl10_2, hl10_3] at c31b0r))
        by_cases c32 : (rd l2 x46_3) < (x10_3.length : Int)
        case neg => rw [if_neg c32] at H; exact absurd H (by simp)
        rw [if_pos c32] at H
        have c32b0 : decide ((rd l2 x46_3) < (x10_3.length : Int)) = true := decide_eq_true c32
        clear c32
        (try (have c32b0r := c32b0; simp only [hl10_2, hl10_3] at c32b0r))
        obtain ⟨y139, hy139⟩ : ∃ y_ : List Int, y_ = (x10_3.set ((rd l2 x46_3) : Int).toNat x46_3) := ⟨_, rfl⟩
        replace H : (orreryref19_More.l2 k3 l0 a1 x7_1 y139 l2 (l2.length : Int) (wrap64 (x46_3 + 1))) = some r := by first | (rw [hy139]; with_reducible exact H) | (have H2_ := (Option.bind_some _ _).symm.trans H; rw [hy139]; with_reducible exact H2_) | (have H2_ := (Option.bind_some _ _).symm.trans H; with_reducible exact H2_) | with_reducible exact H | (rw [hy139]; exact H) | exact H
        have Ny139 := Aside0.mk hy139
        clear hy139
        have H' := Aside0.mk H
        clear H
        have p138 : 0 ≤ (x46_3 : Int) := of_decide_eq_true (by first | (with_reducible assumption) | assumption)
        have q138 : x46_3 < (l2.length : Int) := of_decide_eq_true (by first | (with_reducible assumption) | assumption)
        obtain ⟨ad138, e138, hx138_0⟩ := Kd.at_int HR2.out x46_3 p138 q138
        cases e138
        replace hx138_0 := (HB.out.cell (World.block_lt_of_cell? w _ hx138_0)).trans hx138_0
        replace p138 := eq_true p138
        replace q138 := eq_true q138
        have p33 : 0 ≤ ((rd l2 x46_3) : Int) := of_decide_eq_true (by first | (with_reducible assumption) | assumption)
        have q33 : ((rd l2 x46_3) : Int) < ((x10_3.length : Int) : Int) := of_decide_eq_true (by first | (with_reducible assumption) | assumption)
        obtain ⟨go33, co33, eo33, gb33, gl33, cl33, HG33⟩ := Kd.R_form HO_10.out (by omega)
        (first | cases eo33 | (injection eo33 with ea_ en_ ec_; (first | subst ea_ | (injection ea_ with ea_; subst ea_)); subst ec_; clear en_))
        have GB33 := Aside0.mk gb33
        have GG33 := Aside0.mk HG33
        clear gb33 gl33 HG33
        obtain ⟨hx33_0, hf33_0⟩ := Kd.R_celln 0 HO_10.out ((rd l2 x46_3) : Int) p33 q33
        replace p33 := eq_true p33
        replace q33 := eq_true q33
        have HP34 := Kd.R_putg HO_10.out ((rd l2 x46_3) : Int) x46_3
        go_wp2_with (first | ((with_reducible refine gate_store (t := 3) (p := 56) rfl ?_); refine store_event (t := 3) (p := 56) (v := ?vo_w35) (w1 := (wr.setCell ⟨go33, ((rd l2 x46_3) : Int).toNat, none⟩ (.int .i64 x46_3))) ?hg ?ho ?hn ?hr ?_; (case ho => rfl); (case hg => rfl); (case hn => rfl); (case hr => first | (go_simp; done) | (go_simp; rfl)); intro w35 hw; have hg : wr.grownBy w35 (some go33) := (by rw [hw]; exact HP34.2); have hp_ : Kd.R (Kd.int .i64) 3 w35 w.heap.size (fun k_ => some k_ ≠ (v130 : Value).ownBlock) (.slice (some ⟨go33, 0, none⟩) x10_3.length co20) y139 := (by rw [hw, Ny139.out]; exact HP34.1); clear HP34; have n0_ := Aside0.mk (Kd.R_after (v := (.slice (some ⟨go33, 0, none⟩) x10_3.length co20)) (v1 := (.slice (some ⟨go33, 0, none⟩) x10_3.length co20)) (ok := (fun _ => True)) (by (with_reducible repeat (first | apply Kd.R_alloc | apply Kd.R_drewN | apply Kd.R_drew)); exact Kd.R_mono HO_7.out (fun _ hk => ⟨trivial, hk⟩)) hg (.inl rfl)); have n1_ := Aside0.mk (hp_); have n2_ := Aside0.mk ((by rw [hw]; exact below_set (HB.out) GB33.out : Below w.heap.size w w35)); clear HO_7; clear HO_10; clear HB; have HO_7 := n0_; have HO_10 := n1_; have HB := n2_; clear n0_ n1_ n2_; clear hg hw hp_))
        (try simp only [← hl10_3])
        (first | go_roundg k3 | (refine Handed.intro k3 ?measure ?_; rotate_left; go_step; (repeat apply Exists.intro); (refine ⟨?rel, ?fr_⟩); (case fr_ => (simp only [add_plain]; rfl))))
        case measure => have := HK1.out; have := HK2.out; have := HK3.out; omega
        case rel => exact ⟨(y139), (wrap64 (x46_3 + 1)), (by first | rfl | (simp; done) | (simp [*]; done)), H', ⟨by have := HK1.out; have := HK2.out; have := HK3.out; omega⟩, ⟨by (try simp only [hl10_2]); (try simp only [hl10_3]); (with_reducible repeat (first | apply Kd.R_alloc | apply Kd.R_drewN | apply Kd.R_drew)); exact Kd.R_mono HO_7.out (fun _ hk => hk.2)⟩, ⟨by (try simp only [hl10_2]); (try simp only [hl10_3]); (with_reducible repeat (first | apply Kd.R_alloc | apply Kd.R_drewN | apply Kd.R_drew)); exact HO_10.out⟩, ⟨by repeat (first | (with_reducible first | exact HB.out | apply below_alloc | apply pw_below_drewN | apply below_drew1) | exact HB.out)⟩⟩
       rw [if_neg c27] at H
       have c27b0 : decide (x46_3 < (l2.length : Int)) = false := decide_eq_false c27
       clear c27
       (try (have c27b0r := c27b0; simp only [hl10_2, hl10_3] at c27b0r))
       have H' := Aside0.mk H
       clear H
       go_wp2
       go_loopg [14] k3 (fun kq v14 w' => ∃ (x7_4 : List Int) (x14_4 : Bool), v14 = .bool x14_4 ∧ Aside0 (orreryref19_More.l3 kq l0 a1 x7_4 x10_3 x14_4 = some r) ∧ Aside0 (kq ≤ k3) ∧ Aside0 (Kd.R (Kd.int .i64) 3 w' w.heap.size (fun k_ => some k_ ≠ ((.slice Ao20 x10_3.length co20) : Value).ownBlock) v130 x7_4) ∧ Aside0 (Kd.R (Kd.int .i64) 3 w' w.heap.size (fun k_ => some k_ ≠ (v130 : Value).ownBlock) (.slice Ao20 x10_3.length co20) x10_3) ∧ Aside0 (Below w.heap.size w w'))
       case atStart => exact ⟨(x7_1), (true), (by first | rfl | (simp; done) | (simp [*]; done)), H', ⟨Nat.le_refl _⟩, ⟨by (try simp only [hl10_2]); (try simp only [hl10_3]); (with_reducible repeat (first | apply Kd.R_alloc | apply Kd.R_drewN | apply Kd.R_drew)); exact HO_7.out⟩, ⟨by (try simp only [hl10_2]); (try simp only [hl10_3]); (with_reducible repeat (first | apply Kd.R_alloc | apply Kd.R_drewN | apply Kd.R_drew)); exact HO_10.out⟩, ⟨by repeat (first | (with_reducible first | exact HB.out | apply below_alloc | apply pw_below_drewN | apply below_drew1) | exact HB.out)⟩⟩
       case round =>
        clear H'
        try clear c1
        try clear p1
        try clear q1
        try clear hx1
        try clear c2
        try clear p2
        try clear q2
        try clear hx2
        try clear c3
        try clear p3
        try clear q3
        try clear hx3
        try clear hf3
        try clear c4
        try clear c4b0
        try clear c4b1
        try clear c5
        try clear c5b0
        try clear c5b1
        try clear p6
        try clear c8
        try clear c8b0
        try clear c9
        try clear c9b0
        try clear c10
        try clear c10b0
        try clear c11
        try clear c11b0
        try clear c12
        try clear c12b0
        try clear p13
        try clear q13
        try clear hx13
        try clear hf13
        try clear c16
        try clear c16b0
        try clear c16b1
        try clear c17
        try clear c17b0
        try clear c17b1
        try clear c21
        try clear c21b0
        try clear c22
        try clear c22b0
        try clear c23
        try clear c23b0
        try clear p24
        try clear q24
        try clear hx24
        try clear hf24
        try clear c27
        try clear c27b0
        try clear c28
        try clear c28b0
        try clear c29
        try clear c29b0
        try clear c30
        try clear c30b0
        try clear c31
        try clear c31b0
        try clear c32
        try clear c32b0
        try clear p33
        try clear q33
        try clear hx33
        try clear hf33
        try clear hx132_0
        try clear hx138_0
        try clear hx13_0
        try clear hx24_0
        try clear hx33_0
        try clear p1
        try clear p13
        try clear p132
        try clear p138
        try clear p2
        try clear p24
        try clear p33
        try clear p6
        try clear q1
        try clear q13
        try clear q132
        try clear q138
        try clear q2
        try clear q24
        try clear q33
        obtain ⟨x7_4, x14_4, rfl, HA, HK4, HO_7, HO_10, HB⟩ := hrel
        cases gk with
        | zero => exact absurd HA.out (by simp [orreryref19_More.l3])
        | succ k4 =>
         have H := HA.out
         clear HA
         simp only [orreryref19_More.l3] at H
         by_cases c36 : x14_4 = true
         case neg =>
          replace c36 := Bool.eq_false_iff.mpr c36
          subst c36
          have H1 : (some false) = some r := by rw [if_neg (show ¬ (false = true) by decide)] at H; exact H
          clear H
          have H := H1
          clear H1
          obtain rfl := Option.some.inj H
          go_wp2
          go_ret
          exact ⟨by first | rfl | (simp [errW_none, errW_some] <;> rfl) | (simp [*, errW_none, errW_some] <;> rfl), by repeat (first | (with_reducible first | exact HB.out | apply below_alloc | apply pw_below_drewN | apply below_drew1) | exact HB.out)⟩
         subst c36
         have H1 : (orreryref19_More.l4 k4 l0 a1 x7_4 x10_3 false (l0.length : Int) 0) = some r := by rw [if_pos rfl] at H; exact H
         clear H
         have H := H1
         clear H1
         have H' := Aside0.mk H
         clear H
         go_wp2
         go_loopg [14, 61] k4 (fun kq v14 v61 w' => ∃ (x7_5 : List Int) (x14_5 : Bool) (x61_5 : Int), v14 = .bool x14_5 ∧ v61 = .int .i64 x61_5 ∧ Aside0 (orreryref19_More.l4 kq l0 a1 x7_5 x10_3 x14_5 (l0.length : Int) x61_5 = some r) ∧ Aside0 (kq ≤ k4) ∧ Aside0 (Kd.R (Kd.int .i64) 3 w' w.heap.size (fun k_ => some k_ ≠ ((.slice Ao20 x10_3.length co20) : Value).ownBlock) v130 x7_5) ∧ Aside0 (Kd.R (Kd.int .i64) 3 w' w.heap.size (fun k_ => some k_ ≠ (v130 : Value).ownBlock) (.slice Ao20 x10_3.length co20) x10_3) ∧ Aside0 (Below w.heap.size w w'))
         case atStart => exact ⟨(x7_4), (false), (0), (by first | rfl | (simp; done) | (simp [*]; done)), (by first | rfl | (simp; done) | (simp [*]; done)), H', ⟨Nat.le_refl _⟩, ⟨by (try simp only [hl10_2]); (try simp only [hl10_3]); (with_reducible repeat (first | apply Kd.R_alloc | apply Kd.R_drewN | apply Kd.R_drew)); exact HO_7.out⟩, ⟨by (try simp only [hl10_2]); (try simp only [hl10_3]); (with_reducible repeat (first | apply Kd.R_alloc | apply Kd.R_drewN | apply Kd.R_drew)); exact HO_10.out⟩, ⟨by repeat (first | (with_reducible first | exact HB.out | apply below_alloc | apply pw_below_drewN | apply below_drew1) | exact HB.out)⟩⟩
         case round =>
          clear H'
          try clear c1
          try clear p1
          try clear q1
          try clear hx1
          try clear c2
          try clear p2
          try clear q2
          try clear hx2
          try clear c3
          try clear p3
          try clear q3
          try clear hx3
          try clear hf3
          try clear c4
          try clear c4b0
          try clear c4b1
          try clear c5
          try clear c5b0
          try clear c5b1
          try clear p6
          try clear c8
          try clear c8b0
          try clear c9
          try clear c9b0
          try clear c10
          try clear c10b0
          try clear c11
          try clear c11b0
          try clear c12
          try clear c12b0
          try clear p13
          try clear q13
          try clear hx13
          try clear hf13
          try clear c16
          try clear c16b0
          try clear c16b1
          try clear c17
          try clear c17b0
          try clear c17b1
          try clear c21
          try clear c21b0
          try clear c22
          try clear c22b0
          try clear c23
          try clear c23b0
          try clear p24
          try clear q24
          try clear hx24
          try clear hf24
          try clear c27
          try clear c27b0
          try clear c28
          try clear c28b0
          try clear c29
          try clear c29b0
          try clear c30
          try clear c30b0
          try clear c31
          try clear c31b0
          try clear c32
          try clear c32b0
          try clear p33
          try clear q33
          try clear hx33
          try clear hf33
          try clear c36
          try clear hx132_0
          try clear hx138_0
          try clear hx13_0
          try clear hx24_0
          try clear hx33_0
          try clear p1
          try clear p13
          try clear p132
          try clear p138
          try clear p2
          try clear p24
          try clear p3
          try clear p33
          try clear p6
          try clear q1
          try clear q13
          try clear q132
          try clear q138
          try clear q2
          try clear q24
          try clear q3
          try clear q33
          obtain ⟨x7_5, x14_5, x61_5, rfl, rfl, HA, HK5, HO_7, HO_10, HB⟩ := hrel
          cases gk with
          | zero => exact absurd HA.out (by simp [orreryref19_More.l4])
          | succ k5 =>
           have H := HA.out
           clear HA
           simp only [orreryref19_More.l4] at H
           by_cases c37 : x61_5 < (l0.length : Int)
           case neg =>
            rw [if_neg c37] at H
            have c37b0 : decide (x61_5 < (l0.length : Int)) = false := decide_eq_false c37
            clear c37
            (try (have c37b0r := c37b0; simp only [hl10_2, hl10_3] at c37b0r))
            have H' := Aside0.mk H
            clear H
            go_wp2
            (first | go_roundg k5 | (refine Handed.intro k5 ?measure ?_; rotate_left; go_step; (repeat apply Exists.intro); (refine ⟨?rel, ?fr_⟩); (case fr_ => (simp only [add_plain]; rfl))))
            case measure => have := HK1.out; have := HK2.out; have := HK3.out; have := HK4.out; have := HK5.out; omega
            case rel => exact ⟨(x7_5), (x14_5), (by first | rfl | (simp; done) | (simp [*]; done)), H', ⟨by have := HK1.out; have := HK2.out; have := HK3.out; have := HK4.out; have := HK5.out; omega⟩, ⟨by (try simp only [hl10_2]); (try simp only [hl10_3]); (with_reducible repeat (first | apply Kd.R_alloc | apply Kd.R_drewN | apply Kd.R_drew)); exact HO_7.out⟩, ⟨by (try simp only [hl10_2]); (try simp only [hl10_3]); (with_reducible repeat (first | apply Kd.R_alloc | apply Kd.R_drewN | apply Kd.R_drew)); exact HO_10.out⟩, ⟨by repeat (first | (with_reducible first | exact HB.out | apply below_alloc | apply pw_below_drewN | apply below_drew1) | exact HB.out)⟩⟩
           rw [if_pos c37] at H
           have c37b0 : decide (x61_5 < (l0.length : Int)) = true := decide_eq_true c37
           clear c37
           (try (have c37b0r := c37b0; simp only [hl10_2, hl10_3] at c37b0r))
           by_cases c38 : 0 ≤ x61_5
           case neg => rw [if_neg c38] at H; exact absurd H (by simp)
           rw [if_pos c38] at H
           have c38b0 : decide (0 ≤ x61_5) = true := decide_eq_true c38
           clear c38
           (try (have c38b0r := c38b0; simp only [hl10_2, hl10_3] at c38b0r))
           by_cases c39 : x61_5 < (x7_5.length : Int)
           case neg => rw [if_neg c39] at H; exact absurd H (by simp)
           rw [if_pos c39] at H
           have c39b0 : decide (x61_5 < (x7_5.length : Int)) = true := decide_eq_true c39
           clear c39
           (try (have c39b0r := c39b0; simp only [hl10_2, hl10_3] at c39b0r))
           by_cases c40 : (rd x7_5 x61_5) = 0
           case pos =>
            rw [if_pos c40] at H
            have c40b0 : ((rd x7_5 x61_5) == 0) = true := beq_iff_eq.mpr c40
            have c40b1 : ((rd x7_5 x61_5) != 0) = false := bne_eq_false_iff_eq.mpr c40
            clear c40
            (try (have c40b0r := c40b0; simp only [hl10_2, hl10_3] at c40b0r))
            (try (have c40b1r := c40b1; simp only [hl10_2, hl10_3] at c40b1r))
            have H' := Aside0.mk H
            clear H
            obtain ⟨Ao41, co41, eo41⟩ := Kd.R_slice HO_7.out
            subst eo41
            have p140 : 0 ≤ (x61_5 : Int) := of_decide_eq_true (by first | (with_reducible assumption) | assumption)
            have q140 : x61_5 < (x7_5.length : Int) := of_decide_eq_true (by first | (with_reducible assumption) | assumption)
            obtain ⟨ad140, e140, hx140_0⟩ := Kd.at_int (Kd.R_reads' HO_7.out).2.2 x61_5 p140 q140
            cases e140
            replace p140 := eq_true p140
            replace q140 := eq_true q140
            go_wp2
            (first | go_roundg k5 | (refine Handed.intro k5 ?measure ?_; rotate_left; go_step; (repeat apply Exists.intro); (refine ⟨?rel, ?fr_⟩); (case fr_ => (simp only [add_plain]; rfl))))
            case measure => have := HK1.out; have := HK2.out; have := HK3.out; have := HK4.out; have := HK5.out; omega
            case rel => exact ⟨(x7_5), (x14_5), (wrap64 (x61_5 + 1)), (by first | rfl | (simp; done) | (simp [*]; done)), (by first | rfl | (simp; done) | (simp [*]; done)), H', ⟨by have := HK1.out; have := HK2.out; have := HK3.out; have := HK4.out; have := HK5.out; omega⟩, ⟨by (try simp only [hl10_2]); (try simp only [hl10_3]); (with_reducible repeat (first | apply Kd.R_alloc | apply Kd.R_drewN | apply Kd.R_drew)); exact HO_7.out⟩, ⟨by (try simp only [hl10_2]); (try simp only [hl10_3]); (with_reducible repeat (first | apply Kd.R_alloc | apply Kd.R_drewN | apply Kd.R_drew)); exact HO_10.out⟩, ⟨by repeat (first | (with_reducible first | exact HB.out | apply below_alloc | apply pw_below_drewN | apply below_drew1) | exact HB.out)⟩⟩
           rw [if_neg c40] at H
           have c40b0 : ((rd x7_5 x61_5) == 0) = false := beq_eq_false_iff_ne.mpr c40
           have c40b1 : ((rd x7_5 x61_5) != 0) = true := bne_iff_ne.mpr c40
           (try (have c40b0r := c40b0; simp only [hl10_2, hl10_3] at c40b0r))
           (try (have c40b1r := c40b1; simp only [hl10_2, hl10_3] at c40b1r))
           have H' := Aside0.mk H
           clear H
           obtain ⟨Ao42, co42, eo42⟩ := Kd.R_slice HO_7.out
           subst eo42
           have p140 : 0 ≤ (x61_5 : Int) := of_decide_eq_true (by first | (with_reducible assumption) | assumption)
           have q140 : x61_5 < (x7_5.length : Int) := of_decide_eq_true (by first | (with_reducible assumption) | assumption)
           obtain ⟨ad140, e140, hx140_0⟩ := Kd.at_int (Kd.R_reads' HO_7.out).2.2 x61_5 p140 q140
           cases e140
           replace p140 := eq_true p140
           replace q140 := eq_true q140
           go_wp2
           go_loopg [14, 16] k5 (fun kq v14 v16 w' => ∃ (x7_6 : List Int) (x14_6 : Bool) (x16_6 : Int), v14 = .bool x14_6 ∧ v16 = .int .i64 x16_6 ∧ Aside0 (orreryref19_More.l5 kq l0 a1 x7_6 x10_3 x14_6 x61_5 x16_6 (l0.length : Int) x61_5 = some r) ∧ Aside0 (kq ≤ k5) ∧ Aside0 (Kd.R (Kd.int .i64) 3 w' w.heap.size (fun k_ => some k_ ≠ ((.slice Ao20 x10_3.length co20) : Value).ownBlock) (.slice (some ad140) x7_5.length co42) x7_6) ∧ Aside0 (Kd.R (Kd.int .i64) 3 w' w.heap.size (fun k_ => some k_ ≠ ((.slice (some ad140) x7_5.length co42) : Value).ownBlock) (.slice Ao20 x10_3.length co20) x10_3) ∧ Aside0 (Below w.heap.size w w'))
           case atStart => exact ⟨(x7_5), (x14_5), (0), (by first | rfl | (simp; done) | (simp [*]; done)), (by first | rfl | (simp; done) | (simp [*]; done)), H', ⟨Nat.le_refl _⟩, ⟨by (try simp only [hl10_2]); (try simp only [hl10_3]); (with_reducible repeat (first | apply Kd.R_alloc | apply Kd.R_drewN | apply Kd.R_drew)); exact HO_7.out⟩, ⟨by (try simp only [hl10_2]); (try simp only [hl10_3]); (with_reducible repeat (first | apply Kd.R_alloc | apply Kd.R_drewN | apply Kd.R_drew)); exact HO_10.out⟩, ⟨by repeat (first | (with_reducible first | exact HB.out | apply below_alloc | apply pw_below_drewN | apply below_drew1) | exact HB.out)⟩⟩
           case round =>
            clear H'
            try clear c1
            try clear p1
            try clear q1
            try clear hx1
            try clear c2
            try clear p2
            try clear q2
            try clear hx2
            try clear c3
            try clear p3
            try clear q3
            try clear hx3
            try clear hf3
            try clear c4
            try clear c4b0
            try clear c4b1
            try clear c5
            try clear c5b0
            try clear c5b1
            try clear p6
            try clear c8
            try clear c8b0
            try clear c9
            try clear c9b0
            try clear c10
            try clear c10b0
            try clear c11
            try clear c11b0
            try clear c12
            try clear c12b0
            try clear p13
            try clear q13
            try clear hx13
            try clear hf13
            try clear p14
            try clear q14
            try clear hx14
            try clear c16
            try clear c16b0
            try clear c16b1
            try clear c17
            try clear c17b0
            try clear c17b1
            try clear c21
            try clear c21b0
            try clear c22
            try clear c22b0
            try clear c23
            try clear c23b0
            try clear p24
            try clear q24
            try clear hx24
            try clear hf24
            try clear c27
            try clear c27b0
            try clear c28
            try clear c28b0
            try clear c29
            try clear c29b0
            try clear c30
            try clear c30b0
            try clear c31
            try clear c31b0
            try clear c32
            try clear c32b0
            try clear p33
            try clear q33
            try clear hx33
            try clear hf33
            try clear c36
            try clear c37
            try clear c37b0
            try clear c38
            try clear c38b0
            try clear c39
            try clear c39b0
            try clear c40
            try clear c40b0
            try clear c40b1
            try clear hx132_0
            try clear hx138_0
            try clear hx13_0
            try clear hx140_0
            try clear hx24_0
            try clear hx33_0
            try clear p1
            try clear p13
            try clear p132
            try clear p138
            try clear p140
            try clear p2
            try clear p24
            try clear p3
            try clear p33
            try clear p6
            try clear q1
            try clear q13
            try clear q132
            try clear q138
            try clear q140
            try clear q2
            try clear q24
            try clear q3
            try clear q33
            obtain ⟨x7_6, x14_6, x16_6, rfl, rfl, HA, HK6, HO_7, HO_10, HB⟩ := hrel
            have hl7_6 := (Kd.R_reads' HO_7.out).1
            rw [hl7_6] at HO_7
            (try simp only [hl7_6])
            (try simp only [hl7_6] at HO_10)
            cases gk with
            | zero => exact absurd HA.out (by simp [orreryref19_More.l5])
            | succ k6 =>
             have H := HA.out
             clear HA
             simp only [orreryref19_More.l5] at H
             by_cases c43 : x16_6 < a1
             case neg =>
              rw [if_neg c43] at H
              have c43b0 : decide (x16_6 < a1) = false := decide_eq_false c43
              clear c43
              (try (have c43b0r := c43b0; simp only [hl10_2, hl10_3, hl7_6] at c43b0r))
              have H' := Aside0.mk H
              clear H
              go_wp2
              (try simp only [← hl7_6])
              (first | go_roundg k6 | (refine Handed.intro k6 ?measure ?_; rotate_left; go_step; (repeat apply Exists.intro); (refine ⟨?rel, ?fr_⟩); (case fr_ => (simp only [add_plain]; rfl))))
              case measure => have := HK1.out; have := HK2.out; have := HK3.out; have := HK4.out; have := HK5.out; have := HK6.out; omega
              case rel => exact ⟨(x7_6), (x14_6), (wrap64 (x61_5 + 1)), (by first | rfl | (simp; done) | (simp [*]; done)), (by first | rfl | (simp; done) | (simp [*]; done)), H', ⟨by have := HK1.out; have := HK2.out; have := HK3.out; have := HK4.out; have := HK5.out; have := HK6.out; omega⟩, ⟨by (try simp only [hl10_2]); (try simp only [hl10_3]); (try simp only [hl7_6]); (with_reducible repeat (first | apply Kd.R_alloc | apply Kd.R_drewN | apply Kd.R_drew)); exact HO_7.out⟩, ⟨by (try simp only [hl10_2]); (try simp only [hl10_3]); (try simp only [hl7_6]); (with_reducible repeat (first | apply Kd.R_alloc | apply Kd.R_drewN | apply Kd.R_drew)); exact HO_10.out⟩, ⟨by repeat (first | (with_reducible first | exact HB.out | apply below_alloc | apply pw_below_drewN | apply below_drew1) | exact HB.out)⟩⟩
             rw [if_pos c43] at H
             have c43b0 : decide (x16_6 < a1) = true := decide_eq_true c43
             clear c43
             (try (have c43b0r := c43b0; simp only [hl10_2, hl10_3, hl7_6] at c43b0r))
             by_cases c44 : 0 ≤ x61_5
             case neg => rw [if_neg c44] at H; exact absurd H (by simp)
             rw [if_pos c44] at H
             have c44b0 : decide (0 ≤ x61_5) = true := decide_eq_true c44
             clear c44
             (try (have c44b0r := c44b0; simp only [hl10_2, hl10_3, hl7_6] at c44b0r))
             by_cases c45 : x61_5 < (l0.length : Int)
             case neg => rw [if_neg c45] at H; exact absurd H (by simp)
             rw [if_pos c45] at H
             have c45b0 : decide (x61_5 < (l0.length : Int)) = true := decide_eq_true c45
             clear c45
             (try (have c45b0r := c45b0; simp only [hl10_2, hl10_3, hl7_6] at c45b0r))
             by_cases c46 : 0 ≤ x16_6
             case neg => rw [if_neg c46] at H; exact absurd H (by simp)
             rw [if_pos c46] at H
             have c46b0 : decide (0 ≤ x16_6) = true := decide_eq_true c46
             clear c46
             (try (have c46b0r := c46b0; simp only [hl10_2, hl10_3, hl7_6] at c46b0r))
             by_cases c47 : x16_6 < ((rd_L3 l0 x61_5).length : Int)
             case neg => rw [if_neg c47] at H; exact absurd H (by simp)
             rw [if_pos c47] at H
             have c47b0 : decide (x16_6 < ((rd_L3 l0 x61_5).length : Int)) = true := decide_eq_true c47
             clear c47
             (try (have c47b0r := c47b0; simp only [hl10_2, hl10_3, hl7_6] at c47b0r))
             by_cases c48 : (rd (rd_L3 l0 x61_5) x16_6) < 0
             case pos =>
              rw [if_pos c48] at H
              have c48b0 : decide ((rd (rd_L3 l0 x61_5) x16_6) < 0) = true := decide_eq_true c48
              clear c48
              (try (have c48b0r := c48b0; simp only [hl10_2, hl10_3, hl7_6] at c48b0r))
              have H' := Aside0.mk H
              clear H
              have p141 : 0 ≤ (x61_5 : Int) := of_decide_eq_true (by first | (with_reducible assumption) | assumption)
              have q141 : x61_5 < (l0.length : Int) := of_decide_eq_true (by first | (with_reducible assumption) | assumption)
              obtain ⟨ad141, A141_0, c141_0, e141, hx141_0, hl141_0, hi141_0⟩ := at_L3 HR0.out x61_5 p141 q141
              cases e141
              replace hx141_0 := (HB.out.cell (World.block_lt_of_cell? w _ hx141_0)).trans hx141_0
              have HR141_0 := Aside0.mk hi141_0
              have HC141_0 := Aside0.mk hl141_0
              clear hi141_0 hl141_0
              replace p141 := eq_true p141
              replace q141 := eq_true q141
              have p142 : 0 ≤ (x16_6 : Int) := of_decide_eq_true (by first | (with_reducible assumption) | assumption)
              have q142 : x16_6 < ((rd_L3 l0 x61_5).length : Int) := of_decide_eq_true (by first | (with_reducible assumption) | assumption)
              obtain ⟨ad142, e142, hx142_0⟩ := Kd.at_int HR141_0.out x16_6 p142 q142
              cases e142
              replace hx142_0 := (HB.out.cell (World.block_lt_of_cell? w _ hx142_0)).trans hx142_0
              replace p142 := eq_true p142
              replace q142 := eq_true q142
              go_wp2
              (try simp only [← hl7_6])
              (first | go_roundg k6 | (refine Handed.intro k6 ?measure ?_; rotate_left; go_step; (repeat apply Exists.intro); (refine ⟨?rel, ?fr_⟩); (case fr_ => (simp only [add_plain]; rfl))))
              case measure => have := HK1.out; have := HK2.out; have := HK3.out; have := HK4.out; have := HK5.out; have := HK6.out; omega
              case rel => exact ⟨(x7_6), (x14_6), (wrap64 (x16_6 + 1)), (by first | rfl | (simp; done) | (simp [*]; done)), (by first | rfl | (simp; done) | (simp [*]; done)), H', ⟨by have := HK1.out; have := HK2.out; have := HK3.out; have := HK4.out; have := HK5.out; have := HK6.out; omega⟩, ⟨by (try simp only [hl10_2]); (try simp only [hl10_3]); (try simp only [hl7_6]); (with_reducible repeat (first | apply Kd.R_alloc | apply Kd.R_drewN | apply Kd.R_drew)); exact HO_7.out⟩, ⟨by (try simp only [hl10_2]); (try simp only [hl10_3]); (try simp only [hl7_6]); (with_reducible repeat (first | apply Kd.R_alloc | apply Kd.R_drewN | apply Kd.R_drew)); exact HO_10.out⟩, ⟨by repeat (first | (with_reducible first | exact HB.out | apply below_alloc | apply pw_below_drewN | apply below_drew1) | exact HB.out)⟩⟩
             rw [if_neg c48] at H
             have c48b0 : decide ((rd (rd_L3 l0 x61_5) x16_6) < 0) = false := decide_eq_false c48
             clear c48
             (try (have c48b0r := c48b0; simp only [hl10_2, hl10_3, hl7_6] at c48b0r))
             by_cases c49 : x16_6 < (x10_3.length : Int)
             case neg => rw [if_neg c49] at H; exact absurd H (by simp)
             rw [if_pos c49] at H
             have c49b0 : decide (x16_6 < (x10_3.length : Int)) = true := decide_eq_true c49
             clear c49
             (try (have c49b0r := c49b0; simp only [hl10_2, hl10_3, hl7_6] at c49b0r))
             by_cases c50 : (rd x10_3 x16_6) < 0
             case pos =>
              rw [if_pos c50] at H
              have c50b0 : decide ((rd x10_3 x16_6) < 0) = true := decide_eq_true c50
              clear c50
              (try (have c50b0r := c50b0; simp only [hl10_2, hl10_3, hl7_6] at c50b0r))
              obtain rfl := Option.some.inj H
              have p141 : 0 ≤ (x61_5 : Int) := of_decide_eq_true (by first | (with_reducible assumption) | assumption)
              have q141 : x61_5 < (l0.length : Int) := of_decide_eq_true (by first | (with_reducible assumption) | assumption)
              obtain ⟨ad141, A141_0, c141_0, e141, hx141_0, hl141_0, hi141_0⟩ := at_L3 HR0.out x61_5 p141 q141
              cases e141
              replace hx141_0 := (HB.out.cell (World.block_lt_of_cell? w _ hx141_0)).trans hx141_0
              have HR141_0 := Aside0.mk hi141_0
              have HC141_0 := Aside0.mk hl141_0
              clear hi141_0 hl141_0
              replace p141 := eq_true p141
              replace q141 := eq_true q141
              have p142 : 0 ≤ (x16_6 : Int) := of_decide_eq_true (by first | (with_reducible assumption) | assumption)
              have q142 : x16_6 < ((rd_L3 l0 x61_5).length : Int) := of_decide_eq_true (by first | (with_reducible assumption) | assumption)
              obtain ⟨ad142, e142, hx142_0⟩ := Kd.at_int HR141_0.out x16_6 p142 q142
              cases e142
              replace hx142_0 := (HB.out.cell (World.block_lt_of_cell? w _ hx142_0)).trans hx142_0
              replace p142 := eq_true p142
              replace q142 := eq_true q142
              have p143 : 0 ≤ (x16_6 : Int) := of_decide_eq_true (by first | (with_reducible assumption) | assumption)
              have q143 : x16_6 < (x10_3.length : Int) := of_decide_eq_true (by first | (with_reducible assumption) | assumption)
              obtain ⟨ad143, e143, hx143_0⟩ := Kd.at_int (Kd.R_reads' HO_10.out).2.2 x16_6 p143 q143
              cases e143
              replace p143 := eq_true p143
              replace q143 := eq_true q143
              go_wp2
              go_ret
              exact ⟨by first | rfl | (simp [errW_none, errW_some] <;> rfl) | (simp [*, errW_none, errW_some] <;> rfl), by repeat (first | (with_reducible first | exact HB.out | apply below_alloc | apply pw_below_drewN | apply below_drew1) | exact HB.out)⟩
             rw [if_neg c50] at H
             have c50b0 : decide ((rd x10_3 x16_6) < 0) = false := decide_eq_false c50
             clear c50
             (try (have c50b0r := c50b0; simp only [hl10_2, hl10_3, hl7_6] at c50b0r))
             by_cases c51 : 0 ≤ (rd x10_3 x16_6)
             case neg => rw [if_neg c51] at H; exact absurd H (by simp)
             rw [if_pos c51] at H
             have c51b0 : decide (0 ≤ (rd x10_3 x16_6)) = true := decide_eq_true c51
             clear c51
             (try (have c51b0r := c51b0; simp only [hl10_2, hl10_3, hl7_6] at c51b0r))
             by_cases c52 : (rd x10_3 x16_6) < (x7_6.length : Int)
             case neg => rw [if_neg c52] at H; exact absurd H (by simp)
             rw [if_pos c52] at H
             have c52b0 : decide ((rd x10_3 x16_6) < (x7_6.length : Int)) = true := decide_eq_true c52
             clear c52
             (try (have c52b0r := c52b0; simp only [hl10_2, hl10_3, hl7_6] at c52b0r))
             by_cases c53 : (rd x7_6 (rd x10_3 x16_6)) = 0
             case neg =>
              rw [if_neg c53] at H
              have c53b0 : ((rd x7_6 (rd x10_3 x16_6)) == 0) = false := beq_eq_false_iff_ne.mpr c53
              have c53b1 : ((rd x7_6 (rd x10_3 x16_6)) != 0) = true := bne_iff_ne.mpr c53
              (try (have c53b0r := c53b0; simp only [hl10_2, hl10_3, hl7_6] at c53b0r))
              (try (have c53b1r := c53b1; simp only [hl10_2, hl10_3, hl7_6] at c53b1r))
              have H' := Aside0.mk H
              clear H
              have p141 : 0 ≤ (x61_5 : Int) := of_decide_eq_true (by first | (with_reducible assumption) | assumption)
              have q141 : x61_5 < (l0.length : Int) := of_decide_eq_true (by first | (with_reducible assumption) | assumption)
              obtain ⟨ad141, A141_0, c141_0, e141, hx141_0, hl141_0, hi141_0⟩ := at_L3 HR0.out x61_5 p141 q141
              cases e141
              replace hx141_0 := (HB.out.cell (World.block_lt_of_cell? w _ hx141_0)).trans hx141_0
              have HR141_0 := Aside0.mk hi141_0
              have HC141_0 := Aside0.mk hl141_0
              clear hi141_0 hl141_0
              replace p141 := eq_true p141
              replace q141 := eq_true q141
              have p142 : 0 ≤ (x16_6 : Int) := of_decide_eq_true (by first | (with_reducible assumption) | assumption)
              have q142 : x16_6 < ((rd_L3 l0 x61_5).length : Int) := of_decide_eq_true (by first | (with_reducible assumption) | assumption)
              obtain ⟨ad142, e142, hx142_0⟩ := Kd.at_int HR141_0.out x16_6 p142 q142
              cases e142
              replace hx142_0 := (HB.out.cell (World.block_lt_of_cell? w _ hx142_0)).trans hx142_0
              replace p142 := eq_true p142
              replace q142 := eq_true q142
              have p143 : 0 ≤ (x16_6 : Int) := of_decide_eq_true (by first | (with_reducible assumption) | assumption)
              have q143 : x16_6 < (x10_3.length : Int) := of_decide_eq_true (by first | (with_reducible assumption) | assumption)
              obtain ⟨ad143, e143, hx143_0⟩ := Kd.at_int (Kd.R_reads' HO_10.out).2.2 x16_6 p143 q143
              cases e143
              replace p143 := eq_true p143
              replace q143 := eq_true q143
              have p144 : 0 ≤ (x16_6 : Int) := of_decide_eq_true (by first | (with_reducible assumption) | assumption)
              have q144 : x16_6 < (x10_3.length : Int) := of_decide_eq_true (by first | (with_reducible assumption) | assumption)
              obtain ⟨ad144, e144, hx144_0⟩ := Kd.at_int (Kd.R_reads' HO_10.out).2.2 x16_6 p144 q144
              obtain rfl : ad143 = ad144 := (by injection e144)
              replace p144 := eq_true p144
              replace q144 := eq_true q144
              have p145 : 0 ≤ ((rd x10_3 x16_6) : Int) := of_decide_eq_true (by first | (with_reducible assumption) | assumption)
              have q145 : (rd x10_3 x16_6) < (x7_6.length : Int) := of_decide_eq_true (by first | (with_reducible assumption) | assumption)
              obtain ⟨ad145, e145, hx145_0⟩ := Kd.at_int (Kd.R_reads' HO_7.out).2.2 (rd x10_3 x16_6) p145 q145
              obtain rfl : ad140 = ad145 := (by injection e145)
              replace p145 := eq_true p145
              replace q145 := eq_true q145
              go_wp2
              (try simp only [← hl7_6])
              (first | go_roundg k6 | (refine Handed.intro k6 ?measure ?_; rotate_left; go_step; (repeat apply Exists.intro); (refine ⟨?rel, ?fr_⟩); (case fr_ => (simp only [add_plain]; rfl))))
              case measure => have := HK1.out; have := HK2.out; have := HK3.out; have := HK4.out; have := HK5.out; have := HK6.out; omega
              case rel => exact ⟨(x7_6), (x14_6), (wrap64 (x16_6 + 1)), (by first | rfl | (simp; done) | (simp [*]; done)), (by first | rfl | (simp; done) | (simp [*]; done)), H', ⟨by have := HK1.out; have := HK2.out; have := HK3.out; have := HK4.out; have := HK5.out; have := HK6.out; omega⟩, ⟨by (try simp only [hl10_2]); (try simp only [hl10_3]); (try simp only [hl7_6]); (with_reducible repeat (first | apply Kd.R_alloc | apply Kd.R_drewN | apply Kd.R_drew)); exact HO_7.out⟩, ⟨by (try simp only [hl10_2]); (try simp only [hl10_3]); (try simp only [hl7_6]); (with_reducible repeat (first | apply Kd.R_alloc | apply Kd.R_drewN | apply Kd.R_drew)); exact HO_10.out⟩, ⟨by repeat (first | (with_reducible first | exact HB.out | apply below_alloc | apply pw_below_drewN | apply below_drew1) | exact HB.out)⟩⟩
             rw [if_pos c53] at H
             have c53b0 : ((rd x7_6 (rd x10_3 x16_6)) == 0) = true := beq_iff_eq.mpr c53
             have c53b1 : ((rd x7_6 (rd x10_3 x16_6)) != 0) = false := bne_eq_false_iff_eq.mpr c53
             clear c53
             (try (have c53b0r := c53b0; simp only [hl10_2, hl10_3, hl7_6] at c53b0r))
             (try (have c53b1r := c53b1; simp only [hl10_2, hl10_3, hl7_6] at c53b1r))
             obtain ⟨y147, hy147⟩ : ∃ y_ : List Int, y_ = (x7_6.set ((rd x10_3 x16_6) : Int).toNat 1) := ⟨_, rfl⟩
             replace H : (orreryref19_More.l5 k6 l0 a1 y147 x10_3 true x61_5 (wrap64 (x16_6 + 1)) (l0.length : Int) x61_5) = some r := by first | (rw [hy147]; with_reducible exact H) | (have H2_ := (Option.bind_some _ _).symm.trans H; rw [hy147]; with_reducible exact H2_) | (have H2_ := (Option.bind_some _ _).symm.trans H; with_reducible exact H2_) | with_reducible exact H | (rw [hy147]; exact H) | exact H
             have Ny147 := Aside0.mk hy147
             clear hy147
             have H' := Aside0.mk H
             clear H
             have p141 : 0 ≤ (x61_5 : Int) := of_decide_eq_true (by first | (with_reducible assumption) | assumption)
             have q141 : x61_5 < (l0.length : Int) := of_decide_eq_true (by first | (with_reducible assumption) | assumption)
             obtain ⟨ad141, A141_0, c141_0, e141, hx141_0, hl141_0, hi141_0⟩ := at_L3 HR0.out x61_5 p141 q141
             cases e141
             replace hx141_0 := (HB.out.cell (World.block_lt_of_cell? w _ hx141_0)).trans hx141_0
             have HR141_0 := Aside0.mk hi141_0
             have HC141_0 := Aside0.mk hl141_0
             clear hi141_0 hl141_0
             replace p141 := eq_true p141
             replace q141 := eq_true q141
             have p142 : 0 ≤ (x16_6 : Int) := of_decide_eq_true (by first | (with_reducible assumption) | assumption)
             have q142 : x16_6 < ((rd_L3 l0 x61_5).length : Int) := of_decide_eq_true (by first | (with_reducible assumption) | assumption)
             obtain ⟨ad142, e142, hx142_0⟩ := Kd.at_int HR141_0.out x16_6 p142 q142
             cases e142
             replace hx142_0 := (HB.out.cell (World.block_lt_of_cell? w _ hx142_0)).trans hx142_0
             replace p142 := eq_true p142
             replace q142 := eq_true q142
             have p143 : 0 ≤ (x16_6 : Int) := of_decide_eq_true (by first | (with_reducible assumption) | assumption)
             have q143 : x16_6 < (x10_3.length : Int) := of_decide_eq_true (by first | (with_reducible assumption) | assumption)
             obtain ⟨ad143, e143, hx143_0⟩ := Kd.at_int (Kd.R_reads' HO_10.out).2.2 x16_6 p143 q143
             cases e143
             replace p143 := eq_true p143
             replace q143 := eq_true q143
             have p144 : 0 ≤ (x16_6 : Int) := of_decide_eq_true (by first | (with_reducible assumption) | assumption)
             have q144 : x16_6 < (x10_3.length : Int) := of_decide_eq_true (by first | (with_reducible assumption) | assumption)
             obtain ⟨ad144, e144, hx144_0⟩ := Kd.at_int (Kd.R_reads' HO_10.out).2.2 x16_6 p144 q144
             obtain rfl : ad143 = ad144 := (by injection e144)
             replace p144 := eq_true p144
             replace q144 := eq_true q144
             have p145 : 0 ≤ ((rd x10_3 x16_6) : Int) := of_decide_eq_true (by first | (with_reducible assumption) | assumption)
             have q145 : (rd x10_3 x16_6) < (x7_6.length : Int) := of_decide_eq_true (by first | (with_reducible assumption) | assumption)
             obtain ⟨ad145, e145, hx145_0⟩ := Kd.at_int (Kd.R_reads' HO_7.out).2.2 (rd x10_3 x16_6) p145 q145
             obtain rfl : ad140 = ad145 := (by injection e145)
             replace p145 := eq_true p145
             replace q145 := eq_true q145
             have p146 : 0 ≤ (x16_6 : Int) := of_decide_eq_true (by first | (with_reducible assumption) | assumption)
             have q146 : x16_6 < (x10_3.length : Int) := of_decide_eq_true (by first | (with_reducible assumption) | assumption)
             obtain ⟨ad146, e146, hx146_0⟩ := Kd.at_int (Kd.R_reads' HO_10.out).2.2 x16_6 p146 q146
             obtain rfl : ad143 = ad146 := (by injection e146)
             replace p146 := eq_true p146
             replace q146 := eq_true q146
             have p54 : 0 ≤ ((rd x10_3 x16_6) : Int) := of_decide_eq_true (by first | (with_reducible assumption) | assumption)
             have q54 : ((rd x10_3 x16_6) : Int) < ((x7_6.length : Int) : Int) := of_decide_eq_true (by first | (with_reducible assumption) | assumption)
             obtain ⟨go54, co54, eo54, gb54, gl54, cl54, HG54⟩ := Kd.R_form HO_7.out (by omega)
             (first | cases eo54 | (injection eo54 with ea_ en_ ec_; (first | subst ea_ | (injection ea_ with ea_; subst ea_)); subst ec_; clear en_))
             have GB54 := Aside0.mk gb54
             have GG54 := Aside0.mk HG54
             clear gb54 gl54 HG54
             (first | simp only [add_plain] at hx140_0 | skip)
             (first | simp only [add_plain] at hx145_0 | skip)
             obtain ⟨hx54_0, hf54_0⟩ := Kd.R_celln 0 HO_7.out ((rd x10_3 x16_6) : Int) p54 q54
             replace p54 := eq_true p54
             replace q54 := eq_true q54
             have HP55 := Kd.R_putg HO_7.out ((rd x10_3 x16_6) : Int) 1
             go_wp2_with (first | ((with_reducible refine gate_store (t := 3) (p := 100) rfl ?_); refine store_event (t := 3) (p := 100) (v := ?vo_w56) (w1 := (wr.setCell ⟨go54, ((rd x10_3 x16_6) : Int).toNat, none⟩ (.int .i64 1))) ?hg ?ho ?hn ?hr ?_; (case ho => rfl); (case hg => rfl); (case hn => rfl); (case hr => first | (go_simp; done) | (go_simp; rfl)); intro w56 hw; have hg : wr.grownBy w56 (some go54) := (by rw [hw]; exact HP55.2); have hp_ : Kd.R (Kd.int .i64) 3 w56 w.heap.size (fun k_ => some k_ ≠ (.slice (some ad143) x10_3.length co20 : Value).ownBlock) (.slice (some ⟨go54, 0, none⟩) x7_6.length co42) y147 := (by rw [hw, Ny147.out]; exact HP55.1); clear HP55; have n0_ := Aside0.mk (hp_); have n1_ := Aside0.mk (Kd.R_after (v := (.slice (some ⟨go54, 0, none⟩) x7_6.length co42)) (v1 := (.slice (some ⟨go54, 0, none⟩) x7_6.length co42)) (ok := (fun _ => True)) (by (with_reducible repeat (first | apply Kd.R_alloc | apply Kd.R_drewN | apply Kd.R_drew)); exact Kd.R_mono HO_10.out (fun _ hk => ⟨trivial, hk⟩)) hg (.inl rfl)); have n2_ := Aside0.mk ((by rw [hw]; exact below_set (HB.out) GB54.out : Below w.heap.size w w56)); clear HO_7; clear HO_10; clear HB; have HO_7 := n0_; have HO_10 := n1_; have HB := n2_; clear n0_ n1_ n2_; clear hg hw hp_))
             (try simp only [← hl7_6])
             (first | go_roundg k6 | (refine Handed.intro k6 ?measure ?_; rotate_left; go_step; (repeat apply Exists.intro); (refine ⟨?rel, ?fr_⟩); (case fr_ => (simp only [add_plain]; rfl))))
             case measure => have := HK1.out; have := HK2.out; have := HK3.out; have := HK4.out; have := HK5.out; have := HK6.out; omega
             case rel => exact ⟨(y147), (true), (wrap64 (x16_6 + 1)), (by first | rfl | (simp; done) | (simp [*]; done)), (by first | rfl | (simp; done) | (simp [*]; done)), H', ⟨by have := HK1.out; have := HK2.out; have := HK3.out; have := HK4.out; have := HK5.out; have := HK6.out; omega⟩, ⟨by (try simp only [hl10_2]); (try simp only [hl10_3]); (try simp only [hl7_6]); (with_reducible repeat (first | apply Kd.R_alloc | apply Kd.R_drewN | apply Kd.R_drew)); exact HO_7.out⟩, ⟨by (try simp only [hl10_2]); (try simp only [hl10_3]); (try simp only [hl7_6]); (with_reducible repeat (first | apply Kd.R_alloc | apply Kd.R_drewN | apply Kd.R_drew)); exact Kd.R_mono HO_10.out (fun _ hk => hk.2)⟩, ⟨by repeat (first | (with_reducible first | exact HB.out | apply below_alloc | apply pw_below_drewN | apply below_drew1) | exact HB.out)⟩⟩

end Go.Proofs.Ytamloclgignfgaa.PA
