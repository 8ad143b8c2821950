/- What the Go functions of this part compute, as Lean functions, and that the machine's calls come to just that; written for this claim by a program of the session (gen.sh, after the kit's printer). -/
import Derived.Test.YtamloclgignfgaaPAx0
namespace Go.Proofs.Ytamloclgignfgaa.PA
open Go.RowKit Go.Proofs.YtamloclgignfgaaW.PrintWords Go.Proofs.YtamloclgignfgaaW.PrintLast Go.Proofs.YtamloclgignfgaaW.PrintMore
attribute [local go_sem] max2_int min2_int max_two min_two max_three min_three max_four min_four   -- for this text's walks alone
set_option linter.unusedVariables false
set_option linter.unusedSimpArgs false

/-! ### orreryref19_Sum: function 26 -/
def orreryref19_Sum.l0 : Nat → List (List Int) → Int → List Int → Int → Int → Option (Int)
  | 0, _, _, _, _, _ => none
  | k + 1, x0, x5, x8, x9, x10 => if x10 < x9 then (if 0 ≤ x10 then (if x10 < (x8.length : Int) then (if x10 < (x0.length : Int) then (if 0 ≤ (rd x8 x10) then (if (rd x8 x10) < ((rd_L3 x0 x10).length : Int) then (orreryref19_Sum.l0 k x0 (wrap64 (x5 + (rd (rd_L3 x0 x10) (rd x8 x10)))) x8 x9 (wrap64 (x10 + 1))) else (none)) else (none)) else (none)) else (none)) else (none)) else (some x5)
def orreryref19_Sum.f (k : Nat) (l0 : List (List Int)) (l1 : List Int) : Option (Int) := orreryref19_Sum.l0 k l0 0 l1 (l1.length : Int) 0
theorem orreryref19_Sum.mono_l : ∀ k, (∀ y0 y1 y2 y3 y4, LeO (orreryref19_Sum.l0 k y0 y1 y2 y3 y4) (orreryref19_Sum.l0 (k + 1) y0 y1 y2 y3 y4))
  | 0 => fun _ _ _ _ _ r h => by simp [orreryref19_Sum.l0] at h
  | k + 1 => by
    have ih0 := orreryref19_Sum.mono_l k
    · intro y0 y1 y2 y3 y4
      unfold orreryref19_Sum.l0
      repeat' first
      | (with_reducible exact ih0 _ _ _ _ _)
      | (with_reducible exact LeO.refl _)
      | (with_reducible exact LeO.none _)
      | (with_reducible refine LeO.ite ?_ ?_)
      | (with_reducible refine LeO.bind ?_ (fun _ => ?_))
      | exact ih0 _ _ _ _ _
      | exact LeO.none _
      | refine LeO.ite ?_ ?_
      | refine LeO.bind ?_ (fun _ => ?_)
theorem orreryref19_Sum.mono : ∀ a0 a1 k, LeO (orreryref19_Sum.f k a0 a1) (orreryref19_Sum.f (k + 1) a0 a1) := by
 intro a0 a1 k
 have ih0 := orreryref19_Sum.mono_l k
 unfold orreryref19_Sum.f
 repeat' first
     | (with_reducible exact ih0 _ _ _ _ _)
     | (with_reducible exact LeO.refl _)
     | (with_reducible exact LeO.none _)
     | (with_reducible refine LeO.ite ?_ ?_)
     | (with_reducible refine LeO.bind ?_ (fun _ => ?_))
     | exact ih0 _ _ _ _ _
     | exact LeO.none _
     | refine LeO.ite ?_ ?_
     | refine LeO.bind ?_ (fun _ => ?_)
set_option maxHeartbeats 8000000 in
set_option maxRecDepth 100000 in
theorem orreryref19_Sum.calls (k : Nat) (A0 : Option Addr) (c0 : Nat) (l0 : List (List Int)) (A1 : Option Addr) (c1 : Nat) (l1 : List Int) (r : Int) (w : World) (hr0 : Kd.C (Kd.slice 3 (Kd.int .i64)) w A0 l0.length l0) (hc0 : l0.length ≤ c0) (hr1 : Kd.C (Kd.int .i64) w A1 l1.length l1) (hc1 : l1.length ≤ c1) (h : orreryref19_Sum.f k l0 l1 = some r) :
    Calls Try.prog 26 #[.slice A0 l0.length c0, .slice A1 l1.length c1] w fun e w' => e = .returned (.int .i64 r) ∧ Drawn0 w w' := by
 have HR0 := Aside0.mk hr0
 have HC0 := Aside0.mk hc0
 clear hr0 hc0
 have HR1 := Aside0.mk hr1
 have HC1 := Aside0.mk hc1
 clear hr1 hc1
 have H : (orreryref19_Sum.l0 k l0 0 l1 (l1.length : Int) 0) = some r := h
 clear h
 have H' := Aside0.mk H
 clear H
 go_enter Try.func26, Try.ntmps26
 go_wp2
 go_loopg [5, 10] k (fun kq v5 v10 w' => ∃ (x5_1 : Int) (x10_1 : Int), v5 = .int .i64 x5_1 ∧ v10 = .int .i64 x10_1 ∧ Aside0 (orreryref19_Sum.l0 kq l0 x5_1 l1 (l1.length : Int) x10_1 = some r) ∧ Aside0 (kq ≤ k) ∧ Drawn0 w w')
 case atStart => exact ⟨(0), (0), (by first | rfl | (simp; done) | (simp [*]; done)), (by first | rfl | (simp; done) | (simp [*]; done)), H', ⟨Nat.le_refl _⟩, by repeat (first | exact Drawn0.refl _ | apply Drawn0.step)⟩
 case round =>
  clear H'
  try clear c1
  try clear c2
  try clear p2
  obtain ⟨x5_1, x10_1, rfl, rfl, HA, HK1, ⟨m1, rfl⟩⟩ := hrel
  cases gk with
  | zero => exact absurd HA.out (by simp [orreryref19_Sum.l0])
  | succ k1 =>
   have H := HA.out
   clear HA
   simp only [orreryref19_Sum.l0] at H
   by_cases c3 : x10_1 < (l1.length : Int)
   case neg =>
    rw [if_neg c3] at H
    have c3b0 : decide (x10_1 < (l1.length : Int)) = false := decide_eq_false c3
    clear c3
    obtain rfl := Option.some.inj H
    go_wp2
    go_ret
    exact ⟨by first | rfl | (simp; done) | (simp [*]; done), by repeat (first | exact Drawn0.refl _ | apply Drawn0.step)⟩
   rw [if_pos c3] at H
   have c3b0 : decide (x10_1 < (l1.length : Int)) = true := decide_eq_true c3
   clear c3
   by_cases c4 : 0 ≤ x10_1
   case neg => rw [if_neg c4] at H; exact absurd H (by simp)
   rw [if_pos c4] at H
   have c4b0 : decide (0 ≤ x10_1) = true := decide_eq_true c4
   clear c4
   by_cases c5 : x10_1 < (l1.length : Int)
   case neg => rw [if_neg c5] at H; exact absurd H (by simp)
   rw [if_pos c5] at H
   have c5b0 : decide (x10_1 < (l1.length : Int)) = true := decide_eq_true c5
   clear c5
   by_cases c6 : x10_1 < (l0.length : Int)
   case neg => rw [if_neg c6] at H; exact absurd H (by simp)
   rw [if_pos c6] at H
   have c6b0 : decide (x10_1 < (l0.length : Int)) = true := decide_eq_true c6
   clear c6
   by_cases c7 : 0 ≤ (rd l1 x10_1)
   case neg => rw [if_neg c7] at H; exact absurd H (by simp)
   rw [if_pos c7] at H
   have c7b0 : decide (0 ≤ (rd l1 x10_1)) = true := decide_eq_true c7
   clear c7
   by_cases c8 : (rd l1 x10_1) < ((rd_L3 l0 x10_1).length : Int)
   case neg => rw [if_neg c8] at H; exact absurd H (by simp)
   rw [if_pos c8] at H
   have c8b0 : decide ((rd l1 x10_1) < ((rd_L3 l0 x10_1).length : Int)) = true := decide_eq_true c8
   clear c8
   have H' := Aside0.mk H
   clear H
   have p465 : 0 ≤ (x10_1 : Int) := of_decide_eq_true (by first | (with_reducible assumption) | assumption)
   have q465 : x10_1 < (l1.length : Int) := of_decide_eq_true (by first | (with_reducible assumption) | assumption)
   obtain ⟨ad465, e465, hx465_0⟩ := Kd.at_int HR1.out x10_1 p465 q465
   cases e465
   replace p465 := eq_true p465
   replace q465 := eq_true q465
   have p466 : 0 ≤ (x10_1 : Int) := of_decide_eq_true (by first | (with_reducible assumption) | assumption)
   have q466 : x10_1 < (l0.length : Int) := of_decide_eq_true (by first | (with_reducible assumption) | assumption)
   obtain ⟨ad466, A466_0, c466_0, e466, hx466_0, hl466_0, hi466_0⟩ := at_L3 HR0.out x10_1 p466 q466
   cases e466
   have HR466_0 := Aside0.mk hi466_0
   have HC466_0 := Aside0.mk hl466_0
   clear hi466_0 hl466_0
   replace p466 := eq_true p466
   replace q466 := eq_true q466
   have p467 : 0 ≤ ((rd l1 x10_1) : Int) := of_decide_eq_true (by first | (with_reducible assumption) | assumption)
   have q467 : (rd l1 x10_1) < ((rd_L3 l0 x10_1).length : Int) := of_decide_eq_true (by first | (with_reducible assumption) | assumption)
   obtain ⟨ad467, e467, hx467_0⟩ := Kd.at_int HR466_0.out (rd l1 x10_1) p467 q467
   cases e467
   replace p467 := eq_true p467
   replace q467 := eq_true q467
   go_wp2
   (first | go_roundg k1 | (refine Handed.intro k1 ?measure ?_; rotate_left; go_step; (repeat apply Exists.intro); (refine ⟨?rel, ?fr_⟩); (case fr_ => (simp only [add_plain]; rfl))))
   case measure => have := HK1.out; omega
   case rel => exact ⟨(wrap64 (x5_1 + (rd (rd_L3 l0 x10_1) (rd l1 x10_1)))), (wrap64 (x10_1 + 1)), (by first | rfl | (simp; done) | (simp [*]; done)), (by first | rfl | (simp; done) | (simp [*]; done)), H', ⟨by have := HK1.out; omega⟩, by repeat (first | exact Drawn0.refl _ | apply Drawn0.step)⟩

end Go.Proofs.Ytamloclgignfgaa.PA
