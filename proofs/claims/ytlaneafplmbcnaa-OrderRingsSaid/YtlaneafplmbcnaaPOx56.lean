/- What the Go functions of this part compute, as Lean functions, and that the machine's calls come to just that; written for this claim by a program of the session (gen.sh, after the kit's printer). -/
import Derived.Test.YtlaneafplmbcnaaPOx0
import Derived.Test.YtlaneafplmbcnaaSq
import Derived.Test.YtlaneafplmbcnaaPOx45
namespace Go.Proofs.Ytlaneafplmbcnaa.PO
open Go.RowKit Go.Proofs.YtlaneafplmbcnaaW.PrintWords Go.Proofs.YtlaneafplmbcnaaW.PrintLast Go.Proofs.YtlaneafplmbcnaaW.PrintMore
attribute [local go_sem] max2_int min2_int max_two min_two max_three min_three max_four min_four   -- for this text's walks alone
set_option linter.unusedVariables false
set_option linter.unusedSimpArgs false

/-! ### orrerylaw21_OrderRings: function 5 -/
mutual
def orrerylaw21_OrderRings.l0 : Nat → Int → Bool → List (S33) → List Int → Int → Option (Bool)
  | 0, _, _, _, _, _ => none
  | k + 1, x0, x1, x5, x6, x7 => if x7 < x0 then (if x6.length < 17592186044416 then ((some (x6 ++ [x7] : List Int)).bind fun y400 => (if x5.length < 5864062014805 then ((some (x5 ++ [(⟨x7, x7, 0⟩ : S33)] : List (S33))).bind fun y403 => (if x7 > 0 then (if y403.length < 5864062014805 then (orrerylaw21_OrderRings.l0 k x0 x1 (y403 ++ [(⟨wrap64 (x7 - 1), x7, 0⟩ : S33)]) y400 (wrap64 (x7 + 1))) else (none)) else (orrerylaw21_OrderRings.l0 k x0 x1 y403 y400 (wrap64 (x7 + 1))))) else (none))) else (none)) else (if x1 = true then (if x5.length < 5864062014805 then (orrerylaw21_OrderRings.j1 k x0 x1 (x5 ++ [(⟨wrap64 (x0 - 1), 0, 0⟩ : S33)]) x6) else (none)) else (orrerylaw21_OrderRings.j1 k x0 x1 x5 x6))
def orrerylaw21_OrderRings.j1 : Nat → Int → Bool → List (S33) → List Int → Option (Bool)
  | 0, _, _, _, _ => none
  | k + 1, x0, x1, x5, x6 => (order_Blocks.f k x0 x5 x6).bind fun bt412 => (if bt412.2 = 0 then (if x1 = true then (if (bt412.1.length : Int) = 1 then (if 0 < (bt412.1.length : Int) then (some ((((rd_T30 bt412.1 0).f0).length : Int) == x0)) else (none)) else (some false)) else (orrerylaw21_OrderRings.l1 k x0 bt412.1 bt412.1 (bt412.1.length : Int) 0)) else (some false))
def orrerylaw21_OrderRings.l1 : Nat → Int → List (S30) → List (S30) → Int → Int → Option (Bool)
  | 0, _, _, _, _, _ => none
  | k + 1, x0, x8, x68, x69, x70 => if x70 < x69 then (if 0 ≤ x70 then (if x70 < (x68.length : Int) then (if (((rd_T30 x68 x70).f0).length : Int) = 1 then (if 0 < (((rd_T30 x68 x70).f0).length : Int) then (if (rd ((rd_T30 x68 x70).f0) 0) = (wrap64 ((wrap64 (x0 - 1)) - x70)) then (orrerylaw21_OrderRings.l1 k x0 x8 x68 x69 (wrap64 (x70 + 1))) else (some false)) else (none)) else (some false)) else (none)) else (none)) else (some ((x8.length : Int) == x0))
end
def orrerylaw21_OrderRings.f (k : Nat) (a0 : Int) (a1 : Bool) : Option (Bool) := orrerylaw21_OrderRings.l0 k (mn (mx a0 2) 64) a1 ([] : List (S33)) ([] : List Int) 0
theorem orrerylaw21_OrderRings.mono_l : ∀ k, (∀ y0 y1 y2 y3 y4, LeO (orrerylaw21_OrderRings.l0 k y0 y1 y2 y3 y4) (orrerylaw21_OrderRings.l0 (k + 1) y0 y1 y2 y3 y4)) ∧ (∀ y0 y1 y2 y3, LeO (orrerylaw21_OrderRings.j1 k y0 y1 y2 y3) (orrerylaw21_OrderRings.j1 (k + 1) y0 y1 y2 y3)) ∧ (∀ y0 y1 y2 y3 y4, LeO (orrerylaw21_OrderRings.l1 k y0 y1 y2 y3 y4) (orrerylaw21_OrderRings.l1 (k + 1) y0 y1 y2 y3 y4))
  | 0 => ⟨fun _ _ _ _ _ r h => by simp [orrerylaw21_OrderRings.l0] at h, fun _ _ _ _ r h => by simp [orrerylaw21_OrderRings.j1] at h, fun _ _ _ _ _ r h => by simp [orrerylaw21_OrderRings.l1] at h⟩
  | k + 1 => by
    obtain ⟨ih0, ih1, ih2⟩ := orrerylaw21_OrderRings.mono_l k
    refine ⟨?_, ?_, ?_⟩
    · intro y0 y1 y2 y3 y4
      unfold orrerylaw21_OrderRings.l0
      repeat' first
      | (with_reducible exact ih0 _ _ _ _ _)
      | (with_reducible exact ih1 _ _ _ _)
      | (with_reducible exact ih2 _ _ _ _ _)
      | (with_reducible exact order_Blocks.mono _ _ _ _)
      | (with_reducible exact LeO.refl _)
      | (with_reducible exact LeO.none _)
      | (with_reducible refine LeO.ite ?_ ?_)
      | (with_reducible refine LeO.bind ?_ (fun _ => ?_))
      | exact ih0 _ _ _ _ _
      | exact ih1 _ _ _ _
      | exact ih2 _ _ _ _ _
      | exact order_Blocks.mono _ _ _ _
      | exact LeO.none _
      | refine LeO.ite ?_ ?_
      | refine LeO.bind ?_ (fun _ => ?_)
    · intro y0 y1 y2 y3
      unfold orrerylaw21_OrderRings.j1
      repeat' first
      | (with_reducible exact ih0 _ _ _ _ _)
      | (with_reducible exact ih1 _ _ _ _)
      | (with_reducible exact ih2 _ _ _ _ _)
      | (with_reducible exact order_Blocks.mono _ _ _ _)
      | (with_reducible exact LeO.refl _)
      | (with_reducible exact LeO.none _)
      | (with_reducible refine LeO.ite ?_ ?_)
      | (with_reducible refine LeO.bind ?_ (fun _ => ?_))
      | exact ih0 _ _ _ _ _
      | exact ih1 _ _ _ _
      | exact ih2 _ _ _ _ _
      | exact order_Blocks.mono _ _ _ _
      | exact LeO.none _
      | refine LeO.ite ?_ ?_
      | refine LeO.bind ?_ (fun _ => ?_)
    · intro y0 y1 y2 y3 y4
      unfold orrerylaw21_OrderRings.l1
      repeat' first
      | (with_reducible exact ih0 _ _ _ _ _)
      | (with_reducible exact ih1 _ _ _ _)
      | (with_reducible exact ih2 _ _ _ _ _)
      | (with_reducible exact order_Blocks.mono _ _ _ _)
      | (with_reducible exact LeO.refl _)
      | (with_reducible exact LeO.none _)
      | (with_reducible refine LeO.ite ?_ ?_)
      | (with_reducible refine LeO.bind ?_ (fun _ => ?_))
      | exact ih0 _ _ _ _ _
      | exact ih1 _ _ _ _
      | exact ih2 _ _ _ _ _
      | exact order_Blocks.mono _ _ _ _
      | exact LeO.none _
      | refine LeO.ite ?_ ?_
      | refine LeO.bind ?_ (fun _ => ?_)
theorem orrerylaw21_OrderRings.mono : ∀ a0 a1 k, LeO (orrerylaw21_OrderRings.f k a0 a1) (orrerylaw21_OrderRings.f (k + 1) a0 a1) := by
 intro a0 a1 k
 obtain ⟨ih0, ih1, ih2⟩ := orrerylaw21_OrderRings.mono_l k
 unfold orrerylaw21_OrderRings.f
 repeat' first
     | (with_reducible exact ih0 _ _ _ _ _)
     | (with_reducible exact ih1 _ _ _ _)
     | (with_reducible exact ih2 _ _ _ _ _)
     | (with_reducible exact order_Blocks.mono _ _ _ _)
     | (with_reducible exact LeO.refl _)
     | (with_reducible exact LeO.none _)
     | (with_reducible refine LeO.ite ?_ ?_)
     | (with_reducible refine LeO.bind ?_ (fun _ => ?_))
     | exact ih0 _ _ _ _ _
     | exact ih1 _ _ _ _
     | exact ih2 _ _ _ _ _
     | exact order_Blocks.mono _ _ _ _
     | exact LeO.none _
     | refine LeO.ite ?_ ?_
     | refine LeO.bind ?_ (fun _ => ?_)
set_option maxHeartbeats 8000000 in
set_option maxRecDepth 100000 in
theorem orrerylaw21_OrderRings.calls (k : Nat) (a0 : Int) (a1 : Bool) (r : Bool) (w : World) (h : orrerylaw21_OrderRings.f k a0 a1 = some r) :
    Calls Try.prog 5 #[.int .i64 a0, .bool a1] w fun e w' => e = .returned (.bool r) ∧ Below w.heap.size w w' := by
 have hu33 := Try.underlying33
 have hu30 := Try.underlying30
 have HB := Aside0.mk (Below.refl w.heap.size w)
 have H : (orrerylaw21_OrderRings.l0 k (mn (mx a0 2) 64) a1 ([] : List (S33)) ([] : List Int) 0) = some r := h
 clear h
 obtain ⟨ji3, hji3⟩ : ∃ j_ : Int, (mx a0 2) = j_ := ⟨_, rfl⟩
 replace H : (orrerylaw21_OrderRings.l0 k (mn (ji3) 64) a1 ([] : List (S33)) ([] : List Int) 0) = some r := by first | (rw [hji3] at H; exact H) | (simp only [hji3] at H ⊢; exact H)
 (try (have hji3l : 2 ≤ ji3 := by (rw [← hji3]; unfold mx; (repeat' split) <;> omega)))
 (try (have hji3m : 0 ≤ ji3 := by omega))
 have hji3_ : (if a0 < 2 then 2 else a0) = ji3 := hji3
 obtain ⟨ji4, hji4⟩ : ∃ j_ : Int, (mn (ji3) 64) = j_ := ⟨_, rfl⟩
 replace H : (orrerylaw21_OrderRings.l0 k ji4 a1 ([] : List (S33)) ([] : List Int) 0) = some r := by first | (rw [hji4] at H; exact H) | (simp only [hji4] at H ⊢; exact H)
 have hji4_ : (if 64 < (ji3) then 64 else (ji3)) = ji4 := hji4
 have H' := Aside0.mk H
 clear H
 go_enter Try.func5, Try.ntmps5
 go_wp2
 clear hji4_
 go_loopg [5, 6, 7] k (fun kq v5 v6 v7 w' => ∃ (x5_1 : List (S33)) (x6_1 : List Int) (x7_1 : Int), v7 = .int .i64 x7_1 ∧ Aside0 (orrerylaw21_OrderRings.l0 kq ji4 a1 x5_1 x6_1 x7_1 = some r) ∧ Aside0 (kq ≤ k) ∧ Aside0 (Kd.R k33 33 w' w.heap.size (fun _ => True) v5 x5_1) ∧ Aside0 (Kd.R (Kd.int .i64) 3 w' w.heap.size (fun _ => True) v6 x6_1) ∧ Aside0 (Below w.heap.size w w'))
 case atStart => exact ⟨(([] : List (S33))), (([] : List Int)), (0), (by first | rfl | (simp; done) | (simp [*]; done)), H', ⟨Nat.le_refl _⟩, ⟨by first | exact Kd.R_nil _ _ _ _ _ | exact Kd.N_nil _ _ _ _ _ | exact Kd.V_nil _ _ _ _ _ | exact Kd.Q_nil _ _ _ _ _ | exact Kd.S_nil _ _ _ _ _⟩, ⟨by first | exact Kd.R_nil _ _ _ _ _ | exact Kd.N_nil _ _ _ _ _ | exact Kd.V_nil _ _ _ _ _ | exact Kd.Q_nil _ _ _ _ _ | exact Kd.S_nil _ _ _ _ _⟩, ⟨by repeat (first | (with_reducible first | exact HB.out | apply below_alloc | apply pw_below_drewN | apply below_drew1) | exact HB.out)⟩⟩
 case round =>
  clear H'
  try clear p2
  obtain ⟨x5_1, x6_1, x7_1, rfl, HA, HK1, HO_5, HO_6, HB⟩ := hrel
  cases gk with
  | zero => exact absurd HA.out (by simp [orrerylaw21_OrderRings.l0])
  | succ k1 =>
   have H := HA.out
   clear HA
   simp only [orrerylaw21_OrderRings.l0] at H
   by_cases c5 : x7_1 < ji4
   case pos =>
    rw [if_pos c5] at H
    have c5b0 : decide (x7_1 < ji4) = true := decide_eq_true c5
    clear c5
    by_cases c6 : x6_1.length < 17592186044416
    case neg => rw [if_neg c6] at H; exact absurd H (by simp)
    rw [if_pos c6] at H
    have LMc6 := Aside0.mk c6
    clear c6
    obtain ⟨y400, hy400⟩ : ∃ y_ : List Int, y_ = (x6_1 ++ [x7_1]) := ⟨_, rfl⟩
    replace H : (if x5_1.length < 5864062014805 then ((some (x5_1 ++ [(⟨x7_1, x7_1, 0⟩ : S33)] : List (S33))).bind fun y403 => (if x7_1 > 0 then (if y403.length < 5864062014805 then (orrerylaw21_OrderRings.l0 k1 ji4 a1 (y403 ++ [(⟨wrap64 (x7_1 - 1), x7_1, 0⟩ : S33)]) y400 (wrap64 (x7_1 + 1))) else (none)) else (orrerylaw21_OrderRings.l0 k1 ji4 a1 y403 y400 (wrap64 (x7_1 + 1))))) else (none)) = some r := by first | (rw [hy400]; with_reducible exact H) | (have H2_ := (Option.bind_some _ _).symm.trans H; rw [hy400]; with_reducible exact H2_) | (have H2_ := (Option.bind_some _ _).symm.trans H; with_reducible exact H2_) | with_reducible exact H | (rw [hy400]; exact H) | exact H
    have Ny400 := Aside0.mk hy400
    clear hy400
    by_cases c7 : x5_1.length < 5864062014805
    case neg => rw [if_neg c7] at H; exact absurd H (by simp)
    rw [if_pos c7] at H
    have LMc7 := Aside0.mk c7
    clear c7
    obtain ⟨y403, hy403⟩ : ∃ y_ : List (S33), y_ = (x5_1 ++ [(⟨x7_1, x7_1, 0⟩ : S33)]) := ⟨_, rfl⟩
    replace H : (if x7_1 > 0 then (if y403.length < 5864062014805 then (orrerylaw21_OrderRings.l0 k1 ji4 a1 (y403 ++ [(⟨wrap64 (x7_1 - 1), x7_1, 0⟩ : S33)]) y400 (wrap64 (x7_1 + 1))) else (none)) else (orrerylaw21_OrderRings.l0 k1 ji4 a1 y403 y400 (wrap64 (x7_1 + 1)))) = some r := by first | (rw [hy403]; with_reducible exact H) | (have H2_ := (Option.bind_some _ _).symm.trans H; rw [hy403]; with_reducible exact H2_) | (have H2_ := (Option.bind_some _ _).symm.trans H; with_reducible exact H2_) | with_reducible exact H | (rw [hy403]; exact H) | exact H
    have Ny403 := Aside0.mk hy403
    clear hy403
    by_cases c8 : x7_1 > 0
    case neg =>
     rw [if_neg c8] at H
     have c8b0 : decide (0 < x7_1) = false := decide_eq_false c8
     clear c8
     have H' := Aside0.mk H
     clear H
     go_wp2_with (first | ((with_reducible refine gate_builtin (b := .append) (xs := #[.tmp 20, .tmp 22]) rfl ?_); (try (refine gate_guard (by rfl) ?_; dsimp only)); at_builtin; refine Kd.R_append (Kd.int .i64) (w0 := w) w.heap.size rfl (.tmp 20) (.tmp 22) 23 3 (.int .i64 0) 8 rfl Try.underlying23 info3 rfl (by decide) (by omega) u6 x6_1 x7_1 [.int .i64 x7_1] (fun _ => True) (fun _ => False) rfl rfl ?aP (fun _ hk => hk.elim) ?aF ?aO ?aB ?aS ?aL ?_; (case aP => exact rfl); (case aB => exact (by repeat (first | (with_reducible first | exact HB.out | apply below_alloc | apply pw_below_drewN | apply below_drew1) | exact HB.out))); (case aF => exact (fun _ _ => trivial)); (case aO => exact (by (with_reducible repeat (first | apply Kd.R_alloc | apply Kd.R_drewN | apply Kd.R_drew)); exact HO_6.out)); (case aS => exact (below_size (by repeat (first | (with_reducible first | exact HB.out | apply below_alloc | apply pw_below_drewN | apply below_drew1) | exact HB.out)))); (case aL => have := LMc6.out; omega); intro v401 w13 ho hb hg hat; rw [← Ny400.out] at ho; have n0_ := Aside0.mk (Kd.R_over' (by (with_reducible repeat (first | apply Kd.R_alloc | apply Kd.R_drewN | apply Kd.R_drew)); exact HO_5.out) (Kd.R_typed (by (with_reducible repeat (first | apply Kd.R_alloc | apply Kd.R_drewN | apply Kd.R_drew)); exact HO_6.out)) (by decide) hg); have n1_ := Aside0.mk (hb); have n2_ := Aside0.mk (ho); clear HO_5; clear HB; clear HO_6; have HO_5 := n0_; have HB := n1_; have HO402 := n2_; clear n0_ n1_ n2_; clear ho hb hg hat) | ((with_reducible refine gate_builtin (b := .append) (xs := #[.tmp 24, .tmp 28]) rfl ?_); (try (refine gate_guard (by rfl) ?_; dsimp only)); at_builtin; refine Kd.R_append k33 (w0 := w) w.heap.size rfl (.tmp 24) (.tmp 28) 22 33 (.agg #[(.int .i64 0), (.int .i64 0), (.int .i64 0)]) 24 rfl Try.underlying22 info33 rfl (by decide) (by omega) u5 x5_1 (⟨x7_1, x7_1, 0⟩ : S33) [.int .i64 x7_1, .int .i64 x7_1, .int .i64 0] (fun _ => True) (fun _ => False) rfl rfl ?aP (fun _ hk => hk.elim) ?aF ?aO ?aB ?aS ?aL ?_; (case aP => exact k33_mkM _ _ _ (⟨x7_1, x7_1, 0⟩ : S33)); (case aB => exact (by repeat (first | (with_reducible first | exact HB.out | apply below_alloc | apply pw_below_drewN | apply below_drew1) | exact HB.out))); (case aF => exact (fun _ _ => trivial)); (case aO => exact (by (with_reducible repeat (first | apply Kd.R_alloc | apply Kd.R_drewN | apply Kd.R_drew)); exact HO_5.out)); (case aS => exact (below_size (by repeat (first | (with_reducible first | exact HB.out | apply below_alloc | apply pw_below_drewN | apply below_drew1) | exact HB.out)))); (case aL => have := LMc7.out; omega); intro v404 w14 ho hb hg hat; rw [← Ny403.out] at ho; have n0_ := Aside0.mk (Kd.R_over' (by (with_reducible repeat (first | apply Kd.R_alloc | apply Kd.R_drewN | apply Kd.R_drew)); exact HO402.out) (Kd.R_typed (by (with_reducible repeat (first | apply Kd.R_alloc | apply Kd.R_drewN | apply Kd.R_drew)); exact HO_5.out)) (by decide) hg); have n1_ := Aside0.mk (hb); have n2_ := Aside0.mk (ho); clear HO402; clear HB; clear HO_5; have HO402 := n0_; have HB := n1_; have HO405 := n2_; clear n0_ n1_ n2_; clear ho hb hg hat))
     (first | go_roundg k1 | (refine Handed.intro k1 ?measure ?_; rotate_left; go_step; (repeat apply Exists.intro); (refine ⟨?rel, ?fr_⟩); (case fr_ => (simp only [add_plain]; rfl))))
     case measure => have := HK1.out; omega
     case rel => exact ⟨(y403), (y400), (wrap64 (x7_1 + 1)), (by first | rfl | (simp; done) | (simp [*]; done)), H', ⟨by have := HK1.out; omega⟩, ⟨by (with_reducible repeat (first | apply Kd.R_alloc | apply Kd.R_drewN | apply Kd.R_drew)); exact HO405.out⟩, ⟨by (with_reducible repeat (first | apply Kd.R_alloc | apply Kd.R_drewN | apply Kd.R_drew)); exact HO402.out⟩, ⟨by repeat (first | (with_reducible first | exact HB.out | apply below_alloc | apply pw_below_drewN | apply below_drew1) | exact HB.out)⟩⟩
    rw [if_pos c8] at H
    have c8b0 : decide (0 < x7_1) = true := decide_eq_true c8
    clear c8
    by_cases c9 : y403.length < 5864062014805
    case neg => rw [if_neg c9] at H; exact absurd H (by simp)
    rw [if_pos c9] at H
    have LMc9 := Aside0.mk c9
    clear c9
    obtain ⟨y406, hy406⟩ : ∃ y_ : List (S33), y_ = (y403 ++ [(⟨wrap64 (x7_1 - 1), x7_1, 0⟩ : S33)]) := ⟨_, rfl⟩
    replace H : (orrerylaw21_OrderRings.l0 k1 ji4 a1 y406 y400 (wrap64 (x7_1 + 1))) = some r := by first | (rw [hy406]; with_reducible exact H) | (have H2_ := (Option.bind_some _ _).symm.trans H; rw [hy406]; with_reducible exact H2_) | (have H2_ := (Option.bind_some _ _).symm.trans H; with_reducible exact H2_) | with_reducible exact H | (rw [hy406]; exact H) | exact H
    have Ny406 := Aside0.mk hy406
    clear hy406
    have H' := Aside0.mk H
    clear H
    go_wp2_with (first | ((with_reducible refine gate_builtin (b := .append) (xs := #[.tmp 20, .tmp 22]) rfl ?_); (try (refine gate_guard (by rfl) ?_; dsimp only)); at_builtin; refine Kd.R_append (Kd.int .i64) (w0 := w) w.heap.size rfl (.tmp 20) (.tmp 22) 23 3 (.int .i64 0) 8 rfl Try.underlying23 info3 rfl (by decide) (by omega) u6 x6_1 x7_1 [.int .i64 x7_1] (fun _ => True) (fun _ => False) rfl rfl ?aP (fun _ hk => hk.elim) ?aF ?aO ?aB ?aS ?aL ?_; (case aP => exact rfl); (case aB => exact (by repeat (first | (with_reducible first | exact HB.out | apply below_alloc | apply pw_below_drewN | apply below_drew1) | exact HB.out))); (case aF => exact (fun _ _ => trivial)); (case aO => exact (by (with_reducible repeat (first | apply Kd.R_alloc | apply Kd.R_drewN | apply Kd.R_drew)); exact HO_6.out)); (case aS => exact (below_size (by repeat (first | (with_reducible first | exact HB.out | apply below_alloc | apply pw_below_drewN | apply below_drew1) | exact HB.out)))); (case aL => have := LMc6.out; omega); intro v401 w10 ho hb hg hat; rw [← Ny400.out] at ho; have n0_ := Aside0.mk (Kd.R_over' (by (with_reducible repeat (first | apply Kd.R_alloc | apply Kd.R_drewN | apply Kd.R_drew)); exact HO_5.out) (Kd.R_typed (by (with_reducible repeat (first | apply Kd.R_alloc | apply Kd.R_drewN | apply Kd.R_drew)); exact HO_6.out)) (by decide) hg); have n1_ := Aside0.mk (hb); have n2_ := Aside0.mk (ho); clear HO_5; clear HB; clear HO_6; have HO_5 := n0_; have HB := n1_; have HO402 := n2_; clear n0_ n1_ n2_; clear ho hb hg hat) | ((with_reducible refine gate_builtin (b := .append) (xs := #[.tmp 24, .tmp 28]) rfl ?_); (try (refine gate_guard (by rfl) ?_; dsimp only)); at_builtin; refine Kd.R_append k33 (w0 := w) w.heap.size rfl (.tmp 24) (.tmp 28) 22 33 (.agg #[(.int .i64 0), (.int .i64 0), (.int .i64 0)]) 24 rfl Try.underlying22 info33 rfl (by decide) (by omega) u5 x5_1 (⟨x7_1, x7_1, 0⟩ : S33) [.int .i64 x7_1, .int .i64 x7_1, .int .i64 0] (fun _ => True) (fun _ => False) rfl rfl ?aP (fun _ hk => hk.elim) ?aF ?aO ?aB ?aS ?aL ?_; (case aP => exact k33_mkM _ _ _ (⟨x7_1, x7_1, 0⟩ : S33)); (case aB => exact (by repeat (first | (with_reducible first | exact HB.out | apply below_alloc | apply pw_below_drewN | apply below_drew1) | exact HB.out))); (case aF => exact (fun _ _ => trivial)); (case aO => exact (by (with_reducible repeat (first | apply Kd.R_alloc | apply Kd.R_drewN | apply Kd.R_drew)); exact HO_5.out)); (case aS => exact (below_size (by repeat (first | (with_reducible first | exact HB.out | apply below_alloc | apply pw_below_drewN | apply below_drew1) | exact HB.out)))); (case aL => have := LMc7.out; omega); intro v404 w11 ho hb hg hat; rw [← Ny403.out] at ho; have n0_ := Aside0.mk (Kd.R_over' (by (with_reducible repeat (first | apply Kd.R_alloc | apply Kd.R_drewN | apply Kd.R_drew)); exact HO402.out) (Kd.R_typed (by (with_reducible repeat (first | apply Kd.R_alloc | apply Kd.R_drewN | apply Kd.R_drew)); exact HO_5.out)) (by decide) hg); have n1_ := Aside0.mk (hb); have n2_ := Aside0.mk (ho); clear HO402; clear HB; clear HO_5; have HO402 := n0_; have HB := n1_; have HO405 := n2_; clear n0_ n1_ n2_; clear ho hb hg hat) | ((with_reducible refine gate_builtin (b := .append) (xs := #[.tmp 32, .tmp 37]) rfl ?_); (try (refine gate_guard (by rfl) ?_; dsimp only)); at_builtin; refine Kd.R_append k33 (w0 := w) w.heap.size rfl (.tmp 32) (.tmp 37) 22 33 (.agg #[(.int .i64 0), (.int .i64 0), (.int .i64 0)]) 24 rfl Try.underlying22 info33 rfl (by decide) (by omega) v404 y403 (⟨wrap64 (x7_1 - 1), x7_1, 0⟩ : S33) [.int .i64 (wrap64 (x7_1 - 1)), .int .i64 x7_1, .int .i64 0] (fun _ => True) (fun _ => False) rfl rfl ?aP (fun _ hk => hk.elim) ?aF ?aO ?aB ?aS ?aL ?_; (case aP => exact k33_mkM _ _ _ (⟨wrap64 (x7_1 - 1), x7_1, 0⟩ : S33)); (case aB => exact (by repeat (first | (with_reducible first | exact HB.out | apply below_alloc | apply pw_below_drewN | apply below_drew1) | exact HB.out))); (case aF => exact (fun _ _ => trivial)); (case aO => exact (by (with_reducible repeat (first | apply Kd.R_alloc | apply Kd.R_drewN | apply Kd.R_drew)); exact HO405.out)); (case aS => exact (below_size (by repeat (first | (with_reducible first | exact HB.out | apply below_alloc | apply pw_below_drewN | apply below_drew1) | exact HB.out)))); (case aL => have := LMc9.out; omega); intro v407 w12 ho hb hg hat; rw [← Ny406.out] at ho; have n0_ := Aside0.mk (Kd.R_over' (by (with_reducible repeat (first | apply Kd.R_alloc | apply Kd.R_drewN | apply Kd.R_drew)); exact HO402.out) (Kd.R_typed (by (with_reducible repeat (first | apply Kd.R_alloc | apply Kd.R_drewN | apply Kd.R_drew)); exact HO405.out)) (by decide) hg); have n1_ := Aside0.mk (hb); have n2_ := Aside0.mk (ho); clear HO402; clear HB; clear HO405; have HO402 := n0_; have HB := n1_; have HO408 := n2_; clear n0_ n1_ n2_; clear ho hb hg hat))
    (first | go_roundg k1 | (refine Handed.intro k1 ?measure ?_; rotate_left; go_step; (repeat apply Exists.intro); (refine ⟨?rel, ?fr_⟩); (case fr_ => (simp only [add_plain]; rfl))))
    case measure => have := HK1.out; omega
    case rel => exact ⟨(y406), (y400), (wrap64 (x7_1 + 1)), (by first | rfl | (simp; done) | (simp [*]; done)), H', ⟨by have := HK1.out; omega⟩, ⟨by (with_reducible repeat (first | apply Kd.R_alloc | apply Kd.R_drewN | apply Kd.R_drew)); exact HO408.out⟩, ⟨by (with_reducible repeat (first | apply Kd.R_alloc | apply Kd.R_drewN | apply Kd.R_drew)); exact HO402.out⟩, ⟨by repeat (first | (with_reducible first | exact HB.out | apply below_alloc | apply pw_below_drewN | apply below_drew1) | exact HB.out)⟩⟩
   rw [if_neg c5] at H
   have c5b0 : decide (x7_1 < ji4) = false := decide_eq_false c5
   clear c5
   have HC15 := Aside0.mk H
   clear H
   go_upto_if 39 with (fail)
   go_cut [5] (fun v5 wc => ∃ (kq : Nat) (x5_14 : List (S33)), Aside0 (orrerylaw21_OrderRings.j1 kq ji4 a1 x5_14 x6_1 = some r) ∧ Aside0 (kq ≤ k1) ∧ Aside0 (Kd.R k33 33 wc w.heap.size (fun _ => True) v5 x5_14) ∧ Aside0 (Kd.R (Kd.int .i64) 3 wc w.heap.size (fun _ => True) u6 x6_1) ∧ Aside0 (Below w.heap.size w wc))
   case first =>
    have H := HC15.out
    clear HC15
    by_cases c16 : a1 = true
    case neg =>
     replace c16 := Bool.eq_false_iff.mpr c16
     subst c16
     have H1 : (orrerylaw21_OrderRings.j1 k1 ji4 false x5_1 x6_1) = some r := by rw [if_neg (show ¬ (false = true) by decide)] at H; exact H
     clear H
     have H := H1
     clear H1
     have H' := Aside0.mk H
     clear H
     go_wp2
     go_meet
     case rel => exact ⟨_, (x5_1), H', ⟨by have := HK1.out; first | omega | exact Nat.le_refl _⟩, ⟨by (with_reducible repeat (first | apply Kd.R_alloc | apply Kd.R_drewN | apply Kd.R_drew)); exact HO_5.out⟩, ⟨by (with_reducible repeat (first | apply Kd.R_alloc | apply Kd.R_drewN | apply Kd.R_drew)); exact HO_6.out⟩, ⟨by repeat (first | (with_reducible first | exact HB.out | apply below_alloc | apply pw_below_drewN | apply below_drew1) | exact HB.out)⟩⟩
    subst c16
    have H1 : (if x5_1.length < 5864062014805 then (orrerylaw21_OrderRings.j1 k1 ji4 true (x5_1 ++ [(⟨wrap64 (ji4 - 1), 0, 0⟩ : S33)]) x6_1) else (none)) = some r := by rw [if_pos rfl] at H; exact H
    clear H
    have H := H1
    clear H1
    by_cases c17 : x5_1.length < 5864062014805
    case neg => rw [if_neg c17] at H; exact absurd H (by simp)
    rw [if_pos c17] at H
    have LMc17 := Aside0.mk c17
    clear c17
    obtain ⟨y409, hy409⟩ : ∃ y_ : List (S33), y_ = (x5_1 ++ [(⟨wrap64 (ji4 - 1), 0, 0⟩ : S33)]) := ⟨_, rfl⟩
    replace H : (orrerylaw21_OrderRings.j1 k1 ji4 true y409 x6_1) = some r := by first | (rw [hy409]; with_reducible exact H) | (have H2_ := (Option.bind_some _ _).symm.trans H; rw [hy409]; with_reducible exact H2_) | (have H2_ := (Option.bind_some _ _).symm.trans H; with_reducible exact H2_) | with_reducible exact H | (rw [hy409]; exact H) | exact H
    have Ny409 := Aside0.mk hy409
    clear hy409
    have H' := Aside0.mk H
    clear H
    go_wp2_with (first | ((with_reducible refine gate_builtin (b := .append) (xs := #[.tmp 40, .tmp 44]) rfl ?_); (try (refine gate_guard (by rfl) ?_; dsimp only)); at_builtin; refine Kd.R_append k33 (w0 := w) w.heap.size rfl (.tmp 40) (.tmp 44) 22 33 (.agg #[(.int .i64 0), (.int .i64 0), (.int .i64 0)]) 24 rfl Try.underlying22 info33 rfl (by decide) (by omega) u5 x5_1 (⟨wrap64 (ji4 - 1), 0, 0⟩ : S33) [.int .i64 (wrap64 (ji4 - 1)), .int .i64 0, .int .i64 0] (fun _ => True) (fun _ => False) rfl rfl ?aP (fun _ hk => hk.elim) ?aF ?aO ?aB ?aS ?aL ?_; (case aP => exact k33_mkM _ _ _ (⟨wrap64 (ji4 - 1), 0, 0⟩ : S33)); (case aB => exact (by repeat (first | (with_reducible first | exact HB.out | apply below_alloc | apply pw_below_drewN | apply below_drew1) | exact HB.out))); (case aF => exact (fun _ _ => trivial)); (case aO => exact (by (with_reducible repeat (first | apply Kd.R_alloc | apply Kd.R_drewN | apply Kd.R_drew)); exact HO_5.out)); (case aS => exact (below_size (by repeat (first | (with_reducible first | exact HB.out | apply below_alloc | apply pw_below_drewN | apply below_drew1) | exact HB.out)))); (case aL => have := LMc17.out; omega); intro v410 w18 ho hb hg hat; rw [← Ny409.out] at ho; have n0_ := Aside0.mk (Kd.R_over' (by (with_reducible repeat (first | apply Kd.R_alloc | apply Kd.R_drewN | apply Kd.R_drew)); exact HO_6.out) (Kd.R_typed (by (with_reducible repeat (first | apply Kd.R_alloc | apply Kd.R_drewN | apply Kd.R_drew)); exact HO_5.out)) (by decide) hg); have n1_ := Aside0.mk (hb); have n2_ := Aside0.mk (ho); clear HO_6; clear HB; clear HO_5; have HO_6 := n0_; have HB := n1_; have HO411 := n2_; clear n0_ n1_ n2_; clear ho hb hg hat))
    go_meet
    case rel => exact ⟨_, (y409), H', ⟨by have := HK1.out; first | omega | exact Nat.le_refl _⟩, ⟨by (with_reducible repeat (first | apply Kd.R_alloc | apply Kd.R_drewN | apply Kd.R_drew)); exact HO411.out⟩, ⟨by (with_reducible repeat (first | apply Kd.R_alloc | apply Kd.R_drewN | apply Kd.R_drew)); exact HO_6.out⟩, ⟨by repeat (first | (with_reducible first | exact HB.out | apply below_alloc | apply pw_below_drewN | apply below_drew1) | exact HB.out)⟩⟩
   case rest =>
    clear HC15
    try clear c1
    try clear p2
    try clear c5
    try clear c5b0
    try clear c6
    try clear p6
    try clear c7
    try clear c8
    try clear c8b0
    try clear c9
    try clear c16
    try clear c17
    try clear p2
    obtain ⟨kq, x5_14, HA, HJ14, HO_5, HO_6, HB⟩ := hcut
    cases kq with
    | zero => exact absurd HA.out (by simp [orrerylaw21_OrderRings.j1])
    | succ kj14 =>
     have H := HA.out
     clear HA
     simp only [orrerylaw21_OrderRings.j1] at H
     replace H := Option.bind_eq_some_iff.mp H
     obtain ⟨⟨t412, t413⟩, A190, H⟩ := H
     replace H : (if t413 = 0 then (if a1 = true then (if (t412.length : Int) = 1 then (if 0 < (t412.length : Int) then (some ((((rd_T30 t412 0).f0).length : Int) == ji4)) else (none)) else (some false)) else (orrerylaw21_OrderRings.l1 kj14 ji4 t412 t412 (t412.length : Int) 0)) else (some false)) = some r := H
     have A19 := Aside0.mk A190
     clear A190
     by_cases c20 : t413 = 0
     case neg =>
      rw [if_neg c20] at H
      have c20b0 : (t413 == 0) = false := beq_eq_false_iff_ne.mpr c20
      have c20b1 : (t413 != 0) = true := bne_iff_ne.mpr c20
      obtain rfl := Option.some.inj H
      obtain ⟨Ao48, co48, eo48⟩ := Kd.R_slice HO_5.out
      subst eo48
      obtain ⟨Ao49, co49, eo49⟩ := Kd.R_slice HO_6.out
      subst eo49
      go_wp2_with (first | ((with_reducible refine gate_callee (f := 9) rfl ?_); refine goesL_ (some 50) rfl rfl Try.func9 (by kernel_rfl) rfl #[.int .i64 ji4, .slice Ao48 x5_14.length co48, .slice Ao49 x6_1.length co49] rfl (by (try simp only [List.map_toArray, List.map_cons, List.map_nil]); first | done | (simp only [hji4]; rfl) | rfl | (simp only [List.length_drop, List.length_take]; rfl)) ?_; (with_reducible refine (order_Blocks.calls kj14 ji4 _ _ x5_14 _ _ x6_1 t412 t413 _ ?side1 ?side2 ?side3 ?side4 A19.out).mono ?_); (case side1 => repeat (first | exact (Kd.R_reads' HO_5.out).2.2 | (with_reducible refine Kd.C_alloc ?_ _) | (with_reducible refine Kd.C_drewN ?_ _) | (with_reducible refine Kd.C_drew ?_))); (case side2 => exact (Kd.R_reads' HO_5.out).2.1); (case side3 => repeat (first | exact (Kd.R_reads' HO_6.out).2.2 | (with_reducible refine Kd.C_alloc ?_ _) | (with_reducible refine Kd.C_drewN ?_ _) | (with_reducible refine Kd.C_drew ?_))); (case side4 => exact (Kd.R_reads' HO_6.out).2.1); rintro e w50 ⟨v414, rfl, ho0, hb⟩; refine ⟨_, rfl, ?_⟩; have n0_ := Aside0.mk (Kd.R_below (by (with_reducible repeat (first | apply Kd.R_alloc | apply Kd.R_drewN | apply Kd.R_drew)); exact HO_5.out) hb); have n1_ := Aside0.mk (Kd.R_below (by (with_reducible repeat (first | apply Kd.R_alloc | apply Kd.R_drewN | apply Kd.R_drew)); exact HO_6.out) hb); have n2_ := Aside0.mk (Kd.S_lower (Kd.S_new' ho0 (Kd.R_lt (by (with_reducible repeat (first | apply Kd.R_alloc | apply Kd.R_drewN | apply Kd.R_drew)); exact HO_6.out))) (below_size (by repeat (first | (with_reducible first | exact HB.out | apply below_alloc | apply pw_below_drewN | apply below_drew1) | exact HB.out)))); have n3_ := Aside0.mk (below_step (by repeat (first | (with_reducible first | exact HB.out | apply below_alloc | apply pw_below_drewN | apply below_drew1) | exact HB.out)) hb); clear HO_5; clear HO_6; clear HB; have HO_5 := n0_; have HO_6 := n1_; have HO415 := n2_; have HB := n3_; clear n0_ n1_ n2_ n3_; (try clear hb); (try clear hb2); (try clear hk); (try clear hi); (try clear ho0)))
      go_ret
      exact ⟨by first | rfl | (simp [errW_none, errW_some] <;> rfl) | (simp only [← hji3, ← hji4]; first | rfl | (simp [errW_none, errW_some] <;> rfl)) | (simp [*, errW_none, errW_some] <;> rfl), by repeat (first | (with_reducible first | exact HB.out | apply below_alloc | apply pw_below_drewN | apply below_drew1) | exact HB.out)⟩
     rw [if_pos c20] at H
     have c20b0 : (t413 == 0) = true := beq_iff_eq.mpr c20
     have c20b1 : (t413 != 0) = false := bne_eq_false_iff_eq.mpr c20
     clear c20
     by_cases c21 : a1 = true
     case pos =>
      subst c21
      have H1 : (if (t412.length : Int) = 1 then (if 0 < (t412.length : Int) then (some ((((rd_T30 t412 0).f0).length : Int) == ji4)) else (none)) else (some false)) = some r := by rw [if_pos rfl] at H; exact H
      clear H
      have H := H1
      clear H1
      by_cases c22 : (t412.length : Int) = 1
      case neg =>
       rw [if_neg c22] at H
       have c22b0 : ((t412.length : Int) == 1) = false := beq_eq_false_iff_ne.mpr c22
       have c22b1 : ((t412.length : Int) != 1) = true := bne_iff_ne.mpr c22
       obtain rfl := Option.some.inj H
       obtain ⟨Ao28, co28, eo28⟩ := Kd.R_slice HO_5.out
       subst eo28
       obtain ⟨Ao29, co29, eo29⟩ := Kd.R_slice HO_6.out
       subst eo29
       go_wp2_with (first | ((with_reducible refine gate_callee (f := 9) rfl ?_); refine goesL_ (some 50) rfl rfl Try.func9 (by kernel_rfl) rfl #[.int .i64 ji4, .slice Ao28 x5_14.length co28, .slice Ao29 x6_1.length co29] rfl (by (try simp only [List.map_toArray, List.map_cons, List.map_nil]); first | done | (simp only [hji4]; rfl) | rfl | (simp only [List.length_drop, List.length_take]; rfl)) ?_; (with_reducible refine (order_Blocks.calls kj14 ji4 _ _ x5_14 _ _ x6_1 t412 t413 _ ?side1 ?side2 ?side3 ?side4 A19.out).mono ?_); (case side1 => repeat (first | exact (Kd.R_reads' HO_5.out).2.2 | (with_reducible refine Kd.C_alloc ?_ _) | (with_reducible refine Kd.C_drewN ?_ _) | (with_reducible refine Kd.C_drew ?_))); (case side2 => exact (Kd.R_reads' HO_5.out).2.1); (case side3 => repeat (first | exact (Kd.R_reads' HO_6.out).2.2 | (with_reducible refine Kd.C_alloc ?_ _) | (with_reducible refine Kd.C_drewN ?_ _) | (with_reducible refine Kd.C_drew ?_))); (case side4 => exact (Kd.R_reads' HO_6.out).2.1); rintro e w30 ⟨v414, rfl, ho0, hb⟩; refine ⟨_, rfl, ?_⟩; have n0_ := Aside0.mk (Kd.R_below (by (with_reducible repeat (first | apply Kd.R_alloc | apply Kd.R_drewN | apply Kd.R_drew)); exact HO_5.out) hb); have n1_ := Aside0.mk (Kd.R_below (by (with_reducible repeat (first | apply Kd.R_alloc | apply Kd.R_drewN | apply Kd.R_drew)); exact HO_6.out) hb); have n2_ := Aside0.mk (Kd.S_lower (Kd.S_new' ho0 (Kd.R_lt (by (with_reducible repeat (first | apply Kd.R_alloc | apply Kd.R_drewN | apply Kd.R_drew)); exact HO_6.out))) (below_size (by repeat (first | (with_reducible first | exact HB.out | apply below_alloc | apply pw_below_drewN | apply below_drew1) | exact HB.out)))); have n3_ := Aside0.mk (below_step (by repeat (first | (with_reducible first | exact HB.out | apply below_alloc | apply pw_below_drewN | apply below_drew1) | exact HB.out)) hb); clear HO_5; clear HO_6; clear HB; have HO_5 := n0_; have HO_6 := n1_; have HO415 := n2_; have HB := n3_; clear n0_ n1_ n2_ n3_; (try clear hb); (try clear hb2); (try clear hk); (try clear hi); (try clear ho0); obtain ⟨Ao31, co31, eo31⟩ := Kd.S_slice HO415.out; subst eo31))
       go_ret
       exact ⟨by first | rfl | (simp [errW_none, errW_some] <;> rfl) | (simp only [← hji3, ← hji4]; first | rfl | (simp [errW_none, errW_some] <;> rfl)) | (simp [*, errW_none, errW_some] <;> rfl), by repeat (first | (with_reducible first | exact HB.out | apply below_alloc | apply pw_below_drewN | apply below_drew1) | exact HB.out)⟩
      rw [if_pos c22] at H
      have c22b0 : ((t412.length : Int) == 1) = true := beq_iff_eq.mpr c22
      have c22b1 : ((t412.length : Int) != 1) = false := bne_eq_false_iff_eq.mpr c22
      clear c22
      by_cases c23 : 0 < (t412.length : Int)
      case neg => rw [if_neg c23] at H; exact absurd H (by simp)
      rw [if_pos c23] at H
      have c23b0 : decide (0 < (t412.length : Int)) = true := decide_eq_true c23
      have c23b1 : decide (0 < t412.length) = true := decide_eq_true (by omega)
      clear c23
      obtain rfl := Option.some.inj H
      obtain ⟨Ao24, co24, eo24⟩ := Kd.R_slice HO_5.out
      subst eo24
      obtain ⟨Ao25, co25, eo25⟩ := Kd.R_slice HO_6.out
      subst eo25
      go_wp2_with (first | ((with_reducible refine gate_callee (f := 9) rfl ?_); refine goesL_ (some 50) rfl rfl Try.func9 (by kernel_rfl) rfl #[.int .i64 ji4, .slice Ao24 x5_14.length co24, .slice Ao25 x6_1.length co25] rfl (by (try simp only [List.map_toArray, List.map_cons, List.map_nil]); first | done | (simp only [hji4]; rfl) | rfl | (simp only [List.length_drop, List.length_take]; rfl)) ?_; (with_reducible refine (order_Blocks.calls kj14 ji4 _ _ x5_14 _ _ x6_1 t412 t413 _ ?side1 ?side2 ?side3 ?side4 A19.out).mono ?_); (case side1 => repeat (first | exact (Kd.R_reads' HO_5.out).2.2 | (with_reducible refine Kd.C_alloc ?_ _) | (with_reducible refine Kd.C_drewN ?_ _) | (with_reducible refine Kd.C_drew ?_))); (case side2 => exact (Kd.R_reads' HO_5.out).2.1); (case side3 => repeat (first | exact (Kd.R_reads' HO_6.out).2.2 | (with_reducible refine Kd.C_alloc ?_ _) | (with_reducible refine Kd.C_drewN ?_ _) | (with_reducible refine Kd.C_drew ?_))); (case side4 => exact (Kd.R_reads' HO_6.out).2.1); rintro e w26 ⟨v414, rfl, ho0, hb⟩; refine ⟨_, rfl, ?_⟩; have n0_ := Aside0.mk (Kd.R_below (by (with_reducible repeat (first | apply Kd.R_alloc | apply Kd.R_drewN | apply Kd.R_drew)); exact HO_5.out) hb); have n1_ := Aside0.mk (Kd.R_below (by (with_reducible repeat (first | apply Kd.R_alloc | apply Kd.R_drewN | apply Kd.R_drew)); exact HO_6.out) hb); have n2_ := Aside0.mk (Kd.S_lower (Kd.S_new' ho0 (Kd.R_lt (by (with_reducible repeat (first | apply Kd.R_alloc | apply Kd.R_drewN | apply Kd.R_drew)); exact HO_6.out))) (below_size (by repeat (first | (with_reducible first | exact HB.out | apply below_alloc | apply pw_below_drewN | apply below_drew1) | exact HB.out)))); have n3_ := Aside0.mk (below_step (by repeat (first | (with_reducible first | exact HB.out | apply below_alloc | apply pw_below_drewN | apply below_drew1) | exact HB.out)) hb); clear HO_5; clear HO_6; clear HB; have HO_5 := n0_; have HO_6 := n1_; have HO415 := n2_; have HB := n3_; clear n0_ n1_ n2_ n3_; (try clear hb); (try clear hb2); (try clear hk); (try clear hi); (try clear ho0); obtain ⟨Ao27, co27, eo27⟩ := Kd.S_slice HO415.out; subst eo27; have p416 : 0 ≤ (0 : Int) := (by omega); have q416 : 0 < (t412.length : Int) := of_decide_eq_true (by first | (with_reducible assumption) | assumption); obtain ⟨ad416, A416_0, c416_0, A416_1, c416_1, e416, hx416_0, hx416_1, hl416_0, hi416_0, hl416_1, hi416_1⟩ := at_T30 (Kd.S_reads' HO415.out).2.2 0 p416 q416; cases e416; obtain ⟨ce416, hce416, hMe416, hcc416⟩ := Kd.S_get HO415.out z30 0 p416 (by first | exact q416 | exact of_decide_eq_true (by first | (with_reducible assumption) | assumption) | (have e_ := (Kd.S_reads' HO415.out).1; omega)); obtain ⟨ve416_0, ve416_1, rfl, ge416_0, ge416_1⟩ := k30_openM hMe416; have hv416_0 := hcc416 0 _ rfl; rw [Nat.add_zero] at hv416_0; replace hv416_0 := Option.some.inj (hv416_0.symm.trans hx416_0); rw [hv416_0] at ge416_0; have HL416_0 := Aside0.mk (show Kd.R (Kd.int .i64) 3 _ _ _ _ ((rd_T30 t412 0).f0) from ge416_0); clear hv416_0 ge416_0; have hv416_1 := hcc416 1 _ rfl; rw [add_field _ _ 1 (by omega)] at hv416_1; replace hv416_1 := Option.some.inj (hv416_1.symm.trans hx416_1); rw [hv416_1] at ge416_1; have HL416_1 := Aside0.mk (show Kd.R (Kd.int .i64) 3 _ _ _ _ ((rd_T30 t412 0).f1) from ge416_1); clear hv416_1 ge416_1; have RF416_0_HO_6 := Aside0.mk (Kd.R_farB HL416_0.out (fun k_ hk => hk.1.2)); have RF416_1_HO_6 := Aside0.mk (Kd.R_farB HL416_1.out (fun k_ hk => hk.1.2)); clear hcc416 hce416; have qi416 : (0 < t412.length) = True := eq_true (by omega); (try rw [show ((0 : Int)).toNat = 0 from rfl] at hx416_0); (try rw [show 0 * 2 = 0 from rfl] at hx416_0); (try rw [Addr.add_zero'] at hx416_0); (try rw [show ((0 : Int)).toNat = 0 from rfl] at hx416_1); (try rw [show 0 * 2 = 0 from rfl] at hx416_1); (try rw [Addr.add_zero'] at hx416_1); have HR416_0 := Aside0.mk hi416_0; have HC416_0 := Aside0.mk hl416_0; clear hi416_0 hl416_0; have HR416_1 := Aside0.mk hi416_1; have HC416_1 := Aside0.mk hl416_1; clear hi416_1 hl416_1; replace p416 := eq_true p416; replace q416 := eq_true q416))
      go_ret
      exact ⟨by first | rfl | (simp [errW_none, errW_some] <;> rfl) | (simp only [← hji3, ← hji4]; first | rfl | (simp [errW_none, errW_some] <;> rfl)) | (simp [*, errW_none, errW_some] <;> rfl), by repeat (first | (with_reducible first | exact HB.out | apply below_alloc | apply pw_below_drewN | apply below_drew1) | exact HB.out)⟩
     replace c21 := Bool.eq_false_iff.mpr c21
     subst c21
     have H1 : (orrerylaw21_OrderRings.l1 kj14 ji4 t412 t412 (t412.length : Int) 0) = some r := by rw [if_neg (show ¬ (false = true) by decide)] at H; exact H
     clear H
     have H := H1
     clear H1
     have H' := Aside0.mk H
     clear H
     obtain ⟨Ao32, co32, eo32⟩ := Kd.R_slice HO_5.out
     subst eo32
     obtain ⟨Ao33, co33, eo33⟩ := Kd.R_slice HO_6.out
     subst eo33
     go_wp2_with (first | ((with_reducible refine gate_callee (f := 9) rfl ?_); refine goesL_ (some 50) rfl rfl Try.func9 (by kernel_rfl) rfl #[.int .i64 ji4, .slice Ao32 x5_14.length co32, .slice Ao33 x6_1.length co33] rfl (by (try simp only [List.map_toArray, List.map_cons, List.map_nil]); first | done | (simp only [hji4]; rfl) | rfl | (simp only [List.length_drop, List.length_take]; rfl)) ?_; (with_reducible refine (order_Blocks.calls kj14 ji4 _ _ x5_14 _ _ x6_1 t412 t413 _ ?side1 ?side2 ?side3 ?side4 A19.out).mono ?_); (case side1 => repeat (first | exact (Kd.R_reads' HO_5.out).2.2 | (with_reducible refine Kd.C_alloc ?_ _) | (with_reducible refine Kd.C_drewN ?_ _) | (with_reducible refine Kd.C_drew ?_))); (case side2 => exact (Kd.R_reads' HO_5.out).2.1); (case side3 => repeat (first | exact (Kd.R_reads' HO_6.out).2.2 | (with_reducible refine Kd.C_alloc ?_ _) | (with_reducible refine Kd.C_drewN ?_ _) | (with_reducible refine Kd.C_drew ?_))); (case side4 => exact (Kd.R_reads' HO_6.out).2.1); rintro e w34 ⟨v414, rfl, ho0, hb⟩; refine ⟨_, rfl, ?_⟩; have n0_ := Aside0.mk (Kd.R_below (by (with_reducible repeat (first | apply Kd.R_alloc | apply Kd.R_drewN | apply Kd.R_drew)); exact HO_5.out) hb); have n1_ := Aside0.mk (Kd.R_below (by (with_reducible repeat (first | apply Kd.R_alloc | apply Kd.R_drewN | apply Kd.R_drew)); exact HO_6.out) hb); have n2_ := Aside0.mk (Kd.S_lower (Kd.S_new' ho0 (Kd.R_lt (by (with_reducible repeat (first | apply Kd.R_alloc | apply Kd.R_drewN | apply Kd.R_drew)); exact HO_6.out))) (below_size (by repeat (first | (with_reducible first | exact HB.out | apply below_alloc | apply pw_below_drewN | apply below_drew1) | exact HB.out)))); have n3_ := Aside0.mk (below_step (by repeat (first | (with_reducible first | exact HB.out | apply below_alloc | apply pw_below_drewN | apply below_drew1) | exact HB.out)) hb); clear HO_5; clear HO_6; clear HB; have HO_5 := n0_; have HO_6 := n1_; have HO415 := n2_; have HB := n3_; clear n0_ n1_ n2_ n3_; (try clear hb); (try clear hb2); (try clear hk); (try clear hi); (try clear ho0); obtain ⟨Ao35, co35, eo35⟩ := Kd.S_slice HO415.out; subst eo35))
     go_loopg [70] kj14 (fun kq v70 w' => ∃ (x70_3 : Int), v70 = .int .i64 x70_3 ∧ Aside0 (orrerylaw21_OrderRings.l1 kq ji4 t412 t412 (t412.length : Int) x70_3 = some r) ∧ Aside0 (kq ≤ kj14) ∧ Aside0 (Kd.S k30 30 w' w.heap.size (fun _ => True) (.slice Ao35 t412.length co35) t412) ∧ Aside0 (Kd.S k30 30 w' w.heap.size (fun _ => True) (.slice Ao35 t412.length co35) t412) ∧ Aside0 (Below w.heap.size w w'))
     case atStart => exact ⟨(0), (by first | rfl | (simp; done) | (simp [*]; done)), H', ⟨Nat.le_refl _⟩, ⟨by (with_reducible repeat (first | apply Kd.S_alloc | apply Kd.S_drewN | apply Kd.S_drew)); exact Kd.S_mono HO415.out (fun _ hk => trivial)⟩, ⟨by (with_reducible repeat (first | apply Kd.S_alloc | apply Kd.S_drewN | apply Kd.S_drew)); exact Kd.S_mono HO415.out (fun _ hk => trivial)⟩, ⟨by repeat (first | (with_reducible first | exact HB.out | apply below_alloc | apply pw_below_drewN | apply below_drew1) | exact HB.out)⟩⟩
     case round =>
      clear H'
      try clear c1
      try clear c2
      try clear p2
      try clear c4
      try clear p4
      try clear q4
      try clear hx4
      try clear qi4
      try clear c5
      try clear c5b0
      try clear c6
      try clear p6
      try clear c7
      try clear c8
      try clear c8b0
      try clear c9
      try clear c16
      try clear c17
      try clear c20
      try clear c20b0
      try clear c20b1
      try clear c21
      try clear c22
      try clear c22b0
      try clear c22b1
      try clear c23
      try clear c23b0
      try clear c23b1
      try clear hx416_0
      try clear hx416_1
      try clear p2
      try clear p416
      try clear p6
      try clear q416
      obtain ⟨x70_3, rfl, HA, HK3, HO_8, HO_68, HB⟩ := hrel
      cases gk with
      | zero => exact absurd HA.out (by simp [orrerylaw21_OrderRings.l1])
      | succ k3 =>
       have H := HA.out
       clear HA
       simp only [orrerylaw21_OrderRings.l1] at H
       by_cases c36 : x70_3 < (t412.length : Int)
       case neg =>
        rw [if_neg c36] at H
        have c36b0 : decide (x70_3 < (t412.length : Int)) = false := decide_eq_false c36
        clear c36
        obtain rfl := Option.some.inj H
        go_wp2
        go_ret
        exact ⟨by first | rfl | (simp [errW_none, errW_some] <;> rfl) | (simp only [← hji3, ← hji4]; first | rfl | (simp [errW_none, errW_some] <;> rfl)) | (simp [*, errW_none, errW_some] <;> rfl), by repeat (first | (with_reducible first | exact HB.out | apply below_alloc | apply pw_below_drewN | apply below_drew1) | exact HB.out)⟩
       rw [if_pos c36] at H
       have c36b0 : decide (x70_3 < (t412.length : Int)) = true := decide_eq_true c36
       clear c36
       by_cases c37 : 0 ≤ x70_3
       case neg => rw [if_neg c37] at H; exact absurd H (by simp)
       rw [if_pos c37] at H
       have c37b0 : decide (0 ≤ x70_3) = true := decide_eq_true c37
       clear c37
       by_cases c38 : x70_3 < (t412.length : Int)
       case neg => rw [if_neg c38] at H; exact absurd H (by simp)
       rw [if_pos c38] at H
       have c38b0 : decide (x70_3 < (t412.length : Int)) = true := decide_eq_true c38
       clear c38
       by_cases c39 : (((rd_T30 t412 x70_3).f0).length : Int) = 1
       case neg =>
        rw [if_neg c39] at H
        have c39b0 : ((((rd_T30 t412 x70_3).f0).length : Int) == 1) = false := beq_eq_false_iff_ne.mpr c39
        have c39b1 : ((((rd_T30 t412 x70_3).f0).length : Int) != 1) = true := bne_iff_ne.mpr c39
        obtain rfl := Option.some.inj H
        have p417 : 0 ≤ (x70_3 : Int) := of_decide_eq_true (by first | (with_reducible assumption) | assumption)
        have q417 : x70_3 < (t412.length : Int) := of_decide_eq_true (by first | (with_reducible assumption) | assumption)
        obtain ⟨ad417, A417_0, c417_0, A417_1, c417_1, e417, hx417_0, hx417_1, hl417_0, hi417_0, hl417_1, hi417_1⟩ := at_T30 (Kd.S_reads' HO_68.out).2.2 x70_3 p417 q417
        cases e417
        obtain ⟨ce417, hce417, hMe417, hcc417⟩ := Kd.S_get HO_68.out z30 x70_3 p417 (by first | exact q417 | exact of_decide_eq_true (by first | (with_reducible assumption) | assumption) | (have e_ := (Kd.S_reads' HO_68.out).1; omega))
        obtain ⟨ve417_0, ve417_1, rfl, ge417_0, ge417_1⟩ := k30_openM hMe417
        have hv417_0 := hcc417 0 _ rfl
        rw [Nat.add_zero] at hv417_0
        replace hv417_0 := Option.some.inj (hv417_0.symm.trans hx417_0)
        rw [hv417_0] at ge417_0
        have HL417_0 := Aside0.mk (show Kd.R (Kd.int .i64) 3 _ _ _ _ ((rd_T30 t412 x70_3).f0) from ge417_0)
        clear hv417_0 ge417_0
        have hv417_1 := hcc417 1 _ rfl
        rw [add_field _ _ 1 (by omega)] at hv417_1
        replace hv417_1 := Option.some.inj (hv417_1.symm.trans hx417_1)
        rw [hv417_1] at ge417_1
        have HL417_1 := Aside0.mk (show Kd.R (Kd.int .i64) 3 _ _ _ _ ((rd_T30 t412 x70_3).f1) from ge417_1)
        clear hv417_1 ge417_1
        clear hcc417 hce417
        have HR417_0 := Aside0.mk hi417_0
        have HC417_0 := Aside0.mk hl417_0
        clear hi417_0 hl417_0
        have HR417_1 := Aside0.mk hi417_1
        have HC417_1 := Aside0.mk hl417_1
        clear hi417_1 hl417_1
        replace p417 := eq_true p417
        replace q417 := eq_true q417
        go_wp2_with (first | ((with_reducible refine gate_dst (N := 11) rfl ?_); (try (refine gate_guard (by rfl) ?_; dsimp only)); refine box_event ?hg (N := 11) ?hd (cs := #[.slice none 0 0, .slice none 0 0]) (t := 30) ?hr ?_; (case hd => rfl); (case hg => rfl); (case hr => first | (go_simp; done) | (go_simp; rfl)); intro gb418 hg w46 hbox hb; have n0_ := Aside0.mk (Kd.S_below (Kd.S_elderB (by (with_reducible repeat (first | apply Kd.S_alloc | apply Kd.S_drewN | apply Kd.S_drew)); exact HO_8.out) gb418 (Nat.le_of_eq hg.symm)) hb); have n1_ := Aside0.mk (Kd.S_below (Kd.S_elderB (by (with_reducible repeat (first | apply Kd.S_alloc | apply Kd.S_drewN | apply Kd.S_drew)); exact HO_68.out) gb418 (Nat.le_of_eq hg.symm)) hb); have n2_ := Aside0.mk (Kd.R_below (by (with_reducible repeat (first | apply Kd.R_alloc | apply Kd.R_drewN | apply Kd.R_drew)); exact HL417_0.out) hb); have n3_ := Aside0.mk (Kd.R_below (by (with_reducible repeat (first | apply Kd.R_alloc | apply Kd.R_drewN | apply Kd.R_drew)); exact HL417_1.out) hb); have n4_ := Aside0.mk (Kd.C_below (by repeat (first | (with_reducible exact HR417_0.out) | (with_reducible refine Kd.C_alloc ?_ _) | (with_reducible refine Kd.C_drewN ?_ _) | (with_reducible refine Kd.C_drew ?_) | exact HR417_0.out)) hb); have n5_ := Aside0.mk (Kd.C_below (by repeat (first | (with_reducible exact HR417_1.out) | (with_reducible refine Kd.C_alloc ?_ _) | (with_reducible refine Kd.C_drewN ?_ _) | (with_reducible refine Kd.C_drew ?_) | exact HR417_1.out)) hb); have n6_ := Aside0.mk ((Kd.C_aboveB (by repeat (first | (with_reducible exact HR417_0.out) | (with_reducible refine Kd.C_alloc ?_ _) | (with_reducible refine Kd.C_drewN ?_ _) | (with_reducible refine Kd.C_drew ?_) | exact HR417_0.out)) (by decide) (Nat.le_of_eq hg.symm))); have n7_ := Aside0.mk ((Kd.C_aboveB (by repeat (first | (with_reducible exact HR417_1.out) | (with_reducible refine Kd.C_alloc ?_ _) | (with_reducible refine Kd.C_drewN ?_ _) | (with_reducible refine Kd.C_drew ?_) | exact HR417_1.out)) (by decide) (Nat.le_of_eq hg.symm))); have n8_ := Aside0.mk (below_step (by repeat (first | (with_reducible first | exact HB.out | apply below_alloc | apply pw_below_drewN | apply below_drew1) | exact HB.out)) hb); have n9_ := Aside0.mk (hbox); have n10_ := Aside0.mk ((by rw [hg]; exact (below_size (by repeat (first | (with_reducible first | exact HB.out | apply below_alloc | apply pw_below_drewN | apply below_drew1) | exact HB.out))) : w.heap.size ≤ gb418)); have n11_ := Aside0.mk ((by rw [hg]; exact (below_size (by repeat (first | (with_reducible first | exact HB.out | apply below_alloc | apply pw_below_drewN | apply below_drew1) | exact HB.out))) : w.heap.size ≤ gb418)); clear HO_8; clear HO_68; clear HL417_0; clear HL417_1; clear HR417_0; clear HR417_1; clear HB; have HO_8 := n0_; have HO_68 := n1_; have HL417_0 := n2_; have HL417_1 := n3_; have HR417_0 := n4_; have HR417_1 := n5_; have SF417_0_418 := n6_; have SF417_1_418 := n7_; have HB := n8_; have BK418 := n9_; have GW418 := n10_; have GE418 := n11_; clear n0_ n1_ n2_ n3_ n4_ n5_ n6_ n7_ n8_ n9_ n10_ n11_; clear hb hbox hg; have hcz47_0 : w46.cell? ⟨gb418, 0, none⟩ = some (.slice none 0 0) := (blk_cell BK418.out 0).trans rfl; have hcz47_1 : w46.cell? ⟨gb418, 1, none⟩ = some (.slice none 0 0) := (blk_cell BK418.out 1).trans rfl; have hfz47_0 := blk_frozen BK418.out 0; have hfz47_1 := blk_frozen BK418.out 1))
        go_ret
        exact ⟨by first | rfl | (simp [errW_none, errW_some] <;> rfl) | (simp only [← hji3, ← hji4]; first | rfl | (simp [errW_none, errW_some] <;> rfl)) | (simp [*, errW_none, errW_some] <;> rfl), by repeat (first | (with_reducible first | exact HB.out | apply below_alloc | apply pw_below_drewN | apply below_drew1 | refine below_set ?_ GE418.out) | exact HB.out)⟩
       rw [if_pos c39] at H
       have c39b0 : ((((rd_T30 t412 x70_3).f0).length : Int) == 1) = true := beq_iff_eq.mpr c39
       have c39b1 : ((((rd_T30 t412 x70_3).f0).length : Int) != 1) = false := bne_eq_false_iff_eq.mpr c39
       clear c39
       by_cases c40 : 0 < (((rd_T30 t412 x70_3).f0).length : Int)
       case neg => rw [if_neg c40] at H; exact absurd H (by simp)
       rw [if_pos c40] at H
       have c40b0 : decide (0 < (((rd_T30 t412 x70_3).f0).length : Int)) = true := decide_eq_true c40
       have c40b1 : decide (0 < ((rd_T30 t412 x70_3).f0).length) = true := decide_eq_true (by omega)
       clear c40
       by_cases c41 : (rd ((rd_T30 t412 x70_3).f0) 0) = (wrap64 ((wrap64 (ji4 - 1)) - x70_3))
       case neg =>
        rw [if_neg c41] at H
        have c41b0 : ((rd ((rd_T30 t412 x70_3).f0) 0) == (wrap64 ((wrap64 (ji4 - 1)) - x70_3))) = false := beq_eq_false_iff_ne.mpr c41
        have c41b1 : ((rd ((rd_T30 t412 x70_3).f0) 0) != (wrap64 ((wrap64 (ji4 - 1)) - x70_3))) = true := bne_iff_ne.mpr c41
        obtain rfl := Option.some.inj H
        have p417 : 0 ≤ (x70_3 : Int) := of_decide_eq_true (by first | (with_reducible assumption) | assumption)
        have q417 : x70_3 < (t412.length : Int) := of_decide_eq_true (by first | (with_reducible assumption) | assumption)
        obtain ⟨ad417, A417_0, c417_0, A417_1, c417_1, e417, hx417_0, hx417_1, hl417_0, hi417_0, hl417_1, hi417_1⟩ := at_T30 (Kd.S_reads' HO_68.out).2.2 x70_3 p417 q417
        cases e417
        obtain ⟨ce417, hce417, hMe417, hcc417⟩ := Kd.S_get HO_68.out z30 x70_3 p417 (by first | exact q417 | exact of_decide_eq_true (by first | (with_reducible assumption) | assumption) | (have e_ := (Kd.S_reads' HO_68.out).1; omega))
        obtain ⟨ve417_0, ve417_1, rfl, ge417_0, ge417_1⟩ := k30_openM hMe417
        have hv417_0 := hcc417 0 _ rfl
        rw [Nat.add_zero] at hv417_0
        replace hv417_0 := Option.some.inj (hv417_0.symm.trans hx417_0)
        rw [hv417_0] at ge417_0
        have HL417_0 := Aside0.mk (show Kd.R (Kd.int .i64) 3 _ _ _ _ ((rd_T30 t412 x70_3).f0) from ge417_0)
        clear hv417_0 ge417_0
        have hv417_1 := hcc417 1 _ rfl
        rw [add_field _ _ 1 (by omega)] at hv417_1
        replace hv417_1 := Option.some.inj (hv417_1.symm.trans hx417_1)
        rw [hv417_1] at ge417_1
        have HL417_1 := Aside0.mk (show Kd.R (Kd.int .i64) 3 _ _ _ _ ((rd_T30 t412 x70_3).f1) from ge417_1)
        clear hv417_1 ge417_1
        clear hcc417 hce417
        have HR417_0 := Aside0.mk hi417_0
        have HC417_0 := Aside0.mk hl417_0
        clear hi417_0 hl417_0
        have HR417_1 := Aside0.mk hi417_1
        have HC417_1 := Aside0.mk hl417_1
        clear hi417_1 hl417_1
        replace p417 := eq_true p417
        replace q417 := eq_true q417
        go_wp2_with (first | ((with_reducible refine gate_dst (N := 11) rfl ?_); (try (refine gate_guard (by rfl) ?_; dsimp only)); refine box_event ?hg (N := 11) ?hd (cs := #[.slice none 0 0, .slice none 0 0]) (t := 30) ?hr ?_; (case hd => rfl); (case hg => rfl); (case hr => first | (go_simp; done) | (go_simp; rfl)); intro gb418 hg w44 hbox hb; have n0_ := Aside0.mk (Kd.S_below (Kd.S_elderB (by (with_reducible repeat (first | apply Kd.S_alloc | apply Kd.S_drewN | apply Kd.S_drew)); exact HO_8.out) gb418 (Nat.le_of_eq hg.symm)) hb); have n1_ := Aside0.mk (Kd.S_below (Kd.S_elderB (by (with_reducible repeat (first | apply Kd.S_alloc | apply Kd.S_drewN | apply Kd.S_drew)); exact HO_68.out) gb418 (Nat.le_of_eq hg.symm)) hb); have n2_ := Aside0.mk (Kd.R_below (by (with_reducible repeat (first | apply Kd.R_alloc | apply Kd.R_drewN | apply Kd.R_drew)); exact HL417_0.out) hb); have n3_ := Aside0.mk (Kd.R_below (by (with_reducible repeat (first | apply Kd.R_alloc | apply Kd.R_drewN | apply Kd.R_drew)); exact HL417_1.out) hb); have n4_ := Aside0.mk (Kd.C_below (by repeat (first | (with_reducible exact HR417_0.out) | (with_reducible refine Kd.C_alloc ?_ _) | (with_reducible refine Kd.C_drewN ?_ _) | (with_reducible refine Kd.C_drew ?_) | exact HR417_0.out)) hb); have n5_ := Aside0.mk (Kd.C_below (by repeat (first | (with_reducible exact HR417_1.out) | (with_reducible refine Kd.C_alloc ?_ _) | (with_reducible refine Kd.C_drewN ?_ _) | (with_reducible refine Kd.C_drew ?_) | exact HR417_1.out)) hb); have n6_ := Aside0.mk ((Kd.C_aboveB (by repeat (first | (with_reducible exact HR417_0.out) | (with_reducible refine Kd.C_alloc ?_ _) | (with_reducible refine Kd.C_drewN ?_ _) | (with_reducible refine Kd.C_drew ?_) | exact HR417_0.out)) (by decide) (Nat.le_of_eq hg.symm))); have n7_ := Aside0.mk ((Kd.C_aboveB (by repeat (first | (with_reducible exact HR417_1.out) | (with_reducible refine Kd.C_alloc ?_ _) | (with_reducible refine Kd.C_drewN ?_ _) | (with_reducible refine Kd.C_drew ?_) | exact HR417_1.out)) (by decide) (Nat.le_of_eq hg.symm))); have n8_ := Aside0.mk (below_step (by repeat (first | (with_reducible first | exact HB.out | apply below_alloc | apply pw_below_drewN | apply below_drew1) | exact HB.out)) hb); have n9_ := Aside0.mk (hbox); have n10_ := Aside0.mk ((by rw [hg]; exact (below_size (by repeat (first | (with_reducible first | exact HB.out | apply below_alloc | apply pw_below_drewN | apply below_drew1) | exact HB.out))) : w.heap.size ≤ gb418)); have n11_ := Aside0.mk ((by rw [hg]; exact (below_size (by repeat (first | (with_reducible first | exact HB.out | apply below_alloc | apply pw_below_drewN | apply below_drew1) | exact HB.out))) : w.heap.size ≤ gb418)); clear HO_8; clear HO_68; clear HL417_0; clear HL417_1; clear HR417_0; clear HR417_1; clear HB; have HO_8 := n0_; have HO_68 := n1_; have HL417_0 := n2_; have HL417_1 := n3_; have HR417_0 := n4_; have HR417_1 := n5_; have SF417_0_418 := n6_; have SF417_1_418 := n7_; have HB := n8_; have BK418 := n9_; have GW418 := n10_; have GE418 := n11_; clear n0_ n1_ n2_ n3_ n4_ n5_ n6_ n7_ n8_ n9_ n10_ n11_; clear hb hbox hg; have hcz45_0 : w44.cell? ⟨gb418, 0, none⟩ = some (.slice none 0 0) := (blk_cell BK418.out 0).trans rfl; have hcz45_1 : w44.cell? ⟨gb418, 1, none⟩ = some (.slice none 0 0) := (blk_cell BK418.out 1).trans rfl; have hfz45_0 := blk_frozen BK418.out 0; have hfz45_1 := blk_frozen BK418.out 1; have p419 : 0 ≤ (0 : Int) := (by omega); have q419 : 0 < (((rd_T30 t412 x70_3).f0).length : Int) := of_decide_eq_true (by first | (with_reducible assumption) | assumption); obtain ⟨ad419, e419, hx419_0⟩ := Kd.at_int (Kd.R_reads' (Kd.R_far (p := ⟨gb418, 1, none⟩) (Kd.R_far (p := ⟨gb418, 0, none⟩) (Kd.R_types HL417_0.out BK418.out (by decide)) (fun _ hk => hk.2) (.slice A417_0 ((rd_T30 t412 x70_3).f0).length c417_0)) (fun _ hk => hk.2) (.slice A417_1 ((rd_T30 t412 x70_3).f1).length c417_1))).2.2 0 p419 q419; cases e419; have qi419 : (0 < ((rd_T30 t412 x70_3).f0).length) = True := eq_true (by omega); (try rw [show ((0 : Int)).toNat = 0 from rfl] at hx419_0); (try rw [Addr.add_zero'] at hx419_0); replace p419 := eq_true p419; replace q419 := eq_true q419))
        go_ret
        exact ⟨by first | rfl | (simp [errW_none, errW_some] <;> rfl) | (simp only [← hji3, ← hji4]; first | rfl | (simp [errW_none, errW_some] <;> rfl)) | (simp [*, errW_none, errW_some] <;> rfl), by repeat (first | (with_reducible first | exact HB.out | apply below_alloc | apply pw_below_drewN | apply below_drew1 | refine below_set ?_ GE418.out) | exact HB.out)⟩
       rw [if_pos c41] at H
       have c41b0 : ((rd ((rd_T30 t412 x70_3).f0) 0) == (wrap64 ((wrap64 (ji4 - 1)) - x70_3))) = true := beq_iff_eq.mpr c41
       have c41b1 : ((rd ((rd_T30 t412 x70_3).f0) 0) != (wrap64 ((wrap64 (ji4 - 1)) - x70_3))) = false := bne_eq_false_iff_eq.mpr c41
       clear c41
       have H' := Aside0.mk H
       clear H
       have p417 : 0 ≤ (x70_3 : Int) := of_decide_eq_true (by first | (with_reducible assumption) | assumption)
       have q417 : x70_3 < (t412.length : Int) := of_decide_eq_true (by first | (with_reducible assumption) | assumption)
       obtain ⟨ad417, A417_0, c417_0, A417_1, c417_1, e417, hx417_0, hx417_1, hl417_0, hi417_0, hl417_1, hi417_1⟩ := at_T30 (Kd.S_reads' HO_68.out).2.2 x70_3 p417 q417
       cases e417
       obtain ⟨ce417, hce417, hMe417, hcc417⟩ := Kd.S_get HO_68.out z30 x70_3 p417 (by first | exact q417 | exact of_decide_eq_true (by first | (with_reducible assumption) | assumption) | (have e_ := (Kd.S_reads' HO_68.out).1; omega))
       obtain ⟨ve417_0, ve417_1, rfl, ge417_0, ge417_1⟩ := k30_openM hMe417
       have hv417_0 := hcc417 0 _ rfl
       rw [Nat.add_zero] at hv417_0
       replace hv417_0 := Option.some.inj (hv417_0.symm.trans hx417_0)
       rw [hv417_0] at ge417_0
       have HL417_0 := Aside0.mk (show Kd.R (Kd.int .i64) 3 _ _ _ _ ((rd_T30 t412 x70_3).f0) from ge417_0)
       clear hv417_0 ge417_0
       have hv417_1 := hcc417 1 _ rfl
       rw [add_field _ _ 1 (by omega)] at hv417_1
       replace hv417_1 := Option.some.inj (hv417_1.symm.trans hx417_1)
       rw [hv417_1] at ge417_1
       have HL417_1 := Aside0.mk (show Kd.R (Kd.int .i64) 3 _ _ _ _ ((rd_T30 t412 x70_3).f1) from ge417_1)
       clear hv417_1 ge417_1
       clear hcc417 hce417
       have HR417_0 := Aside0.mk hi417_0
       have HC417_0 := Aside0.mk hl417_0
       clear hi417_0 hl417_0
       have HR417_1 := Aside0.mk hi417_1
       have HC417_1 := Aside0.mk hl417_1
       clear hi417_1 hl417_1
       replace p417 := eq_true p417
       replace q417 := eq_true q417
       go_wp2_with (first | ((with_reducible refine gate_dst (N := 11) rfl ?_); (try (refine gate_guard (by rfl) ?_; dsimp only)); refine box_event ?hg (N := 11) ?hd (cs := #[.slice none 0 0, .slice none 0 0]) (t := 30) ?hr ?_; (case hd => rfl); (case hg => rfl); (case hr => first | (go_simp; done) | (go_simp; rfl)); intro gb418 hg w42 hbox hb; have n0_ := Aside0.mk (Kd.S_below (Kd.S_elderB (by (with_reducible repeat (first | apply Kd.S_alloc | apply Kd.S_drewN | apply Kd.S_drew)); exact HO_8.out) gb418 (Nat.le_of_eq hg.symm)) hb); have n1_ := Aside0.mk (Kd.S_below (Kd.S_elderB (by (with_reducible repeat (first | apply Kd.S_alloc | apply Kd.S_drewN | apply Kd.S_drew)); exact HO_68.out) gb418 (Nat.le_of_eq hg.symm)) hb); have n2_ := Aside0.mk (Kd.R_below (by (with_reducible repeat (first | apply Kd.R_alloc | apply Kd.R_drewN | apply Kd.R_drew)); exact HL417_0.out) hb); have n3_ := Aside0.mk (Kd.R_below (by (with_reducible repeat (first | apply Kd.R_alloc | apply Kd.R_drewN | apply Kd.R_drew)); exact HL417_1.out) hb); have n4_ := Aside0.mk (Kd.C_below (by repeat (first | (with_reducible exact HR417_0.out) | (with_reducible refine Kd.C_alloc ?_ _) | (with_reducible refine Kd.C_drewN ?_ _) | (with_reducible refine Kd.C_drew ?_) | exact HR417_0.out)) hb); have n5_ := Aside0.mk (Kd.C_below (by repeat (first | (with_reducible exact HR417_1.out) | (with_reducible refine Kd.C_alloc ?_ _) | (with_reducible refine Kd.C_drewN ?_ _) | (with_reducible refine Kd.C_drew ?_) | exact HR417_1.out)) hb); have n6_ := Aside0.mk ((Kd.C_aboveB (by repeat (first | (with_reducible exact HR417_0.out) | (with_reducible refine Kd.C_alloc ?_ _) | (with_reducible refine Kd.C_drewN ?_ _) | (with_reducible refine Kd.C_drew ?_) | exact HR417_0.out)) (by decide) (Nat.le_of_eq hg.symm))); have n7_ := Aside0.mk ((Kd.C_aboveB (by repeat (first | (with_reducible exact HR417_1.out) | (with_reducible refine Kd.C_alloc ?_ _) | (with_reducible refine Kd.C_drewN ?_ _) | (with_reducible refine Kd.C_drew ?_) | exact HR417_1.out)) (by decide) (Nat.le_of_eq hg.symm))); have n8_ := Aside0.mk (below_step (by repeat (first | (with_reducible first | exact HB.out | apply below_alloc | apply pw_below_drewN | apply below_drew1) | exact HB.out)) hb); have n9_ := Aside0.mk (hbox); have n10_ := Aside0.mk ((by rw [hg]; exact (below_size (by repeat (first | (with_reducible first | exact HB.out | apply below_alloc | apply pw_below_drewN | apply below_drew1) | exact HB.out))) : w.heap.size ≤ gb418)); have n11_ := Aside0.mk ((by rw [hg]; exact (below_size (by repeat (first | (with_reducible first | exact HB.out | apply below_alloc | apply pw_below_drewN | apply below_drew1) | exact HB.out))) : w.heap.size ≤ gb418)); clear HO_8; clear HO_68; clear HL417_0; clear HL417_1; clear HR417_0; clear HR417_1; clear HB; have HO_8 := n0_; have HO_68 := n1_; have HL417_0 := n2_; have HL417_1 := n3_; have HR417_0 := n4_; have HR417_1 := n5_; have SF417_0_418 := n6_; have SF417_1_418 := n7_; have HB := n8_; have BK418 := n9_; have GW418 := n10_; have GE418 := n11_; clear n0_ n1_ n2_ n3_ n4_ n5_ n6_ n7_ n8_ n9_ n10_ n11_; clear hb hbox hg; have hcz43_0 : w42.cell? ⟨gb418, 0, none⟩ = some (.slice none 0 0) := (blk_cell BK418.out 0).trans rfl; have hcz43_1 : w42.cell? ⟨gb418, 1, none⟩ = some (.slice none 0 0) := (blk_cell BK418.out 1).trans rfl; have hfz43_0 := blk_frozen BK418.out 0; have hfz43_1 := blk_frozen BK418.out 1; have p419 : 0 ≤ (0 : Int) := (by omega); have q419 : 0 < (((rd_T30 t412 x70_3).f0).length : Int) := of_decide_eq_true (by first | (with_reducible assumption) | assumption); obtain ⟨ad419, e419, hx419_0⟩ := Kd.at_int (Kd.R_reads' (Kd.R_far (p := ⟨gb418, 1, none⟩) (Kd.R_far (p := ⟨gb418, 0, none⟩) (Kd.R_types HL417_0.out BK418.out (by decide)) (fun _ hk => hk.2) (.slice A417_0 ((rd_T30 t412 x70_3).f0).length c417_0)) (fun _ hk => hk.2) (.slice A417_1 ((rd_T30 t412 x70_3).f1).length c417_1))).2.2 0 p419 q419; cases e419; have qi419 : (0 < ((rd_T30 t412 x70_3).f0).length) = True := eq_true (by omega); (try rw [show ((0 : Int)).toNat = 0 from rfl] at hx419_0); (try rw [Addr.add_zero'] at hx419_0); replace p419 := eq_true p419; replace q419 := eq_true q419))
       (first | go_roundg k3 | (refine Handed.intro k3 ?measure ?_; rotate_left; go_step; (repeat apply Exists.intro); (refine ⟨?rel, ?fr_⟩); (case fr_ => (simp only [add_plain]; rfl))))
       case measure => have := HK1.out; have := HJ14.out; have := HK3.out; omega
       case rel => exact ⟨(wrap64 (x70_3 + 1)), (by first | rfl | (simp; done) | (simp [*]; done)), H', ⟨by have := HK1.out; have := HJ14.out; have := HK3.out; omega⟩, ⟨by (with_reducible repeat (first | apply Kd.S_alloc | apply Kd.S_drewN | apply Kd.S_drew)); exact Kd.S_mono (Kd.S_far (p := ⟨gb418, 1, none⟩) (Kd.S_far (p := ⟨gb418, 0, none⟩) (Kd.S_mono HO_8.out (fun k_ hk => (⟨hk, hk.2⟩ : _ ∧ k_ ≠ gb418))) (fun _ hk => hk.2) (.slice (some ad419) ((rd_T30 t412 x70_3).f0).length c417_0)) (fun _ hk => hk.2) (.slice A417_1 ((rd_T30 t412 x70_3).f1).length c417_1)) (fun _ hk => trivial)⟩, ⟨by (with_reducible repeat (first | apply Kd.S_alloc | apply Kd.S_drewN | apply Kd.S_drew)); exact Kd.S_mono (Kd.S_far (p := ⟨gb418, 1, none⟩) (Kd.S_far (p := ⟨gb418, 0, none⟩) (Kd.S_mono HO_68.out (fun k_ hk => (⟨hk, hk.2⟩ : _ ∧ k_ ≠ gb418))) (fun _ hk => hk.2) (.slice (some ad419) ((rd_T30 t412 x70_3).f0).length c417_0)) (fun _ hk => hk.2) (.slice A417_1 ((rd_T30 t412 x70_3).f1).length c417_1)) (fun _ hk => trivial)⟩, ⟨by repeat (first | (with_reducible first | exact HB.out | apply below_alloc | apply pw_below_drewN | apply below_drew1 | refine below_set ?_ GE418.out) | exact HB.out)⟩⟩

/-- THE ONE PURE STATEMENT of orrerylaw21_OrderRings: yours. -/
def orrerylaw21_OrderRings.Pure : Prop := ∀ (a0 : Int) (a1 : Bool), (Lit.int .i64 a0).wf = true → ∃ k, orrerylaw21_OrderRings.f k a0 a1 = some true
theorem orrerylaw21_OrderRings.walk (P : orrerylaw21_OrderRings.Pure) (a0 : Int) (a1 : Bool) (w : World) (w0 : (Lit.int .i64 a0).wf = true) :
    Calls Try.prog 5 #[.int .i64 a0, .bool a1] w fun e w' => e = .returned (.bool true) ∧ Below w.heap.size w w' := by
 obtain ⟨k, h⟩ := P a0 a1 w0
 refine (orrerylaw21_OrderRings.calls k a0 a1 true w h).mono ?_
 rintro e w' ⟨rfl, hd⟩
 exact ⟨rfl, hd⟩

end Go.Proofs.Ytlaneafplmbcnaa.PO
