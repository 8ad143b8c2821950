/- What the Go functions of this part compute, as Lean functions, and that the machine's calls come to just that; written for this claim by a program of the session (gen.sh, after the kit's printer). -/
import Derived.Test.YtlaneafplmbcnaaPOx0
import Derived.Test.YtlaneafplmbcnaaGiven
namespace Go.Proofs.Ytlaneafplmbcnaa.PO
open Go.RowKit Go.Proofs.YtlaneafplmbcnaaW.PrintWords Go.Proofs.YtlaneafplmbcnaaW.PrintLast Go.Proofs.YtlaneafplmbcnaaW.PrintMore
attribute [local go_sem] max2_int min2_int max_two min_two max_three min_three max_four min_four   -- for this text's walks alone
set_option linter.unusedVariables false
set_option linter.unusedSimpArgs false

/-! ### order_Blocks: function 9 -/
mutual
def order_Blocks.l0 : Nat → Int → List (S33) → List Int → List Int → List Int → Int → Int → Option ((List (S30)) × Int)
  | 0, _, _, _, _, _, _, _ => none
  | k + 1, x0, x1, x2, x8, x22, x23, x24 => if x24 < x23 then (if 0 ≤ x24 then (if x24 < (x22.length : Int) then (if 0 ≤ (rd x22 x24) then (if (rd x22 x24) < (x8.length : Int) then (order_Blocks.l0 k x0 x1 x2 (x8.set ((rd x22 x24) : Int).toNat x24) x22 x23 (wrap64 (x24 + 1))) else (none)) else (none)) else (none)) else (none)) else (if 0 ≤ x0 then (if (x0 : Int).toNat ≤ 11728124029610 then (order_Blocks.l1 k x2 x8 (List.replicate (x0 : Int).toNat []) x1 (x1.length : Int) 0) else (none)) else (none))
def order_Blocks.l1 : Nat → List Int → List Int → List (List Int) → List (S33) → Int → Int → Option ((List (S30)) × Int)
  | 0, _, _, _, _, _, _ => none
  | k + 1, x2, x8, x11, x36, x37, x38 => if x38 < x37 then (if 0 ≤ x38 then (if x38 < (x36.length : Int) then (if 0 ≤ ((rd_T33 x36 x38).f1) then (if ((rd_T33 x36 x38).f1) < (x8.length : Int) then (if (rd x8 ((rd_T33 x36 x38).f1)) = ((rd_T33 x36 x38).f0) then (order_Blocks.l1 k x2 x8 x11 x36 x37 (wrap64 (x38 + 1))) else (if 0 ≤ ((rd_T33 x36 x38).f0) then (if ((rd_T33 x36 x38).f0) < (x11.length : Int) then (if (rd_L3 x11 ((rd_T33 x36 x38).f0)).length < 17592186044416 then (order_Blocks.l1 k x2 x8 (x11.set (((rd_T33 x36 x38).f0) : Int).toNat ((rd_L3 x11 ((rd_T33 x36 x38).f0)) ++ [rd x8 ((rd_T33 x36 x38).f1)])) x36 x37 (wrap64 (x38 + 1))) else (none)) else (none)) else (none))) else (none)) else (none)) else (none)) else (none)) else ((order_together.f x11).bind fun t238 => ((order_ordered.f x2 x11 t238).bind fun t241 => (some (t241, 0))))
end
def order_Blocks.f (k : Nat) (a0 : Int) (l1 : List (S33)) (l2 : List Int) : Option ((List (S30)) × Int) := (order_right.f a0 l1 l2).bind fun t221 => (if t221 = true then (if 0 ≤ a0 then (if (a0 : Int).toNat ≤ 35184372088832 then (order_Blocks.l0 k a0 l1 l2 (List.replicate (a0 : Int).toNat 0) l2 (l2.length : Int) 0) else (none)) else (none)) else (some (([] : List (S30)), 170)))
theorem order_Blocks.mono_l : ∀ k, (∀ y0 y1 y2 y3 y4 y5 y6, LeO (order_Blocks.l0 k y0 y1 y2 y3 y4 y5 y6) (order_Blocks.l0 (k + 1) y0 y1 y2 y3 y4 y5 y6)) ∧ (∀ y0 y1 y2 y3 y4 y5, LeO (order_Blocks.l1 k y0 y1 y2 y3 y4 y5) (order_Blocks.l1 (k + 1) y0 y1 y2 y3 y4 y5))
  | 0 => ⟨fun _ _ _ _ _ _ _ r h => by simp [order_Blocks.l0] at h, fun _ _ _ _ _ _ r h => by simp [order_Blocks.l1] at h⟩
  | k + 1 => by
    obtain ⟨ih0, ih1⟩ := order_Blocks.mono_l k
    refine ⟨?_, ?_⟩
    · intro y0 y1 y2 y3 y4 y5 y6
      unfold order_Blocks.l0
      repeat' first
      | (with_reducible exact ih0 _ _ _ _ _ _ _)
      | (with_reducible exact ih1 _ _ _ _ _ _)
      | (with_reducible exact LeO.refl _)
      | (with_reducible exact LeO.none _)
      | (with_reducible refine LeO.ite ?_ ?_)
      | (with_reducible refine LeO.bind ?_ (fun _ => ?_))
      | exact ih0 _ _ _ _ _ _ _
      | exact ih1 _ _ _ _ _ _
      | exact LeO.none _
      | refine LeO.ite ?_ ?_
      | refine LeO.bind ?_ (fun _ => ?_)
    · intro y0 y1 y2 y3 y4 y5
      unfold order_Blocks.l1
      repeat' first
      | (with_reducible exact ih0 _ _ _ _ _ _ _)
      | (with_reducible exact ih1 _ _ _ _ _ _)
      | (with_reducible exact LeO.refl _)
      | (with_reducible exact LeO.none _)
      | (with_reducible refine LeO.ite ?_ ?_)
      | (with_reducible refine LeO.bind ?_ (fun _ => ?_))
      | exact ih0 _ _ _ _ _ _ _
      | exact ih1 _ _ _ _ _ _
      | exact LeO.none _
      | refine LeO.ite ?_ ?_
      | refine LeO.bind ?_ (fun _ => ?_)
theorem order_Blocks.mono : ∀ a0 a1 a2 k, LeO (order_Blocks.f k a0 a1 a2) (order_Blocks.f (k + 1) a0 a1 a2) := by
  intro a0 a1 a2 k
  obtain ⟨ih0, ih1⟩ := order_Blocks.mono_l k
  unfold order_Blocks.f
  repeat' first
      | (with_reducible exact ih0 _ _ _ _ _ _ _)
      | (with_reducible exact ih1 _ _ _ _ _ _)
      | (with_reducible exact LeO.refl _)
      | (with_reducible exact LeO.none _)
      | (with_reducible refine LeO.ite ?_ ?_)
      | (with_reducible refine LeO.bind ?_ (fun _ => ?_))
      | exact ih0 _ _ _ _ _ _ _
      | exact ih1 _ _ _ _ _ _
      | exact LeO.none _
      | refine LeO.ite ?_ ?_
      | refine LeO.bind ?_ (fun _ => ?_)
def order_Blocks.T15 : Bool × List (List Nat × List Nat) := (true, [([], []), ([], []), ([1], [1]), ([], []), ([], []), ([4], [4]), ([3, 5], [3, 5]), ([6], [6]), ([], []), ([8], [8]), ([7, 9], [7, 9]), ([0, 2, 0, 1, 2, 3, 4, 5, 6, 7, 8, 9, 10], [0, 2]), ([11, 10, 10, 0, 1, 2, 3, 4, 5, 6, 7, 8, 9, 10], [10, 11])])
def order_Blocks.B15 : List Nat := [0, 0, 2, 0, 0, 16, 56, 120, 0, 256, 1016, 2047, 4095]
theorem order_Blocks.tab15 : rtab .any (opsOf Try.f9 15) = order_Blocks.T15 := by kernel_rfl
theorem order_Blocks.bits15 : waitsOk order_Blocks.T15.2 order_Blocks.B15 = true := by kernel_rfl
set_option maxHeartbeats 8000000 in
set_option maxRecDepth 100000 in
theorem order_Blocks.calls (k : Nat) (a0 : Int) (A1 : Option Addr) (c1 : Nat) (l1 : List (S33)) (A2 : Option Addr) (c2 : Nat) (l2 : List Int) (r1 : List (S30)) (r2 : Int) (w : World) (hr1 : Kd.C k33 w A1 l1.length l1) (hc1 : l1.length ≤ c1) (hr2 : Kd.C (Kd.int .i64) w A2 l2.length l2) (hc2 : l2.length ≤ c2) (h : order_Blocks.f k a0 l1 l2 = some (r1, r2)) :
    Calls Try.prog 9 #[.int .i64 a0, .slice A1 l1.length c1, .slice A2 l2.length c2] w fun e w' => ∃ v0_ : Value, e = .returned (.tuple #[v0_, .int .i64 r2]) ∧ Kd.S k30 30 w' w.heap.size (fun _ => True) v0_ r1 ∧ Below w.heap.size w w' := by
  have hu33 := Try.underlying33
  have HR1 := Aside0.mk hr1
  have HC1 := Aside0.mk hc1
  clear hr1 hc1
  have HR2 := Aside0.mk hr2
  have HC2 := Aside0.mk hc2
  clear hr2 hc2
  have HB := Aside0.mk (Below.refl w.heap.size w)
  have H : ((order_right.f a0 l1 l2).bind fun t221 => (if t221 = true then (if 0 ≤ a0 then (if (a0 : Int).toNat ≤ 35184372088832 then (order_Blocks.l0 k a0 l1 l2 (List.replicate (a0 : Int).toNat 0) l2 (l2.length : Int) 0) else (none)) else (none)) else (some (([] : List (S30)), 170)))) = some (r1, r2) := h
  clear h
  replace H := Option.bind_eq_some_iff.mp H
  obtain ⟨t221, A40, H⟩ := H
  replace H : (if t221 = true then (if 0 ≤ a0 then (if (a0 : Int).toNat ≤ 35184372088832 then (order_Blocks.l0 k a0 l1 l2 (List.replicate (a0 : Int).toNat 0) l2 (l2.length : Int) 0) else (none)) else (none)) else (some (([] : List (S30)), 170))) = some (r1, r2) := H
  have A4 := Aside0.mk A40
  clear A40
  by_cases c5 : t221 = true
  · subst c5
    have H1 : (if 0 ≤ a0 then (if (a0 : Int).toNat ≤ 35184372088832 then (order_Blocks.l0 k a0 l1 l2 (List.replicate (a0 : Int).toNat 0) l2 (l2.length : Int) 0) else (none)) else (none)) = some (r1, r2) := by rw [if_pos rfl] at H; exact H
    clear H
    have H := H1
    clear H1
    by_cases c6 : 0 ≤ a0
    · rw [if_pos c6] at H
      have c6b0 := eq_true c6
      have c6b1 : decide (0 ≤ a0) = true := decide_eq_true c6
      clear c6
      by_cases c7 : (a0 : Int).toNat ≤ 35184372088832
      · rw [if_pos c7] at H
        have c7b0 := eq_true c7
        have c7b1 : decide ((a0 : Int).toNat ≤ 35184372088832) = true := decide_eq_true c7
        clear c7
        obtain ⟨y222, hy222⟩ : ∃ y_ : List Int, y_ = (List.replicate (a0 : Int).toNat 0) := ⟨_, rfl⟩
        replace H : (order_Blocks.l0 k a0 l1 l2 y222 l2 (l2.length : Int) 0) = some (r1, r2) := by first | (rw [hy222]; with_reducible exact H) | (have H2_ := (Option.bind_some _ _).symm.trans H; rw [hy222]; with_reducible exact H2_) | (have H2_ := (Option.bind_some _ _).symm.trans H; with_reducible exact H2_) | with_reducible exact H | (rw [hy222]; exact H) | exact H
        have Ny222 := Aside0.mk hy222
        clear hy222
        have H' := Aside0.mk H
        clear H
        go_enter Try.func9, Try.ntmps9
        go_wp2_with (first | ((with_reducible refine gate_callee (f := 16) rfl ?_); refine goesL_ (some 18) rfl rfl Try.func16 (by kernel_rfl) rfl #[.int .i64 a0, .slice A1 l1.length c1, .slice A2 l2.length c2] rfl (by (try simp only [List.map_toArray, List.map_cons, List.map_nil]); first | done | rfl | (simp only [List.length_drop, List.length_take]; rfl)) ?_; (with_reducible refine (order_right.calls a0 _ _ l1 _ _ l2 true _ ?side1 ?side2 ?side3 ?side4 A4.out).mono ?_); (case side1 => repeat (first | exact HR1.out | (with_reducible refine Kd.C_alloc ?_ _) | (with_reducible refine Kd.C_drewN ?_ _) | (with_reducible refine Kd.C_drew ?_))); (case side2 => exact HC1.out); (case side3 => repeat (first | exact HR2.out | (with_reducible refine Kd.C_alloc ?_ _) | (with_reducible refine Kd.C_drewN ?_ _) | (with_reducible refine Kd.C_drew ?_))); (case side4 => exact HC2.out); rintro e w8 ⟨rfl, hb⟩; refine ⟨_, rfl, ?_⟩; have n0_ := Aside0.mk (below_step (by repeat (first | (with_reducible first | exact HB.out | apply below_alloc | apply pw_below_drewN | apply below_drew1) | exact HB.out)) hb); clear HB; have HB := n0_; clear n0_; (try clear hb); (try clear hb2); (try clear hk); (try clear hi)) | ((with_reducible refine gate_dst (N := 21) rfl ?_); refine Kd.R_make (Kd.int .i64) _ 3 rfl (N := 21) rfl 23 _ _ rfl a0 rfl rfl Try.underlying23 (.int .i64 0) 8 info3 rfl (by decide) (by omega) 0 (ok := fun _ => True) (okp := fun _ => True) rfl (fun _ hk => hk) trivial (of_decide_eq_true (by first | (with_reducible assumption) | assumption)) (Nat.le_trans (Nat.mul_le_mul_right _ (of_decide_eq_true (by first | (with_reducible assumption) | assumption) : a0.toNat ≤ 35184372088832)) (by omega)) (Below.refl _ _) (Nat.le_refl _) ?_; intro v223 w9 ho10 hb hg_ hnew_; clear hg_ hnew_; (first | rw [← Ny222.out] at ho10 | (simp only [Int.reduceToNat] at ho10; rw [← Ny222.out] at ho10)); have n0_ := Aside0.mk (Kd.R_lower ho10 (below_size (by repeat (first | (with_reducible first | exact HB.out | apply below_alloc | apply pw_below_drewN | apply below_drew1) | exact HB.out)))); have n1_ := Aside0.mk (below_step (by repeat (first | (with_reducible first | exact HB.out | apply below_alloc | apply pw_below_drewN | apply below_drew1) | exact HB.out)) hb); clear HB; have HO224 := n0_; have HB := n1_; clear n0_ n1_; clear hb ho10))
        go_loopg [24] k (fun kq v24 w' => ∃ (x8_1 : List Int) (x24_1 : Int), v24 = .int .i64 x24_1 ∧ Aside0 (order_Blocks.l0 kq a0 l1 l2 x8_1 l2 (l2.length : Int) x24_1 = some (r1, r2)) ∧ Aside0 (kq ≤ k) ∧ Aside0 (Kd.R (Kd.int .i64) 3 w' w.heap.size (fun _ => True) v223 x8_1) ∧ Aside0 (Below w.heap.size w w'))
        case atStart => exact ⟨(y222), (0), (by first | rfl | (simp; done) | (simp [*]; done)), H', ⟨Nat.le_refl _⟩, ⟨by (with_reducible repeat (first | apply Kd.R_alloc | apply Kd.R_drewN | apply Kd.R_drew)); exact HO224.out⟩, ⟨by repeat (first | (with_reducible first | exact HB.out | apply below_alloc | apply pw_below_drewN | apply below_drew1) | exact HB.out)⟩⟩
        case round =>
          clear H'
          try clear c1
          try clear c2
          try clear p2
          try clear c5
          try clear c6
          try clear c6b0
          try clear c6b1
          try clear c7
          try clear c7b0
          try clear c7b1
          try clear c9
          obtain ⟨x8_1, x24_1, rfl, HA, HK1, HO_8, HB⟩ := hrel
          cases gk with
          | zero => exact absurd HA.out (by simp [order_Blocks.l0])
          | succ k1 =>
            have H := HA.out
            clear HA
            simp only [order_Blocks.l0] at H
            by_cases c11 : x24_1 < (l2.length : Int)
            · rw [if_pos c11] at H
              have c11b0 : decide (x24_1 < (l2.length : Int)) = true := decide_eq_true c11
              clear c11
              by_cases c12 : 0 ≤ x24_1
              · rw [if_pos c12] at H
                have c12b0 : decide (0 ≤ x24_1) = true := decide_eq_true c12
                clear c12
                by_cases c13 : x24_1 < (l2.length : Int)
                · rw [if_pos c13] at H
                  have c13b0 : decide (x24_1 < (l2.length : Int)) = true := decide_eq_true c13
                  clear c13
                  by_cases c14 : 0 ≤ (rd l2 x24_1)
                  · rw [if_pos c14] at H
                    have c14b0 : decide (0 ≤ (rd l2 x24_1)) = true := decide_eq_true c14
                    clear c14
                    by_cases c15 : (rd l2 x24_1) < (x8_1.length : Int)
                    · rw [if_pos c15] at H
                      have c15b0 : decide ((rd l2 x24_1) < (x8_1.length : Int)) = true := decide_eq_true c15
                      clear c15
                      obtain ⟨y226, hy226⟩ : ∃ y_ : List Int, y_ = (x8_1.set ((rd l2 x24_1) : Int).toNat x24_1) := ⟨_, rfl⟩
                      replace H : (order_Blocks.l0 k1 a0 l1 l2 y226 l2 (l2.length : Int) (wrap64 (x24_1 + 1))) = some (r1, r2) := by first | (rw [hy226]; with_reducible exact H) | (have H2_ := (Option.bind_some _ _).symm.trans H; rw [hy226]; with_reducible exact H2_) | (have H2_ := (Option.bind_some _ _).symm.trans H; with_reducible exact H2_) | with_reducible exact H | (rw [hy226]; exact H) | exact H
                      have Ny226 := Aside0.mk hy226
                      clear hy226
                      have H' := Aside0.mk H
                      clear H
                      have p225 : 0 ≤ (x24_1 : Int) := of_decide_eq_true (by first | (with_reducible assumption) | assumption)
                      have q225 : x24_1 < (l2.length : Int) := of_decide_eq_true (by first | (with_reducible assumption) | assumption)
                      obtain ⟨ad225, e225, hx225_0⟩ := Kd.at_int HR2.out x24_1 p225 q225
                      cases e225
                      replace hx225_0 := (HB.out.cell (World.block_lt_of_cell? w _ hx225_0)).trans hx225_0
                      replace p225 := eq_true p225
                      replace q225 := eq_true q225
                      have p16 : 0 ≤ ((rd l2 x24_1) : Int) := of_decide_eq_true (by first | (with_reducible assumption) | assumption)
                      have q16 : ((rd l2 x24_1) : Int) < ((x8_1.length : Int) : Int) := of_decide_eq_true (by first | (with_reducible assumption) | assumption)
                      obtain ⟨go16, co16, eo16, gb16, gl16, cl16, HG16⟩ := Kd.R_form HO_8.out (by omega)
                      (first | cases eo16 | (injection eo16 with ea_ en_ ec_; (first | subst ea_ | (injection ea_ with ea_; subst ea_)); subst ec_; clear en_))
                      have GB16 := Aside0.mk gb16
                      have GG16 := Aside0.mk HG16
                      clear gb16 gl16 HG16
                      obtain ⟨hx16_0, hf16_0⟩ := Kd.R_celln 0 HO_8.out ((rd l2 x24_1) : Int) p16 q16
                      replace p16 := eq_true p16
                      replace q16 := eq_true q16
                      have HP17 := Kd.R_putg HO_8.out ((rd l2 x24_1) : Int) x24_1
                      go_wp2_with (first | ((with_reducible refine gate_store (t := 3) (p := 32) rfl ?_); refine store_event (t := 3) (p := 32) (v := ?vo_w18) (w1 := (wr.setCell ⟨go16, ((rd l2 x24_1) : Int).toNat, none⟩ (.int .i64 x24_1))) ?hg ?ho ?hn ?hr ?_; (case ho => rfl); (case hg => rfl); (case hn => rfl); (case hr => first | (go_simp; done) | (go_simp; rfl)); intro w18 hw; have hg : wr.grownBy w18 (some go16) := (by rw [hw]; exact HP17.2); have hp_ : Kd.R (Kd.int .i64) 3 w18 w.heap.size (fun _ => True) (.slice (some ⟨go16, 0, none⟩) x8_1.length co16) y226 := (by rw [hw, Ny226.out]; exact HP17.1); clear HP17; have n0_ := Aside0.mk (hp_); have n1_ := Aside0.mk ((by rw [hw]; exact below_set (HB.out) GB16.out : Below w.heap.size w w18)); clear HO_8; clear HB; have HO_8 := n0_; have HB := n1_; clear n0_ n1_; clear hg hw hp_))
                      (first | go_roundg k1 | (refine Handed.intro k1 ?measure ?_; rotate_left; go_step; (repeat apply Exists.intro); (refine ⟨?rel, ?fr_⟩); (case fr_ => (simp only [add_plain]; rfl))))
                      case measure => have := HK1.out; omega
                      case rel => exact ⟨(y226), (wrap64 (x24_1 + 1)), (by first | rfl | (simp; done) | (simp [*]; done)), H', ⟨by have := HK1.out; omega⟩, ⟨by (with_reducible repeat (first | apply Kd.R_alloc | apply Kd.R_drewN | apply Kd.R_drew)); exact HO_8.out⟩, ⟨by repeat (first | (with_reducible first | exact HB.out | apply below_alloc | apply pw_below_drewN | apply below_drew1) | exact HB.out)⟩⟩
                    · rw [if_neg c15] at H
                      exact absurd H (by simp)
                  · rw [if_neg c14] at H
                    exact absurd H (by simp)
                · rw [if_neg c13] at H
                  exact absurd H (by simp)
              · rw [if_neg c12] at H
                exact absurd H (by simp)
            · rw [if_neg c11] at H
              have c11b0 : decide (x24_1 < (l2.length : Int)) = false := decide_eq_false c11
              clear c11
              by_cases c19 : 0 ≤ a0
              · rw [if_pos c19] at H
                have c19b0 := eq_true c19
                have c19b1 : decide (0 ≤ a0) = true := decide_eq_true c19
                clear c19
                by_cases c20 : (a0 : Int).toNat ≤ 11728124029610
                · rw [if_pos c20] at H
                  have c20b0 := eq_true c20
                  have c20b1 : decide ((a0 : Int).toNat ≤ 11728124029610) = true := decide_eq_true c20
                  clear c20
                  obtain ⟨y227, hy227⟩ : ∃ y_ : List (List Int), y_ = (List.replicate (a0 : Int).toNat []) := ⟨_, rfl⟩
                  replace H : (order_Blocks.l1 k1 l2 x8_1 y227 l1 (l1.length : Int) 0) = some (r1, r2) := by first | (rw [hy227]; with_reducible exact H) | (have H2_ := (Option.bind_some _ _).symm.trans H; rw [hy227]; with_reducible exact H2_) | (have H2_ := (Option.bind_some _ _).symm.trans H; with_reducible exact H2_) | with_reducible exact H | (rw [hy227]; exact H) | exact H
                  have Ny227 := Aside0.mk hy227
                  clear hy227
                  have H' := Aside0.mk H
                  clear H
                  go_wp2_with (first | ((with_reducible refine gate_dst (N := 35) rfl ?_); refine Kd.S_make (Kd.slice 3 (Kd.int .i64)) _ 23 rfl (N := 35) rfl 37 _ _ rfl a0 rfl rfl Try.underlying37 (.slice none 0 0) 24 info23 rfl (by decide) (by omega) [] (ok := fun _ => True) (okp := fun _ => True) ⟨_, rfl, Kd.R_nil _ _ _ _ _⟩ (fun _ hk => hk) trivial (of_decide_eq_true (by first | (with_reducible assumption) | assumption)) (Nat.le_trans (Nat.mul_le_mul_right _ (of_decide_eq_true (by first | (with_reducible assumption) | assumption) : a0.toNat ≤ 11728124029610)) (by omega)) (Below.refl _ _) (Nat.le_refl _) ?_; intro v228 w21 ho22 hb hg_ hnew_; clear hg_ hnew_; (first | rw [← Ny227.out] at ho22 | (simp only [Int.reduceToNat] at ho22; rw [← Ny227.out] at ho22)); have n0_ := Aside0.mk (Kd.R_below (by (with_reducible repeat (first | apply Kd.R_alloc | apply Kd.R_drewN | apply Kd.R_drew)); exact HO_8.out) hb); have n1_ := Aside0.mk (Kd.S_lower (Kd.S_new' ho22 (Kd.R_lt (by (with_reducible repeat (first | apply Kd.R_alloc | apply Kd.R_drewN | apply Kd.R_drew)); exact HO_8.out))) (below_size (by repeat (first | (with_reducible first | exact HB.out | apply below_alloc | apply pw_below_drewN | apply below_drew1) | exact HB.out)))); have n2_ := Aside0.mk (below_step (by repeat (first | (with_reducible first | exact HB.out | apply below_alloc | apply pw_below_drewN | apply below_drew1) | exact HB.out)) hb); clear HO_8; clear HB; have HO_8 := n0_; have HO229 := n1_; have HB := n2_; clear n0_ n1_ n2_; clear hb ho22))
                  go_loopg [38] k1 (fun kq v38 w' => ∃ (x11_2 : List (List Int)) (x38_2 : Int), v38 = .int .i64 x38_2 ∧ Aside0 (order_Blocks.l1 kq l2 x8_1 x11_2 l1 (l1.length : Int) x38_2 = some (r1, r2)) ∧ Aside0 (kq ≤ k1) ∧ Aside0 (Kd.R (Kd.int .i64) 3 w' w.heap.size (fun _ => True) v223 x8_1) ∧ Aside0 (Kd.S (Kd.slice 3 (Kd.int .i64)) 23 w' w.heap.size (fun k_ => some k_ ≠ (v223 : Value).ownBlock) v228 x11_2) ∧ Aside0 (Below w.heap.size w w'))
                  case atStart => exact ⟨(y227), (0), (by first | rfl | (simp; done) | (simp [*]; done)), H', ⟨Nat.le_refl _⟩, ⟨by (with_reducible repeat (first | apply Kd.R_alloc | apply Kd.R_drewN | apply Kd.R_drew)); exact HO_8.out⟩, ⟨by (with_reducible repeat (first | apply Kd.S_alloc | apply Kd.S_drewN | apply Kd.S_drew)); exact Kd.S_mono HO229.out (fun _ hk => hk.2)⟩, ⟨by repeat (first | (with_reducible first | exact HB.out | apply below_alloc | apply pw_below_drewN | apply below_drew1) | exact HB.out)⟩⟩
                  case round =>
                    clear H'
                    try clear c1
                    try clear p1
                    try clear q1
                    try clear hx1
                    try clear c2
                    try clear p2
                    try clear q2
                    try clear hx2
                    try clear c5
                    try clear c6
                    try clear c6b0
                    try clear c6b1
                    try clear p6
                    try clear c7
                    try clear c7b0
                    try clear c7b1
                    try clear c9
                    try clear c11
                    try clear c11b0
                    try clear c12
                    try clear c12b0
                    try clear c13
                    try clear c13b0
                    try clear c14
                    try clear c14b0
                    try clear c15
                    try clear c15b0
                    try clear c16
                    try clear p16
                    try clear q16
                    try clear hx16
                    try clear hf16
                    try clear c19
                    try clear c19b0
                    try clear c19b1
                    try clear c20
                    try clear c20b0
                    try clear c20b1
                    try clear p22
                    try clear q22
                    try clear hx22
                    try clear hx16_0
                    try clear hx225_0
                    try clear p16
                    try clear p2
                    try clear p225
                    try clear q16
                    try clear q225
                    obtain ⟨x11_2, x38_2, rfl, HA, HK2, HO_8, HO_11, HB⟩ := hrel
                    cases gk with
                    | zero => exact absurd HA.out (by simp [order_Blocks.l1])
                    | succ k2 =>
                      have H := HA.out
                      clear HA
                      simp only [order_Blocks.l1] at H
                      by_cases c23 : x38_2 < (l1.length : Int)
                      · rw [if_pos c23] at H
                        have c23b0 : decide (x38_2 < (l1.length : Int)) = true := decide_eq_true c23
                        clear c23
                        by_cases c24 : 0 ≤ x38_2
                        · rw [if_pos c24] at H
                          have c24b0 : decide (0 ≤ x38_2) = true := decide_eq_true c24
                          clear c24
                          by_cases c25 : x38_2 < (l1.length : Int)
                          · rw [if_pos c25] at H
                            have c25b0 : decide (x38_2 < (l1.length : Int)) = true := decide_eq_true c25
                            clear c25
                            by_cases c26 : 0 ≤ ((rd_T33 l1 x38_2).f1)
                            · rw [if_pos c26] at H
                              have c26b0 : decide (0 ≤ ((rd_T33 l1 x38_2).f1)) = true := decide_eq_true c26
                              clear c26
                              by_cases c27 : ((rd_T33 l1 x38_2).f1) < (x8_1.length : Int)
                              · rw [if_pos c27] at H
                                have c27b0 : decide (((rd_T33 l1 x38_2).f1) < (x8_1.length : Int)) = true := decide_eq_true c27
                                clear c27
                                by_cases c28 : (rd x8_1 ((rd_T33 l1 x38_2).f1)) = ((rd_T33 l1 x38_2).f0)
                                · rw [if_pos c28] at H
                                  have c28b0 : ((rd x8_1 ((rd_T33 l1 x38_2).f1)) == ((rd_T33 l1 x38_2).f0)) = true := beq_iff_eq.mpr c28
                                  have c28b1 : ((rd x8_1 ((rd_T33 l1 x38_2).f1)) != ((rd_T33 l1 x38_2).f0)) = false := bne_eq_false_iff_eq.mpr c28
                                  clear c28
                                  have H' := Aside0.mk H
                                  clear H
                                  have p230 : 0 ≤ (x38_2 : Int) := of_decide_eq_true (by first | (with_reducible assumption) | assumption)
                                  have q230 : x38_2 < (l1.length : Int) := of_decide_eq_true (by first | (with_reducible assumption) | assumption)
                                  obtain ⟨ad230, e230, hx230_0, hx230_1, hx230_2⟩ := at_T33 HR1.out x38_2 p230 q230
                                  cases e230
                                  replace hx230_0 := (HB.out.cell (World.block_lt_of_cell? w _ hx230_0)).trans hx230_0
                                  replace hx230_1 := (HB.out.cell (World.block_lt_of_cell? w _ hx230_1)).trans hx230_1
                                  replace hx230_2 := (HB.out.cell (World.block_lt_of_cell? w _ hx230_2)).trans hx230_2
                                  replace p230 := eq_true p230
                                  replace q230 := eq_true q230
                                  go_wp2_with (first | ((with_reducible refine gate_dst (N := 13) rfl ?_); refine box_event ?hg (N := 13) ?hd (cs := #[.int .i64 0, .int .i64 0, .int .i64 0]) (t := 33) ?hr ?_; (case hd => rfl); (case hg => rfl); (case hr => first | (go_simp; done) | (go_simp; rfl)); intro gb231 hg w29 hbox hb; have n0_ := Aside0.mk (Kd.R_below (by (with_reducible repeat (first | apply Kd.R_alloc | apply Kd.R_drewN | apply Kd.R_drew)); exact HO_8.out) hb); have n1_ := Aside0.mk (Kd.S_below (by (with_reducible repeat (first | apply Kd.S_alloc | apply Kd.S_drewN | apply Kd.S_drew)); exact HO_11.out) hb); have n2_ := Aside0.mk (below_step (by repeat (first | (with_reducible first | exact HB.out | apply below_alloc | apply pw_below_drewN | apply below_drew1) | exact HB.out)) hb); have n3_ := Aside0.mk (hbox); have n4_ := Aside0.mk ((by rw [hg]; exact (below_size (by repeat (first | (with_reducible first | exact HB.out | apply below_alloc | apply pw_below_drewN | apply below_drew1) | exact HB.out))) : w.heap.size ≤ gb231)); have n5_ := Aside0.mk ((by rw [hg]; exact (below_size (by repeat (first | (with_reducible first | exact HB.out | apply below_alloc | apply pw_below_drewN | apply below_drew1) | exact HB.out))) : w.heap.size ≤ gb231)); clear HO_8; clear HO_11; clear HB; have HO_8 := n0_; have HO_11 := n1_; have HB := n2_; have BK231 := n3_; have GW231 := n4_; have GE231 := n5_; clear n0_ n1_ n2_ n3_ n4_ n5_; clear hb hbox hg; have hcz30_0 : w29.cell? ⟨gb231, 0, none⟩ = some (.int .i64 0) := (blk_cell BK231.out 0).trans rfl; have hcz30_1 : w29.cell? ⟨gb231, 1, none⟩ = some (.int .i64 0) := (blk_cell BK231.out 1).trans rfl; have hcz30_2 : w29.cell? ⟨gb231, 2, none⟩ = some (.int .i64 0) := (blk_cell BK231.out 2).trans rfl; have hfz30_0 := blk_frozen BK231.out 0; have hfz30_1 := blk_frozen BK231.out 1; have hfz30_2 := blk_frozen BK231.out 2; obtain ⟨Ao31, co31, eo31⟩ := Kd.R_slice HO_8.out; subst eo31; have p232 : 0 ≤ (((rd_T33 l1 x38_2).f1) : Int) := of_decide_eq_true (by first | (with_reducible assumption) | assumption); have q232 : ((rd_T33 l1 x38_2).f1) < (x8_1.length : Int) := of_decide_eq_true (by first | (with_reducible assumption) | assumption); obtain ⟨ad232, e232, hx232_0⟩ := Kd.at_int (Kd.R_reads' HO_8.out).2.2 ((rd_T33 l1 x38_2).f1) p232 q232; cases e232; have hn232_0 : ad232.block ≠ gb231 := Kd.own_blk (Kd.R_ne HO_8.out BK231.out (by decide)); have hn232_1 : ad232.block ≠ gb231 := Kd.own_blk (Kd.R_ne HO_8.out BK231.out (by decide)); have hn232_2 : ad232.block ≠ gb231 := Kd.own_blk (Kd.R_ne HO_8.out BK231.out (by decide)); replace hx232_0 := (cell_far (p := ⟨gb231, 0, none⟩) (by first | (rw [add_block]; exact hn232_0) | (show (Addr.add _ _).block ≠ _; rw [add_block]; exact hn232_0) | exact hn232_0) (.int .i64 ((rd_T33 l1 x38_2).f0))).trans hx232_0; replace hx232_0 := (cell_far (p := ⟨gb231, 1, none⟩) (by first | (rw [add_block]; exact hn232_1) | (show (Addr.add _ _).block ≠ _; rw [add_block]; exact hn232_1) | exact hn232_1) (.int .i64 ((rd_T33 l1 x38_2).f1))).trans hx232_0; replace hx232_0 := (cell_far (p := ⟨gb231, 2, none⟩) (by first | (rw [add_block]; exact hn232_2) | (show (Addr.add _ _).block ≠ _; rw [add_block]; exact hn232_2) | exact hn232_2) (.int .i64 ((rd_T33 l1 x38_2).f2))).trans hx232_0; clear hn232_0; clear hn232_1; clear hn232_2; replace p232 := eq_true p232; replace q232 := eq_true q232))
                                  (first | go_roundg k2 | (refine Handed.intro k2 ?measure ?_; rotate_left; go_step; (repeat apply Exists.intro); (refine ⟨?rel, ?fr_⟩); (case fr_ => (simp only [add_plain]; rfl))))
                                  case measure => have := HK1.out; have := HK2.out; omega
                                  case rel => exact ⟨(x11_2), (wrap64 (x38_2 + 1)), (by first | rfl | (simp; done) | (simp [*]; done)), H', ⟨by have := HK1.out; have := HK2.out; omega⟩, ⟨by (with_reducible repeat (first | apply Kd.R_alloc | apply Kd.R_drewN | apply Kd.R_drew)); exact Kd.R_mono (Kd.R_far (p := ⟨gb231, 2, none⟩) (Kd.R_far (p := ⟨gb231, 1, none⟩) (Kd.R_far (p := ⟨gb231, 0, none⟩) (Kd.R_types HO_8.out BK231.out (by decide)) (fun _ hk => hk.2) (.int .i64 ((rd_T33 l1 x38_2).f0))) (fun _ hk => hk.2) (.int .i64 ((rd_T33 l1 x38_2).f1))) (fun _ hk => hk.2) (.int .i64 ((rd_T33 l1 x38_2).f2))) (fun _ hk => trivial)⟩, ⟨by (with_reducible repeat (first | apply Kd.S_alloc | apply Kd.S_drewN | apply Kd.S_drew)); exact Kd.S_mono (Kd.S_far (p := ⟨gb231, 2, none⟩) (Kd.S_far (p := ⟨gb231, 1, none⟩) (Kd.S_far (p := ⟨gb231, 0, none⟩) (Kd.S_types HO_11.out BK231.out (by decide)) (fun _ hk => hk.2) (.int .i64 ((rd_T33 l1 x38_2).f0))) (fun _ hk => hk.2) (.int .i64 ((rd_T33 l1 x38_2).f1))) (fun _ hk => hk.2) (.int .i64 ((rd_T33 l1 x38_2).f2))) (fun _ hk => hk.1)⟩, ⟨by repeat (first | (with_reducible first | exact HB.out | apply below_alloc | apply pw_below_drewN | apply below_drew1 | refine below_set ?_ GE231.out) | exact HB.out)⟩⟩
                                · rw [if_neg c28] at H
                                  have c28b0 : ((rd x8_1 ((rd_T33 l1 x38_2).f1)) == ((rd_T33 l1 x38_2).f0)) = false := beq_eq_false_iff_ne.mpr c28
                                  have c28b1 : ((rd x8_1 ((rd_T33 l1 x38_2).f1)) != ((rd_T33 l1 x38_2).f0)) = true := bne_iff_ne.mpr c28
                                  by_cases c32 : 0 ≤ ((rd_T33 l1 x38_2).f0)
                                  · rw [if_pos c32] at H
                                    have c32b0 : decide (0 ≤ ((rd_T33 l1 x38_2).f0)) = true := decide_eq_true c32
                                    clear c32
                                    by_cases c33 : ((rd_T33 l1 x38_2).f0) < (x11_2.length : Int)
                                    · rw [if_pos c33] at H
                                      have c33b0 : decide (((rd_T33 l1 x38_2).f0) < (x11_2.length : Int)) = true := decide_eq_true c33
                                      clear c33
                                      by_cases c34 : (rd_L3 x11_2 ((rd_T33 l1 x38_2).f0)).length < 17592186044416
                                      · rw [if_pos c34] at H
                                        have LMc34 := Aside0.mk c34
                                        clear c34
                                        obtain ⟨y234, hy234⟩ : ∃ y_ : List Int, y_ = ((rd_L3 x11_2 ((rd_T33 l1 x38_2).f0)) ++ [rd x8_1 ((rd_T33 l1 x38_2).f1)]) := ⟨_, rfl⟩
                                        replace H : (order_Blocks.l1 k2 l2 x8_1 (x11_2.set (((rd_T33 l1 x38_2).f0) : Int).toNat y234) l1 (l1.length : Int) (wrap64 (x38_2 + 1))) = some (r1, r2) := by first | (rw [hy234]; with_reducible exact H) | (have H2_ := (Option.bind_some _ _).symm.trans H; rw [hy234]; with_reducible exact H2_) | (have H2_ := (Option.bind_some _ _).symm.trans H; with_reducible exact H2_) | with_reducible exact H | (rw [hy234]; exact H) | exact H
                                        have Ny234 := Aside0.mk hy234
                                        clear hy234
                                        obtain ⟨y237, hy237⟩ : ∃ y_ : List (List Int), y_ = (x11_2.set (((rd_T33 l1 x38_2).f0) : Int).toNat y234) := ⟨_, rfl⟩
                                        replace H : (order_Blocks.l1 k2 l2 x8_1 y237 l1 (l1.length : Int) (wrap64 (x38_2 + 1))) = some (r1, r2) := by first | (rw [hy237]; with_reducible exact H) | (have H2_ := (Option.bind_some _ _).symm.trans H; rw [hy237]; with_reducible exact H2_) | (have H2_ := (Option.bind_some _ _).symm.trans H; with_reducible exact H2_) | with_reducible exact H | (rw [hy237]; exact H) | exact H
                                        have Ny237 := Aside0.mk hy237
                                        clear hy237
                                        have H' := Aside0.mk H
                                        clear H
                                        have p230 : 0 ≤ (x38_2 : Int) := of_decide_eq_true (by first | (with_reducible assumption) | assumption)
                                        have q230 : x38_2 < (l1.length : Int) := of_decide_eq_true (by first | (with_reducible assumption) | assumption)
                                        obtain ⟨ad230, e230, hx230_0, hx230_1, hx230_2⟩ := at_T33 HR1.out x38_2 p230 q230
                                        cases e230
                                        replace hx230_0 := (HB.out.cell (World.block_lt_of_cell? w _ hx230_0)).trans hx230_0
                                        replace hx230_1 := (HB.out.cell (World.block_lt_of_cell? w _ hx230_1)).trans hx230_1
                                        replace hx230_2 := (HB.out.cell (World.block_lt_of_cell? w _ hx230_2)).trans hx230_2
                                        replace p230 := eq_true p230
                                        replace q230 := eq_true q230
                                        try go_wp2_with (first | ((with_reducible refine gate_dst (N := 13) rfl ?_); refine box_event ?hg (N := 13) ?hd (cs := #[.int .i64 0, .int .i64 0, .int .i64 0]) (t := 33) ?hr ?_; (case hd => rfl); (case hg => rfl); (case hr => first | (go_simp; done) | (go_simp; rfl)); intro gb231 hg w36 hbox hb; have n0_ := Aside0.mk (Kd.R_below (by (with_reducible repeat (first | apply Kd.R_alloc | apply Kd.R_drewN | apply Kd.R_drew)); exact HO_8.out) hb); have n1_ := Aside0.mk (Kd.S_below (by (with_reducible repeat (first | apply Kd.S_alloc | apply Kd.S_drewN | apply Kd.S_drew)); exact HO_11.out) hb); have n2_ := Aside0.mk (below_step (by repeat (first | (with_reducible first | exact HB.out | apply below_alloc | apply pw_below_drewN | apply below_drew1) | exact HB.out)) hb); have n3_ := Aside0.mk (hbox); have n4_ := Aside0.mk ((by rw [hg]; exact (below_size (by repeat (first | (with_reducible first | exact HB.out | apply below_alloc | apply pw_below_drewN | apply below_drew1) | exact HB.out))) : w.heap.size ≤ gb231)); have n5_ := Aside0.mk ((by rw [hg]; exact (below_size (by repeat (first | (with_reducible first | exact HB.out | apply below_alloc | apply pw_below_drewN | apply below_drew1) | exact HB.out))) : w.heap.size ≤ gb231)); clear HO_8; clear HO_11; clear HB; have HO_8 := n0_; have HO_11 := n1_; have HB := n2_; have BK231 := n3_; have GW231 := n4_; have GE231 := n5_; clear n0_ n1_ n2_ n3_ n4_ n5_; clear hb hbox hg; have hcz37_0 : w36.cell? ⟨gb231, 0, none⟩ = some (.int .i64 0) := (blk_cell BK231.out 0).trans rfl; have hcz37_1 : w36.cell? ⟨gb231, 1, none⟩ = some (.int .i64 0) := (blk_cell BK231.out 1).trans rfl; have hcz37_2 : w36.cell? ⟨gb231, 2, none⟩ = some (.int .i64 0) := (blk_cell BK231.out 2).trans rfl; have hfz37_0 := blk_frozen BK231.out 0; have hfz37_1 := blk_frozen BK231.out 1; have hfz37_2 := blk_frozen BK231.out 2; obtain ⟨Ao38, co38, eo38⟩ := Kd.R_slice HO_8.out; subst eo38; have p232 : 0 ≤ (((rd_T33 l1 x38_2).f1) : Int) := of_decide_eq_true (by first | (with_reducible assumption) | assumption); have q232 : ((rd_T33 l1 x38_2).f1) < (x8_1.length : Int) := of_decide_eq_true (by first | (with_reducible assumption) | assumption); obtain ⟨ad232, e232, hx232_0⟩ := Kd.at_int (Kd.R_reads' HO_8.out).2.2 ((rd_T33 l1 x38_2).f1) p232 q232; cases e232; have hn232_0 : ad232.block ≠ gb231 := Kd.own_blk (Kd.R_ne HO_8.out BK231.out (by decide)); have hn232_1 : ad232.block ≠ gb231 := Kd.own_blk (Kd.R_ne HO_8.out BK231.out (by decide)); have hn232_2 : ad232.block ≠ gb231 := Kd.own_blk (Kd.R_ne HO_8.out BK231.out (by decide)); replace hx232_0 := (cell_far (p := ⟨gb231, 0, none⟩) (by first | (rw [add_block]; exact hn232_0) | (show (Addr.add _ _).block ≠ _; rw [add_block]; exact hn232_0) | exact hn232_0) (.int .i64 ((rd_T33 l1 x38_2).f0))).trans hx232_0; replace hx232_0 := (cell_far (p := ⟨gb231, 1, none⟩) (by first | (rw [add_block]; exact hn232_1) | (show (Addr.add _ _).block ≠ _; rw [add_block]; exact hn232_1) | exact hn232_1) (.int .i64 ((rd_T33 l1 x38_2).f1))).trans hx232_0; replace hx232_0 := (cell_far (p := ⟨gb231, 2, none⟩) (by first | (rw [add_block]; exact hn232_2) | (show (Addr.add _ _).block ≠ _; rw [add_block]; exact hn232_2) | exact hn232_2) (.int .i64 ((rd_T33 l1 x38_2).f2))).trans hx232_0; clear hn232_0; clear hn232_1; clear hn232_2; replace p232 := eq_true p232; replace q232 := eq_true q232))
                                        have n0_ : Aside0 (Kd.R (Kd.int .i64) 3 (((w36.setCell ⟨gb231, 0, none⟩ (.int .i64 ((rd_T33 l1 x38_2).f0))).setCell ⟨gb231, 1, none⟩ (.int .i64 ((rd_T33 l1 x38_2).f1))).setCell ⟨gb231, 2, none⟩ (.int .i64 ((rd_T33 l1 x38_2).f2))) w.heap.size (fun _ => True) (.slice (some ad232) x8_1.length co38) x8_1) := ⟨by (with_reducible repeat (first | apply Kd.R_alloc | apply Kd.R_drewN | apply Kd.R_drew)); exact Kd.R_mono (Kd.R_far (p := ⟨gb231, 2, none⟩) (Kd.R_far (p := ⟨gb231, 1, none⟩) (Kd.R_far (p := ⟨gb231, 0, none⟩) (Kd.R_types HO_8.out BK231.out (by decide)) (fun _ hk => hk.2) (.int .i64 ((rd_T33 l1 x38_2).f0))) (fun _ hk => hk.2) (.int .i64 ((rd_T33 l1 x38_2).f1))) (fun _ hk => hk.2) (.int .i64 ((rd_T33 l1 x38_2).f2))) (fun _ hk => trivial)⟩
                                        have n1_ : Aside0 (Kd.S (Kd.slice 3 (Kd.int .i64)) 23 (((w36.setCell ⟨gb231, 0, none⟩ (.int .i64 ((rd_T33 l1 x38_2).f0))).setCell ⟨gb231, 1, none⟩ (.int .i64 ((rd_T33 l1 x38_2).f1))).setCell ⟨gb231, 2, none⟩ (.int .i64 ((rd_T33 l1 x38_2).f2))) w.heap.size (fun k_ => some k_ ≠ (.slice (some ad232) x8_1.length co38 : Value).ownBlock) v228 x11_2) := ⟨by (with_reducible repeat (first | apply Kd.S_alloc | apply Kd.S_drewN | apply Kd.S_drew)); exact Kd.S_mono (Kd.S_far (p := ⟨gb231, 2, none⟩) (Kd.S_far (p := ⟨gb231, 1, none⟩) (Kd.S_far (p := ⟨gb231, 0, none⟩) (Kd.S_types HO_11.out BK231.out (by decide)) (fun _ hk => hk.2) (.int .i64 ((rd_T33 l1 x38_2).f0))) (fun _ hk => hk.2) (.int .i64 ((rd_T33 l1 x38_2).f1))) (fun _ hk => hk.2) (.int .i64 ((rd_T33 l1 x38_2).f2))) (fun _ hk => hk.1)⟩
                                        have n2_ : Aside0 ((((w36.setCell ⟨gb231, 0, none⟩ (.int .i64 ((rd_T33 l1 x38_2).f0))).setCell ⟨gb231, 1, none⟩ (.int .i64 ((rd_T33 l1 x38_2).f1))).setCell ⟨gb231, 2, none⟩ (.int .i64 ((rd_T33 l1 x38_2).f2))).heap[gb231]? = some (.cells #[.int .i64 ((rd_T33 l1 x38_2).f0), .int .i64 ((rd_T33 l1 x38_2).f1), .int .i64 ((rd_T33 l1 x38_2).f2)] 33 (0, 0))) := ⟨by (with_reducible repeat (first | refine blk_drewN ?_ _ | refine blk_drew ?_ | refine blk_alloc ?_ _)); refine blk_put (cs := #[.int .i64 ((rd_T33 l1 x38_2).f0), .int .i64 ((rd_T33 l1 x38_2).f1), .int .i64 0]) ?_ 2 _ rfl; (with_reducible repeat (first | refine blk_drewN ?_ _ | refine blk_drew ?_ | refine blk_alloc ?_ _)); refine blk_put (cs := #[.int .i64 ((rd_T33 l1 x38_2).f0), .int .i64 0, .int .i64 0]) ?_ 1 _ rfl; (with_reducible repeat (first | refine blk_drewN ?_ _ | refine blk_drew ?_ | refine blk_alloc ?_ _)); refine blk_put (cs := #[.int .i64 0, .int .i64 0, .int .i64 0]) ?_ 0 _ rfl; (with_reducible repeat (first | refine blk_drewN ?_ _ | refine blk_drew ?_ | refine blk_alloc ?_ _)); exact BK231.out⟩
                                        have n3_ : Aside0 (Below w.heap.size w (((w36.setCell ⟨gb231, 0, none⟩ (.int .i64 ((rd_T33 l1 x38_2).f0))).setCell ⟨gb231, 1, none⟩ (.int .i64 ((rd_T33 l1 x38_2).f1))).setCell ⟨gb231, 2, none⟩ (.int .i64 ((rd_T33 l1 x38_2).f2)))) := ⟨by repeat (first | (with_reducible first | exact HB.out | apply below_alloc | apply pw_below_drewN | apply below_drew1 | refine below_set ?_ GE231.out) | exact HB.out)⟩
                                        (try clear HO_8)
                                        (try clear HO_11)
                                        (try clear BK231)
                                        (try clear HB)
                                        generalize (((w36.setCell ⟨gb231, 0, none⟩ (.int .i64 ((rd_T33 l1 x38_2).f0))).setCell ⟨gb231, 1, none⟩ (.int .i64 ((rd_T33 l1 x38_2).f1))).setCell ⟨gb231, 2, none⟩ (.int .i64 ((rd_T33 l1 x38_2).f2))) = w39 at n0_ n1_ n2_ n3_ ⊢
                                        have HO_8 := n0_
                                        have HO_11 := n1_
                                        have BK231 := n2_
                                        have HB := n3_
                                        clear n0_ n1_ n2_ n3_
                                        have n0_ := Aside0.mk (Kd.R_drew HO_8.out)
                                        have n1_ := Aside0.mk (Kd.S_drew HO_11.out)
                                        have n2_ := Aside0.mk (blk_drew BK231.out)
                                        have n3_ := Aside0.mk (below_drew1 HB.out)
                                        clear HO_8
                                        clear HO_11
                                        clear BK231
                                        clear HB
                                        have HO_8 := n0_
                                        have HO_11 := n1_
                                        have BK231 := n2_
                                        have HB := n3_
                                        clear n0_ n1_ n2_ n3_
                                        obtain ⟨Ao41, co41, eo41⟩ := Kd.S_slice HO_11.out
                                        (first | subst eo41 | (injection eo41 with f1_ f2_ f3_; have f4_ := f1_.symm; have f5_ := f3_.symm; clear f1_ f2_ f3_; subst f4_; subst f5_))
                                        have p233 : 0 ≤ (((rd_T33 l1 x38_2).f0) : Int) := of_decide_eq_true (by first | (with_reducible assumption) | assumption)
                                        have q233 : ((rd_T33 l1 x38_2).f0) < (x11_2.length : Int) := of_decide_eq_true (by first | (with_reducible assumption) | assumption)
                                        obtain ⟨ad233, A233_0, c233_0, e233, hx233_0, hl233_0, hi233_0⟩ := at_L3 (Kd.S_reads' HO_11.out).2.2 ((rd_T33 l1 x38_2).f0) p233 q233
                                        cases e233
                                        obtain ⟨ce233, hce233, hMe233, hcc233⟩ := Kd.S_get HO_11.out [] ((rd_T33 l1 x38_2).f0) p233 (by first | exact q233 | exact of_decide_eq_true (by first | (with_reducible assumption) | assumption) | (have e_ := (Kd.S_reads' HO_11.out).1; omega))
                                        obtain ⟨ve233_0, rfl, ge233_0⟩ := hMe233
                                        have hv233_0 := hcc233 0 _ rfl
                                        rw [Nat.add_zero, show ((Kd.slice 3 (Kd.int .i64))).sz = 1 from rfl, Nat.mul_one] at hv233_0
                                        replace hv233_0 := Option.some.inj (hv233_0.symm.trans hx233_0)
                                        rw [hv233_0] at ge233_0
                                        have HL233_0 := Aside0.mk (show Kd.R (Kd.int .i64) 3 _ _ _ _ (rd_L3 x11_2 ((rd_T33 l1 x38_2).f0)) from ge233_0)
                                        clear hv233_0 ge233_0
                                        have HX233_0 := Aside0.mk hx233_0
                                        have RF233_0_HO_8 := Aside0.mk (Kd.R_farB HL233_0.out (fun k_ hk => hk.1))
                                        clear hcc233 hce233
                                        have HR233_0 := Aside0.mk hi233_0
                                        have HC233_0 := Aside0.mk hl233_0
                                        clear hi233_0 hl233_0
                                        replace p233 := eq_true p233
                                        replace q233 := eq_true q233
                                        obtain ⟨go42, co42, eo42, gb42, gl42, cl42, HG42⟩ := Kd.S_form HO_11.out (by have h_ : (((rd_T33 l1 x38_2).f0) : Int) < ((x11_2.length : Int) : Int) := of_decide_eq_true (by first | (with_reducible assumption) | assumption); have h2_ : 0 ≤ (((rd_T33 l1 x38_2).f0) : Int) := (of_decide_eq_true (by first | (with_reducible assumption) | assumption)); omega)
                                        (first | cases eo42 | (injection eo42 with ea_ en_ ec_; (first | subst ea_ | (injection ea_ with ea_; subst ea_)); subst ec_; clear en_))
                                        have GB42 := Aside0.mk gb42
                                        have GG42 := Aside0.mk HG42
                                        clear gb42 gl42 HG42
                                        (first | simp only [add_plain] at hx233_0 | skip)
                                        obtain ⟨oki42, ce42, hcl42, hM42, hcc42, _, _, hH42⟩ := Kd.S_elem HO_11.out [] (((rd_T33 l1 x38_2).f0) : Int) (of_decide_eq_true (by first | (with_reducible assumption) | assumption)) (by have h_ : (((rd_T33 l1 x38_2).f0) : Int) < ((x11_2.length : Int) : Int) := of_decide_eq_true (by first | (with_reducible assumption) | assumption); first | exact h_ | (have e_ := (Kd.S_reads' HO_11.out).1; omega) | simpa using h_)
                                        obtain ⟨ve42_0, rfl, ge42_0⟩ := hM42
                                        have hv42 := hcc42 0 _ rfl
                                        have hX42 := HX233_0.out
                                        (try simp only [add_plain] at hX42)
                                        (try simp only [Nat.add_zero] at hv42)
                                        (try rw [show ((Kd.slice 3 (Kd.int .i64))).sz = 1 from rfl, Nat.mul_one] at hv42)
                                        replace hv42 := Option.some.inj (hv42.symm.trans hX42)
                                        subst hv42
                                        clear hX42 hcc42 hcl42
                                        have UU42 := Aside0.mk (show Kd.R (Kd.int .i64) 3 _ w.heap.size oki42 (.slice A233_0 (rd_L3 x11_2 ((rd_T33 l1 x38_2).f0)).length c233_0) (rd_L3 x11_2 ((rd_T33 l1 x38_2).f0)) from ge42_0)
                                        have HH42 := Aside0.mk hH42
                                        have HN42 := Aside0.mk (Kd.S_reads' HO_11.out).1
                                        clear hH42 ge42_0
                                        refine start_ (n := 13) (S := fun w' => w'.cell? ⟨gb231, 0, none⟩ = some (.int .i64 ((rd_T33 l1 x38_2).f0)) ∧ w'.cell? ⟨gb231, 1, none⟩ = some (.int .i64 ((rd_T33 l1 x38_2).f1)) ∧ w'.cell? ⟨gb231, 2, none⟩ = some (.int .i64 ((rd_T33 l1 x38_2).f2)) ∧ w'.cell? ⟨go42, (((rd_T33 l1 x38_2).f0)).toNat, none⟩ = some (.slice A233_0 (rd_L3 x11_2 ((rd_T33 l1 x38_2).f0)).length c233_0)) (ds := [12]) #[false, false, false, false, false, false, false, false, false, false, false, false, false] (by kernel_rfl) rfl rfl ⟨(blk_cell BK231.out 0).trans rfl, (blk_cell BK231.out 1).trans rfl, (blk_cell BK231.out 2).trans rfl, hx233_0⟩ (fun hHeld => ?_); refine with_tabW order_Blocks.tab15 order_Blocks.bits15 (fun HT_ HW_ => ?_)
                                        generalize w39.drew = w40 at HO_8 HO_11 BK231 HB GG42 HH42 HL233_0 HR233_0 HX233_0 UU42 hx233_0 hHeld ⊢
                                        refine pure_ (i := 0) (N := some 51) (v := ?_) (a' := ?_) #[true, false, false, false, false, false, false, false, false, false, false, false, false] rfl rfl (any_of HT_.out (by kernel_rfl)) (fun _ _ _ h => h) (Or.inl ⟨by rfl, ?_⟩) ?_ ?_
                                        rotate_left
                                        · intro w'
                                          go_simp
                                          with_reducible rfl
                                        rotate_left
                                        · simp only [Act.put, List.setIfInBounds_toArray, List.set_cons_zero, List.set_cons_succ, i64_w, i32_w]
                                          rfl
                                        refine pure_ (i := 1) (N := some 52) (v := ?_) (a' := ?_) #[true, true, false, false, false, false, false, false, false, false, false, false, false] rfl rfl (any_of HT_.out (by kernel_rfl)) (fun _ _ _ h => h) (Or.inl ⟨by rfl, ?_⟩) ?_ ?_
                                        rotate_left
                                        · intro w'
                                          go_simp
                                          with_reducible rfl
                                        rotate_left
                                        · simp only [Act.put, List.setIfInBounds_toArray, List.set_cons_zero, List.set_cons_succ, i64_w, i32_w]
                                          rfl
                                        refine pure_ (i := 3) (N := some 54) (v := ?_) (a' := ?_) #[true, true, false, true, false, false, false, false, false, false, false, false, false] rfl rfl (any_of HT_.out (by kernel_rfl)) (fun _ _ _ h => h) (Or.inl ⟨by rfl, ?_⟩) ?_ ?_
                                        rotate_left
                                        · intro w'
                                          go_simp
                                          with_reducible rfl
                                        rotate_left
                                        · simp only [Act.put, List.setIfInBounds_toArray, List.set_cons_zero, List.set_cons_succ, i64_w, i32_w]
                                          rfl
                                        refine pure_ (i := 4) (N := some 55) (v := ?_) (a' := ?_) #[true, true, false, true, true, false, false, false, false, false, false, false, false] rfl rfl (any_of HT_.out (by kernel_rfl)) (fun _ _ _ h => h) (Or.inl ⟨by rfl, ?_⟩) ?_ ?_
                                        rotate_left
                                        · intro w'
                                          go_simp
                                          with_reducible rfl
                                        rotate_left
                                        · simp only [Act.put, List.setIfInBounds_toArray, List.set_cons_zero, List.set_cons_succ, i64_w, i32_w]
                                          rfl
                                        refine pure_ (i := 8) (N := some 59) (v := ?_) (a' := ?_) #[true, true, false, true, true, false, false, false, true, false, false, false, false] rfl rfl (any_of HT_.out (by kernel_rfl)) (fun _ _ _ h => h) (Or.inl ⟨by rfl, ?_⟩) ?_ ?_
                                        rotate_left
                                        · intro w'
                                          go_simp
                                          with_reducible rfl
                                        rotate_left
                                        · simp only [Act.put, List.setIfInBounds_toArray, List.set_cons_zero, List.set_cons_succ, i64_w, i32_w]
                                          rfl
                                        refine take_ (i := 2) (N := some 53) (v := ?_) (a' := ?_) #[true, true, true, true, true, false, false, false, true, false, false, false, false] rfl rfl (take_ofW HT_.out HW_.out (by kernel_rfl)) (fun _ _ _ h => h) (Or.inl ⟨by rfl, ?_⟩) hHeld ?_ ?_
                                        rotate_left
                                        · rintro w' ⟨s0, s1, s2, s3⟩
                                          go_simp
                                          with_reducible rfl
                                        rotate_left
                                        · simp only [Act.put, List.setIfInBounds_toArray, List.set_cons_zero, List.set_cons_succ, i64_w, i32_w]
                                          rfl
                                        refine take_ (i := 5) (N := some 56) (v := ?_) (a' := ?_) #[true, true, true, true, true, true, false, false, true, false, false, false, false] rfl rfl (take_ofW HT_.out HW_.out (by kernel_rfl)) (fun _ _ _ h => h) (Or.inl ⟨by rfl, ?_⟩) hHeld ?_ ?_
                                        rotate_left
                                        · rintro w' ⟨s0, s1, s2, s3⟩
                                          go_simp
                                          with_reducible rfl
                                        rotate_left
                                        · simp only [Act.put, List.setIfInBounds_toArray, List.set_cons_zero, List.set_cons_succ, i64_w, i32_w]
                                          rfl
                                        refine pure_ (i := 6) (N := some 57) (v := ?_) (a' := ?_) #[true, true, true, true, true, true, true, false, true, false, false, false, false] rfl rfl (any_of HT_.out (by kernel_rfl)) (fun _ _ _ h => h) (Or.inl ⟨by rfl, ?_⟩) ?_ ?_
                                        rotate_left
                                        · intro w'
                                          go_simp
                                          with_reducible rfl
                                        rotate_left
                                        · simp only [Act.put, List.setIfInBounds_toArray, List.set_cons_zero, List.set_cons_succ, i64_w, i32_w]
                                          rfl
                                        refine take_ (i := 7) (N := some 58) (v := ?_) (a' := ?_) #[true, true, true, true, true, true, true, true, true, false, false, false, false] rfl rfl (take_ofW HT_.out HW_.out (by kernel_rfl)) (fun _ _ _ h => h) (Or.inl ⟨by rfl, ?_⟩) hHeld ?_ ?_
                                        rotate_left
                                        · rintro w' ⟨s0, s1, s2, s3⟩
                                          go_simp
                                          with_reducible rfl
                                        rotate_left
                                        · simp only [Act.put, List.setIfInBounds_toArray, List.set_cons_zero, List.set_cons_succ, i64_w, i32_w]
                                          rfl
                                        refine one_ (i := 9) (N := some 60) #[true, true, true, true, true, true, true, true, true, true, false, false, false] rfl rfl (one_of HT_.out (by kernel_rfl)) (by decide) (fun K hK => ?_)
                                        refine value_ (w1 := ?_) (v := ?_) (by rfl) rfl ?_ ?_
                                        rotate_left 2
                                        · go_simp
                                          constructor
                                          · rfl
                                          · rfl
                                        refine hK.out _ _ ⟨(blk_cell (blk_alloc BK231.out _) 0).trans rfl, (blk_cell (blk_alloc BK231.out _) 1).trans rfl, (blk_cell (blk_alloc BK231.out _) 2).trans rfl, (World.cell?_alloc_lt _ _ _ (World.block_lt_of_cell? _ _ (hHeld.2.2.2))).trans (hHeld.2.2.2)⟩ (fun hHeld => ?_)
                                        clear hK K
                                        refine norm_ (a' := ?_) ?_ ?_
                                        rotate_left
                                        · show Act.put _ (some 60) _ = _
                                          simp only [Act.put, List.setIfInBounds_toArray, List.set_cons_zero, List.set_cons_succ, i64_w, i32_w]
                                          rfl
                                        refine one_ (i := 10) (N := some 61) #[true, true, true, true, true, true, true, true, true, true, true, false, false] rfl rfl (one_of HT_.out (by kernel_rfl)) (by decide) (fun K hK => ?_)
                                        refine Kd.R_append_step (Kd.int .i64) (w0 := w) w.heap.size (by rfl) (.tmp 58) (.tmp 60) 23 3 (.int .i64 0) 8 rfl Try.underlying23 info3 rfl (by decide) (by omega) (.slice A233_0 (rd_L3 x11_2 ((rd_T33 l1 x38_2).f0)).length c233_0) (rd_L3 x11_2 ((rd_T33 l1 x38_2).f0)) (rd x8_1 ((rd_T33 l1 x38_2).f1)) [.int .i64 (rd x8_1 ((rd_T33 l1 x38_2).f1))] (fun k_ => oki42 k_ ∨ ((fun k_ => some k_ ≠ (.slice (some ad232) x8_1.length co38 : Value).ownBlock)) k_ ∧ w40.heap.size ≤ k_) (fun _ => False) rfl rfl ?aP (fun _ hk => hk.elim) ?aF ?aO ?aB ?aS ?aL ?_
                                        (case aP => exact rfl)
                                        (case aB => exact (by repeat (first | (with_reducible first | exact HB.out | apply below_alloc | apply pw_below_drewN | apply below_drew1 | refine below_set ?_ GE231.out) | exact HB.out)))
                                        (case aF => exact (fun k_ hk => .inr ⟨Kd.fresh' (Kd.R_lt (by (with_reducible repeat (first | apply Kd.R_alloc | apply Kd.R_drewN | apply Kd.R_drew)); exact HO_8.out)) k_ hk, hk⟩))
                                        (case aO => exact (by (with_reducible repeat (first | apply Kd.R_alloc | apply Kd.R_drewN | apply Kd.R_drew)); exact Kd.R_mono UU42.out (fun _ hk => .inl hk)))
                                        (case aS => exact (below_size (by repeat (first | (with_reducible first | exact HB.out | apply below_alloc | apply pw_below_drewN | apply below_drew1 | refine below_set ?_ GE231.out) | exact HB.out))))
                                        (case aL => have := LMc34.out; omega)
                                        intro v235 w43 ho hb hg hat
                                        (first | have HS3_ := Go.Proofs.YtlaneafplmbcnaaW.PrintWords.cell_grown hg (hHeld.2.2.2) (by first | (rw [add_block]; exact (fun e_ => ((HL233_0.out.1 _ e_.symm).2) rfl)) | (show some (Addr.add _ _).block ≠ _; rw [add_block]; exact (fun e_ => ((HL233_0.out.1 _ e_.symm).2) rfl)) | exact (fun e_ => ((HL233_0.out.1 _ e_.symm).2) rfl)) | have HS3_ := Go.Proofs.YtlaneafplmbcnaaW.PrintWords.cell_grown hg (cell_unalloc (hHeld.2.2.2) (by first | (rw [add_block]; exact Kd.S_lt HO_11.out _ rfl) | (show (Addr.add _ _).block < _; rw [add_block]; exact Kd.S_lt HO_11.out _ rfl) | exact Kd.S_lt HO_11.out _ rfl)) (by first | (rw [add_block]; exact (fun e_ => ((HL233_0.out.1 _ e_.symm).2) rfl)) | (show some (Addr.add _ _).block ≠ _; rw [add_block]; exact (fun e_ => ((HL233_0.out.1 _ e_.symm).2) rfl)) | exact (fun e_ => ((HL233_0.out.1 _ e_.symm).2) rfl)))
                                        rw [← Ny234.out] at ho
                                        have n0_ := Aside0.mk (Kd.R_grown2 (by (with_reducible repeat (first | apply Kd.R_alloc | apply Kd.R_drewN | apply Kd.R_drew)); exact HO_8.out) rfl hg (fun k_ e_ => (HL233_0.out.1 k_ e_).1))
                                        have n1_ := Aside0.mk (blk_grown (g := gb231) (o := .cells #[.int .i64 ((rd_T33 l1 x38_2).f0), .int .i64 ((rd_T33 l1 x38_2).f1), .int .i64 ((rd_T33 l1 x38_2).f2)] 33 (0, 0)) (by (with_reducible repeat (first | refine blk_drewN ?_ _ | refine blk_drew ?_ | refine blk_alloc ?_ _)); exact BK231.out) hg (Kd.R_ne HL233_0.out BK231.out (by decide)))
                                        have n2_ := Aside0.mk (hb)
                                        have n3_ := Aside0.mk (Kd.H_grown (Kd.H_widen (by repeat (first | exact HH42.out | refine Kd.H_alloc ?_ _ | refine Kd.H_drewN ?_ _ | refine Kd.H_drew ?_))) hg (fun k_ e_ => .inl (UU42.out.1 k_ e_)))
                                        have n4_ := Aside0.mk (ho)
                                        clear HO_8
                                        clear BK231
                                        clear HB
                                        clear HH42
                                        clear HO_11
                                        clear UU42
                                        clear HL233_0
                                        have HO_8 := n0_
                                        have BK231 := n1_
                                        have HB := n2_
                                        have HH42 := n3_
                                        have HO236 := n4_
                                        clear n0_ n1_ n2_ n3_ n4_
                                        clear ho hb hg hat
                                        have p35 : 0 ≤ (((rd_T33 l1 x38_2).f0) : Int) := of_decide_eq_true (by first | (with_reducible assumption) | assumption)
                                        have q35 : (((rd_T33 l1 x38_2).f0) : Int) < ((x11_2.length : Int) : Int) := of_decide_eq_true (by first | (with_reducible assumption) | assumption)
                                        replace p35 := eq_true p35
                                        replace q35 := eq_true q35
                                        obtain ⟨Ao46, co46, eo46⟩ := Kd.R_slice HO236.out
                                        (first | subst eo46 | (injection eo46 with f1_ f2_ f3_; have f4_ := f1_.symm; have f5_ := f3_.symm; clear f1_ f2_ f3_; subst f4_; subst f5_))
                                        obtain ⟨_, _, hraw44, _, _, hcc44, _⟩ := Kd.H_raw HH42.out (of_decide_eq_true (by first | (with_reducible assumption) | assumption)) (by have h_ : (((rd_T33 l1 x38_2).f0) : Int) < ((x11_2.length : Int) : Int) := of_decide_eq_true (by first | (with_reducible assumption) | assumption); first | exact h_ | (have e_ := (HN42.out); omega) | simpa using h_)
                                        obtain ⟨_, hfr44⟩ := Kd.H_at HH42.out (of_decide_eq_true (by first | (with_reducible assumption) | assumption)) (by have h_ : (((rd_T33 l1 x38_2).f0) : Int) < ((x11_2.length : Int) : Int) := of_decide_eq_true (by first | (with_reducible assumption) | assumption); first | exact h_ | (have e_ := (HN42.out); omega) | simpa using h_)
                                        have hx44_0 := hcc44 0 _ rfl
                                        have hf44_0 := hfr44 0
                                        (try simp only [Nat.add_zero] at hx44_0 hf44_0)
                                        (try rw [show ((Kd.slice 3 (Kd.int .i64))).sz = 1 from rfl, Nat.mul_one] at hx44_0)
                                        (try rw [show ((Kd.slice 3 (Kd.int .i64))).sz = 1 from rfl, Nat.mul_one] at hf44_0)
                                        have HP44 := Kd.S_seg0 HH42.out (of_decide_eq_true (by first | (with_reducible assumption) | assumption)) (by have h_ : (((rd_T33 l1 x38_2).f0) : Int) < ((x11_2.length : Int) : Int) := of_decide_eq_true (by first | (with_reducible assumption) | assumption); first | exact h_ | (have e_ := (HN42.out); omega) | simpa using h_) (seg := [.slice Ao46 y234.length co46]) (j := 0) (show 1 ≤ 1 from by decide) (x' := y234) (Kd.M_row HO236.out) (fun _ hk => hk)
                                        (try simp only [show ((Kd.slice 3 (Kd.int .i64))).sz = 1 from rfl, Nat.mul_one, Nat.add_zero] at HP44)
                                        clear hcc44 hfr44
                                        have HNB231_go42 := Aside0.mk (show gb231 ≠ go42 from by have h_ := Kd.R_ne hraw44 BK231.out (by decide); intro e_; exact h_ (by rw [e_]; rfl))
                                        have HS44 := HP44.1
                                        rw [← Ny237.out] at HS44
                                        have HQ44 := Aside0.mk HS44
                                        obtain ⟨_, hgg44⟩ := Kd.R_typed hraw44 go42 rfl
                                        have GG44_ := Aside0.mk hgg44
                                        clear HP44 HS44 hgg44
                                        refine hK.out _ _ ⟨(blk_cell BK231.out 0).trans rfl, (blk_cell BK231.out 1).trans rfl, (blk_cell BK231.out 2).trans rfl, HS3_⟩ (fun hHeld => ?_)
                                        clear hK K
                                        refine norm_ (a' := ?_) ?_ ?_
                                        rotate_left
                                        · show Act.put _ (some 61) _ = _
                                          simp only [Act.put, List.setIfInBounds_toArray, List.set_cons_zero, List.set_cons_succ, i64_w, i32_w]
                                          rfl
                                        refine pure_ (i := 11) (N := some 62) (v := ?_) (a' := ?_) #[true, true, true, true, true, true, true, true, true, true, true, true, false] rfl rfl (any_of HT_.out (by kernel_rfl)) (fun _ _ _ h => h) (Or.inl ⟨by rfl, ?_⟩) ?_ ?_
                                        rotate_left
                                        · intro w'
                                          go_simp
                                          with_reducible rfl
                                        rotate_left
                                        · simp only [Act.put, List.setIfInBounds_toArray, List.set_cons_zero, List.set_cons_succ, i64_w, i32_w]
                                          rfl
                                        refine last_ (i := 12) (N := none) #[true, true, true, true, true, true, true, true, true, true, true, true, true] rfl rfl (one_of HT_.out (by kernel_rfl)) (by decide) (fun K hK => ?_)
                                        refine skip_ (w1 := ?_) (by rfl) rfl ?_ ?_
                                        rotate_left
                                        · go_simp
                                          rfl
                                        refine hK.out _ _ ?_
                                        clear hK K
                                        refine done_ (done_of HT_.out (by kernel_rfl)) ?_
                                        try go_wp2
                                        (first | go_roundg k2 | (refine Handed.intro k2 ?measure ?_; rotate_left; go_step; (repeat apply Exists.intro); (refine ⟨?rel, ?fr_⟩); (case fr_ => (simp only [add_plain]; rfl))))
                                        case measure => have := HK1.out; have := HK2.out; omega
                                        case rel => exact ⟨(y237), (wrap64 (x38_2 + 1)), (by first | rfl | (simp; done) | (simp [*]; done)), H', ⟨by have := HK1.out; have := HK2.out; omega⟩, ⟨by (with_reducible repeat (first | apply Kd.R_alloc | apply Kd.R_drewN | apply Kd.R_drew)); exact Kd.R_mono (Kd.R_far (p := ⟨go42, (((rd_T33 l1 x38_2).f0) : Int).toNat, none⟩) (Kd.R_types HO_8.out GG44_.out (by decide)) (fun _ hk => hk.2) (.slice Ao46 y234.length co46)) (fun _ hk => trivial)⟩, ⟨by (with_reducible repeat (first | apply Kd.S_alloc | apply Kd.S_drewN | apply Kd.S_drew)); exact HQ44.out⟩, ⟨by repeat (first | (with_reducible first | exact HB.out | apply below_alloc | apply pw_below_drewN | apply below_drew1 | refine below_set ?_ GB42.out | refine below_set ?_ GE231.out) | exact HB.out)⟩⟩
                                      · rw [if_neg c34] at H
                                        exact absurd H (by simp)
                                    · rw [if_neg c33] at H
                                      exact absurd H (by simp)
                                  · rw [if_neg c32] at H
                                    exact absurd H (by simp)
                              · rw [if_neg c27] at H
                                exact absurd H (by simp)
                            · rw [if_neg c26] at H
                              exact absurd H (by simp)
                          · rw [if_neg c25] at H
                            exact absurd H (by simp)
                        · rw [if_neg c24] at H
                          exact absurd H (by simp)
                      · rw [if_neg c23] at H
                        have c23b0 : decide (x38_2 < (l1.length : Int)) = false := decide_eq_false c23
                        clear c23
                        replace H := Option.bind_eq_some_iff.mp H
                        obtain ⟨t238, A470, H⟩ := H
                        replace H : ((order_ordered.f l2 x11_2 t238).bind fun t241 => (some (t241, 0))) = some (r1, r2) := H
                        have A47 := Aside0.mk A470
                        clear A470
                        replace H := Option.bind_eq_some_iff.mp H
                        obtain ⟨t241, A480, H⟩ := H
                        replace H : (some (t241, 0)) = some (r1, r2) := H
                        have A48 := Aside0.mk A480
                        clear A480
                        simp only [Option.some.injEq, Prod.mk.injEq] at H
                        obtain ⟨rfl, rfl⟩ := H
                        obtain ⟨Ao49, co49, eo49⟩ := Kd.S_slice HO_11.out
                        subst eo49
                        go_wp2_with (first | ((with_reducible refine gate_callee (f := 18) rfl ?_); refine goesL_ (some 67) rfl rfl Try.func18 (by kernel_rfl) rfl #[.slice Ao49 x11_2.length co49] rfl (by (try simp only [List.map_toArray, List.map_cons, List.map_nil]); first | done | rfl | (simp only [List.length_drop, List.length_take]; rfl)) ?_; (with_reducible refine (order_together.calls w A2 l2 _ _ x11_2 t238 _ ?side1 ?side2 ?side3 ?side4 A47.out).mono ?_); (case side1 => repeat (first | exact (Kd.S_reads' HO_11.out).2.2 | (with_reducible refine Kd.C_alloc ?_ _) | (with_reducible refine Kd.C_drewN ?_ _) | (with_reducible refine Kd.C_drew ?_))); (case side2 => exact (Kd.S_reads' HO_11.out).2.1); (case side3 => repeat (first | exact (Kd.C_below HR2.out HB.out) | (with_reducible refine Kd.C_alloc ?_ _) | (with_reducible refine Kd.C_drewN ?_ _) | (with_reducible refine Kd.C_drew ?_))); (case side4 => exact (by repeat (first | (with_reducible first | exact HB.out | apply below_alloc | apply pw_below_drewN | apply below_drew1) | exact HB.out))); rintro e w50 ⟨v239, rfl, hpk⟩; refine ⟨_, rfl, ?_⟩; have HCN := Aside0.mk (Kd.S_reads' HO_11.out).2.1; have HPK := Aside0.mk hpk; clear hpk HB; obtain ⟨Ao51, co51, eo51⟩ := HPK.out.slice; subst eo51) | ((with_reducible refine gate_callee (f := 17) rfl ?_); refine goesL_ (some 68) rfl rfl Try.func17 (by kernel_rfl) rfl #[.slice A2 l2.length c2, .slice Ao49 x11_2.length co49, .slice Ao51 t238.length co51] rfl (by (try simp only [List.map_toArray, List.map_cons, List.map_nil]); first | done | rfl | (simp only [List.length_drop, List.length_take]; rfl)) ?_; (with_reducible refine (order_ordered.calls w l2 _ _ _ _ x11_2 t238 _ t241 _ ?side1 ?side2 ?side3 A48.out).mono ?_); (case side1 => exact HC2.out); (case side2 => exact HCN.out); (case side3 => first | exact HPK.out | exact HPK.out.drew | exact HPK.out.drewN _); rintro e w52 ⟨v242, rfl, ho0, hb⟩; refine ⟨_, rfl, ?_⟩; have HO243 := Aside0.mk ho0; have HB := Aside0.mk hb; clear ho0 hb))
                        go_ret2
                        exact ⟨_, by first | rfl | (simp [errW_none, errW_some] <;> rfl) | (simp [*, errW_none, errW_some] <;> rfl), by (with_reducible repeat (first | apply Kd.S_alloc | apply Kd.S_drewN | apply Kd.S_drew)); exact Kd.S_mono HO243.out (fun _ hk => trivial), by repeat (first | (with_reducible first | exact HB.out | apply below_alloc | apply pw_below_drewN | apply below_drew1) | exact HB.out)⟩
                · rw [if_neg c20] at H
                  exact absurd H (by simp)
              · rw [if_neg c19] at H
                exact absurd H (by simp)
      · rw [if_neg c7] at H
        exact absurd H (by simp)
    · rw [if_neg c6] at H
      exact absurd H (by simp)
  · replace c5 := Bool.eq_false_iff.mpr c5
    subst c5
    have H1 : (some (([] : List (S30)), 170)) = some (r1, r2) := by rw [if_neg (show ¬ (false = true) by decide)] at H; exact H
    clear H
    have H := H1
    clear H1
    simp only [Option.some.injEq, Prod.mk.injEq] at H
    obtain ⟨rfl, rfl⟩ := H
    go_enter Try.func9, Try.ntmps9
    go_wp2_with (first | ((with_reducible refine gate_callee (f := 16) rfl ?_); refine goesL_ (some 18) rfl rfl Try.func16 (by kernel_rfl) rfl #[.int .i64 a0, .slice A1 l1.length c1, .slice A2 l2.length c2] rfl (by (try simp only [List.map_toArray, List.map_cons, List.map_nil]); first | done | rfl | (simp only [List.length_drop, List.length_take]; rfl)) ?_; (with_reducible refine (order_right.calls a0 _ _ l1 _ _ l2 false _ ?side1 ?side2 ?side3 ?side4 A4.out).mono ?_); (case side1 => repeat (first | exact HR1.out | (with_reducible refine Kd.C_alloc ?_ _) | (with_reducible refine Kd.C_drewN ?_ _) | (with_reducible refine Kd.C_drew ?_))); (case side2 => exact HC1.out); (case side3 => repeat (first | exact HR2.out | (with_reducible refine Kd.C_alloc ?_ _) | (with_reducible refine Kd.C_drewN ?_ _) | (with_reducible refine Kd.C_drew ?_))); (case side4 => exact HC2.out); rintro e w53 ⟨rfl, hb⟩; refine ⟨_, rfl, ?_⟩; have n0_ := Aside0.mk (below_step (by repeat (first | (with_reducible first | exact HB.out | apply below_alloc | apply pw_below_drewN | apply below_drew1) | exact HB.out)) hb); clear HB; have HB := n0_; clear n0_; (try clear hb); (try clear hb2); (try clear hk); (try clear hi)))
    go_ret2
    exact ⟨_, by first | rfl | (simp [errW_none, errW_some] <;> rfl) | (simp [*, errW_none, errW_some] <;> rfl), by first | exact Kd.S_nil _ _ _ _ _ | exact Kd.N_nil _ _ _ _ _ | exact Kd.V_nil _ _ _ _ _ | exact Kd.Q_nil _ _ _ _ _ | exact Kd.R_nil _ _ _ _ _, by repeat (first | (with_reducible first | exact HB.out | apply below_alloc | apply pw_below_drewN | apply below_drew1) | exact HB.out)⟩

end Go.Proofs.Ytlaneafplmbcnaa.PO
