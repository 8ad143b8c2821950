/- What the Go functions of this part compute, as Lean functions, and that the machine's calls come to just that; written for this claim by a program of the session (gen.sh, after the kit's printer). -/
import Derived.Test.YtlaneafplmbcnaaPOx0
import Derived.Test.YtlaneafplmbcnaaSq
import Derived.Test.YtlaneafplmbcnaaPOx66
import Derived.Test.YtlaneafplmbcnaaPOx67
import Derived.Test.YtlaneafplmbcnaaGiven
namespace Go.Proofs.Ytlaneafplmbcnaa.PO
open Go.RowKit Go.Proofs.YtlaneafplmbcnaaW.PrintWords Go.Proofs.YtlaneafplmbcnaaW.PrintLast Go.Proofs.YtlaneafplmbcnaaW.PrintMore
attribute [local go_sem] max2_int min2_int max_two min_two max_three min_three max_four min_four   -- for this text's walks alone
set_option linter.unusedVariables false
set_option linter.unusedSimpArgs false

/-! ### match_Assign: function 15 -/
mutual
def match_Assign.l0 : Nat → Int → List (List Int) → List Int → List Int → Int → Int → Option (List Int × Int)
  | 0, _, _, _, _, _, _ => none
  | k + 1, x0, x6, x7, x8, x24, x25 => if x25 < x24 then (if 0 ≤ x25 then (if x25 < (x7.length : Int) then (if x25 < (x8.length : Int) then (match_Assign.l0 k x0 x6 (x7.set (x25 : Int).toNat (-1)) (x8.set (x25 : Int).toNat (-1)) x24 (wrap64 (x25 + 1))) else (none)) else (none)) else (none)) else (match_Assign.l1 k x6 x7 x8 x0 0)
def match_Assign.l1 : Nat → List (List Int) → List Int → List Int → Int → Int → Option (List Int × Int)
  | 0, _, _, _, _, _ => none
  | k + 1, x6, x7, x8, x35, x36 => if x36 < x35 then ((match_augment.f k x36 x6 x7 x8).bind fun bt533 => (if bt533.1 = true then (match_Assign.l1 k x6 bt533.2.1 bt533.2.2 x35 (wrap64 (x36 + 1))) else (some (([] : List Int), 190)))) else (some (x7, 0))
end
def match_Assign.f (k : Nat) (a0 : Int) (l1 : List (S33)) : Option (List Int × Int) := (match_right.f a0 a0 l1).bind fun t521 => (if t521 = true then ((match_table.f k a0 l1).bind fun t522 => (if 0 ≤ a0 then (if (a0 : Int).toNat ≤ 35184372088832 then ((some (List.replicate (a0 : Int).toNat 0 : List Int)).bind fun y525 => (match_Assign.l0 k a0 t522 y525 (List.replicate (a0 : Int).toNat 0) (y525.length : Int) 0)) else (none)) else (none))) else (some (([] : List Int), 170)))
theorem match_Assign.mono_l : ∀ k, (∀ y0 y1 y2 y3 y4 y5, LeO (match_Assign.l0 k y0 y1 y2 y3 y4 y5) (match_Assign.l0 (k + 1) y0 y1 y2 y3 y4 y5)) ∧ (∀ y0 y1 y2 y3 y4, LeO (match_Assign.l1 k y0 y1 y2 y3 y4) (match_Assign.l1 (k + 1) y0 y1 y2 y3 y4))
  | 0 => ⟨fun _ _ _ _ _ _ r h => by simp [match_Assign.l0] at h, fun _ _ _ _ _ r h => by simp [match_Assign.l1] at h⟩
  | k + 1 => by
    obtain ⟨ih0, ih1⟩ := match_Assign.mono_l k
    refine ⟨?_, ?_⟩
    · intro y0 y1 y2 y3 y4 y5
      unfold match_Assign.l0
      repeat' first
      | (with_reducible exact ih0 _ _ _ _ _ _)
      | (with_reducible exact ih1 _ _ _ _ _)
      | (with_reducible exact match_augment.mono _ _ _ _ _)
      | (with_reducible exact match_table.mono _ _ _)
      | (with_reducible exact LeO.refl _)
      | (with_reducible exact LeO.none _)
      | (with_reducible refine LeO.ite ?_ ?_)
      | (with_reducible refine LeO.bind ?_ (fun _ => ?_))
      | exact ih0 _ _ _ _ _ _
      | exact ih1 _ _ _ _ _
      | exact match_augment.mono _ _ _ _ _
      | exact match_table.mono _ _ _
      | exact LeO.none _
      | refine LeO.ite ?_ ?_
      | refine LeO.bind ?_ (fun _ => ?_)
    · intro y0 y1 y2 y3 y4
      unfold match_Assign.l1
      repeat' first
      | (with_reducible exact ih0 _ _ _ _ _ _)
      | (with_reducible exact ih1 _ _ _ _ _)
      | (with_reducible exact match_augment.mono _ _ _ _ _)
      | (with_reducible exact match_table.mono _ _ _)
      | (with_reducible exact LeO.refl _)
      | (with_reducible exact LeO.none _)
      | (with_reducible refine LeO.ite ?_ ?_)
      | (with_reducible refine LeO.bind ?_ (fun _ => ?_))
      | exact ih0 _ _ _ _ _ _
      | exact ih1 _ _ _ _ _
      | exact match_augment.mono _ _ _ _ _
      | exact match_table.mono _ _ _
      | exact LeO.none _
      | refine LeO.ite ?_ ?_
      | refine LeO.bind ?_ (fun _ => ?_)
theorem match_Assign.mono : ∀ a0 a1 k, LeO (match_Assign.f k a0 a1) (match_Assign.f (k + 1) a0 a1) := by
 intro a0 a1 k
 obtain ⟨ih0, ih1⟩ := match_Assign.mono_l k
 unfold match_Assign.f
 repeat' first
     | (with_reducible exact ih0 _ _ _ _ _ _)
     | (with_reducible exact ih1 _ _ _ _ _)
     | (with_reducible exact match_augment.mono _ _ _ _ _)
     | (with_reducible exact match_table.mono _ _ _)
     | (with_reducible exact LeO.refl _)
     | (with_reducible exact LeO.none _)
     | (with_reducible refine LeO.ite ?_ ?_)
     | (with_reducible refine LeO.bind ?_ (fun _ => ?_))
     | exact ih0 _ _ _ _ _ _
     | exact ih1 _ _ _ _ _
     | exact match_augment.mono _ _ _ _ _
     | exact match_table.mono _ _ _
     | exact LeO.none _
     | refine LeO.ite ?_ ?_
     | refine LeO.bind ?_ (fun _ => ?_)
set_option maxHeartbeats 8000000 in
set_option maxRecDepth 100000 in
theorem match_Assign.calls (k : Nat) (a0 : Int) (A1 : Option Addr) (c1 : Nat) (l1 : List (S33)) (r1 : List Int) (r2 : Int) (w : World) (hr1 : Kd.C k33 w A1 l1.length l1) (hc1 : l1.length ≤ c1) (h : match_Assign.f k a0 l1 = some (r1, r2)) :
    Calls Try.prog 15 #[.int .i64 a0, .slice A1 l1.length c1] w fun e w' => ∃ v0_ : Value, e = .returned (.tuple #[v0_, .int .i64 r2]) ∧ Kd.R (Kd.int .i64) 3 w' w.heap.size (fun _ => True) v0_ r1 ∧ Below w.heap.size w w' := by
 have HR1 := Aside0.mk hr1
 have HC1 := Aside0.mk hc1
 clear hr1 hc1
 have HB := Aside0.mk (Below.refl w.heap.size w)
 have H : ((match_right.f a0 a0 l1).bind fun t521 => (if t521 = true then ((match_table.f k a0 l1).bind fun t522 => (if 0 ≤ a0 then (if (a0 : Int).toNat ≤ 35184372088832 then ((some (List.replicate (a0 : Int).toNat 0 : List Int)).bind fun y525 => (match_Assign.l0 k a0 t522 y525 (List.replicate (a0 : Int).toNat 0) (y525.length : Int) 0)) else (none)) else (none))) else (some (([] : List Int), 170)))) = some (r1, r2) := h
 clear h
 replace H := Option.bind_eq_some_iff.mp H
 obtain ⟨t521, A30, H⟩ := H
 replace H : (if t521 = true then ((match_table.f k a0 l1).bind fun t522 => (if 0 ≤ a0 then (if (a0 : Int).toNat ≤ 35184372088832 then ((some (List.replicate (a0 : Int).toNat 0 : List Int)).bind fun y525 => (match_Assign.l0 k a0 t522 y525 (List.replicate (a0 : Int).toNat 0) (y525.length : Int) 0)) else (none)) else (none))) else (some (([] : List Int), 170))) = some (r1, r2) := H
 have A3 := Aside0.mk A30
 clear A30
 by_cases c4 : t521 = true
 case neg =>
  replace c4 := Bool.eq_false_iff.mpr c4
  subst c4
  have H1 : (some (([] : List Int), 170)) = some (r1, r2) := by rw [if_neg (show ¬ (false = true) by decide)] at H; exact H
  clear H
  have H := H1
  clear H1
  simp only [Option.some.injEq, Prod.mk.injEq] at H
  obtain ⟨rfl, rfl⟩ := H
  go_enter Try.func15, Try.ntmps15
  go_wp2_with (first | ((with_reducible refine gate_callee (f := 24) rfl ?_); refine goesL_ (some 14) rfl rfl Try.func24 (by kernel_rfl) rfl #[.int .i64 a0, .int .i64 a0, .slice A1 l1.length c1] rfl (by (try simp only [List.map_toArray, List.map_cons, List.map_nil]); first | done | rfl | (simp only [List.length_drop, List.length_take]; rfl)) ?_; (with_reducible refine (match_right.calls a0 a0 _ _ l1 false _ ?side1 ?side2 A3.out).mono ?_); (case side1 => repeat (first | exact HR1.out | (with_reducible refine Kd.C_alloc ?_ _) | (with_reducible refine Kd.C_drewN ?_ _) | (with_reducible refine Kd.C_drew ?_))); (case side2 => exact HC1.out); rintro e w36 ⟨rfl, hb⟩; refine ⟨_, rfl, ?_⟩; have n0_ := Aside0.mk (below_step (by repeat (first | (with_reducible first | exact HB.out | apply below_alloc | apply pw_below_drewN | apply below_drew1) | exact HB.out)) hb); clear HB; have HB := n0_; clear n0_; (try clear hb); (try clear hb2); (try clear hk); (try clear hi)))
  go_ret2
  exact ⟨_, by first | rfl | (simp [errW_none, errW_some] <;> rfl) | (simp [*, errW_none, errW_some] <;> rfl), by first | exact Kd.R_nil _ _ _ _ _ | exact Kd.N_nil _ _ _ _ _ | exact Kd.V_nil _ _ _ _ _ | exact Kd.Q_nil _ _ _ _ _ | exact Kd.S_nil _ _ _ _ _, by repeat (first | (with_reducible first | exact HB.out | apply below_alloc | apply pw_below_drewN | apply below_drew1) | exact HB.out)⟩
 subst c4
 have H1 : ((match_table.f k a0 l1).bind fun t522 => (if 0 ≤ a0 then (if (a0 : Int).toNat ≤ 35184372088832 then ((some (List.replicate (a0 : Int).toNat 0 : List Int)).bind fun y525 => (match_Assign.l0 k a0 t522 y525 (List.replicate (a0 : Int).toNat 0) (y525.length : Int) 0)) else (none)) else (none))) = some (r1, r2) := by rw [if_pos rfl] at H; exact H
 clear H
 have H := H1
 clear H1
 replace H := Option.bind_eq_some_iff.mp H
 obtain ⟨t522, A50, H⟩ := H
 replace H : (if 0 ≤ a0 then (if (a0 : Int).toNat ≤ 35184372088832 then ((some (List.replicate (a0 : Int).toNat 0 : List Int)).bind fun y525 => (match_Assign.l0 k a0 t522 y525 (List.replicate (a0 : Int).toNat 0) (y525.length : Int) 0)) else (none)) else (none)) = some (r1, r2) := H
 have A5 := Aside0.mk A50
 clear A50
 by_cases c6 : 0 ≤ a0
 case neg => rw [if_neg c6] at H; exact absurd H (by simp)
 rw [if_pos c6] at H
 have c6b0 := eq_true c6
 have c6b1 : decide (0 ≤ a0) = true := decide_eq_true c6
 clear c6
 by_cases c7 : (a0 : Int).toNat ≤ 35184372088832
 case neg => rw [if_neg c7] at H; exact absurd H (by simp)
 rw [if_pos c7] at H
 have c7b0 := eq_true c7
 have c7b1 : decide ((a0 : Int).toNat ≤ 35184372088832) = true := decide_eq_true c7
 clear c7
 obtain ⟨y525, hy525⟩ : ∃ y_ : List Int, y_ = (List.replicate (a0 : Int).toNat 0) := ⟨_, rfl⟩
 replace H : (match_Assign.l0 k a0 t522 y525 (List.replicate (a0 : Int).toNat 0) (y525.length : Int) 0) = some (r1, r2) := by first | (rw [hy525]; with_reducible exact H) | (have H2_ := (Option.bind_some _ _).symm.trans H; rw [hy525]; with_reducible exact H2_) | (have H2_ := (Option.bind_some _ _).symm.trans H; with_reducible exact H2_) | with_reducible exact H | (rw [hy525]; exact H) | exact H
 have Ny525 := Aside0.mk hy525
 clear hy525
 obtain ⟨y528, hy528⟩ : ∃ y_ : List Int, y_ = (List.replicate (a0 : Int).toNat 0) := ⟨_, rfl⟩
 replace H : (match_Assign.l0 k a0 t522 y525 y528 (y525.length : Int) 0) = some (r1, r2) := by first | (rw [hy528]; with_reducible exact H) | (have H2_ := (Option.bind_some _ _).symm.trans H; rw [hy528]; with_reducible exact H2_) | (have H2_ := (Option.bind_some _ _).symm.trans H; with_reducible exact H2_) | with_reducible exact H | (rw [hy528]; exact H) | exact H
 have Ny528 := Aside0.mk hy528
 clear hy528
 have H' := Aside0.mk H
 clear H
 go_enter Try.func15, Try.ntmps15
 try go_wp2_with (first | ((with_reducible refine gate_callee (f := 24) rfl ?_); refine goesL_ (some 14) rfl rfl Try.func24 (by kernel_rfl) rfl #[.int .i64 a0, .int .i64 a0, .slice A1 l1.length c1] rfl (by (try simp only [List.map_toArray, List.map_cons, List.map_nil]); first | done | rfl | (simp only [List.length_drop, List.length_take]; rfl)) ?_; (with_reducible refine (match_right.calls a0 a0 _ _ l1 true _ ?side1 ?side2 A3.out).mono ?_); (case side1 => repeat (first | exact HR1.out | (with_reducible refine Kd.C_alloc ?_ _) | (with_reducible refine Kd.C_drewN ?_ _) | (with_reducible refine Kd.C_drew ?_))); (case side2 => exact HC1.out); rintro e w8 ⟨rfl, hb⟩; refine ⟨_, rfl, ?_⟩; have n0_ := Aside0.mk (below_step (by repeat (first | (with_reducible first | exact HB.out | apply below_alloc | apply pw_below_drewN | apply below_drew1) | exact HB.out)) hb); clear HB; have HB := n0_; clear n0_; (try clear hb); (try clear hb2); (try clear hk); (try clear hi)) | ((with_reducible refine gate_callee (f := 25) rfl ?_); refine goesL_ (some 18) rfl rfl Try.func25 (by kernel_rfl) rfl #[.int .i64 a0, .slice A1 l1.length c1] rfl (by (try simp only [List.map_toArray, List.map_cons, List.map_nil]); first | done | rfl | (simp only [List.length_drop, List.length_take]; rfl)) ?_; (with_reducible refine (match_table.calls k a0 _ _ l1 t522 _ ?side1 ?side2 A5.out).mono ?_); (case side1 => repeat (first | exact (Kd.C_below HR1.out HB.out) | (with_reducible refine Kd.C_alloc ?_ _) | (with_reducible refine Kd.C_drewN ?_ _) | (with_reducible refine Kd.C_drew ?_))); (case side2 => exact HC1.out); rintro e w9 ⟨v523, rfl, ho0, hb⟩; refine ⟨_, rfl, ?_⟩; have n0_ := Aside0.mk (Kd.S_lower ho0 (below_size (by repeat (first | (with_reducible first | exact HB.out | apply below_alloc | apply pw_below_drewN | apply below_drew1) | exact HB.out)))); have n1_ := Aside0.mk (below_step (by repeat (first | (with_reducible first | exact HB.out | apply below_alloc | apply pw_below_drewN | apply below_drew1) | exact HB.out)) hb); clear HB; have HO524 := n0_; have HB := n1_; clear n0_ n1_; (try clear hb); (try clear hb2); (try clear hk); (try clear hi); (try clear ho0)))
 have n0_ := Aside0.mk (Kd.S_drew HO524.out)
 have n1_ := Aside0.mk (below_drew1 HB.out)
 clear HO524
 clear HB
 have HO524 := n0_
 have HB := n1_
 clear n0_ n1_
 refine start_ (n := 6) (S := fun w' => True) (ds := []) (msk 6 0) (by kernel_rfl) rfl rfl trivial (fun hHeld => ?_)
 generalize w9.drew = w10 at HO524 HB hHeld ⊢
 refine pure_ (i := 0) (N := some 19) (v := ?_) (a' := ?_) (msk 6 1) rfl rfl (by kernel_rfl) (fun _ _ _ h => h) (Or.inl ⟨by rfl, ?_⟩) ?_ ?_
 rotate_left
 · intro w'; go_simp; with_reducible rfl
 rotate_left
 · simp only [Act.put, sq, i64_w, i32_w]; rfl
 refine pure_ (i := 2) (N := some 21) (v := ?_) (a' := ?_) (msk 6 5) rfl rfl (by kernel_rfl) (fun _ _ _ h => h) (Or.inl ⟨by rfl, ?_⟩) ?_ ?_
 rotate_left
 · intro w'; go_simp; with_reducible rfl
 rotate_left
 · simp only [Act.put, sq, i64_w, i32_w]; rfl
 refine join_ (σ := Value × Value) 1 (msk 6 31) (fun s_ => [(20, s_.1), (22, s_.2), (7, s_.1)]) (fun s_ w' => (Kd.S (Kd.slice 3 (Kd.int .i64)) 23 w' w.heap.size (fun k_ => some k_ ≠ (s_.1 : Value).ownBlock ∧ some k_ ≠ (s_.2 : Value).ownBlock) v523 t522) ∧ (Kd.R (Kd.int .i64) 3 w' w.heap.size (fun k_ => some k_ ≠ (s_.2 : Value).ownBlock) s_.1 y525) ∧ (Kd.R (Kd.int .i64) 3 w' w.heap.size (fun k_ => some k_ ≠ (s_.1 : Value).ownBlock) s_.2 y528) ∧ (Below w.heap.size w w')) ?_ ?_
 rotate_left
 · intro hCont
   refine two_ (i := 1) (j := 3) (Ni := some 20) (Nj := some 22) (msk 6 7) (msk 6 13) rfl rfl rfl rfl (by kernel_rfl) (by decide) (by decide) (fun K hK => ?_) (fun K hK => ?_)
   · skip
     refine Kd.R_make_step (Kd.int .i64) _ 3 (by rfl) (N := 20) rfl 23 _ _ rfl a0 rfl rfl Try.underlying23 (.int .i64 0) 8 info3 rfl (by decide) (by omega) 0 (ok := fun _ => True) (okp := fun _ => True) rfl (fun _ hk => hk) trivial (of_decide_eq_true (by first | (with_reducible assumption) | assumption)) (Nat.le_trans (Nat.mul_le_mul_right _ (of_decide_eq_true (by first | (with_reducible assumption) | assumption) : a0.toNat ≤ 35184372088832)) (by omega)) (Below.refl _ _) (Nat.le_refl _) ?_
     intro v526 w11 ho12 hb hg_ hnew_
     clear hg_ hnew_
     (first | rw [← Ny525.out] at ho12 | (simp only [Int.reduceToNat] at ho12; rw [← Ny525.out] at ho12))
     have n0_ := Aside0.mk (Kd.S_elder' (by (with_reducible repeat (first | apply Kd.S_alloc | apply Kd.S_drewN | apply Kd.S_drew)); exact HO524.out) (Kd.R_base ho12) hb)
     have n1_ := Aside0.mk (Kd.R_lower ho12 (below_size (by repeat (first | (with_reducible first | exact HB.out | apply below_alloc | apply pw_below_drewN | apply below_drew1) | exact HB.out))))
     have n2_ := Aside0.mk (below_step (by repeat (first | (with_reducible first | exact HB.out | apply below_alloc | apply pw_below_drewN | apply below_drew1) | exact HB.out)) hb)
     clear HO524
     clear HB
     have HO524 := n0_
     have HO527 := n1_
     have HB := n2_
     clear n0_ n1_ n2_
     clear hb ho12
     refine hK.out _ _ trivial (fun hHeld => ?_)
     clear hK K
     refine norm_ (a' := ?_) ?_ ?_
     rotate_left
     · show Act.put _ (some 20) _ = _
       simp only [Act.put, sq, i64_w, i32_w]
       rfl
     refine pure_ (i := 4) (N := some 7) (v := ?_) (a' := ?_) (msk 6 23) rfl rfl (by kernel_rfl) (fun _ _ _ h => h) (Or.inl ⟨by rfl, ?_⟩) ?_ ?_
     rotate_left
     · intro w'; go_simp; with_reducible rfl
     rotate_left
     · simp only [Act.put, sq, i64_w, i32_w]; rfl
     refine one_ (i := 3) (N := some 22) (msk 6 31) rfl rfl (by kernel_rfl) (by decide) (fun K hK => ?_)
     refine Kd.R_make_step (Kd.int .i64) _ 3 (by rfl) (N := 22) rfl 23 _ _ rfl a0 rfl rfl Try.underlying23 (.int .i64 0) 8 info3 rfl (by decide) (by omega) 0 (ok := fun _ => True) (okp := fun _ => True) rfl (fun _ hk => hk) trivial (of_decide_eq_true (by first | (with_reducible assumption) | assumption)) (Nat.le_trans (Nat.mul_le_mul_right _ (of_decide_eq_true (by first | (with_reducible assumption) | assumption) : a0.toNat ≤ 35184372088832)) (by omega)) (Below.refl _ _) (Nat.le_refl _) ?_
     intro v529 w13 ho14 hb hg_ hnew_
     clear hg_ hnew_
     (first | rw [← Ny528.out] at ho14 | (simp only [Int.reduceToNat] at ho14; rw [← Ny528.out] at ho14))
     have n0_ := Aside0.mk (Kd.S_elder' (by (with_reducible repeat (first | apply Kd.S_alloc | apply Kd.S_drewN | apply Kd.S_drew)); exact HO524.out) (Kd.R_base ho14) hb)
     have n1_ := Aside0.mk (Kd.R_elder' (by (with_reducible repeat (first | apply Kd.R_alloc | apply Kd.R_drewN | apply Kd.R_drew)); exact HO527.out) (Kd.R_base ho14) hb)
     have n2_ := Aside0.mk (Kd.R_lower (Kd.R_new' ho14 (Kd.R_lt (by (with_reducible repeat (first | apply Kd.R_alloc | apply Kd.R_drewN | apply Kd.R_drew)); exact HO527.out))) (below_size (by repeat (first | (with_reducible first | exact HB.out | apply below_alloc | apply pw_below_drewN | apply below_drew1) | exact HB.out))))
     have n3_ := Aside0.mk (below_step (by repeat (first | (with_reducible first | exact HB.out | apply below_alloc | apply pw_below_drewN | apply below_drew1) | exact HB.out)) hb)
     clear HO524
     clear HO527
     clear HB
     have HO524 := n0_
     have HO527 := n1_
     have HO530 := n2_
     have HB := n3_
     clear n0_ n1_ n2_ n3_
     clear hb ho14
     refine hK.out _ _ trivial (fun hHeld => ?_)
     clear hK K
     refine norm_ (a' := ?_) ?_ ?_
     rotate_left
     · show Act.put _ (some 22) _ = _
       simp only [Act.put, sq, i64_w, i32_w]
       rfl
     exact norm_ (by simp only [putAll, Act.put, List.setIfInBounds_toArray, List.set_cons_zero, List.set_cons_succ]) (hCont (v526, v529) _ ⟨(by (with_reducible repeat (first | apply Kd.S_alloc | apply Kd.S_drewN | apply Kd.S_drew)); exact Kd.S_mono HO524.out (fun _ hk => ⟨hk.1.2, hk.2⟩)), (by (with_reducible repeat (first | apply Kd.R_alloc | apply Kd.R_drewN | apply Kd.R_drew)); exact Kd.R_mono HO527.out (fun _ hk => hk.2)), (by (with_reducible repeat (first | apply Kd.R_alloc | apply Kd.R_drewN | apply Kd.R_drew)); exact Kd.R_mono HO530.out (fun _ hk => hk.2)), (by repeat (first | (with_reducible first | exact HB.out | apply below_alloc | apply pw_below_drewN | apply below_drew1) | exact HB.out))⟩)
   · skip
     refine Kd.R_make_step (Kd.int .i64) _ 3 (by rfl) (N := 22) rfl 23 _ _ rfl a0 rfl rfl Try.underlying23 (.int .i64 0) 8 info3 rfl (by decide) (by omega) 0 (ok := fun _ => True) (okp := fun _ => True) rfl (fun _ hk => hk) trivial (of_decide_eq_true (by first | (with_reducible assumption) | assumption)) (Nat.le_trans (Nat.mul_le_mul_right _ (of_decide_eq_true (by first | (with_reducible assumption) | assumption) : a0.toNat ≤ 35184372088832)) (by omega)) (Below.refl _ _) (Nat.le_refl _) ?_
     intro v529 w11 ho12 hb hg_ hnew_
     clear hg_ hnew_
     (first | rw [← Ny528.out] at ho12 | (simp only [Int.reduceToNat] at ho12; rw [← Ny528.out] at ho12))
     have n0_ := Aside0.mk (Kd.S_elder' (by (with_reducible repeat (first | apply Kd.S_alloc | apply Kd.S_drewN | apply Kd.S_drew)); exact HO524.out) (Kd.R_base ho12) hb)
     have n1_ := Aside0.mk (Kd.R_lower ho12 (below_size (by repeat (first | (with_reducible first | exact HB.out | apply below_alloc | apply pw_below_drewN | apply below_drew1) | exact HB.out))))
     have n2_ := Aside0.mk (below_step (by repeat (first | (with_reducible first | exact HB.out | apply below_alloc | apply pw_below_drewN | apply below_drew1) | exact HB.out)) hb)
     clear HO524
     clear HB
     have HO524 := n0_
     have HO530 := n1_
     have HB := n2_
     clear n0_ n1_ n2_
     clear hb ho12
     refine hK.out _ _ trivial (fun hHeld => ?_)
     clear hK K
     refine norm_ (a' := ?_) ?_ ?_
     rotate_left
     · show Act.put _ (some 22) _ = _
       simp only [Act.put, sq, i64_w, i32_w]
       rfl
     refine one_ (i := 1) (N := some 20) (msk 6 15) rfl rfl (by kernel_rfl) (by decide) (fun K hK => ?_)
     refine Kd.R_make_step (Kd.int .i64) _ 3 (by rfl) (N := 20) rfl 23 _ _ rfl a0 rfl rfl Try.underlying23 (.int .i64 0) 8 info3 rfl (by decide) (by omega) 0 (ok := fun _ => True) (okp := fun _ => True) rfl (fun _ hk => hk) trivial (of_decide_eq_true (by first | (with_reducible assumption) | assumption)) (Nat.le_trans (Nat.mul_le_mul_right _ (of_decide_eq_true (by first | (with_reducible assumption) | assumption) : a0.toNat ≤ 35184372088832)) (by omega)) (Below.refl _ _) (Nat.le_refl _) ?_
     intro v526 w13 ho14 hb hg_ hnew_
     clear hg_ hnew_
     (first | rw [← Ny525.out] at ho14 | (simp only [Int.reduceToNat] at ho14; rw [← Ny525.out] at ho14))
     have n0_ := Aside0.mk (Kd.S_elder' (by (with_reducible repeat (first | apply Kd.S_alloc | apply Kd.S_drewN | apply Kd.S_drew)); exact HO524.out) (Kd.R_base ho14) hb)
     have n1_ := Aside0.mk (Kd.R_elder' (by (with_reducible repeat (first | apply Kd.R_alloc | apply Kd.R_drewN | apply Kd.R_drew)); exact HO530.out) (Kd.R_base ho14) hb)
     have n2_ := Aside0.mk (Kd.R_lower (Kd.R_new' ho14 (Kd.R_lt (by (with_reducible repeat (first | apply Kd.R_alloc | apply Kd.R_drewN | apply Kd.R_drew)); exact HO530.out))) (below_size (by repeat (first | (with_reducible first | exact HB.out | apply below_alloc | apply pw_below_drewN | apply below_drew1) | exact HB.out))))
     have n3_ := Aside0.mk (below_step (by repeat (first | (with_reducible first | exact HB.out | apply below_alloc | apply pw_below_drewN | apply below_drew1) | exact HB.out)) hb)
     clear HO524
     clear HO530
     clear HB
     have HO524 := n0_
     have HO530 := n1_
     have HO527 := n2_
     have HB := n3_
     clear n0_ n1_ n2_ n3_
     clear hb ho14
     refine hK.out _ _ trivial (fun hHeld => ?_)
     clear hK K
     refine norm_ (a' := ?_) ?_ ?_
     rotate_left
     · show Act.put _ (some 20) _ = _
       simp only [Act.put, sq, i64_w, i32_w]
       rfl
     refine pure_ (i := 4) (N := some 7) (v := ?_) (a' := ?_) (msk 6 31) rfl rfl (by kernel_rfl) (fun _ _ _ h => h) (Or.inl ⟨by rfl, ?_⟩) ?_ ?_
     rotate_left
     · intro w'; go_simp; with_reducible rfl
     rotate_left
     · simp only [Act.put, sq, i64_w, i32_w]; rfl
     exact norm_ (by simp only [putAll, Act.put, List.setIfInBounds_toArray, List.set_cons_zero, List.set_cons_succ]) (hCont (v526, v529) _ ⟨(by (with_reducible repeat (first | apply Kd.S_alloc | apply Kd.S_drewN | apply Kd.S_drew)); exact Kd.S_mono HO524.out (fun _ hk => ⟨hk.2, hk.1.2⟩)), (by (with_reducible repeat (first | apply Kd.R_alloc | apply Kd.R_drewN | apply Kd.R_drew)); exact Kd.R_mono HO527.out (fun _ hk => hk.2)), (by (with_reducible repeat (first | apply Kd.R_alloc | apply Kd.R_drewN | apply Kd.R_drew)); exact Kd.R_mono HO530.out (fun _ hk => hk.2)), (by repeat (first | (with_reducible first | exact HB.out | apply below_alloc | apply pw_below_drewN | apply below_drew1) | exact HB.out))⟩)
 rintro ⟨v526, v529⟩ w15 ⟨h0_, h1_, h2_, h3_⟩
 have n0_ : Aside0 (Kd.S (Kd.slice 3 (Kd.int .i64)) 23 w15 w.heap.size (fun k_ => some k_ ≠ (v526 : Value).ownBlock ∧ some k_ ≠ (v529 : Value).ownBlock) v523 t522) := ⟨h0_⟩
 have n1_ : Aside0 (Kd.R (Kd.int .i64) 3 w15 w.heap.size (fun k_ => some k_ ≠ (v529 : Value).ownBlock) v526 y525) := ⟨h1_⟩
 have n2_ : Aside0 (Kd.R (Kd.int .i64) 3 w15 w.heap.size (fun k_ => some k_ ≠ (v526 : Value).ownBlock) v529 y528) := ⟨h2_⟩
 have n3_ : Aside0 (Below w.heap.size w w15) := ⟨h3_⟩
 clear HO524
 clear HB
 clear h0_ h1_ h2_ h3_
 have HO524 := n0_
 have HO527 := n1_
 have HO530 := n2_
 have HB := n3_
 clear n0_ n1_ n2_ n3_
 have hHeld := trivial
 refine norm_ (a' := ?_) ?_ ?_
 rotate_left
 · simp only [putAll, Act.put, List.setIfInBounds_toArray, List.set_cons_zero, List.set_cons_succ]
   rfl
 refine pure_ (i := 5) (N := some 8) (v := ?_) (a' := ?_) (msk 6 63) rfl rfl (by kernel_rfl) (fun _ _ _ h => h) (Or.inl ⟨by rfl, ?_⟩) ?_ ?_
 rotate_left
 · intro w'; go_simp; with_reducible rfl
 rotate_left
 · simp only [Act.put, sq, i64_w, i32_w]; rfl
 refine done_ (by kernel_rfl) ?_
 obtain ⟨Ao16, co16, eo16⟩ := Kd.R_slice HO527.out
 subst eo16
 try go_wp2
 go_loopg [25] k (fun kq v25 w' => ∃ (x7_1 : List Int) (x8_1 : List Int) (x25_1 : Int), v25 = .int .i64 x25_1 ∧ Aside0 (match_Assign.l0 kq a0 t522 x7_1 x8_1 (y525.length : Int) x25_1 = some (r1, r2)) ∧ Aside0 (kq ≤ k) ∧ Aside0 (Kd.S (Kd.slice 3 (Kd.int .i64)) 23 w' w.heap.size (fun k_ => some k_ ≠ ((.slice Ao16 y525.length co16) : Value).ownBlock ∧ some k_ ≠ (v529 : Value).ownBlock) v523 t522) ∧ Aside0 (Kd.R (Kd.int .i64) 3 w' w.heap.size (fun k_ => some k_ ≠ (v529 : Value).ownBlock) (.slice Ao16 y525.length co16) x7_1) ∧ Aside0 (Kd.R (Kd.int .i64) 3 w' w.heap.size (fun k_ => some k_ ≠ ((.slice Ao16 y525.length co16) : Value).ownBlock) v529 x8_1) ∧ Aside0 (Below w.heap.size w w'))
 case atStart => exact ⟨(y525), (y528), (0), (by first | rfl | (simp; done) | (simp [*]; done)), H', ⟨Nat.le_refl _⟩, ⟨by (with_reducible repeat (first | apply Kd.S_alloc | apply Kd.S_drewN | apply Kd.S_drew)); exact HO524.out⟩, ⟨by (with_reducible repeat (first | apply Kd.R_alloc | apply Kd.R_drewN | apply Kd.R_drew)); exact HO527.out⟩, ⟨by (with_reducible repeat (first | apply Kd.R_alloc | apply Kd.R_drewN | apply Kd.R_drew)); exact HO530.out⟩, ⟨by repeat (first | (with_reducible first | exact HB.out | apply below_alloc | apply pw_below_drewN | apply below_drew1) | exact HB.out)⟩⟩
 case round =>
  clear H'
  try clear c1
  try clear c2
  try clear p2
  try clear c4
  try clear c6
  try clear c6b0
  try clear c6b1
  try clear c7
  try clear c7b0
  try clear c7b1
  try clear c15
  obtain ⟨x7_1, x8_1, x25_1, rfl, HA, HK1, HO_6, HO_7, HO_8, HB⟩ := hrel
  have hl7_1 := (Kd.R_reads' HO_7.out).1
  rw [hl7_1] at HO_7
  (try simp only [hl7_1])
  (try simp only [hl7_1] at HO_6)
  (try simp only [hl7_1] at HO_8)
  cases gk with
  | zero => exact absurd HA.out (by simp [match_Assign.l0])
  | succ k1 =>
   have H := HA.out
   clear HA
   simp only [match_Assign.l0] at H
   by_cases c17 : x25_1 < (y525.length : Int)
   case pos =>
    rw [if_pos c17] at H
    have c17b0 : decide (x25_1 < (y525.length : Int)) = true := decide_eq_true c17
    clear c17
    (try (have c17b0r := c17b0; simp only [hl7_1] at c17b0r))
    by_cases c18 : 0 ≤ x25_1
    case neg => rw [if_neg c18] at H; exact absurd H (by simp)
    rw [if_pos c18] at H
    have c18b0 : decide (0 ≤ x25_1) = true := decide_eq_true c18
    clear c18
    (try (have c18b0r := c18b0; simp only [hl7_1] at c18b0r))
    by_cases c19 : x25_1 < (x7_1.length : Int)
    case neg => rw [if_neg c19] at H; exact absurd H (by simp)
    rw [if_pos c19] at H
    have c19b0 : decide (x25_1 < (x7_1.length : Int)) = true := decide_eq_true c19
    clear c19
    (try (have c19b0r := c19b0; simp only [hl7_1] at c19b0r))
    obtain ⟨y531, hy531⟩ : ∃ y_ : List Int, y_ = (x7_1.set (x25_1 : Int).toNat (-1)) := ⟨_, rfl⟩
    replace H : (if x25_1 < (x8_1.length : Int) then (match_Assign.l0 k1 a0 t522 y531 (x8_1.set (x25_1 : Int).toNat (-1)) (y525.length : Int) (wrap64 (x25_1 + 1))) else (none)) = some (r1, r2) := by first | (rw [hy531]; with_reducible exact H) | (have H2_ := (Option.bind_some _ _).symm.trans H; rw [hy531]; with_reducible exact H2_) | (have H2_ := (Option.bind_some _ _).symm.trans H; with_reducible exact H2_) | with_reducible exact H | (rw [hy531]; exact H) | exact H
    have Ny531 := Aside0.mk hy531
    clear hy531
    by_cases c21 : x25_1 < (x8_1.length : Int)
    case neg => rw [if_neg c21] at H; exact absurd H (by simp)
    rw [if_pos c21] at H
    have c21b0 : decide (x25_1 < (x8_1.length : Int)) = true := decide_eq_true c21
    clear c21
    (try (have c21b0r := c21b0; simp only [hl7_1] at c21b0r))
    obtain ⟨y532, hy532⟩ : ∃ y_ : List Int, y_ = (x8_1.set (x25_1 : Int).toNat (-1)) := ⟨_, rfl⟩
    replace H : (match_Assign.l0 k1 a0 t522 y531 y532 (y525.length : Int) (wrap64 (x25_1 + 1))) = some (r1, r2) := by first | (rw [hy532]; with_reducible exact H) | (have H2_ := (Option.bind_some _ _).symm.trans H; rw [hy532]; with_reducible exact H2_) | (have H2_ := (Option.bind_some _ _).symm.trans H; with_reducible exact H2_) | with_reducible exact H | (rw [hy532]; exact H) | exact H
    have Ny532 := Aside0.mk hy532
    clear hy532
    have H' := Aside0.mk H
    clear H
    have p20 : 0 ≤ (x25_1 : Int) := of_decide_eq_true (by first | (with_reducible assumption) | assumption)
    have q20 : (x25_1 : Int) < ((x7_1.length : Int) : Int) := of_decide_eq_true (by first | (with_reducible assumption) | assumption)
    obtain ⟨go20, co20, eo20, gb20, gl20, cl20, HG20⟩ := Kd.R_form HO_7.out (by omega)
    (first | cases eo20 | (injection eo20 with ea_ en_ ec_; (first | subst ea_ | (injection ea_ with ea_; subst ea_)); subst ec_; clear en_))
    have GB20 := Aside0.mk gb20
    have GG20 := Aside0.mk HG20
    clear gb20 gl20 HG20
    obtain ⟨hx20_0, hf20_0⟩ := Kd.R_celln 0 HO_7.out (x25_1 : Int) p20 q20
    replace p20 := eq_true p20
    replace q20 := eq_true q20
    have HP23 := Kd.R_putg HO_7.out (x25_1 : Int) (-1)
    go_wp2_with (first | ((with_reducible refine gate_store (t := 3) (p := 32) rfl ?_); refine store_event (t := 3) (p := 32) (v := ?vo_w24) (w1 := (wr.setCell ⟨go20, (x25_1 : Int).toNat, none⟩ (.int .i64 (-1)))) ?hg ?ho ?hn ?hr ?_; (case ho => rfl); (case hg => rfl); (case hn => rfl); (case hr => first | (go_simp; done) | (go_simp; rfl)); intro w24 hw; have hg : wr.grownBy w24 (some go20) := (by rw [hw]; exact HP23.2); have hp_ : Kd.R (Kd.int .i64) 3 w24 w.heap.size (fun k_ => some k_ ≠ (v529 : Value).ownBlock) (.slice (some ⟨go20, 0, none⟩) x7_1.length co16) y531 := (by rw [hw, Ny531.out]; exact HP23.1); clear HP23; have n0_ := Aside0.mk (Kd.S_after (v := (.slice (some ⟨go20, 0, none⟩) x7_1.length co16)) (v1 := (.slice (some ⟨go20, 0, none⟩) x7_1.length co16)) (ok := (fun k_ => some k_ ≠ (v529 : Value).ownBlock)) (by (with_reducible repeat (first | apply Kd.S_alloc | apply Kd.S_drewN | apply Kd.S_drew)); exact Kd.S_mono HO_6.out (fun _ hk => ⟨hk.2, hk.1⟩)) hg (.inl rfl)); have n1_ := Aside0.mk (hp_); have n2_ := Aside0.mk (Kd.R_after (v := (.slice (some ⟨go20, 0, none⟩) x7_1.length co16)) (v1 := (.slice (some ⟨go20, 0, none⟩) x7_1.length co16)) (ok := (fun _ => True)) (by (with_reducible repeat (first | apply Kd.R_alloc | apply Kd.R_drewN | apply Kd.R_drew)); exact Kd.R_mono HO_8.out (fun _ hk => ⟨trivial, hk⟩)) hg (.inl rfl)); have n3_ := Aside0.mk ((by rw [hw]; exact below_set (HB.out) GB20.out : Below w.heap.size w w24)); clear HO_6; clear HO_7; clear HO_8; clear HB; have HO_6 := n0_; have HO_7 := n1_; have HO_8 := n2_; have HB := n3_; clear n0_ n1_ n2_ n3_; clear hg hw hp_; have p22 : 0 ≤ (x25_1 : Int) := of_decide_eq_true (by first | (with_reducible assumption) | assumption); have q22 : (x25_1 : Int) < ((x8_1.length : Int) : Int) := of_decide_eq_true (by first | (with_reducible assumption) | assumption); obtain ⟨go22, co22, eo22, gb22, gl22, cl22, HG22⟩ := Kd.R_form HO_8.out (by omega); (first | cases eo22 | (injection eo22 with ea_ en_ ec_; (first | subst ea_ | (injection ea_ with ea_; subst ea_)); subst ec_; clear en_)); have GB22 := Aside0.mk gb22; have GG22 := Aside0.mk HG22; clear gb22 gl22 HG22; obtain ⟨hx22_0, hf22_0⟩ := Kd.R_celln 0 HO_8.out (x25_1 : Int) p22 q22; replace p22 := eq_true p22; replace q22 := eq_true q22; have n_ := Aside0.mk (Kd.R_mono (ok' := (fun k_ => some k_ ≠ (.slice (some ⟨go20, 0, none⟩) x7_1.length co16 : Value).ownBlock)) HO_8.out (fun k_ hk => hk.2)); clear HO_8; have HO_8 := n_; clear n_; obtain ⟨hy25_, hz25_⟩ := Kd.R_celln 0 HO_8.out (x25_1 : Int) (of_decide_eq_true (by first | (with_reducible assumption) | assumption)) (of_decide_eq_true (by first | (with_reducible assumption) | assumption)); have HP25 := Kd.R_putg HO_8.out (x25_1 : Int) (-1)) | ((with_reducible refine gate_store (t := 3) (p := 33) rfl ?_); refine store_event (t := 3) (p := 33) (v := ?vo_w26) (w1 := (w24.setCell ⟨go22, (x25_1 : Int).toNat, none⟩ (.int .i64 (-1)))) ?hg ?ho ?hn ?hr ?_; (case ho => rfl); (case hg => rfl); (case hn => rfl); (case hr => first | (go_simp; done) | (go_simp; rfl)); intro w26 hw; have hg : w24.grownBy w26 (some go22) := (by rw [hw]; exact HP25.2); have hp_ : Kd.R (Kd.int .i64) 3 w26 w.heap.size (fun k_ => some k_ ≠ (.slice (some ⟨go20, 0, none⟩) x7_1.length co16 : Value).ownBlock) (.slice (some ⟨go22, 0, none⟩) x8_1.length co22) y532 := (by rw [hw, Ny532.out]; exact HP25.1); clear HP25; have n0_ := Aside0.mk (Kd.S_after (v := (.slice (some ⟨go22, 0, none⟩) x8_1.length co22)) (v1 := (.slice (some ⟨go22, 0, none⟩) x8_1.length co22)) (ok := (fun k_ => some k_ ≠ (.slice (some ⟨go20, 0, none⟩) x7_1.length co16 : Value).ownBlock)) (by (with_reducible repeat (first | apply Kd.S_alloc | apply Kd.S_drewN | apply Kd.S_drew)); exact Kd.S_mono HO_6.out (fun _ hk => ⟨hk.2, hk.1⟩)) hg (.inl rfl)); have n1_ := Aside0.mk (Kd.R_after (v := (.slice (some ⟨go22, 0, none⟩) x8_1.length co22)) (v1 := (.slice (some ⟨go22, 0, none⟩) x8_1.length co22)) (ok := (fun _ => True)) (by (with_reducible repeat (first | apply Kd.R_alloc | apply Kd.R_drewN | apply Kd.R_drew)); exact Kd.R_mono HO_7.out (fun _ hk => ⟨trivial, hk⟩)) hg (.inl rfl)); have n2_ := Aside0.mk (hp_); have n3_ := Aside0.mk ((by rw [hw]; exact below_set (HB.out) GB22.out : Below w.heap.size w w26)); clear HO_6; clear HO_7; clear HO_8; clear HB; have HO_6 := n0_; have HO_7 := n1_; have HO_8 := n2_; have HB := n3_; clear n0_ n1_ n2_ n3_; clear hg hw hp_))
    (try simp only [← hl7_1])
    (first | go_roundg k1 | (refine Handed.intro k1 ?measure ?_; rotate_left; go_step; (repeat apply Exists.intro); (refine ⟨?rel, ?fr_⟩); (case fr_ => (simp only [add_plain]; rfl))))
    case measure => have := HK1.out; omega
    case rel => exact ⟨(y531), (y532), (wrap64 (x25_1 + 1)), (by first | rfl | (simp; done) | (simp [*]; done)), H', ⟨by have := HK1.out; omega⟩, ⟨by (try simp only [hl7_1]); (with_reducible repeat (first | apply Kd.S_alloc | apply Kd.S_drewN | apply Kd.S_drew)); exact HO_6.out⟩, ⟨by (try simp only [hl7_1]); (with_reducible repeat (first | apply Kd.R_alloc | apply Kd.R_drewN | apply Kd.R_drew)); exact Kd.R_mono HO_7.out (fun _ hk => hk.2)⟩, ⟨by (try simp only [hl7_1]); (with_reducible repeat (first | apply Kd.R_alloc | apply Kd.R_drewN | apply Kd.R_drew)); exact HO_8.out⟩, ⟨by repeat (first | (with_reducible first | exact HB.out | apply below_alloc | apply pw_below_drewN | apply below_drew1) | exact HB.out)⟩⟩
   rw [if_neg c17] at H
   have c17b0 : decide (x25_1 < (y525.length : Int)) = false := decide_eq_false c17
   clear c17
   (try (have c17b0r := c17b0; simp only [hl7_1] at c17b0r))
   have H' := Aside0.mk H
   clear H
   go_wp2
   go_loopg [36] k1 (fun kq v36 w' => ∃ (x7_2 : List Int) (x8_2 : List Int) (x36_2 : Int), v36 = .int .i64 x36_2 ∧ Aside0 (match_Assign.l1 kq t522 x7_2 x8_2 a0 x36_2 = some (r1, r2)) ∧ Aside0 (kq ≤ k1) ∧ Aside0 (Kd.S (Kd.slice 3 (Kd.int .i64)) 23 w' w.heap.size (fun k_ => some k_ ≠ ((.slice Ao16 x7_1.length co16) : Value).ownBlock ∧ some k_ ≠ (v529 : Value).ownBlock) v523 t522) ∧ Aside0 (Kd.R (Kd.int .i64) 3 w' w.heap.size (fun k_ => some k_ ≠ (v529 : Value).ownBlock) (.slice Ao16 x7_1.length co16) x7_2) ∧ Aside0 (Kd.R (Kd.int .i64) 3 w' w.heap.size (fun k_ => some k_ ≠ ((.slice Ao16 x7_1.length co16) : Value).ownBlock) v529 x8_2) ∧ Aside0 (Below w.heap.size w w'))
   case atStart => exact ⟨(x7_1), (x8_1), (0), (by first | rfl | (simp; done) | (simp [*]; done)), H', ⟨Nat.le_refl _⟩, ⟨by (try simp only [hl7_1]); (with_reducible repeat (first | apply Kd.S_alloc | apply Kd.S_drewN | apply Kd.S_drew)); exact HO_6.out⟩, ⟨by (try simp only [hl7_1]); (with_reducible repeat (first | apply Kd.R_alloc | apply Kd.R_drewN | apply Kd.R_drew)); exact HO_7.out⟩, ⟨by (try simp only [hl7_1]); (with_reducible repeat (first | apply Kd.R_alloc | apply Kd.R_drewN | apply Kd.R_drew)); exact HO_8.out⟩, ⟨by repeat (first | (with_reducible first | exact HB.out | apply below_alloc | apply pw_below_drewN | apply below_drew1) | exact HB.out)⟩⟩
   case round =>
    clear H'
    try clear c1
    try clear c2
    try clear p2
    try clear q2
    try clear hx2
    try clear hf2
    try clear c4
    try clear c6
    try clear c6b0
    try clear c6b1
    try clear p6
    try clear c7
    try clear c7b0
    try clear c7b1
    try clear c15
    try clear c17
    try clear c17b0
    try clear c18
    try clear c18b0
    try clear c19
    try clear c19b0
    try clear p20
    try clear q20
    try clear hx20
    try clear hf20
    try clear c21
    try clear c21b0
    try clear p22
    try clear q22
    try clear hx22
    try clear hf22
    try clear c24
    try clear c25
    try clear hx20_0
    try clear hx22_0
    try clear p2
    try clear p20
    try clear p22
    try clear q20
    try clear q22
    obtain ⟨x7_2, x8_2, x36_2, rfl, HA, HK2, HO_6, HO_7, HO_8, HB⟩ := hrel
    have hl7_2 := (Kd.R_reads' HO_7.out).1
    rw [hl7_2] at HO_7
    (try simp only [hl7_2])
    (try simp only [hl7_2] at HO_6)
    (try simp only [hl7_2] at HO_8)
    cases gk with
    | zero => exact absurd HA.out (by simp [match_Assign.l1])
    | succ k2 =>
     have H := HA.out
     clear HA
     simp only [match_Assign.l1] at H
     by_cases c27 : x36_2 < a0
     case neg =>
      rw [if_neg c27] at H
      have c27b0 : decide (x36_2 < a0) = false := decide_eq_false c27
      clear c27
      (try (have c27b0r := c27b0; simp only [hl7_1, hl7_2] at c27b0r))
      simp only [Option.some.injEq, Prod.mk.injEq] at H
      obtain ⟨rfl, rfl⟩ := H
      go_wp2
      go_ret2
      exact ⟨_, by first | rfl | (simp [errW_none, errW_some] <;> rfl) | (simp [*, errW_none, errW_some] <;> rfl), by (with_reducible repeat (first | apply Kd.R_alloc | apply Kd.R_drewN | apply Kd.R_drew)); exact Kd.R_mono HO_7.out (fun _ hk => trivial), by repeat (first | (with_reducible first | exact HB.out | apply below_alloc | apply pw_below_drewN | apply below_drew1) | exact HB.out)⟩
     rw [if_pos c27] at H
     have c27b0 : decide (x36_2 < a0) = true := decide_eq_true c27
     clear c27
     (try (have c27b0r := c27b0; simp only [hl7_1, hl7_2] at c27b0r))
     replace H := Option.bind_eq_some_iff.mp H
     obtain ⟨⟨t533, t534, t535⟩, A280, H⟩ := H
     replace H : (if t533 = true then (match_Assign.l1 k2 t522 t534 t535 a0 (wrap64 (x36_2 + 1))) else (some (([] : List Int), 190))) = some (r1, r2) := H
     have A28 := Aside0.mk A280
     clear A280
     by_cases c29 : t533 = true
     case neg =>
      replace c29 := Bool.eq_false_iff.mpr c29
      subst c29
      have H1 : (some (([] : List Int), 190)) = some (r1, r2) := by rw [if_neg (show ¬ (false = true) by decide)] at H; exact H
      clear H
      have H := H1
      clear H1
      simp only [Option.some.injEq, Prod.mk.injEq] at H
      obtain ⟨rfl, rfl⟩ := H
      obtain ⟨Ao33, co33, eo33⟩ := Kd.S_slice HO_6.out
      subst eo33
      obtain ⟨Ao34, co34, eo34⟩ := Kd.R_slice HO_8.out
      subst eo34
      go_wp2_with (first | ((with_reducible refine gate_callee (f := 26) rfl ?_); refine goesL_ (some 43) rfl rfl Try.func26 (by kernel_rfl) rfl #[.int .i64 x36_2, .slice Ao33 t522.length co33, .slice Ao16 x7_2.length co16, .slice Ao34 x8_2.length co34] rfl (by (try simp only [List.map_toArray, List.map_cons, List.map_nil]); first | done | rfl | (simp only [List.length_drop, List.length_take]; rfl)) ?_; (with_reducible refine (match_augment.calls k2 x36_2 _ _ t522 (fun k_ => some k_ = (.slice Ao16 x7_2.length co16 : Value).ownBlock) (.slice Ao16 x7_2.length co16) x7_2 (fun k_ => some k_ = (.slice Ao34 x8_2.length co34 : Value).ownBlock) (.slice Ao34 x8_2.length co34) x8_2 false t534 t535 w _ ?side1 ?side2 ?side3 ?side4 ?side5 ?side6 ?side7 A28.out).mono ?_); (case side1 => repeat (first | (with_reducible first | exact HB.out | apply below_alloc | apply pw_below_drewN | apply below_drew1) | exact HB.out)); (case side2 => exact Kd.C_kept_own ((Kd.S_R HO_6.out)) (fun k_ hk_ hs_ => Or.elim hs_ (fun e_ => (hk_.1) e_) (fun e_ => (hk_.2) e_))); (case side3 => exact (Kd.S_reads' HO_6.out).2.1); (case side4 => exact Kd.R_tight rfl HO_7.out); (case side5 => exact fun k_ e_ => (HO_7.out.1 k_ e_.symm)); (case side6 => exact Kd.R_tight rfl HO_8.out); (case side7 => exact fun k_ e_ => (HO_8.out.1 k_ e_.symm)); rintro e w35 ⟨rfl, hy0, hy1, hb, hkp⟩; refine ⟨_, rfl, ?_⟩; have n0_ := Aside0.mk (Kd.S_mono (ok' := fun k_ => some k_ ≠ (.slice Ao16 x7_2.length co16 : Value).ownBlock ∧ some k_ ≠ (.slice Ao34 x8_2.length co34 : Value).ownBlock) (Kd.S_keptB (HO_6.out) hkp (fun k_ hk_ hs_ => Or.elim hs_ (fun e_ => (hk_.1) e_) (fun e_ => (hk_.2) e_))) (fun k_ hk_ => ⟨hk_.1.1, hk_.1.2⟩)); have n1_ := Aside0.mk (Kd.R_reok rfl hy0 (fun k_ e_ => HO_7.out.1 k_ e_)); have n2_ := Aside0.mk (Kd.R_reok rfl hy1 (fun k_ e_ => HO_8.out.1 k_ e_)); have n3_ := Aside0.mk (hb); clear HO_6; clear HO_7; clear HO_8; clear HB; have HO_6 := n0_; have HO_7 := n1_; have HO_8 := n2_; have HB := n3_; clear n0_ n1_ n2_ n3_; (try clear hb); (try clear hkp); (try clear hy0); (try clear hy1)))
      go_ret2
      exact ⟨_, by first | rfl | (simp [errW_none, errW_some] <;> rfl) | (simp [*, errW_none, errW_some] <;> rfl), by first | exact Kd.R_nil _ _ _ _ _ | exact Kd.N_nil _ _ _ _ _ | exact Kd.V_nil _ _ _ _ _ | exact Kd.Q_nil _ _ _ _ _ | exact Kd.S_nil _ _ _ _ _, by repeat (first | (with_reducible first | exact HB.out | apply below_alloc | apply pw_below_drewN | apply below_drew1) | exact HB.out)⟩
     subst c29
     have H1 : (match_Assign.l1 k2 t522 t534 t535 a0 (wrap64 (x36_2 + 1))) = some (r1, r2) := by rw [if_pos rfl] at H; exact H
     clear H
     have H := H1
     clear H1
     have H' := Aside0.mk H
     clear H
     obtain ⟨Ao30, co30, eo30⟩ := Kd.S_slice HO_6.out
     subst eo30
     obtain ⟨Ao31, co31, eo31⟩ := Kd.R_slice HO_8.out
     subst eo31
     go_wp2_with (first | ((with_reducible refine gate_callee (f := 26) rfl ?_); refine goesL_ (some 43) rfl rfl Try.func26 (by kernel_rfl) rfl #[.int .i64 x36_2, .slice Ao30 t522.length co30, .slice Ao16 x7_2.length co16, .slice Ao31 x8_2.length co31] rfl (by (try simp only [List.map_toArray, List.map_cons, List.map_nil]); first | done | rfl | (simp only [List.length_drop, List.length_take]; rfl)) ?_; (with_reducible refine (match_augment.calls k2 x36_2 _ _ t522 (fun k_ => some k_ = (.slice Ao16 x7_2.length co16 : Value).ownBlock) (.slice Ao16 x7_2.length co16) x7_2 (fun k_ => some k_ = (.slice Ao31 x8_2.length co31 : Value).ownBlock) (.slice Ao31 x8_2.length co31) x8_2 true t534 t535 w _ ?side1 ?side2 ?side3 ?side4 ?side5 ?side6 ?side7 A28.out).mono ?_); (case side1 => repeat (first | (with_reducible first | exact HB.out | apply below_alloc | apply pw_below_drewN | apply below_drew1) | exact HB.out)); (case side2 => exact Kd.C_kept_own ((Kd.S_R HO_6.out)) (fun k_ hk_ hs_ => Or.elim hs_ (fun e_ => (hk_.1) e_) (fun e_ => (hk_.2) e_))); (case side3 => exact (Kd.S_reads' HO_6.out).2.1); (case side4 => exact Kd.R_tight rfl HO_7.out); (case side5 => exact fun k_ e_ => (HO_7.out.1 k_ e_.symm)); (case side6 => exact Kd.R_tight rfl HO_8.out); (case side7 => exact fun k_ e_ => (HO_8.out.1 k_ e_.symm)); rintro e w32 ⟨rfl, hy0, hy1, hb, hkp⟩; refine ⟨_, rfl, ?_⟩; have n0_ := Aside0.mk (Kd.S_mono (ok' := fun k_ => some k_ ≠ (.slice Ao16 x7_2.length co16 : Value).ownBlock ∧ some k_ ≠ (.slice Ao31 x8_2.length co31 : Value).ownBlock) (Kd.S_keptB (HO_6.out) hkp (fun k_ hk_ hs_ => Or.elim hs_ (fun e_ => (hk_.1) e_) (fun e_ => (hk_.2) e_))) (fun k_ hk_ => ⟨hk_.1.1, hk_.1.2⟩)); have n1_ := Aside0.mk (Kd.R_reok rfl hy0 (fun k_ e_ => HO_7.out.1 k_ e_)); have n2_ := Aside0.mk (Kd.R_reok rfl hy1 (fun k_ e_ => HO_8.out.1 k_ e_)); have n3_ := Aside0.mk (hb); clear HO_6; clear HO_7; clear HO_8; clear HB; have HO_6 := n0_; have HO_7 := n1_; have HO_8 := n2_; have HB := n3_; clear n0_ n1_ n2_ n3_; (try clear hb); (try clear hkp); (try clear hy0); (try clear hy1)))
     (try simp only [← hl7_2])
     (first | go_roundg k2 | (refine Handed.intro k2 ?measure ?_; rotate_left; go_step; (repeat apply Exists.intro); (refine ⟨?rel, ?fr_⟩); (case fr_ => (simp only [add_plain]; rfl))))
     case measure => have := HK1.out; have := HK2.out; omega
     case rel => exact ⟨(t534), (t535), (wrap64 (x36_2 + 1)), (by first | rfl | (simp; done) | (simp [*]; done)), H', ⟨by have := HK1.out; have := HK2.out; omega⟩, ⟨by (try simp only [hl7_1]); (try simp only [hl7_2]); (with_reducible repeat (first | apply Kd.S_alloc | apply Kd.S_drewN | apply Kd.S_drew)); exact HO_6.out⟩, ⟨by (try simp only [hl7_1]); (try simp only [hl7_2]); (with_reducible repeat (first | apply Kd.R_alloc | apply Kd.R_drewN | apply Kd.R_drew)); exact HO_7.out⟩, ⟨by (try simp only [hl7_1]); (try simp only [hl7_2]); (with_reducible repeat (first | apply Kd.R_alloc | apply Kd.R_drewN | apply Kd.R_drew)); exact HO_8.out⟩, ⟨by repeat (first | (with_reducible first | exact HB.out | apply below_alloc | apply pw_below_drewN | apply below_drew1) | exact HB.out)⟩⟩

end Go.Proofs.Ytlaneafplmbcnaa.PO
