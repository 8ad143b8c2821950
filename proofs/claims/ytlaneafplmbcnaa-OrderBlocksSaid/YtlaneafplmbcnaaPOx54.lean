/- What the Go functions of this part compute, as Lean functions, and that the machine's calls come to just that; written for this claim by a program of the session (gen.sh, after the kit's printer). -/
import Derived.Test.YtlaneafplmbcnaaPOx0
import Derived.Test.YtlaneafplmbcnaaPOx45
import Derived.Test.YtlaneafplmbcnaaPOx52
import Derived.Test.YtlaneafplmbcnaaPOx53
namespace Go.Proofs.Ytlaneafplmbcnaa.PO
open Go.RowKit Go.Proofs.YtlaneafplmbcnaaW.PrintWords Go.Proofs.YtlaneafplmbcnaaW.PrintLast Go.Proofs.YtlaneafplmbcnaaW.PrintMore
attribute [local go_sem] max2_int min2_int max_two min_two max_three min_three max_four min_four   -- for this text's walks alone
set_option linter.unusedVariables false
set_option linter.unusedSimpArgs false

/-! ### orrerylaw21_OrderBlocks: function 3 -/
mutual
def orrerylaw21_OrderBlocks.j0 : Nat → List (S30) → List (S30) → Bool → Option (Bool)
  | 0, _, _, _ => none
  | k + 1, x7, x9, x35 => if x35 = true then (some false) else (orrerylaw21_OrderBlocks.l0 k x7 x9 (x7.length : Int) 0)
def orrerylaw21_OrderBlocks.l0 : Nat → List (S30) → List (S30) → Int → Int → Option (Bool)
  | 0, _, _, _, _ => none
  | k + 1, x7, x9, x37, x38 => if x38 < x37 then (if 0 ≤ x38 then (if x38 < (x7.length : Int) then (if x38 < (x9.length : Int) then ((orreryref17_Ints.f k ((rd_T30 x7 x38).f0) ((rd_T30 x9 x38).f0)).bind fun t365 => (if t365 = true then ((orreryref17_Ints.f k ((rd_T30 x7 x38).f1) ((rd_T30 x9 x38).f1)).bind fun t368 => (if t368 = true then (orrerylaw21_OrderBlocks.l0 k x7 x9 x37 (wrap64 (x38 + 1))) else (some false))) else (some false))) else (none)) else (none)) else (none)) else (some true)
end
def orrerylaw21_OrderBlocks.f (k : Nat) (a0 : Int) (l1 : List (S33)) (l2 : List Int) : Option (Bool) := (order_Blocks.f k a0 l1 l2).bind fun bt355 => ((orreryref21_Blocks.f k a0 l1 l2).bind fun bt359 => (if bt355.2 = bt359.2 then (orrerylaw21_OrderBlocks.j0 k bt355.1 bt359.1 ((bt355.1.length : Int) != (bt359.1.length : Int))) else (orrerylaw21_OrderBlocks.j0 k bt355.1 bt359.1 true)))
theorem orrerylaw21_OrderBlocks.mono_l : ∀ k, (∀ y0 y1 y2, LeO (orrerylaw21_OrderBlocks.j0 k y0 y1 y2) (orrerylaw21_OrderBlocks.j0 (k + 1) y0 y1 y2)) ∧ (∀ y0 y1 y2 y3, LeO (orrerylaw21_OrderBlocks.l0 k y0 y1 y2 y3) (orrerylaw21_OrderBlocks.l0 (k + 1) y0 y1 y2 y3))
  | 0 => ⟨fun _ _ _ r h => by simp [orrerylaw21_OrderBlocks.j0] at h, fun _ _ _ _ r h => by simp [orrerylaw21_OrderBlocks.l0] at h⟩
  | k + 1 => by
    obtain ⟨ih0, ih1⟩ := orrerylaw21_OrderBlocks.mono_l k
    refine ⟨?_, ?_⟩
    · intro y0 y1 y2
      unfold orrerylaw21_OrderBlocks.j0
      repeat' first
      | (with_reducible exact ih0 _ _ _)
      | (with_reducible exact ih1 _ _ _ _)
      | (with_reducible exact order_Blocks.mono _ _ _ _)
      | (with_reducible exact orreryref17_Ints.mono _ _ _)
      | (with_reducible exact orreryref21_Blocks.mono _ _ _ _)
      | (with_reducible exact LeO.refl _)
      | (with_reducible exact LeO.none _)
      | (with_reducible refine LeO.ite ?_ ?_)
      | (with_reducible refine LeO.bind ?_ (fun _ => ?_))
      | exact ih0 _ _ _
      | exact ih1 _ _ _ _
      | exact order_Blocks.mono _ _ _ _
      | exact orreryref17_Ints.mono _ _ _
      | exact orreryref21_Blocks.mono _ _ _ _
      | exact LeO.none _
      | refine LeO.ite ?_ ?_
      | refine LeO.bind ?_ (fun _ => ?_)
    · intro y0 y1 y2 y3
      unfold orrerylaw21_OrderBlocks.l0
      repeat' first
      | (with_reducible exact ih0 _ _ _)
      | (with_reducible exact ih1 _ _ _ _)
      | (with_reducible exact order_Blocks.mono _ _ _ _)
      | (with_reducible exact orreryref17_Ints.mono _ _ _)
      | (with_reducible exact orreryref21_Blocks.mono _ _ _ _)
      | (with_reducible exact LeO.refl _)
      | (with_reducible exact LeO.none _)
      | (with_reducible refine LeO.ite ?_ ?_)
      | (with_reducible refine LeO.bind ?_ (fun _ => ?_))
      | exact ih0 _ _ _
      | exact ih1 _ _ _ _
      | exact order_Blocks.mono _ _ _ _
      | exact orreryref17_Ints.mono _ _ _
      | exact orreryref21_Blocks.mono _ _ _ _
      | exact LeO.none _
      | refine LeO.ite ?_ ?_
      | refine LeO.bind ?_ (fun _ => ?_)
theorem orrerylaw21_OrderBlocks.mono : ∀ a0 a1 a2 k, LeO (orrerylaw21_OrderBlocks.f k a0 a1 a2) (orrerylaw21_OrderBlocks.f (k + 1) a0 a1 a2) := by
 intro a0 a1 a2 k
 obtain ⟨ih0, ih1⟩ := orrerylaw21_OrderBlocks.mono_l k
 unfold orrerylaw21_OrderBlocks.f
 repeat' first
     | (with_reducible exact ih0 _ _ _)
     | (with_reducible exact ih1 _ _ _ _)
     | (with_reducible exact order_Blocks.mono _ _ _ _)
     | (with_reducible exact orreryref17_Ints.mono _ _ _)
     | (with_reducible exact orreryref21_Blocks.mono _ _ _ _)
     | (with_reducible exact LeO.refl _)
     | (with_reducible exact LeO.none _)
     | (with_reducible refine LeO.ite ?_ ?_)
     | (with_reducible refine LeO.bind ?_ (fun _ => ?_))
     | exact ih0 _ _ _
     | exact ih1 _ _ _ _
     | exact order_Blocks.mono _ _ _ _
     | exact orreryref17_Ints.mono _ _ _
     | exact orreryref21_Blocks.mono _ _ _ _
     | exact LeO.none _
     | refine LeO.ite ?_ ?_
     | refine LeO.bind ?_ (fun _ => ?_)
set_option maxHeartbeats 8000000 in
set_option maxRecDepth 100000 in
theorem orrerylaw21_OrderBlocks.calls (k : Nat) (a0 : Int) (A1 : Option Addr) (c1 : Nat) (l1 : List (S33)) (A2 : Option Addr) (c2 : Nat) (l2 : List Int) (r : Bool) (w : World) (hr1 : Kd.C k33 w A1 l1.length l1) (hc1 : l1.length ≤ c1) (hr2 : Kd.C (Kd.int .i64) w A2 l2.length l2) (hc2 : l2.length ≤ c2) (h : orrerylaw21_OrderBlocks.f k a0 l1 l2 = some r) :
    Calls Try.prog 3 #[.int .i64 a0, .slice A1 l1.length c1, .slice A2 l2.length c2] w fun e w' => e = .returned (.bool r) ∧ Below w.heap.size w w' := by
 have HR1 := Aside0.mk hr1
 have HC1 := Aside0.mk hc1
 clear hr1 hc1
 have HR2 := Aside0.mk hr2
 have HC2 := Aside0.mk hc2
 clear hr2 hc2
 have HB := Aside0.mk (Below.refl w.heap.size w)
 have H : ((order_Blocks.f k a0 l1 l2).bind fun bt355 => ((orreryref21_Blocks.f k a0 l1 l2).bind fun bt359 => (if bt355.2 = bt359.2 then (orrerylaw21_OrderBlocks.j0 k bt355.1 bt359.1 ((bt355.1.length : Int) != (bt359.1.length : Int))) else (orrerylaw21_OrderBlocks.j0 k bt355.1 bt359.1 true)))) = some r := h
 clear h
 replace H := Option.bind_eq_some_iff.mp H
 obtain ⟨⟨t355, t356⟩, A40, H⟩ := H
 replace H : ((orreryref21_Blocks.f k a0 l1 l2).bind fun bt359 => (if t356 = bt359.2 then (orrerylaw21_OrderBlocks.j0 k t355 bt359.1 ((t355.length : Int) != (bt359.1.length : Int))) else (orrerylaw21_OrderBlocks.j0 k t355 bt359.1 true))) = some r := H
 have A4 := Aside0.mk A40
 clear A40
 replace H := Option.bind_eq_some_iff.mp H
 obtain ⟨⟨t359, t360⟩, A50, H⟩ := H
 replace H : (if t356 = t360 then (orrerylaw21_OrderBlocks.j0 k t355 t359 ((t355.length : Int) != (t359.length : Int))) else (orrerylaw21_OrderBlocks.j0 k t355 t359 true)) = some r := H
 have A5 := Aside0.mk A50
 clear A50
 have HC6 := Aside0.mk H
 clear H
 go_enter Try.func3, Try.ntmps3
 go_upto_region 3 with (first | (go_at_call 9; (with_reducible refine (order_Blocks.calls k a0 _ _ l1 _ _ l2 t355 t356 _ ?side1 ?side2 ?side3 ?side4 A4.out).mono ?_); (case side1 => repeat (first | exact HR1.out | (with_reducible refine Kd.C_alloc ?_ _) | (with_reducible refine Kd.C_drewN ?_ _) | (with_reducible refine Kd.C_drew ?_))); (case side2 => exact HC1.out); (case side3 => repeat (first | exact HR2.out | (with_reducible refine Kd.C_alloc ?_ _) | (with_reducible refine Kd.C_drewN ?_ _) | (with_reducible refine Kd.C_drew ?_))); (case side4 => exact HC2.out); rintro e w7 ⟨v357, rfl, ho0, hb⟩; have n0_ := Aside0.mk (Kd.S_lower ho0 (below_size (by repeat (first | (with_reducible first | exact HB.out | apply below_alloc | apply pw_below_drewN | apply below_drew1) | exact HB.out)))); have n1_ := Aside0.mk (below_step (by repeat (first | (with_reducible first | exact HB.out | apply below_alloc | apply pw_below_drewN | apply below_drew1) | exact HB.out)) hb); clear HB; have HO358 := n0_; have HB := n1_; clear n0_ n1_; (try clear hb); (try clear hb2); (try clear hk); (try clear hi); (try clear ho0)) | (go_at_call 10; (with_reducible refine (orreryref21_Blocks.calls k a0 _ _ l1 _ _ l2 t359 t360 _ ?side1 ?side2 ?side3 ?side4 A5.out).mono ?_); (case side1 => repeat (first | exact (Kd.C_below HR1.out HB.out) | (with_reducible refine Kd.C_alloc ?_ _) | (with_reducible refine Kd.C_drewN ?_ _) | (with_reducible refine Kd.C_drew ?_))); (case side2 => exact HC1.out); (case side3 => repeat (first | exact (Kd.C_below HR2.out HB.out) | (with_reducible refine Kd.C_alloc ?_ _) | (with_reducible refine Kd.C_drewN ?_ _) | (with_reducible refine Kd.C_drew ?_))); (case side4 => exact HC2.out); rintro e w8 ⟨v361, rfl, ho0, hb⟩; have n0_ := Aside0.mk (Kd.S_elder' (by (with_reducible repeat (first | apply Kd.S_alloc | apply Kd.S_drewN | apply Kd.S_drew)); exact HO358.out) (Kd.S_base ho0) hb); have n1_ := Aside0.mk (Kd.S_lower (Kd.S_new' ho0 (Kd.S_lt (by (with_reducible repeat (first | apply Kd.S_alloc | apply Kd.S_drewN | apply Kd.S_drew)); exact HO358.out))) (below_size (by repeat (first | (with_reducible first | exact HB.out | apply below_alloc | apply pw_below_drewN | apply below_drew1) | exact HB.out)))); have n2_ := Aside0.mk (below_step (by repeat (first | (with_reducible first | exact HB.out | apply below_alloc | apply pw_below_drewN | apply below_drew1) | exact HB.out)) hb); clear HO358; clear HB; have HO358 := n0_; have HO362 := n1_; have HB := n2_; clear n0_ n1_ n2_; (try clear hb); (try clear hb2); (try clear hk); (try clear hi); (try clear ho0)))
 repeat (go_quiet (first | (go_at_call 9; (with_reducible refine (order_Blocks.calls k a0 _ _ l1 _ _ l2 t355 t356 _ ?side1 ?side2 ?side3 ?side4 A4.out).mono ?_); (case side1 => repeat (first | exact HR1.out | (with_reducible refine Kd.C_alloc ?_ _) | (with_reducible refine Kd.C_drewN ?_ _) | (with_reducible refine Kd.C_drew ?_))); (case side2 => exact HC1.out); (case side3 => repeat (first | exact HR2.out | (with_reducible refine Kd.C_alloc ?_ _) | (with_reducible refine Kd.C_drewN ?_ _) | (with_reducible refine Kd.C_drew ?_))); (case side4 => exact HC2.out); rintro e w7 ⟨v357, rfl, ho0, hb⟩; have n0_ := Aside0.mk (Kd.S_lower ho0 (below_size (by repeat (first | (with_reducible first | exact HB.out | apply below_alloc | apply pw_below_drewN | apply below_drew1) | exact HB.out)))); have n1_ := Aside0.mk (below_step (by repeat (first | (with_reducible first | exact HB.out | apply below_alloc | apply pw_below_drewN | apply below_drew1) | exact HB.out)) hb); clear HB; have HO358 := n0_; have HB := n1_; clear n0_ n1_; (try clear hb); (try clear hb2); (try clear hk); (try clear hi); (try clear ho0)) | (go_at_call 10; (with_reducible refine (orreryref21_Blocks.calls k a0 _ _ l1 _ _ l2 t359 t360 _ ?side1 ?side2 ?side3 ?side4 A5.out).mono ?_); (case side1 => repeat (first | exact (Kd.C_below HR1.out HB.out) | (with_reducible refine Kd.C_alloc ?_ _) | (with_reducible refine Kd.C_drewN ?_ _) | (with_reducible refine Kd.C_drew ?_))); (case side2 => exact HC1.out); (case side3 => repeat (first | exact (Kd.C_below HR2.out HB.out) | (with_reducible refine Kd.C_alloc ?_ _) | (with_reducible refine Kd.C_drewN ?_ _) | (with_reducible refine Kd.C_drew ?_))); (case side4 => exact HC2.out); rintro e w8 ⟨v361, rfl, ho0, hb⟩; have n0_ := Aside0.mk (Kd.S_elder' (by (with_reducible repeat (first | apply Kd.S_alloc | apply Kd.S_drewN | apply Kd.S_drew)); exact HO358.out) (Kd.S_base ho0) hb); have n1_ := Aside0.mk (Kd.S_lower (Kd.S_new' ho0 (Kd.S_lt (by (with_reducible repeat (first | apply Kd.S_alloc | apply Kd.S_drewN | apply Kd.S_drew)); exact HO358.out))) (below_size (by repeat (first | (with_reducible first | exact HB.out | apply below_alloc | apply pw_below_drewN | apply below_drew1) | exact HB.out)))); have n2_ := Aside0.mk (below_step (by repeat (first | (with_reducible first | exact HB.out | apply below_alloc | apply pw_below_drewN | apply below_drew1) | exact HB.out)) hb); clear HO358; clear HB; have HO358 := n0_; have HO362 := n1_; have HB := n2_; clear n0_ n1_ n2_; (try clear hb); (try clear hb2); (try clear hk); (try clear hi); (try clear ho0))); go_upto_region 3 with (first | (go_at_call 9; (with_reducible refine (order_Blocks.calls k a0 _ _ l1 _ _ l2 t355 t356 _ ?side1 ?side2 ?side3 ?side4 A4.out).mono ?_); (case side1 => repeat (first | exact HR1.out | (with_reducible refine Kd.C_alloc ?_ _) | (with_reducible refine Kd.C_drewN ?_ _) | (with_reducible refine Kd.C_drew ?_))); (case side2 => exact HC1.out); (case side3 => repeat (first | exact HR2.out | (with_reducible refine Kd.C_alloc ?_ _) | (with_reducible refine Kd.C_drewN ?_ _) | (with_reducible refine Kd.C_drew ?_))); (case side4 => exact HC2.out); rintro e w7 ⟨v357, rfl, ho0, hb⟩; have n0_ := Aside0.mk (Kd.S_lower ho0 (below_size (by repeat (first | (with_reducible first | exact HB.out | apply below_alloc | apply pw_below_drewN | apply below_drew1) | exact HB.out)))); have n1_ := Aside0.mk (below_step (by repeat (first | (with_reducible first | exact HB.out | apply below_alloc | apply pw_below_drewN | apply below_drew1) | exact HB.out)) hb); clear HB; have HO358 := n0_; have HB := n1_; clear n0_ n1_; (try clear hb); (try clear hb2); (try clear hk); (try clear hi); (try clear ho0)) | (go_at_call 10; (with_reducible refine (orreryref21_Blocks.calls k a0 _ _ l1 _ _ l2 t359 t360 _ ?side1 ?side2 ?side3 ?side4 A5.out).mono ?_); (case side1 => repeat (first | exact (Kd.C_below HR1.out HB.out) | (with_reducible refine Kd.C_alloc ?_ _) | (with_reducible refine Kd.C_drewN ?_ _) | (with_reducible refine Kd.C_drew ?_))); (case side2 => exact HC1.out); (case side3 => repeat (first | exact (Kd.C_below HR2.out HB.out) | (with_reducible refine Kd.C_alloc ?_ _) | (with_reducible refine Kd.C_drewN ?_ _) | (with_reducible refine Kd.C_drew ?_))); (case side4 => exact HC2.out); rintro e w8 ⟨v361, rfl, ho0, hb⟩; have n0_ := Aside0.mk (Kd.S_elder' (by (with_reducible repeat (first | apply Kd.S_alloc | apply Kd.S_drewN | apply Kd.S_drew)); exact HO358.out) (Kd.S_base ho0) hb); have n1_ := Aside0.mk (Kd.S_lower (Kd.S_new' ho0 (Kd.S_lt (by (with_reducible repeat (first | apply Kd.S_alloc | apply Kd.S_drewN | apply Kd.S_drew)); exact HO358.out))) (below_size (by repeat (first | (with_reducible first | exact HB.out | apply below_alloc | apply pw_below_drewN | apply below_drew1) | exact HB.out)))); have n2_ := Aside0.mk (below_step (by repeat (first | (with_reducible first | exact HB.out | apply below_alloc | apply pw_below_drewN | apply below_drew1) | exact HB.out)) hb); clear HO358; clear HB; have HO358 := n0_; have HO362 := n1_; have HB := n2_; clear n0_ n1_ n2_; (try clear hb); (try clear hb2); (try clear hk); (try clear hi); (try clear ho0))))
 (try simp only [Act.put, List.setIfInBounds_toArray, List.set_cons_zero, List.set_cons_succ])
 go_cut [35] (fun v35 wc => ∃ (kq : Nat) (x35_5 : Bool), v35 = .bool x35_5 ∧ Aside0 (orrerylaw21_OrderBlocks.j0 kq t355 t359 x35_5 = some r) ∧ Aside0 (kq ≤ k) ∧ Aside0 (Kd.S k30 30 wc w.heap.size (fun k_ => some k_ ≠ (v361 : Value).ownBlock) v357 t355) ∧ Aside0 (Kd.S k30 30 wc w.heap.size (fun k_ => some k_ ≠ (v357 : Value).ownBlock) v361 t359) ∧ Aside0 (Below w.heap.size w wc))
 case first =>
  have H := HC6.out
  clear HC6
  by_cases c9 : t356 = t360
  case neg =>
   rw [if_neg c9] at H
   have c9b0 : (t356 == t360) = false := beq_eq_false_iff_ne.mpr c9
   have c9b1 : (t356 != t360) = true := bne_iff_ne.mpr c9
   (first | rw [c9b0] | (simp only [i64_w, i32_w]; rw [c9b0]) | skip)
   have H' := Aside0.mk H
   clear H
   go_wp2
   repeat (go_quiet (fail); try go_wp2)
   go_meet
   case rel => exact ⟨_, (true), (by first | rfl | (simp; done) | (simp [*]; done)), H', ⟨by first | omega | exact Nat.le_refl _⟩, ⟨by (with_reducible repeat (first | apply Kd.S_alloc | apply Kd.S_drewN | apply Kd.S_drew)); exact Kd.S_mono HO358.out (fun _ hk => hk.2)⟩, ⟨by (with_reducible repeat (first | apply Kd.S_alloc | apply Kd.S_drewN | apply Kd.S_drew)); exact Kd.S_mono HO362.out (fun _ hk => hk.2)⟩, ⟨by repeat (first | (with_reducible first | exact HB.out | apply below_alloc | apply pw_below_drewN | apply below_drew1) | exact HB.out)⟩⟩
  rw [if_pos c9] at H
  have c9b0 : (t356 == t360) = true := beq_iff_eq.mpr c9
  have c9b1 : (t356 != t360) = false := bne_eq_false_iff_eq.mpr c9
  clear c9
  (first | rw [c9b0] | (simp only [i64_w, i32_w]; rw [c9b0]) | skip)
  have H' := Aside0.mk H
  clear H
  obtain ⟨Ao10, co10, eo10⟩ := Kd.S_slice HO358.out
  subst eo10
  obtain ⟨Ao11, co11, eo11⟩ := Kd.S_slice HO362.out
  subst eo11
  go_wp2
  repeat (go_quiet (fail); try go_wp2)
  go_meet
  case rel => exact ⟨_, (((t355.length : Int) != (t359.length : Int))), (by first | rfl | (simp; done) | (simp [*]; done)), H', ⟨by first | omega | exact Nat.le_refl _⟩, ⟨by (with_reducible repeat (first | apply Kd.S_alloc | apply Kd.S_drewN | apply Kd.S_drew)); exact Kd.S_mono HO358.out (fun _ hk => hk.2)⟩, ⟨by (with_reducible repeat (first | apply Kd.S_alloc | apply Kd.S_drewN | apply Kd.S_drew)); exact Kd.S_mono HO362.out (fun _ hk => hk.2)⟩, ⟨by repeat (first | (with_reducible first | exact HB.out | apply below_alloc | apply pw_below_drewN | apply below_drew1) | exact HB.out)⟩⟩
 case rest =>
  clear HC6
  try clear c1
  try clear c2
  try clear p2
  try clear c3
  try clear c9
  try clear c9b0
  try clear c9b1
  obtain ⟨kq, x35_5, rfl, HA, HJ5, HO_7, HO_9, HB⟩ := hcut
  cases kq with
  | zero => exact absurd HA.out (by simp [orrerylaw21_OrderBlocks.j0])
  | succ kj5 =>
   have H := HA.out
   clear HA
   simp only [orrerylaw21_OrderBlocks.j0] at H
   by_cases c12 : x35_5 = true
   case pos =>
    subst c12
    have H1 : (some false) = some r := by rw [if_pos rfl] at H; exact H
    clear H
    have H := H1
    clear H1
    obtain rfl := Option.some.inj H
    go_wp2
    repeat (go_quiet (fail); try go_wp2)
    go_ret
    exact ⟨by first | rfl | (simp [errW_none, errW_some] <;> rfl) | (simp [*, errW_none, errW_some] <;> rfl), by repeat (first | (with_reducible first | exact HB.out | apply below_alloc | apply pw_below_drewN | apply below_drew1) | exact HB.out)⟩
   replace c12 := Bool.eq_false_iff.mpr c12
   subst c12
   have H1 : (orrerylaw21_OrderBlocks.l0 kj5 t355 t359 (t355.length : Int) 0) = some r := by rw [if_neg (show ¬ (false = true) by decide)] at H; exact H
   clear H
   have H := H1
   clear H1
   have H' := Aside0.mk H
   clear H
   obtain ⟨Ao13, co13, eo13⟩ := Kd.S_slice HO_7.out
   subst eo13
   go_wp2
   repeat (go_quiet (fail); try go_wp2)
   go_loopg [38] kj5 (fun kq v38 w' => ∃ (x38_2 : Int), v38 = .int .i64 x38_2 ∧ Aside0 (orrerylaw21_OrderBlocks.l0 kq t355 t359 (t355.length : Int) x38_2 = some r) ∧ Aside0 (kq ≤ kj5) ∧ Aside0 (Kd.S k30 30 w' w.heap.size (fun k_ => some k_ ≠ (v361 : Value).ownBlock) (.slice Ao13 t355.length co13) t355) ∧ Aside0 (Kd.S k30 30 w' w.heap.size (fun k_ => some k_ ≠ ((.slice Ao13 t355.length co13) : Value).ownBlock) v361 t359) ∧ Aside0 (Below w.heap.size w w'))
   case atStart => exact ⟨(0), (by first | rfl | (simp; done) | (simp [*]; done)), H', ⟨Nat.le_refl _⟩, ⟨by (with_reducible repeat (first | apply Kd.S_alloc | apply Kd.S_drewN | apply Kd.S_drew)); exact HO_7.out⟩, ⟨by (with_reducible repeat (first | apply Kd.S_alloc | apply Kd.S_drewN | apply Kd.S_drew)); exact HO_9.out⟩, ⟨by repeat (first | (with_reducible first | exact HB.out | apply below_alloc | apply pw_below_drewN | apply below_drew1) | exact HB.out)⟩⟩
   case round =>
    clear H'
    try clear c1
    try clear c2
    try clear p2
    try clear c3
    try clear c9
    try clear c9b0
    try clear c9b1
    try clear c12
    try clear p2
    obtain ⟨x38_2, rfl, HA, HK2, HO_7, HO_9, HB⟩ := hrel
    cases gk with
    | zero => exact absurd HA.out (by simp [orrerylaw21_OrderBlocks.l0])
    | succ k2 =>
     have H := HA.out
     clear HA
     simp only [orrerylaw21_OrderBlocks.l0] at H
     by_cases c14 : x38_2 < (t355.length : Int)
     case neg =>
      rw [if_neg c14] at H
      have c14b0 : decide (x38_2 < (t355.length : Int)) = false := decide_eq_false c14
      clear c14
      obtain rfl := Option.some.inj H
      go_wp2
      repeat (go_quiet (fail); try go_wp2)
      go_ret
      exact ⟨by first | rfl | (simp [errW_none, errW_some] <;> rfl) | (simp [*, errW_none, errW_some] <;> rfl), by repeat (first | (with_reducible first | exact HB.out | apply below_alloc | apply pw_below_drewN | apply below_drew1) | exact HB.out)⟩
     rw [if_pos c14] at H
     have c14b0 : decide (x38_2 < (t355.length : Int)) = true := decide_eq_true c14
     clear c14
     by_cases c15 : 0 ≤ x38_2
     case neg => rw [if_neg c15] at H; exact absurd H (by simp)
     rw [if_pos c15] at H
     have c15b0 : decide (0 ≤ x38_2) = true := decide_eq_true c15
     clear c15
     by_cases c16 : x38_2 < (t355.length : Int)
     case neg => rw [if_neg c16] at H; exact absurd H (by simp)
     rw [if_pos c16] at H
     have c16b0 : decide (x38_2 < (t355.length : Int)) = true := decide_eq_true c16
     clear c16
     by_cases c17 : x38_2 < (t359.length : Int)
     case neg => rw [if_neg c17] at H; exact absurd H (by simp)
     rw [if_pos c17] at H
     have c17b0 : decide (x38_2 < (t359.length : Int)) = true := decide_eq_true c17
     clear c17
     replace H := Option.bind_eq_some_iff.mp H
     obtain ⟨t365, A180, H⟩ := H
     replace H : (if t365 = true then ((orreryref17_Ints.f k2 ((rd_T30 t355 x38_2).f1) ((rd_T30 t359 x38_2).f1)).bind fun t368 => (if t368 = true then (orrerylaw21_OrderBlocks.l0 k2 t355 t359 (t355.length : Int) (wrap64 (x38_2 + 1))) else (some false))) else (some false)) = some r := H
     have A18 := Aside0.mk A180
     clear A180
     by_cases c19 : t365 = true
     case neg =>
      replace c19 := Bool.eq_false_iff.mpr c19
      subst c19
      have H1 : (some false) = some r := by rw [if_neg (show ¬ (false = true) by decide)] at H; exact H
      clear H
      have H := H1
      clear H1
      obtain rfl := Option.some.inj H
      have p363 : 0 ≤ (x38_2 : Int) := of_decide_eq_true (by first | (with_reducible assumption) | assumption)
      have q363 : x38_2 < (t355.length : Int) := of_decide_eq_true (by first | (with_reducible assumption) | assumption)
      obtain ⟨ad363, A363_0, c363_0, A363_1, c363_1, e363, hx363_0, hx363_1, hl363_0, hi363_0, hl363_1, hi363_1⟩ := at_T30 (Kd.S_reads' HO_7.out).2.2 x38_2 p363 q363
      cases e363
      obtain ⟨ce363, hce363, hMe363, hcc363⟩ := Kd.S_get HO_7.out z30 x38_2 p363 (by first | exact q363 | exact of_decide_eq_true (by first | (with_reducible assumption) | assumption) | (have e_ := (Kd.S_reads' HO_7.out).1; omega))
      obtain ⟨ve363_0, ve363_1, rfl, ge363_0, ge363_1⟩ := k30_openM hMe363
      have hv363_0 := hcc363 0 _ rfl
      rw [Nat.add_zero] at hv363_0
      replace hv363_0 := Option.some.inj (hv363_0.symm.trans hx363_0)
      rw [hv363_0] at ge363_0
      have HL363_0 := Aside0.mk (show Kd.R (Kd.int .i64) 3 _ _ _ _ ((rd_T30 t355 x38_2).f0) from ge363_0)
      clear hv363_0 ge363_0
      have hv363_1 := hcc363 1 _ rfl
      rw [add_field _ _ 1 (by omega)] at hv363_1
      replace hv363_1 := Option.some.inj (hv363_1.symm.trans hx363_1)
      rw [hv363_1] at ge363_1
      have HL363_1 := Aside0.mk (show Kd.R (Kd.int .i64) 3 _ _ _ _ ((rd_T30 t355 x38_2).f1) from ge363_1)
      clear hv363_1 ge363_1
      clear hcc363 hce363
      have HR363_0 := Aside0.mk hi363_0
      have HC363_0 := Aside0.mk hl363_0
      clear hi363_0 hl363_0
      have HR363_1 := Aside0.mk hi363_1
      have HC363_1 := Aside0.mk hl363_1
      clear hi363_1 hl363_1
      replace p363 := eq_true p363
      replace q363 := eq_true q363
      obtain ⟨Ao24, co24, eo24⟩ := Kd.S_slice HO_9.out
      subst eo24
      have p364 : 0 ≤ (x38_2 : Int) := of_decide_eq_true (by first | (with_reducible assumption) | assumption)
      have q364 : x38_2 < (t359.length : Int) := of_decide_eq_true (by first | (with_reducible assumption) | assumption)
      obtain ⟨ad364, A364_0, c364_0, A364_1, c364_1, e364, hx364_0, hx364_1, hl364_0, hi364_0, hl364_1, hi364_1⟩ := at_T30 (Kd.S_reads' HO_9.out).2.2 x38_2 p364 q364
      cases e364
      obtain ⟨ce364, hce364, hMe364, hcc364⟩ := Kd.S_get HO_9.out z30 x38_2 p364 (by first | exact q364 | exact of_decide_eq_true (by first | (with_reducible assumption) | assumption) | (have e_ := (Kd.S_reads' HO_9.out).1; omega))
      obtain ⟨ve364_0, ve364_1, rfl, ge364_0, ge364_1⟩ := k30_openM hMe364
      have hv364_0 := hcc364 0 _ rfl
      rw [Nat.add_zero] at hv364_0
      replace hv364_0 := Option.some.inj (hv364_0.symm.trans hx364_0)
      rw [hv364_0] at ge364_0
      have HL364_0 := Aside0.mk (show Kd.R (Kd.int .i64) 3 _ _ _ _ ((rd_T30 t359 x38_2).f0) from ge364_0)
      clear hv364_0 ge364_0
      have hv364_1 := hcc364 1 _ rfl
      rw [add_field _ _ 1 (by omega)] at hv364_1
      replace hv364_1 := Option.some.inj (hv364_1.symm.trans hx364_1)
      rw [hv364_1] at ge364_1
      have HL364_1 := Aside0.mk (show Kd.R (Kd.int .i64) 3 _ _ _ _ ((rd_T30 t359 x38_2).f1) from ge364_1)
      clear hv364_1 ge364_1
      clear hcc364 hce364
      have HR364_0 := Aside0.mk hi364_0
      have HC364_0 := Aside0.mk hl364_0
      clear hi364_0 hl364_0
      have HR364_1 := Aside0.mk hi364_1
      have HC364_1 := Aside0.mk hl364_1
      clear hi364_1 hl364_1
      replace p364 := eq_true p364
      replace q364 := eq_true q364
      go_wp2_with (first | (go_at_call 11; (with_reducible refine (orreryref17_Ints.calls k2 _ _ ((rd_T30 t355 x38_2).f0) _ _ ((rd_T30 t359 x38_2).f0) false _ ?side1 ?side2 ?side3 ?side4 A18.out).mono ?_); (case side1 => repeat (first | exact (by repeat (first | (with_reducible exact HR363_0.out) | (with_reducible refine Kd.C_alloc ?_ _) | (with_reducible refine Kd.C_drewN ?_ _) | (with_reducible refine Kd.C_drew ?_) | exact HR363_0.out)) | (with_reducible refine Kd.C_alloc ?_ _) | (with_reducible refine Kd.C_drewN ?_ _) | (with_reducible refine Kd.C_drew ?_))); (case side2 => exact HC363_0.out); (case side3 => repeat (first | exact (by repeat (first | (with_reducible exact HR364_0.out) | (with_reducible refine Kd.C_alloc ?_ _) | (with_reducible refine Kd.C_drewN ?_ _) | (with_reducible refine Kd.C_drew ?_) | exact HR364_0.out)) | (with_reducible refine Kd.C_alloc ?_ _) | (with_reducible refine Kd.C_drewN ?_ _) | (with_reducible refine Kd.C_drew ?_))); (case side4 => exact HC364_0.out); rintro e w' ⟨rfl, ⟨nd, rfl⟩⟩; (try first | exact ⟨rfl, _, World.drewN_drewN _ _ _⟩ | exact ⟨rfl, _, Eq.trans (World.drewN_drewN _ _ _) (congrArg (World.drewN _) (Nat.add_assoc _ _ _))⟩)))
      repeat (go_quiet (first | (go_at_call 11; (with_reducible refine (orreryref17_Ints.calls k2 _ _ ((rd_T30 t355 x38_2).f0) _ _ ((rd_T30 t359 x38_2).f0) false _ ?side1 ?side2 ?side3 ?side4 A18.out).mono ?_); (case side1 => repeat (first | exact (by repeat (first | (with_reducible exact HR363_0.out) | (with_reducible refine Kd.C_alloc ?_ _) | (with_reducible refine Kd.C_drewN ?_ _) | (with_reducible refine Kd.C_drew ?_) | exact HR363_0.out)) | (with_reducible refine Kd.C_alloc ?_ _) | (with_reducible refine Kd.C_drewN ?_ _) | (with_reducible refine Kd.C_drew ?_))); (case side2 => exact HC363_0.out); (case side3 => repeat (first | exact (by repeat (first | (with_reducible exact HR364_0.out) | (with_reducible refine Kd.C_alloc ?_ _) | (with_reducible refine Kd.C_drewN ?_ _) | (with_reducible refine Kd.C_drew ?_) | exact HR364_0.out)) | (with_reducible refine Kd.C_alloc ?_ _) | (with_reducible refine Kd.C_drewN ?_ _) | (with_reducible refine Kd.C_drew ?_))); (case side4 => exact HC364_0.out); rintro e w' ⟨rfl, ⟨nd, rfl⟩⟩; (try first | exact ⟨rfl, _, World.drewN_drewN _ _ _⟩ | exact ⟨rfl, _, Eq.trans (World.drewN_drewN _ _ _) (congrArg (World.drewN _) (Nat.add_assoc _ _ _))⟩))); try go_wp2_with (first | (go_at_call 11; (with_reducible refine (orreryref17_Ints.calls k2 _ _ ((rd_T30 t355 x38_2).f0) _ _ ((rd_T30 t359 x38_2).f0) false _ ?side1 ?side2 ?side3 ?side4 A18.out).mono ?_); (case side1 => repeat (first | exact (by repeat (first | (with_reducible exact HR363_0.out) | (with_reducible refine Kd.C_alloc ?_ _) | (with_reducible refine Kd.C_drewN ?_ _) | (with_reducible refine Kd.C_drew ?_) | exact HR363_0.out)) | (with_reducible refine Kd.C_alloc ?_ _) | (with_reducible refine Kd.C_drewN ?_ _) | (with_reducible refine Kd.C_drew ?_))); (case side2 => exact HC363_0.out); (case side3 => repeat (first | exact (by repeat (first | (with_reducible exact HR364_0.out) | (with_reducible refine Kd.C_alloc ?_ _) | (with_reducible refine Kd.C_drewN ?_ _) | (with_reducible refine Kd.C_drew ?_) | exact HR364_0.out)) | (with_reducible refine Kd.C_alloc ?_ _) | (with_reducible refine Kd.C_drewN ?_ _) | (with_reducible refine Kd.C_drew ?_))); (case side4 => exact HC364_0.out); rintro e w' ⟨rfl, ⟨nd, rfl⟩⟩; (try first | exact ⟨rfl, _, World.drewN_drewN _ _ _⟩ | exact ⟨rfl, _, Eq.trans (World.drewN_drewN _ _ _) (congrArg (World.drewN _) (Nat.add_assoc _ _ _))⟩))))
      go_ret
      exact ⟨by first | rfl | (simp [errW_none, errW_some] <;> rfl) | (simp [*, errW_none, errW_some] <;> rfl), by repeat (first | (with_reducible first | exact HB.out | apply below_alloc | apply pw_below_drewN | apply below_drew1) | exact HB.out)⟩
     subst c19
     have H1 : ((orreryref17_Ints.f k2 ((rd_T30 t355 x38_2).f1) ((rd_T30 t359 x38_2).f1)).bind fun t368 => (if t368 = true then (orrerylaw21_OrderBlocks.l0 k2 t355 t359 (t355.length : Int) (wrap64 (x38_2 + 1))) else (some false))) = some r := by rw [if_pos rfl] at H; exact H
     clear H
     have H := H1
     clear H1
     replace H := Option.bind_eq_some_iff.mp H
     obtain ⟨t368, A200, H⟩ := H
     replace H : (if t368 = true then (orrerylaw21_OrderBlocks.l0 k2 t355 t359 (t355.length : Int) (wrap64 (x38_2 + 1))) else (some false)) = some r := H
     have A20 := Aside0.mk A200
     clear A200
     by_cases c21 : t368 = true
     case neg =>
      replace c21 := Bool.eq_false_iff.mpr c21
      subst c21
      have H1 : (some false) = some r := by rw [if_neg (show ¬ (false = true) by decide)] at H; exact H
      clear H
      have H := H1
      clear H1
      obtain rfl := Option.some.inj H
      have p363 : 0 ≤ (x38_2 : Int) := of_decide_eq_true (by first | (with_reducible assumption) | assumption)
      have q363 : x38_2 < (t355.length : Int) := of_decide_eq_true (by first | (with_reducible assumption) | assumption)
      obtain ⟨ad363, A363_0, c363_0, A363_1, c363_1, e363, hx363_0, hx363_1, hl363_0, hi363_0, hl363_1, hi363_1⟩ := at_T30 (Kd.S_reads' HO_7.out).2.2 x38_2 p363 q363
      cases e363
      obtain ⟨ce363, hce363, hMe363, hcc363⟩ := Kd.S_get HO_7.out z30 x38_2 p363 (by first | exact q363 | exact of_decide_eq_true (by first | (with_reducible assumption) | assumption) | (have e_ := (Kd.S_reads' HO_7.out).1; omega))
      obtain ⟨ve363_0, ve363_1, rfl, ge363_0, ge363_1⟩ := k30_openM hMe363
      have hv363_0 := hcc363 0 _ rfl
      rw [Nat.add_zero] at hv363_0
      replace hv363_0 := Option.some.inj (hv363_0.symm.trans hx363_0)
      rw [hv363_0] at ge363_0
      have HL363_0 := Aside0.mk (show Kd.R (Kd.int .i64) 3 _ _ _ _ ((rd_T30 t355 x38_2).f0) from ge363_0)
      clear hv363_0 ge363_0
      have hv363_1 := hcc363 1 _ rfl
      rw [add_field _ _ 1 (by omega)] at hv363_1
      replace hv363_1 := Option.some.inj (hv363_1.symm.trans hx363_1)
      rw [hv363_1] at ge363_1
      have HL363_1 := Aside0.mk (show Kd.R (Kd.int .i64) 3 _ _ _ _ ((rd_T30 t355 x38_2).f1) from ge363_1)
      clear hv363_1 ge363_1
      clear hcc363 hce363
      have HR363_0 := Aside0.mk hi363_0
      have HC363_0 := Aside0.mk hl363_0
      clear hi363_0 hl363_0
      have HR363_1 := Aside0.mk hi363_1
      have HC363_1 := Aside0.mk hl363_1
      clear hi363_1 hl363_1
      replace p363 := eq_true p363
      replace q363 := eq_true q363
      obtain ⟨Ao23, co23, eo23⟩ := Kd.S_slice HO_9.out
      subst eo23
      have p364 : 0 ≤ (x38_2 : Int) := of_decide_eq_true (by first | (with_reducible assumption) | assumption)
      have q364 : x38_2 < (t359.length : Int) := of_decide_eq_true (by first | (with_reducible assumption) | assumption)
      obtain ⟨ad364, A364_0, c364_0, A364_1, c364_1, e364, hx364_0, hx364_1, hl364_0, hi364_0, hl364_1, hi364_1⟩ := at_T30 (Kd.S_reads' HO_9.out).2.2 x38_2 p364 q364
      cases e364
      obtain ⟨ce364, hce364, hMe364, hcc364⟩ := Kd.S_get HO_9.out z30 x38_2 p364 (by first | exact q364 | exact of_decide_eq_true (by first | (with_reducible assumption) | assumption) | (have e_ := (Kd.S_reads' HO_9.out).1; omega))
      obtain ⟨ve364_0, ve364_1, rfl, ge364_0, ge364_1⟩ := k30_openM hMe364
      have hv364_0 := hcc364 0 _ rfl
      rw [Nat.add_zero] at hv364_0
      replace hv364_0 := Option.some.inj (hv364_0.symm.trans hx364_0)
      rw [hv364_0] at ge364_0
      have HL364_0 := Aside0.mk (show Kd.R (Kd.int .i64) 3 _ _ _ _ ((rd_T30 t359 x38_2).f0) from ge364_0)
      clear hv364_0 ge364_0
      have hv364_1 := hcc364 1 _ rfl
      rw [add_field _ _ 1 (by omega)] at hv364_1
      replace hv364_1 := Option.some.inj (hv364_1.symm.trans hx364_1)
      rw [hv364_1] at ge364_1
      have HL364_1 := Aside0.mk (show Kd.R (Kd.int .i64) 3 _ _ _ _ ((rd_T30 t359 x38_2).f1) from ge364_1)
      clear hv364_1 ge364_1
      clear hcc364 hce364
      have HR364_0 := Aside0.mk hi364_0
      have HC364_0 := Aside0.mk hl364_0
      clear hi364_0 hl364_0
      have HR364_1 := Aside0.mk hi364_1
      have HC364_1 := Aside0.mk hl364_1
      clear hi364_1 hl364_1
      replace p364 := eq_true p364
      replace q364 := eq_true q364
      go_wp2_with (first | (go_at_call 11; (with_reducible refine (orreryref17_Ints.calls k2 _ _ ((rd_T30 t355 x38_2).f0) _ _ ((rd_T30 t359 x38_2).f0) true _ ?side1 ?side2 ?side3 ?side4 A18.out).mono ?_); (case side1 => repeat (first | exact (by repeat (first | (with_reducible exact HR363_0.out) | (with_reducible refine Kd.C_alloc ?_ _) | (with_reducible refine Kd.C_drewN ?_ _) | (with_reducible refine Kd.C_drew ?_) | exact HR363_0.out)) | (with_reducible refine Kd.C_alloc ?_ _) | (with_reducible refine Kd.C_drewN ?_ _) | (with_reducible refine Kd.C_drew ?_))); (case side2 => exact HC363_0.out); (case side3 => repeat (first | exact (by repeat (first | (with_reducible exact HR364_0.out) | (with_reducible refine Kd.C_alloc ?_ _) | (with_reducible refine Kd.C_drewN ?_ _) | (with_reducible refine Kd.C_drew ?_) | exact HR364_0.out)) | (with_reducible refine Kd.C_alloc ?_ _) | (with_reducible refine Kd.C_drewN ?_ _) | (with_reducible refine Kd.C_drew ?_))); (case side4 => exact HC364_0.out); rintro e w' ⟨rfl, ⟨nd, rfl⟩⟩; (try first | exact ⟨rfl, _, World.drewN_drewN _ _ _⟩ | exact ⟨rfl, _, Eq.trans (World.drewN_drewN _ _ _) (congrArg (World.drewN _) (Nat.add_assoc _ _ _))⟩); have p366 : 0 ≤ (x38_2 : Int) := of_decide_eq_true (by first | (with_reducible assumption) | assumption); have q366 : x38_2 < (t355.length : Int) := of_decide_eq_true (by first | (with_reducible assumption) | assumption); obtain ⟨ad366, A366_0, c366_0, A366_1, c366_1, e366, hx366_0, hx366_1, hl366_0, hi366_0, hl366_1, hi366_1⟩ := at_T30 (Kd.S_reads' HO_7.out).2.2 x38_2 p366 q366; obtain rfl : ad363 = ad366 := (by injection e366); obtain ⟨ce366, hce366, hMe366, hcc366⟩ := Kd.S_get HO_7.out z30 x38_2 p366 (by first | exact q366 | exact of_decide_eq_true (by first | (with_reducible assumption) | assumption) | (have e_ := (Kd.S_reads' HO_7.out).1; omega)); obtain ⟨ve366_0, ve366_1, rfl, ge366_0, ge366_1⟩ := k30_openM hMe366; have hv366_0 := hcc366 0 _ rfl; rw [Nat.add_zero] at hv366_0; replace hv366_0 := Option.some.inj (hv366_0.symm.trans hx366_0); rw [hv366_0] at ge366_0; have HL366_0 := Aside0.mk (show Kd.R (Kd.int .i64) 3 _ _ _ _ ((rd_T30 t355 x38_2).f0) from ge366_0); clear hv366_0 ge366_0; have hv366_1 := hcc366 1 _ rfl; rw [add_field _ _ 1 (by omega)] at hv366_1; replace hv366_1 := Option.some.inj (hv366_1.symm.trans hx366_1); rw [hv366_1] at ge366_1; have HL366_1 := Aside0.mk (show Kd.R (Kd.int .i64) 3 _ _ _ _ ((rd_T30 t355 x38_2).f1) from ge366_1); clear hv366_1 ge366_1; clear hcc366 hce366; have HR366_0 := Aside0.mk hi366_0; have HC366_0 := Aside0.mk hl366_0; clear hi366_0 hl366_0; have HR366_1 := Aside0.mk hi366_1; have HC366_1 := Aside0.mk hl366_1; clear hi366_1 hl366_1; replace p366 := eq_true p366; replace q366 := eq_true q366; have ea_ := Option.some.inj (hx363_0.symm.trans hx366_0); injection ea_ with ea_ en_ ec_; subst ea_; subst ec_; clear en_; have ea_ := Option.some.inj (hx363_1.symm.trans hx366_1); injection ea_ with ea_ en_ ec_; subst ea_; subst ec_; clear en_; have p367 : 0 ≤ (x38_2 : Int) := of_decide_eq_true (by first | (with_reducible assumption) | assumption); have q367 : x38_2 < (t359.length : Int) := of_decide_eq_true (by first | (with_reducible assumption) | assumption); obtain ⟨ad367, A367_0, c367_0, A367_1, c367_1, e367, hx367_0, hx367_1, hl367_0, hi367_0, hl367_1, hi367_1⟩ := at_T30 (Kd.S_reads' HO_9.out).2.2 x38_2 p367 q367; obtain rfl : ad364 = ad367 := (by injection e367); obtain ⟨ce367, hce367, hMe367, hcc367⟩ := Kd.S_get HO_9.out z30 x38_2 p367 (by first | exact q367 | exact of_decide_eq_true (by first | (with_reducible assumption) | assumption) | (have e_ := (Kd.S_reads' HO_9.out).1; omega)); obtain ⟨ve367_0, ve367_1, rfl, ge367_0, ge367_1⟩ := k30_openM hMe367; have hv367_0 := hcc367 0 _ rfl; rw [Nat.add_zero] at hv367_0; replace hv367_0 := Option.some.inj (hv367_0.symm.trans hx367_0); rw [hv367_0] at ge367_0; have HL367_0 := Aside0.mk (show Kd.R (Kd.int .i64) 3 _ _ _ _ ((rd_T30 t359 x38_2).f0) from ge367_0); clear hv367_0 ge367_0; have hv367_1 := hcc367 1 _ rfl; rw [add_field _ _ 1 (by omega)] at hv367_1; replace hv367_1 := Option.some.inj (hv367_1.symm.trans hx367_1); rw [hv367_1] at ge367_1; have HL367_1 := Aside0.mk (show Kd.R (Kd.int .i64) 3 _ _ _ _ ((rd_T30 t359 x38_2).f1) from ge367_1); clear hv367_1 ge367_1; clear hcc367 hce367; have HR367_0 := Aside0.mk hi367_0; have HC367_0 := Aside0.mk hl367_0; clear hi367_0 hl367_0; have HR367_1 := Aside0.mk hi367_1; have HC367_1 := Aside0.mk hl367_1; clear hi367_1 hl367_1; replace p367 := eq_true p367; replace q367 := eq_true q367; have ea_ := Option.some.inj (hx364_0.symm.trans hx367_0); injection ea_ with ea_ en_ ec_; subst ea_; subst ec_; clear en_; have ea_ := Option.some.inj (hx364_1.symm.trans hx367_1); injection ea_ with ea_ en_ ec_; subst ea_; subst ec_; clear en_) | (go_at_call 11; (with_reducible refine (orreryref17_Ints.calls k2 _ _ ((rd_T30 t355 x38_2).f1) _ _ ((rd_T30 t359 x38_2).f1) false _ ?side1 ?side2 ?side3 ?side4 A20.out).mono ?_); (case side1 => repeat (first | exact (by repeat (first | (with_reducible exact HR366_1.out) | (with_reducible refine Kd.C_alloc ?_ _) | (with_reducible refine Kd.C_drewN ?_ _) | (with_reducible refine Kd.C_drew ?_) | exact HR366_1.out)) | (with_reducible refine Kd.C_alloc ?_ _) | (with_reducible refine Kd.C_drewN ?_ _) | (with_reducible refine Kd.C_drew ?_))); (case side2 => exact HC366_1.out); (case side3 => repeat (first | exact (by repeat (first | (with_reducible exact HR367_1.out) | (with_reducible refine Kd.C_alloc ?_ _) | (with_reducible refine Kd.C_drewN ?_ _) | (with_reducible refine Kd.C_drew ?_) | exact HR367_1.out)) | (with_reducible refine Kd.C_alloc ?_ _) | (with_reducible refine Kd.C_drewN ?_ _) | (with_reducible refine Kd.C_drew ?_))); (case side4 => exact HC367_1.out); rintro e w' ⟨rfl, ⟨nd, rfl⟩⟩; (try first | exact ⟨rfl, _, World.drewN_drewN _ _ _⟩ | exact ⟨rfl, _, Eq.trans (World.drewN_drewN _ _ _) (congrArg (World.drewN _) (Nat.add_assoc _ _ _))⟩)))
      repeat (go_quiet (first | (go_at_call 11; (with_reducible refine (orreryref17_Ints.calls k2 _ _ ((rd_T30 t355 x38_2).f0) _ _ ((rd_T30 t359 x38_2).f0) true _ ?side1 ?side2 ?side3 ?side4 A18.out).mono ?_); (case side1 => repeat (first | exact (by repeat (first | (with_reducible exact HR363_0.out) | (with_reducible refine Kd.C_alloc ?_ _) | (with_reducible refine Kd.C_drewN ?_ _) | (with_reducible refine Kd.C_drew ?_) | exact HR363_0.out)) | (with_reducible refine Kd.C_alloc ?_ _) | (with_reducible refine Kd.C_drewN ?_ _) | (with_reducible refine Kd.C_drew ?_))); (case side2 => exact HC363_0.out); (case side3 => repeat (first | exact (by repeat (first | (with_reducible exact HR364_0.out) | (with_reducible refine Kd.C_alloc ?_ _) | (with_reducible refine Kd.C_drewN ?_ _) | (with_reducible refine Kd.C_drew ?_) | exact HR364_0.out)) | (with_reducible refine Kd.C_alloc ?_ _) | (with_reducible refine Kd.C_drewN ?_ _) | (with_reducible refine Kd.C_drew ?_))); (case side4 => exact HC364_0.out); rintro e w' ⟨rfl, ⟨nd, rfl⟩⟩; (try first | exact ⟨rfl, _, World.drewN_drewN _ _ _⟩ | exact ⟨rfl, _, Eq.trans (World.drewN_drewN _ _ _) (congrArg (World.drewN _) (Nat.add_assoc _ _ _))⟩); have p366 : 0 ≤ (x38_2 : Int) := of_decide_eq_true (by first | (with_reducible assumption) | assumption); have q366 : x38_2 < (t355.length : Int) := of_decide_eq_true (by first | (with_reducible assumption) | assumption); obtain ⟨ad366, A366_0, c366_0, A366_1, c366_1, e366, hx366_0, hx366_1, hl366_0, hi366_0, hl366_1, hi366_1⟩ := at_T30 (Kd.S_reads' HO_7.out).2.2 x38_2 p366 q366; obtain rfl : ad363 = ad366 := (by injection e366); obtain ⟨ce366, hce366, hMe366, hcc366⟩ := Kd.S_get HO_7.out z30 x38_2 p366 (by first | exact q366 | exact of_decide_eq_true (by first | (with_reducible assumption) | assumption) | (have e_ := (Kd.S_reads' HO_7.out).1; omega)); obtain ⟨ve366_0, ve366_1, rfl, ge366_0, ge366_1⟩ := k30_openM hMe366; have hv366_0 := hcc366 0 _ rfl; rw [Nat.add_zero] at hv366_0; replace hv366_0 := Option.some.inj (hv366_0.symm.trans hx366_0); rw [hv366_0] at ge366_0; have HL366_0 := Aside0.mk (show Kd.R (Kd.int .i64) 3 _ _ _ _ ((rd_T30 t355 x38_2).f0) from ge366_0); clear hv366_0 ge366_0; have hv366_1 := hcc366 1 _ rfl; rw [add_field _ _ 1 (by omega)] at hv366_1; replace hv366_1 := Option.some.inj (hv366_1.symm.trans hx366_1); rw [hv366_1] at ge366_1; have HL366_1 := Aside0.mk (show Kd.R (Kd.int .i64) 3 _ _ _ _ ((rd_T30 t355 x38_2).f1) from ge366_1); clear hv366_1 ge366_1; clear hcc366 hce366; have HR366_0 := Aside0.mk hi366_0; have HC366_0 := Aside0.mk hl366_0; clear hi366_0 hl366_0; have HR366_1 := Aside0.mk hi366_1; have HC366_1 := Aside0.mk hl366_1; clear hi366_1 hl366_1; replace p366 := eq_true p366; replace q366 := eq_true q366; have ea_ := Option.some.inj (hx363_0.symm.trans hx366_0); injection ea_ with ea_ en_ ec_; subst ea_; subst ec_; clear en_; have ea_ := Option.some.inj (hx363_1.symm.trans hx366_1); injection ea_ with ea_ en_ ec_; subst ea_; subst ec_; clear en_; have p367 : 0 ≤ (x38_2 : Int) := of_decide_eq_true (by first | (with_reducible assumption) | assumption); have q367 : x38_2 < (t359.length : Int) := of_decide_eq_true (by first | (with_reducible assumption) | assumption); obtain ⟨ad367, A367_0, c367_0, A367_1, c367_1, e367, hx367_0, hx367_1, hl367_0, hi367_0, hl367_1, hi367_1⟩ := at_T30 (Kd.S_reads' HO_9.out).2.2 x38_2 p367 q367; obtain rfl : ad364 = ad367 := (by injection e367); obtain ⟨ce367, hce367, hMe367, hcc367⟩ := Kd.S_get HO_9.out z30 x38_2 p367 (by first | exact q367 | exact of_decide_eq_true (by first | (with_reducible assumption) | assumption) | (have e_ := (Kd.S_reads' HO_9.out).1; omega)); obtain ⟨ve367_0, ve367_1, rfl, ge367_0, ge367_1⟩ := k30_openM hMe367; have hv367_0 := hcc367 0 _ rfl; rw [Nat.add_zero] at hv367_0; replace hv367_0 := Option.some.inj (hv367_0.symm.trans hx367_0); rw [hv367_0] at ge367_0; have HL367_0 := Aside0.mk (show Kd.R (Kd.int .i64) 3 _ _ _ _ ((rd_T30 t359 x38_2).f0) from ge367_0); clear hv367_0 ge367_0; have hv367_1 := hcc367 1 _ rfl; rw [add_field _ _ 1 (by omega)] at hv367_1; replace hv367_1 := Option.some.inj (hv367_1.symm.trans hx367_1); rw [hv367_1] at ge367_1; have HL367_1 := Aside0.mk (show Kd.R (Kd.int .i64) 3 _ _ _ _ ((rd_T30 t359 x38_2).f1) from ge367_1); clear hv367_1 ge367_1; clear hcc367 hce367; have HR367_0 := Aside0.mk hi367_0; have HC367_0 := Aside0.mk hl367_0; clear hi367_0 hl367_0; have HR367_1 := Aside0.mk hi367_1; have HC367_1 := Aside0.mk hl367_1; clear hi367_1 hl367_1; replace p367 := eq_true p367; replace q367 := eq_true q367; have ea_ := Option.some.inj (hx364_0.symm.trans hx367_0); injection ea_ with ea_ en_ ec_; subst ea_; subst ec_; clear en_; have ea_ := Option.some.inj (hx364_1.symm.trans hx367_1); injection ea_ with ea_ en_ ec_; subst ea_; subst ec_; clear en_) | (go_at_call 11; (with_reducible refine (orreryref17_Ints.calls k2 _ _ ((rd_T30 t355 x38_2).f1) _ _ ((rd_T30 t359 x38_2).f1) false _ ?side1 ?side2 ?side3 ?side4 A20.out).mono ?_); (case side1 => repeat (first | exact (by repeat (first | (with_reducible exact HR366_1.out) | (with_reducible refine Kd.C_alloc ?_ _) | (with_reducible refine Kd.C_drewN ?_ _) | (with_reducible refine Kd.C_drew ?_) | exact HR366_1.out)) | (with_reducible refine Kd.C_alloc ?_ _) | (with_reducible refine Kd.C_drewN ?_ _) | (with_reducible refine Kd.C_drew ?_))); (case side2 => exact HC366_1.out); (case side3 => repeat (first | exact (by repeat (first | (with_reducible exact HR367_1.out) | (with_reducible refine Kd.C_alloc ?_ _) | (with_reducible refine Kd.C_drewN ?_ _) | (with_reducible refine Kd.C_drew ?_) | exact HR367_1.out)) | (with_reducible refine Kd.C_alloc ?_ _) | (with_reducible refine Kd.C_drewN ?_ _) | (with_reducible refine Kd.C_drew ?_))); (case side4 => exact HC367_1.out); rintro e w' ⟨rfl, ⟨nd, rfl⟩⟩; (try first | exact ⟨rfl, _, World.drewN_drewN _ _ _⟩ | exact ⟨rfl, _, Eq.trans (World.drewN_drewN _ _ _) (congrArg (World.drewN _) (Nat.add_assoc _ _ _))⟩))); try go_wp2_with (first | (go_at_call 11; (with_reducible refine (orreryref17_Ints.calls k2 _ _ ((rd_T30 t355 x38_2).f0) _ _ ((rd_T30 t359 x38_2).f0) true _ ?side1 ?side2 ?side3 ?side4 A18.out).mono ?_); (case side1 => repeat (first | exact (by repeat (first | (with_reducible exact HR363_0.out) | (with_reducible refine Kd.C_alloc ?_ _) | (with_reducible refine Kd.C_drewN ?_ _) | (with_reducible refine Kd.C_drew ?_) | exact HR363_0.out)) | (with_reducible refine Kd.C_alloc ?_ _) | (with_reducible refine Kd.C_drewN ?_ _) | (with_reducible refine Kd.C_drew ?_))); (case side2 => exact HC363_0.out); (case side3 => repeat (first | exact (by repeat (first | (with_reducible exact HR364_0.out) | (with_reducible refine Kd.C_alloc ?_ _) | (with_reducible refine Kd.C_drewN ?_ _) | (with_reducible refine Kd.C_drew ?_) | exact HR364_0.out)) | (with_reducible refine Kd.C_alloc ?_ _) | (with_reducible refine Kd.C_drewN ?_ _) | (with_reducible refine Kd.C_drew ?_))); (case side4 => exact HC364_0.out); rintro e w' ⟨rfl, ⟨nd, rfl⟩⟩; (try first | exact ⟨rfl, _, World.drewN_drewN _ _ _⟩ | exact ⟨rfl, _, Eq.trans (World.drewN_drewN _ _ _) (congrArg (World.drewN _) (Nat.add_assoc _ _ _))⟩); have p366 : 0 ≤ (x38_2 : Int) := of_decide_eq_true (by first | (with_reducible assumption) | assumption); have q366 : x38_2 < (t355.length : Int) := of_decide_eq_true (by first | (with_reducible assumption) | assumption); obtain ⟨ad366, A366_0, c366_0, A366_1, c366_1, e366, hx366_0, hx366_1, hl366_0, hi366_0, hl366_1, hi366_1⟩ := at_T30 (Kd.S_reads' HO_7.out).2.2 x38_2 p366 q366; obtain rfl : ad363 = ad366 := (by injection e366); obtain ⟨ce366, hce366, hMe366, hcc366⟩ := Kd.S_get HO_7.out z30 x38_2 p366 (by first | exact q366 | exact of_decide_eq_true (by first | (with_reducible assumption) | assumption) | (have e_ := (Kd.S_reads' HO_7.out).1; omega)); obtain ⟨ve366_0, ve366_1, rfl, ge366_0, ge366_1⟩ := k30_openM hMe366; have hv366_0 := hcc366 0 _ rfl; rw [Nat.add_zero] at hv366_0; replace hv366_0 := Option.some.inj (hv366_0.symm.trans hx366_0); rw [hv366_0] at ge366_0; have HL366_0 := Aside0.mk (show Kd.R (Kd.int .i64) 3 _ _ _ _ ((rd_T30 t355 x38_2).f0) from ge366_0); clear hv366_0 ge366_0; have hv366_1 := hcc366 1 _ rfl; rw [add_field _ _ 1 (by omega)] at hv366_1; replace hv366_1 := Option.some.inj (hv366_1.symm.trans hx366_1); rw [hv366_1] at ge366_1; have HL366_1 := Aside0.mk (show Kd.R (Kd.int .i64) 3 _ _ _ _ ((rd_T30 t355 x38_2).f1) from ge366_1); clear hv366_1 ge366_1; clear hcc366 hce366; have HR366_0 := Aside0.mk hi366_0; have HC366_0 := Aside0.mk hl366_0; clear hi366_0 hl366_0; have HR366_1 := Aside0.mk hi366_1; have HC366_1 := Aside0.mk hl366_1; clear hi366_1 hl366_1; replace p366 := eq_true p366; replace q366 := eq_true q366; have ea_ := Option.some.inj (hx363_0.symm.trans hx366_0); injection ea_ with ea_ en_ ec_; subst ea_; subst ec_; clear en_; have ea_ := Option.some.inj (hx363_1.symm.trans hx366_1); injection ea_ with ea_ en_ ec_; subst ea_; subst ec_; clear en_; have p367 : 0 ≤ (x38_2 : Int) := of_decide_eq_true (by first | (with_reducible assumption) | assumption); have q367 : x38_2 < (t359.length : Int) := of_decide_eq_true (by first | (with_reducible assumption) | assumption); obtain ⟨ad367, A367_0, c367_0, A367_1, c367_1, e367, hx367_0, hx367_1, hl367_0, hi367_0, hl367_1, hi367_1⟩ := at_T30 (Kd.S_reads' HO_9.out).2.2 x38_2 p367 q367; obtain rfl : ad364 = ad367 := (by injection e367); obtain ⟨ce367, hce367, hMe367, hcc367⟩ := Kd.S_get HO_9.out z30 x38_2 p367 (by first | exact q367 | exact of_decide_eq_true (by first | (with_reducible assumption) | assumption) | (have e_ := (Kd.S_reads' HO_9.out).1; omega)); obtain ⟨ve367_0, ve367_1, rfl, ge367_0, ge367_1⟩ := k30_openM hMe367; have hv367_0 := hcc367 0 _ rfl; rw [Nat.add_zero] at hv367_0; replace hv367_0 := Option.some.inj (hv367_0.symm.trans hx367_0); rw [hv367_0] at ge367_0; have HL367_0 := Aside0.mk (show Kd.R (Kd.int .i64) 3 _ _ _ _ ((rd_T30 t359 x38_2).f0) from ge367_0); clear hv367_0 ge367_0; have hv367_1 := hcc367 1 _ rfl; rw [add_field _ _ 1 (by omega)] at hv367_1; replace hv367_1 := Option.some.inj (hv367_1.symm.trans hx367_1); rw [hv367_1] at ge367_1; have HL367_1 := Aside0.mk (show Kd.R (Kd.int .i64) 3 _ _ _ _ ((rd_T30 t359 x38_2).f1) from ge367_1); clear hv367_1 ge367_1; clear hcc367 hce367; have HR367_0 := Aside0.mk hi367_0; have HC367_0 := Aside0.mk hl367_0; clear hi367_0 hl367_0; have HR367_1 := Aside0.mk hi367_1; have HC367_1 := Aside0.mk hl367_1; clear hi367_1 hl367_1; replace p367 := eq_true p367; replace q367 := eq_true q367; have ea_ := Option.some.inj (hx364_0.symm.trans hx367_0); injection ea_ with ea_ en_ ec_; subst ea_; subst ec_; clear en_; have ea_ := Option.some.inj (hx364_1.symm.trans hx367_1); injection ea_ with ea_ en_ ec_; subst ea_; subst ec_; clear en_) | (go_at_call 11; (with_reducible refine (orreryref17_Ints.calls k2 _ _ ((rd_T30 t355 x38_2).f1) _ _ ((rd_T30 t359 x38_2).f1) false _ ?side1 ?side2 ?side3 ?side4 A20.out).mono ?_); (case side1 => repeat (first | exact (by repeat (first | (with_reducible exact HR366_1.out) | (with_reducible refine Kd.C_alloc ?_ _) | (with_reducible refine Kd.C_drewN ?_ _) | (with_reducible refine Kd.C_drew ?_) | exact HR366_1.out)) | (with_reducible refine Kd.C_alloc ?_ _) | (with_reducible refine Kd.C_drewN ?_ _) | (with_reducible refine Kd.C_drew ?_))); (case side2 => exact HC366_1.out); (case side3 => repeat (first | exact (by repeat (first | (with_reducible exact HR367_1.out) | (with_reducible refine Kd.C_alloc ?_ _) | (with_reducible refine Kd.C_drewN ?_ _) | (with_reducible refine Kd.C_drew ?_) | exact HR367_1.out)) | (with_reducible refine Kd.C_alloc ?_ _) | (with_reducible refine Kd.C_drewN ?_ _) | (with_reducible refine Kd.C_drew ?_))); (case side4 => exact HC367_1.out); rintro e w' ⟨rfl, ⟨nd, rfl⟩⟩; (try first | exact ⟨rfl, _, World.drewN_drewN _ _ _⟩ | exact ⟨rfl, _, Eq.trans (World.drewN_drewN _ _ _) (congrArg (World.drewN _) (Nat.add_assoc _ _ _))⟩))))
      go_ret
      exact ⟨by first | rfl | (simp [errW_none, errW_some] <;> rfl) | (simp [*, errW_none, errW_some] <;> rfl), by repeat (first | (with_reducible first | exact HB.out | apply below_alloc | apply pw_below_drewN | apply below_drew1) | exact HB.out)⟩
     subst c21
     have H1 : (orrerylaw21_OrderBlocks.l0 k2 t355 t359 (t355.length : Int) (wrap64 (x38_2 + 1))) = some r := by rw [if_pos rfl] at H; exact H
     clear H
     have H := H1
     clear H1
     have H' := Aside0.mk H
     clear H
     have p363 : 0 ≤ (x38_2 : Int) := of_decide_eq_true (by first | (with_reducible assumption) | assumption)
     have q363 : x38_2 < (t355.length : Int) := of_decide_eq_true (by first | (with_reducible assumption) | assumption)
     obtain ⟨ad363, A363_0, c363_0, A363_1, c363_1, e363, hx363_0, hx363_1, hl363_0, hi363_0, hl363_1, hi363_1⟩ := at_T30 (Kd.S_reads' HO_7.out).2.2 x38_2 p363 q363
     cases e363
     obtain ⟨ce363, hce363, hMe363, hcc363⟩ := Kd.S_get HO_7.out z30 x38_2 p363 (by first | exact q363 | exact of_decide_eq_true (by first | (with_reducible assumption) | assumption) | (have e_ := (Kd.S_reads' HO_7.out).1; omega))
     obtain ⟨ve363_0, ve363_1, rfl, ge363_0, ge363_1⟩ := k30_openM hMe363
     have hv363_0 := hcc363 0 _ rfl
     rw [Nat.add_zero] at hv363_0
     replace hv363_0 := Option.some.inj (hv363_0.symm.trans hx363_0)
     rw [hv363_0] at ge363_0
     have HL363_0 := Aside0.mk (show Kd.R (Kd.int .i64) 3 _ _ _ _ ((rd_T30 t355 x38_2).f0) from ge363_0)
     clear hv363_0 ge363_0
     have hv363_1 := hcc363 1 _ rfl
     rw [add_field _ _ 1 (by omega)] at hv363_1
     replace hv363_1 := Option.some.inj (hv363_1.symm.trans hx363_1)
     rw [hv363_1] at ge363_1
     have HL363_1 := Aside0.mk (show Kd.R (Kd.int .i64) 3 _ _ _ _ ((rd_T30 t355 x38_2).f1) from ge363_1)
     clear hv363_1 ge363_1
     clear hcc363 hce363
     have HR363_0 := Aside0.mk hi363_0
     have HC363_0 := Aside0.mk hl363_0
     clear hi363_0 hl363_0
     have HR363_1 := Aside0.mk hi363_1
     have HC363_1 := Aside0.mk hl363_1
     clear hi363_1 hl363_1
     replace p363 := eq_true p363
     replace q363 := eq_true q363
     obtain ⟨Ao22, co22, eo22⟩ := Kd.S_slice HO_9.out
     subst eo22
     have p364 : 0 ≤ (x38_2 : Int) := of_decide_eq_true (by first | (with_reducible assumption) | assumption)
     have q364 : x38_2 < (t359.length : Int) := of_decide_eq_true (by first | (with_reducible assumption) | assumption)
     obtain ⟨ad364, A364_0, c364_0, A364_1, c364_1, e364, hx364_0, hx364_1, hl364_0, hi364_0, hl364_1, hi364_1⟩ := at_T30 (Kd.S_reads' HO_9.out).2.2 x38_2 p364 q364
     cases e364
     obtain ⟨ce364, hce364, hMe364, hcc364⟩ := Kd.S_get HO_9.out z30 x38_2 p364 (by first | exact q364 | exact of_decide_eq_true (by first | (with_reducible assumption) | assumption) | (have e_ := (Kd.S_reads' HO_9.out).1; omega))
     obtain ⟨ve364_0, ve364_1, rfl, ge364_0, ge364_1⟩ := k30_openM hMe364
     have hv364_0 := hcc364 0 _ rfl
     rw [Nat.add_zero] at hv364_0
     replace hv364_0 := Option.some.inj (hv364_0.symm.trans hx364_0)
     rw [hv364_0] at ge364_0
     have HL364_0 := Aside0.mk (show Kd.R (Kd.int .i64) 3 _ _ _ _ ((rd_T30 t359 x38_2).f0) from ge364_0)
     clear hv364_0 ge364_0
     have hv364_1 := hcc364 1 _ rfl
     rw [add_field _ _ 1 (by omega)] at hv364_1
     replace hv364_1 := Option.some.inj (hv364_1.symm.trans hx364_1)
     rw [hv364_1] at ge364_1
     have HL364_1 := Aside0.mk (show Kd.R (Kd.int .i64) 3 _ _ _ _ ((rd_T30 t359 x38_2).f1) from ge364_1)
     clear hv364_1 ge364_1
     clear hcc364 hce364
     have HR364_0 := Aside0.mk hi364_0
     have HC364_0 := Aside0.mk hl364_0
     clear hi364_0 hl364_0
     have HR364_1 := Aside0.mk hi364_1
     have HC364_1 := Aside0.mk hl364_1
     clear hi364_1 hl364_1
     replace p364 := eq_true p364
     replace q364 := eq_true q364
     go_wp2_with (first | (go_at_call 11; (with_reducible refine (orreryref17_Ints.calls k2 _ _ ((rd_T30 t355 x38_2).f0) _ _ ((rd_T30 t359 x38_2).f0) true _ ?side1 ?side2 ?side3 ?side4 A18.out).mono ?_); (case side1 => repeat (first | exact (by repeat (first | (with_reducible exact HR363_0.out) | (with_reducible refine Kd.C_alloc ?_ _) | (with_reducible refine Kd.C_drewN ?_ _) | (with_reducible refine Kd.C_drew ?_) | exact HR363_0.out)) | (with_reducible refine Kd.C_alloc ?_ _) | (with_reducible refine Kd.C_drewN ?_ _) | (with_reducible refine Kd.C_drew ?_))); (case side2 => exact HC363_0.out); (case side3 => repeat (first | exact (by repeat (first | (with_reducible exact HR364_0.out) | (with_reducible refine Kd.C_alloc ?_ _) | (with_reducible refine Kd.C_drewN ?_ _) | (with_reducible refine Kd.C_drew ?_) | exact HR364_0.out)) | (with_reducible refine Kd.C_alloc ?_ _) | (with_reducible refine Kd.C_drewN ?_ _) | (with_reducible refine Kd.C_drew ?_))); (case side4 => exact HC364_0.out); rintro e w' ⟨rfl, ⟨nd, rfl⟩⟩; (try first | exact ⟨rfl, _, World.drewN_drewN _ _ _⟩ | exact ⟨rfl, _, Eq.trans (World.drewN_drewN _ _ _) (congrArg (World.drewN _) (Nat.add_assoc _ _ _))⟩); have p366 : 0 ≤ (x38_2 : Int) := of_decide_eq_true (by first | (with_reducible assumption) | assumption); have q366 : x38_2 < (t355.length : Int) := of_decide_eq_true (by first | (with_reducible assumption) | assumption); obtain ⟨ad366, A366_0, c366_0, A366_1, c366_1, e366, hx366_0, hx366_1, hl366_0, hi366_0, hl366_1, hi366_1⟩ := at_T30 (Kd.S_reads' HO_7.out).2.2 x38_2 p366 q366; obtain rfl : ad363 = ad366 := (by injection e366); obtain ⟨ce366, hce366, hMe366, hcc366⟩ := Kd.S_get HO_7.out z30 x38_2 p366 (by first | exact q366 | exact of_decide_eq_true (by first | (with_reducible assumption) | assumption) | (have e_ := (Kd.S_reads' HO_7.out).1; omega)); obtain ⟨ve366_0, ve366_1, rfl, ge366_0, ge366_1⟩ := k30_openM hMe366; have hv366_0 := hcc366 0 _ rfl; rw [Nat.add_zero] at hv366_0; replace hv366_0 := Option.some.inj (hv366_0.symm.trans hx366_0); rw [hv366_0] at ge366_0; have HL366_0 := Aside0.mk (show Kd.R (Kd.int .i64) 3 _ _ _ _ ((rd_T30 t355 x38_2).f0) from ge366_0); clear hv366_0 ge366_0; have hv366_1 := hcc366 1 _ rfl; rw [add_field _ _ 1 (by omega)] at hv366_1; replace hv366_1 := Option.some.inj (hv366_1.symm.trans hx366_1); rw [hv366_1] at ge366_1; have HL366_1 := Aside0.mk (show Kd.R (Kd.int .i64) 3 _ _ _ _ ((rd_T30 t355 x38_2).f1) from ge366_1); clear hv366_1 ge366_1; clear hcc366 hce366; have HR366_0 := Aside0.mk hi366_0; have HC366_0 := Aside0.mk hl366_0; clear hi366_0 hl366_0; have HR366_1 := Aside0.mk hi366_1; have HC366_1 := Aside0.mk hl366_1; clear hi366_1 hl366_1; replace p366 := eq_true p366; replace q366 := eq_true q366; have ea_ := Option.some.inj (hx363_0.symm.trans hx366_0); injection ea_ with ea_ en_ ec_; subst ea_; subst ec_; clear en_; have ea_ := Option.some.inj (hx363_1.symm.trans hx366_1); injection ea_ with ea_ en_ ec_; subst ea_; subst ec_; clear en_; have p367 : 0 ≤ (x38_2 : Int) := of_decide_eq_true (by first | (with_reducible assumption) | assumption); have q367 : x38_2 < (t359.length : Int) := of_decide_eq_true (by first | (with_reducible assumption) | assumption); obtain ⟨ad367, A367_0, c367_0, A367_1, c367_1, e367, hx367_0, hx367_1, hl367_0, hi367_0, hl367_1, hi367_1⟩ := at_T30 (Kd.S_reads' HO_9.out).2.2 x38_2 p367 q367; obtain rfl : ad364 = ad367 := (by injection e367); obtain ⟨ce367, hce367, hMe367, hcc367⟩ := Kd.S_get HO_9.out z30 x38_2 p367 (by first | exact q367 | exact of_decide_eq_true (by first | (with_reducible assumption) | assumption) | (have e_ := (Kd.S_reads' HO_9.out).1; omega)); obtain ⟨ve367_0, ve367_1, rfl, ge367_0, ge367_1⟩ := k30_openM hMe367; have hv367_0 := hcc367 0 _ rfl; rw [Nat.add_zero] at hv367_0; replace hv367_0 := Option.some.inj (hv367_0.symm.trans hx367_0); rw [hv367_0] at ge367_0; have HL367_0 := Aside0.mk (show Kd.R (Kd.int .i64) 3 _ _ _ _ ((rd_T30 t359 x38_2).f0) from ge367_0); clear hv367_0 ge367_0; have hv367_1 := hcc367 1 _ rfl; rw [add_field _ _ 1 (by omega)] at hv367_1; replace hv367_1 := Option.some.inj (hv367_1.symm.trans hx367_1); rw [hv367_1] at ge367_1; have HL367_1 := Aside0.mk (show Kd.R (Kd.int .i64) 3 _ _ _ _ ((rd_T30 t359 x38_2).f1) from ge367_1); clear hv367_1 ge367_1; clear hcc367 hce367; have HR367_0 := Aside0.mk hi367_0; have HC367_0 := Aside0.mk hl367_0; clear hi367_0 hl367_0; have HR367_1 := Aside0.mk hi367_1; have HC367_1 := Aside0.mk hl367_1; clear hi367_1 hl367_1; replace p367 := eq_true p367; replace q367 := eq_true q367; have ea_ := Option.some.inj (hx364_0.symm.trans hx367_0); injection ea_ with ea_ en_ ec_; subst ea_; subst ec_; clear en_; have ea_ := Option.some.inj (hx364_1.symm.trans hx367_1); injection ea_ with ea_ en_ ec_; subst ea_; subst ec_; clear en_) | (go_at_call 11; (with_reducible refine (orreryref17_Ints.calls k2 _ _ ((rd_T30 t355 x38_2).f1) _ _ ((rd_T30 t359 x38_2).f1) true _ ?side1 ?side2 ?side3 ?side4 A20.out).mono ?_); (case side1 => repeat (first | exact (by repeat (first | (with_reducible exact HR366_1.out) | (with_reducible refine Kd.C_alloc ?_ _) | (with_reducible refine Kd.C_drewN ?_ _) | (with_reducible refine Kd.C_drew ?_) | exact HR366_1.out)) | (with_reducible refine Kd.C_alloc ?_ _) | (with_reducible refine Kd.C_drewN ?_ _) | (with_reducible refine Kd.C_drew ?_))); (case side2 => exact HC366_1.out); (case side3 => repeat (first | exact (by repeat (first | (with_reducible exact HR367_1.out) | (with_reducible refine Kd.C_alloc ?_ _) | (with_reducible refine Kd.C_drewN ?_ _) | (with_reducible refine Kd.C_drew ?_) | exact HR367_1.out)) | (with_reducible refine Kd.C_alloc ?_ _) | (with_reducible refine Kd.C_drewN ?_ _) | (with_reducible refine Kd.C_drew ?_))); (case side4 => exact HC367_1.out); rintro e w' ⟨rfl, ⟨nd, rfl⟩⟩; (try first | exact ⟨rfl, _, World.drewN_drewN _ _ _⟩ | exact ⟨rfl, _, Eq.trans (World.drewN_drewN _ _ _) (congrArg (World.drewN _) (Nat.add_assoc _ _ _))⟩)))
     repeat (go_quiet (first | (go_at_call 11; (with_reducible refine (orreryref17_Ints.calls k2 _ _ ((rd_T30 t355 x38_2).f0) _ _ ((rd_T30 t359 x38_2).f0) true _ ?side1 ?side2 ?side3 ?side4 A18.out).mono ?_); (case side1 => repeat (first | exact (by repeat (first | (with_reducible exact HR363_0.out) | (with_reducible refine Kd.C_alloc ?_ _) | (with_reducible refine Kd.C_drewN ?_ _) | (with_reducible refine Kd.C_drew ?_) | exact HR363_0.out)) | (with_reducible refine Kd.C_alloc ?_ _) | (with_reducible refine Kd.C_drewN ?_ _) | (with_reducible refine Kd.C_drew ?_))); (case side2 => exact HC363_0.out); (case side3 => repeat (first | exact (by repeat (first | (with_reducible exact HR364_0.out) | (with_reducible refine Kd.C_alloc ?_ _) | (with_reducible refine Kd.C_drewN ?_ _) | (with_reducible refine Kd.C_drew ?_) | exact HR364_0.out)) | (with_reducible refine Kd.C_alloc ?_ _) | (with_reducible refine Kd.C_drewN ?_ _) | (with_reducible refine Kd.C_drew ?_))); (case side4 => exact HC364_0.out); rintro e w' ⟨rfl, ⟨nd, rfl⟩⟩; (try first | exact ⟨rfl, _, World.drewN_drewN _ _ _⟩ | exact ⟨rfl, _, Eq.trans (World.drewN_drewN _ _ _) (congrArg (World.drewN _) (Nat.add_assoc _ _ _))⟩); have p366 : 0 ≤ (x38_2 : Int) := of_decide_eq_true (by first | (with_reducible assumption) | assumption); have q366 : x38_2 < (t355.length : Int) := of_decide_eq_true (by first | (with_reducible assumption) | assumption); obtain ⟨ad366, A366_0, c366_0, A366_1, c366_1, e366, hx366_0, hx366_1, hl366_0, hi366_0, hl366_1, hi366_1⟩ := at_T30 (Kd.S_reads' HO_7.out).2.2 x38_2 p366 q366; obtain rfl : ad363 = ad366 := (by injection e366); obtain ⟨ce366, hce366, hMe366, hcc366⟩ := Kd.S_get HO_7.out z30 x38_2 p366 (by first | exact q366 | exact of_decide_eq_true (by first | (with_reducible assumption) | assumption) | (have e_ := (Kd.S_reads' HO_7.out).1; omega)); obtain ⟨ve366_0, ve366_1, rfl, ge366_0, ge366_1⟩ := k30_openM hMe366; have hv366_0 := hcc366 0 _ rfl; rw [Nat.add_zero] at hv366_0; replace hv366_0 := Option.some.inj (hv366_0.symm.trans hx366_0); rw [hv366_0] at ge366_0; have HL366_0 := Aside0.mk (show Kd.R (Kd.int .i64) 3 _ _ _ _ ((rd_T30 t355 x38_2).f0) from ge366_0); clear hv366_0 ge366_0; have hv366_1 := hcc366 1 _ rfl; rw [add_field _ _ 1 (by omega)] at hv366_1; replace hv366_1 := Option.some.inj (hv366_1.symm.trans hx366_1); rw [hv366_1] at ge366_1; have HL366_1 := Aside0.mk (show Kd.R (Kd.int .i64) 3 _ _ _ _ ((rd_T30 t355 x38_2).f1) from ge366_1); clear hv366_1 ge366_1; clear hcc366 hce366; have HR366_0 := Aside0.mk hi366_0; have HC366_0 := Aside0.mk hl366_0; clear hi366_0 hl366_0; have HR366_1 := Aside0.mk hi366_1; have HC366_1 := Aside0.mk hl366_1; clear hi366_1 hl366_1; replace p366 := eq_true p366; replace q366 := eq_true q366; have ea_ := Option.some.inj (hx363_0.symm.trans hx366_0); injection ea_ with ea_ en_ ec_; subst ea_; subst ec_; clear en_; have ea_ := Option.some.inj (hx363_1.symm.trans hx366_1); injection ea_ with ea_ en_ ec_; subst ea_; subst ec_; clear en_; have p367 : 0 ≤ (x38_2 : Int) := of_decide_eq_true (by first | (with_reducible assumption) | assumption); have q367 : x38_2 < (t359.length : Int) := of_decide_eq_true (by first | (with_reducible assumption) | assumption); obtain ⟨ad367, A367_0, c367_0, A367_1, c367_1, e367, hx367_0, hx367_1, hl367_0, hi367_0, hl367_1, hi367_1⟩ := at_T30 (Kd.S_reads' HO_9.out).2.2 x38_2 p367 q367; obtain rfl : ad364 = ad367 := (by injection e367); obtain ⟨ce367, hce367, hMe367, hcc367⟩ := Kd.S_get HO_9.out z30 x38_2 p367 (by first | exact q367 | exact of_decide_eq_true (by first | (with_reducible assumption) | assumption) | (have e_ := (Kd.S_reads' HO_9.out).1; omega)); obtain ⟨ve367_0, ve367_1, rfl, ge367_0, ge367_1⟩ := k30_openM hMe367; have hv367_0 := hcc367 0 _ rfl; rw [Nat.add_zero] at hv367_0; replace hv367_0 := Option.some.inj (hv367_0.symm.trans hx367_0); rw [hv367_0] at ge367_0; have HL367_0 := Aside0.mk (show Kd.R (Kd.int .i64) 3 _ _ _ _ ((rd_T30 t359 x38_2).f0) from ge367_0); clear hv367_0 ge367_0; have hv367_1 := hcc367 1 _ rfl; rw [add_field _ _ 1 (by omega)] at hv367_1; replace hv367_1 := Option.some.inj (hv367_1.symm.trans hx367_1); rw [hv367_1] at ge367_1; have HL367_1 := Aside0.mk (show Kd.R (Kd.int .i64) 3 _ _ _ _ ((rd_T30 t359 x38_2).f1) from ge367_1); clear hv367_1 ge367_1; clear hcc367 hce367; have HR367_0 := Aside0.mk hi367_0; have HC367_0 := Aside0.mk hl367_0; clear hi367_0 hl367_0; have HR367_1 := Aside0.mk hi367_1; have HC367_1 := Aside0.mk hl367_1; clear hi367_1 hl367_1; replace p367 := eq_true p367; replace q367 := eq_true q367; have ea_ := Option.some.inj (hx364_0.symm.trans hx367_0); injection ea_ with ea_ en_ ec_; subst ea_; subst ec_; clear en_; have ea_ := Option.some.inj (hx364_1.symm.trans hx367_1); injection ea_ with ea_ en_ ec_; subst ea_; subst ec_; clear en_) | (go_at_call 11; (with_reducible refine (orreryref17_Ints.calls k2 _ _ ((rd_T30 t355 x38_2).f1) _ _ ((rd_T30 t359 x38_2).f1) true _ ?side1 ?side2 ?side3 ?side4 A20.out).mono ?_); (case side1 => repeat (first | exact (by repeat (first | (with_reducible exact HR366_1.out) | (with_reducible refine Kd.C_alloc ?_ _) | (with_reducible refine Kd.C_drewN ?_ _) | (with_reducible refine Kd.C_drew ?_) | exact HR366_1.out)) | (with_reducible refine Kd.C_alloc ?_ _) | (with_reducible refine Kd.C_drewN ?_ _) | (with_reducible refine Kd.C_drew ?_))); (case side2 => exact HC366_1.out); (case side3 => repeat (first | exact (by repeat (first | (with_reducible exact HR367_1.out) | (with_reducible refine Kd.C_alloc ?_ _) | (with_reducible refine Kd.C_drewN ?_ _) | (with_reducible refine Kd.C_drew ?_) | exact HR367_1.out)) | (with_reducible refine Kd.C_alloc ?_ _) | (with_reducible refine Kd.C_drewN ?_ _) | (with_reducible refine Kd.C_drew ?_))); (case side4 => exact HC367_1.out); rintro e w' ⟨rfl, ⟨nd, rfl⟩⟩; (try first | exact ⟨rfl, _, World.drewN_drewN _ _ _⟩ | exact ⟨rfl, _, Eq.trans (World.drewN_drewN _ _ _) (congrArg (World.drewN _) (Nat.add_assoc _ _ _))⟩))); try go_wp2_with (first | (go_at_call 11; (with_reducible refine (orreryref17_Ints.calls k2 _ _ ((rd_T30 t355 x38_2).f0) _ _ ((rd_T30 t359 x38_2).f0) true _ ?side1 ?side2 ?side3 ?side4 A18.out).mono ?_); (case side1 => repeat (first | exact (by repeat (first | (with_reducible exact HR363_0.out) | (with_reducible refine Kd.C_alloc ?_ _) | (with_reducible refine Kd.C_drewN ?_ _) | (with_reducible refine Kd.C_drew ?_) | exact HR363_0.out)) | (with_reducible refine Kd.C_alloc ?_ _) | (with_reducible refine Kd.C_drewN ?_ _) | (with_reducible refine Kd.C_drew ?_))); (case side2 => exact HC363_0.out); (case side3 => repeat (first | exact (by repeat (first | (with_reducible exact HR364_0.out) | (with_reducible refine Kd.C_alloc ?_ _) | (with_reducible refine Kd.C_drewN ?_ _) | (with_reducible refine Kd.C_drew ?_) | exact HR364_0.out)) | (with_reducible refine Kd.C_alloc ?_ _) | (with_reducible refine Kd.C_drewN ?_ _) | (with_reducible refine Kd.C_drew ?_))); (case side4 => exact HC364_0.out); rintro e w' ⟨rfl, ⟨nd, rfl⟩⟩; (try first | exact ⟨rfl, _, World.drewN_drewN _ _ _⟩ | exact ⟨rfl, _, Eq.trans (World.drewN_drewN _ _ _) (congrArg (World.drewN _) (Nat.add_assoc _ _ _))⟩); have p366 : 0 ≤ (x38_2 : Int) := of_decide_eq_true (by first | (with_reducible assumption) | assumption); have q366 : x38_2 < (t355.length : Int) := of_decide_eq_true (by first | (with_reducible assumption) | assumption); obtain ⟨ad366, A366_0, c366_0, A366_1, c366_1, e366, hx366_0, hx366_1, hl366_0, hi366_0, hl366_1, hi366_1⟩ := at_T30 (Kd.S_reads' HO_7.out).2.2 x38_2 p366 q366; obtain rfl : ad363 = ad366 := (by injection e366); obtain ⟨ce366, hce366, hMe366, hcc366⟩ := Kd.S_get HO_7.out z30 x38_2 p366 (by first | exact q366 | exact of_decide_eq_true (by first | (with_reducible assumption) | assumption) | (have e_ := (Kd.S_reads' HO_7.out).1; omega)); obtain ⟨ve366_0, ve366_1, rfl, ge366_0, ge366_1⟩ := k30_openM hMe366; have hv366_0 := hcc366 0 _ rfl; rw [Nat.add_zero] at hv366_0; replace hv366_0 := Option.some.inj (hv366_0.symm.trans hx366_0); rw [hv366_0] at ge366_0; have HL366_0 := Aside0.mk (show Kd.R (Kd.int .i64) 3 _ _ _ _ ((rd_T30 t355 x38_2).f0) from ge366_0); clear hv366_0 ge366_0; have hv366_1 := hcc366 1 _ rfl; rw [add_field _ _ 1 (by omega)] at hv366_1; replace hv366_1 := Option.some.inj (hv366_1.symm.trans hx366_1); rw [hv366_1] at ge366_1; have HL366_1 := Aside0.mk (show Kd.R (Kd.int .i64) 3 _ _ _ _ ((rd_T30 t355 x38_2).f1) from ge366_1); clear hv366_1 ge366_1; clear hcc366 hce366; have HR366_0 := Aside0.mk hi366_0; have HC366_0 := Aside0.mk hl366_0; clear hi366_0 hl366_0; have HR366_1 := Aside0.mk hi366_1; have HC366_1 := Aside0.mk hl366_1; clear hi366_1 hl366_1; replace p366 := eq_true p366; replace q366 := eq_true q366; have ea_ := Option.some.inj (hx363_0.symm.trans hx366_0); injection ea_ with ea_ en_ ec_; subst ea_; subst ec_; clear en_; have ea_ := Option.some.inj (hx363_1.symm.trans hx366_1); injection ea_ with ea_ en_ ec_; subst ea_; subst ec_; clear en_; have p367 : 0 ≤ (x38_2 : Int) := of_decide_eq_true (by first | (with_reducible assumption) | assumption); have q367 : x38_2 < (t359.length : Int) := of_decide_eq_true (by first | (with_reducible assumption) | assumption); obtain ⟨ad367, A367_0, c367_0, A367_1, c367_1, e367, hx367_0, hx367_1, hl367_0, hi367_0, hl367_1, hi367_1⟩ := at_T30 (Kd.S_reads' HO_9.out).2.2 x38_2 p367 q367; obtain rfl : ad364 = ad367 := (by injection e367); obtain ⟨ce367, hce367, hMe367, hcc367⟩ := Kd.S_get HO_9.out z30 x38_2 p367 (by first | exact q367 | exact of_decide_eq_true (by first | (with_reducible assumption) | assumption) | (have e_ := (Kd.S_reads' HO_9.out).1; omega)); obtain ⟨ve367_0, ve367_1, rfl, ge367_0, ge367_1⟩ := k30_openM hMe367; have hv367_0 := hcc367 0 _ rfl; rw [Nat.add_zero] at hv367_0; replace hv367_0 := Option.some.inj (hv367_0.symm.trans hx367_0); rw [hv367_0] at ge367_0; have HL367_0 := Aside0.mk (show Kd.R (Kd.int .i64) 3 _ _ _ _ ((rd_T30 t359 x38_2).f0) from ge367_0); clear hv367_0 ge367_0; have hv367_1 := hcc367 1 _ rfl; rw [add_field _ _ 1 (by omega)] at hv367_1; replace hv367_1 := Option.some.inj (hv367_1.symm.trans hx367_1); rw [hv367_1] at ge367_1; have HL367_1 := Aside0.mk (show Kd.R (Kd.int .i64) 3 _ _ _ _ ((rd_T30 t359 x38_2).f1) from ge367_1); clear hv367_1 ge367_1; clear hcc367 hce367; have HR367_0 := Aside0.mk hi367_0; have HC367_0 := Aside0.mk hl367_0; clear hi367_0 hl367_0; have HR367_1 := Aside0.mk hi367_1; have HC367_1 := Aside0.mk hl367_1; clear hi367_1 hl367_1; replace p367 := eq_true p367; replace q367 := eq_true q367; have ea_ := Option.some.inj (hx364_0.symm.trans hx367_0); injection ea_ with ea_ en_ ec_; subst ea_; subst ec_; clear en_; have ea_ := Option.some.inj (hx364_1.symm.trans hx367_1); injection ea_ with ea_ en_ ec_; subst ea_; subst ec_; clear en_) | (go_at_call 11; (with_reducible refine (orreryref17_Ints.calls k2 _ _ ((rd_T30 t355 x38_2).f1) _ _ ((rd_T30 t359 x38_2).f1) true _ ?side1 ?side2 ?side3 ?side4 A20.out).mono ?_); (case side1 => repeat (first | exact (by repeat (first | (with_reducible exact HR366_1.out) | (with_reducible refine Kd.C_alloc ?_ _) | (with_reducible refine Kd.C_drewN ?_ _) | (with_reducible refine Kd.C_drew ?_) | exact HR366_1.out)) | (with_reducible refine Kd.C_alloc ?_ _) | (with_reducible refine Kd.C_drewN ?_ _) | (with_reducible refine Kd.C_drew ?_))); (case side2 => exact HC366_1.out); (case side3 => repeat (first | exact (by repeat (first | (with_reducible exact HR367_1.out) | (with_reducible refine Kd.C_alloc ?_ _) | (with_reducible refine Kd.C_drewN ?_ _) | (with_reducible refine Kd.C_drew ?_) | exact HR367_1.out)) | (with_reducible refine Kd.C_alloc ?_ _) | (with_reducible refine Kd.C_drewN ?_ _) | (with_reducible refine Kd.C_drew ?_))); (case side4 => exact HC367_1.out); rintro e w' ⟨rfl, ⟨nd, rfl⟩⟩; (try first | exact ⟨rfl, _, World.drewN_drewN _ _ _⟩ | exact ⟨rfl, _, Eq.trans (World.drewN_drewN _ _ _) (congrArg (World.drewN _) (Nat.add_assoc _ _ _))⟩))))
     (first | go_roundg k2 | (refine Handed.intro k2 ?measure ?_; rotate_left; go_step; (repeat apply Exists.intro); (refine ⟨?rel, ?fr_⟩); (case fr_ => (simp only [add_plain]; rfl))))
     case measure => have := HJ5.out; have := HK2.out; omega
     case rel => exact ⟨(wrap64 (x38_2 + 1)), (by first | rfl | (simp; done) | (simp [*]; done)), H', ⟨by have := HJ5.out; have := HK2.out; omega⟩, ⟨by (with_reducible repeat (first | apply Kd.S_alloc | apply Kd.S_drewN | apply Kd.S_drew)); exact HO_7.out⟩, ⟨by (with_reducible repeat (first | apply Kd.S_alloc | apply Kd.S_drewN | apply Kd.S_drew)); exact HO_9.out⟩, ⟨by repeat (first | (with_reducible first | exact HB.out | apply below_alloc | apply pw_below_drewN | apply below_drew1) | exact HB.out)⟩⟩

end Go.Proofs.Ytlaneafplmbcnaa.PO
