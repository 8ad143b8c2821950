/- What the Go functions of this part compute, as Lean functions, and that the machine's calls come to just that; written for this claim by a program of the session (gen.sh, after the kit's printer). -/
import Derived.Test.YtlaneafplmbcnaaPOx0
import Derived.Test.YtlaneafplmbcnaaSq
namespace Go.Proofs.Ytlaneafplmbcnaa.PO
open Go.RowKit Go.Proofs.YtlaneafplmbcnaaW.PrintWords Go.Proofs.YtlaneafplmbcnaaW.PrintLast Go.Proofs.YtlaneafplmbcnaaW.PrintMore
attribute [local go_sem] max2_int min2_int max_two min_two max_three min_three max_four min_four   -- for this text's walks alone
set_option linter.unusedVariables false
set_option linter.unusedSimpArgs false

/-! ### orreryref19_Table: function 22 -/
mutual
def orreryref19_Table.l0 : Nat → Int → Int → List (S33) → List (List Int) → Int → Option ((List (List Int)))
  | 0, _, _, _, _, _ => none
  | k + 1, x0, x1, x2, x7, x8 => if x8 < x0 then (if 0 ≤ x1 then (if (x1 : Int).toNat ≤ 35184372088832 then ((some (List.replicate (x1 : Int).toNat 0 : List Int)).bind fun y257 => (orreryref19_Table.l1 k x0 x1 x2 x7 x8 y257 (y257.length : Int) 0)) else (none)) else (none)) else (orreryref19_Table.l2 k x7 x2 (x2.length : Int) 0)
def orreryref19_Table.l1 : Nat → Int → Int → List (S33) → List (List Int) → Int → List Int → Int → Int → Option ((List (List Int)))
  | 0, _, _, _, _, _, _, _, _ => none
  | k + 1, x0, x1, x2, x7, x8, x9, x22, x23 => if x23 < x22 then (if 0 ≤ x23 then (if x23 < (x9.length : Int) then (orreryref19_Table.l1 k x0 x1 x2 x7 x8 (x9.set (x23 : Int).toNat (-1)) x22 (wrap64 (x23 + 1))) else (none)) else (none)) else (if x7.length < 5864062014805 then (orreryref19_Table.l0 k x0 x1 x2 (x7 ++ [x9]) (wrap64 (x8 + 1))) else (none))
def orreryref19_Table.l2 : Nat → List (List Int) → List (S33) → Int → Int → Option ((List (List Int)))
  | 0, _, _, _, _ => none
  | k + 1, x7, x34, x35, x36 => if x36 < x35 then (if 0 ≤ x36 then (if x36 < (x34.length : Int) then (if 0 ≤ ((rd_T33 x34 x36).f0) then (if ((rd_T33 x34 x36).f0) < (x7.length : Int) then (if 0 ≤ ((rd_T33 x34 x36).f1) then (if ((rd_T33 x34 x36).f1) < ((rd_L3 x7 ((rd_T33 x34 x36).f0)).length : Int) then (if ((rd_T33 x34 x36).f2) > (rd (rd_L3 x7 ((rd_T33 x34 x36).f0)) ((rd_T33 x34 x36).f1)) then (orreryref19_Table.l2 k (x7.set (((rd_T33 x34 x36).f0) : Int).toNat ((rd_L3 x7 ((rd_T33 x34 x36).f0)).set (((rd_T33 x34 x36).f1) : Int).toNat ((rd_T33 x34 x36).f2))) x34 x35 (wrap64 (x36 + 1))) else (orreryref19_Table.l2 k x7 x34 x35 (wrap64 (x36 + 1)))) else (none)) else (none)) else (none)) else (none)) else (none)) else (none)) else (some x7)
end
def orreryref19_Table.f (k : Nat) (a0 : Int) (a1 : Int) (l2 : List (S33)) : Option ((List (List Int))) := orreryref19_Table.l0 k a0 a1 l2 (([] : List (List Int))) 0
theorem orreryref19_Table.mono_l : ∀ k, (∀ y0 y1 y2 y3 y4, LeO (orreryref19_Table.l0 k y0 y1 y2 y3 y4) (orreryref19_Table.l0 (k + 1) y0 y1 y2 y3 y4)) ∧ (∀ y0 y1 y2 y3 y4 y5 y6 y7, LeO (orreryref19_Table.l1 k y0 y1 y2 y3 y4 y5 y6 y7) (orreryref19_Table.l1 (k + 1) y0 y1 y2 y3 y4 y5 y6 y7)) ∧ (∀ y0 y1 y2 y3, LeO (orreryref19_Table.l2 k y0 y1 y2 y3) (orreryref19_Table.l2 (k + 1) y0 y1 y2 y3))
  | 0 => ⟨fun _ _ _ _ _ r h => by simp [orreryref19_Table.l0] at h, fun _ _ _ _ _ _ _ _ r h => by simp [orreryref19_Table.l1] at h, fun _ _ _ _ r h => by simp [orreryref19_Table.l2] at h⟩
  | k + 1 => by
    obtain ⟨ih0, ih1, ih2⟩ := orreryref19_Table.mono_l k
    refine ⟨?_, ?_, ?_⟩
    · intro y0 y1 y2 y3 y4
      unfold orreryref19_Table.l0
      repeat' first
      | (with_reducible exact ih0 _ _ _ _ _)
      | (with_reducible exact ih1 _ _ _ _ _ _ _ _)
      | (with_reducible exact ih2 _ _ _ _)
      | (with_reducible exact LeO.refl _)
      | (with_reducible exact LeO.none _)
      | (with_reducible refine LeO.ite ?_ ?_)
      | (with_reducible refine LeO.bind ?_ (fun _ => ?_))
      | exact ih0 _ _ _ _ _
      | exact ih1 _ _ _ _ _ _ _ _
      | exact ih2 _ _ _ _
      | exact LeO.none _
      | refine LeO.ite ?_ ?_
      | refine LeO.bind ?_ (fun _ => ?_)
    · intro y0 y1 y2 y3 y4 y5 y6 y7
      unfold orreryref19_Table.l1
      repeat' first
      | (with_reducible exact ih0 _ _ _ _ _)
      | (with_reducible exact ih1 _ _ _ _ _ _ _ _)
      | (with_reducible exact ih2 _ _ _ _)
      | (with_reducible exact LeO.refl _)
      | (with_reducible exact LeO.none _)
      | (with_reducible refine LeO.ite ?_ ?_)
      | (with_reducible refine LeO.bind ?_ (fun _ => ?_))
      | exact ih0 _ _ _ _ _
      | exact ih1 _ _ _ _ _ _ _ _
      | exact ih2 _ _ _ _
      | exact LeO.none _
      | refine LeO.ite ?_ ?_
      | refine LeO.bind ?_ (fun _ => ?_)
    · intro y0 y1 y2 y3
      unfold orreryref19_Table.l2
      repeat' first
      | (with_reducible exact ih0 _ _ _ _ _)
      | (with_reducible exact ih1 _ _ _ _ _ _ _ _)
      | (with_reducible exact ih2 _ _ _ _)
      | (with_reducible exact LeO.refl _)
      | (with_reducible exact LeO.none _)
      | (with_reducible refine LeO.ite ?_ ?_)
      | (with_reducible refine LeO.bind ?_ (fun _ => ?_))
      | exact ih0 _ _ _ _ _
      | exact ih1 _ _ _ _ _ _ _ _
      | exact ih2 _ _ _ _
      | exact LeO.none _
      | refine LeO.ite ?_ ?_
      | refine LeO.bind ?_ (fun _ => ?_)
theorem orreryref19_Table.mono : ∀ a0 a1 a2 k, LeO (orreryref19_Table.f k a0 a1 a2) (orreryref19_Table.f (k + 1) a0 a1 a2) := by
 intro a0 a1 a2 k
 obtain ⟨ih0, ih1, ih2⟩ := orreryref19_Table.mono_l k
 unfold orreryref19_Table.f
 repeat' first
     | (with_reducible exact ih0 _ _ _ _ _)
     | (with_reducible exact ih1 _ _ _ _ _ _ _ _)
     | (with_reducible exact ih2 _ _ _ _)
     | (with_reducible exact LeO.refl _)
     | (with_reducible exact LeO.none _)
     | (with_reducible refine LeO.ite ?_ ?_)
     | (with_reducible refine LeO.bind ?_ (fun _ => ?_))
     | exact ih0 _ _ _ _ _
     | exact ih1 _ _ _ _ _ _ _ _
     | exact ih2 _ _ _ _
     | exact LeO.none _
     | refine LeO.ite ?_ ?_
     | refine LeO.bind ?_ (fun _ => ?_)
def orreryref19_Table.T15 : Bool × List (List Nat × List Nat) := (true, [([], []), ([0], [0]), ([], []), ([], []), ([3], [3]), ([2, 4], [2, 4]), ([5], [5]), ([], []), ([7], [7]), ([6, 8], [6, 8]), ([9], [9]), ([1, 10], [1, 10])])
def orreryref19_Table.B15 : List Nat := [0, 1, 0, 0, 8, 28, 60, 0, 128, 508, 1020, 2047]
theorem orreryref19_Table.tab15 : rtab .any (opsOf Try.f22 15) = orreryref19_Table.T15 := by kernel_rfl
theorem orreryref19_Table.bits15 : waitsOk orreryref19_Table.T15.2 orreryref19_Table.B15 = true := by kernel_rfl
def orreryref19_Table.T16 : Bool × List (List Nat × List Nat) := (true, [([], []), ([], []), ([1], [1]), ([0, 2], [0, 2]), ([3], [3]), ([], []), ([5], [5]), ([], []), ([7], [7]), ([4, 6, 0, 1, 2, 3, 4, 5, 6, 7, 8], [4, 6]), ([9, 8, 0, 1, 2, 3, 4, 5, 6, 7, 8], [8, 9])])
def orreryref19_Table.B16 : List Nat := [0, 0, 2, 7, 15, 0, 32, 0, 128, 511, 1023]
theorem orreryref19_Table.tab16 : rtab .any (opsOf Try.f22 16) = orreryref19_Table.T16 := by kernel_rfl
theorem orreryref19_Table.bits16 : waitsOk orreryref19_Table.T16.2 orreryref19_Table.B16 = true := by kernel_rfl
set_option maxHeartbeats 8000000 in
set_option maxRecDepth 100000 in
theorem orreryref19_Table.calls (k : Nat) (a0 : Int) (a1 : Int) (A2 : Option Addr) (c2 : Nat) (l2 : List (S33)) (r : List (List Int)) (w : World) (hr2 : Kd.C k33 w A2 l2.length l2) (hc2 : l2.length ≤ c2) (h : orreryref19_Table.f k a0 a1 l2 = some r) :
    Calls Try.prog 22 #[.int .i64 a0, .int .i64 a1, .slice A2 l2.length c2] w fun e w' => ∃ v0_ : Value, e = .returned (v0_) ∧ Kd.S (Kd.slice 3 (Kd.int .i64)) 23 w' w.heap.size (fun _ => True) v0_ r ∧ Below w.heap.size w w' := by
 have hu33 := Try.underlying33
 have HR2 := Aside0.mk hr2
 have HC2 := Aside0.mk hc2
 clear hr2 hc2
 have HB := Aside0.mk (Below.refl w.heap.size w)
 have H : (orreryref19_Table.l0 k a0 a1 l2 (([] : List (List Int))) 0) = some r := h
 clear h
 obtain ⟨y254, hy254⟩ : ∃ y_ : List (List Int), y_ = (([] : List (List Int))) := ⟨_, rfl⟩
 replace H : (orreryref19_Table.l0 k a0 a1 l2 y254 0) = some r := by first | (rw [hy254]; with_reducible exact H) | (have H2_ := (Option.bind_some _ _).symm.trans H; rw [hy254]; with_reducible exact H2_) | (have H2_ := (Option.bind_some _ _).symm.trans H; with_reducible exact H2_) | with_reducible exact H | (rw [hy254]; exact H) | exact H
 have Ny254 := Aside0.mk hy254
 clear hy254
 have H' := Aside0.mk H
 clear H
 go_enter Try.func22, Try.ntmps22
 go_wp2_with (first | ((with_reducible refine gate_dst (N := 13) rfl ?_); refine Kd.S_lit (Kd.slice 3 (Kd.int .i64)) _ 23 ?hg (N := 13) ?hd (xs := ([] : List (List Int))) (inner := []) (ok := fun _ => True) (okp := fun _ => True) ?hr ?hp (fun _ hk => hk) trivial (Below.refl _ _) (Nat.le_refl _) (by simp) ?_; (case hd => rfl); (case hg => rfl); (case hr => first | (go_simp; done) | (go_simp; rfl)); (case hp => exact (Reps.none _ _)); intro v255 w4 ho5 hb hg_ hnew_; clear hg_ hnew_; (first | rw [← Ny254.out] at ho5 | (simp only [Int.reduceToNat] at ho5; rw [← Ny254.out] at ho5)); have n0_ := Aside0.mk (Kd.S_lower ho5 (below_size (by repeat (first | (with_reducible first | exact HB.out | apply below_alloc | apply pw_below_drewN | apply below_drew1) | exact HB.out)))); have n1_ := Aside0.mk (below_step (by repeat (first | (with_reducible first | exact HB.out | apply below_alloc | apply pw_below_drewN | apply below_drew1) | exact HB.out)) hb); clear HB; have HO256 := n0_; have HB := n1_; clear n0_ n1_; clear hb ho5))
 go_loopg [7, 8] k (fun kq v7 v8 w' => ∃ (x7_1 : List (List Int)) (x8_1 : Int), v8 = .int .i64 x8_1 ∧ Aside0 (orreryref19_Table.l0 kq a0 a1 l2 x7_1 x8_1 = some r) ∧ Aside0 (kq ≤ k) ∧ Aside0 (Kd.S (Kd.slice 3 (Kd.int .i64)) 23 w' w.heap.size (fun _ => True) v7 x7_1) ∧ Aside0 (Below w.heap.size w w'))
 case atStart => exact ⟨(y254), (0), (by first | rfl | (simp; done) | (simp [*]; done)), H', ⟨Nat.le_refl _⟩, ⟨by (with_reducible repeat (first | apply Kd.S_alloc | apply Kd.S_drewN | apply Kd.S_drew)); exact HO256.out⟩, ⟨by repeat (first | (with_reducible first | exact HB.out | apply below_alloc | apply pw_below_drewN | apply below_drew1) | exact HB.out)⟩⟩
 case round =>
  clear H'
  try clear c2
  try clear p2
  obtain ⟨x7_1, x8_1, rfl, HA, HK1, HO_7, HB⟩ := hrel
  cases gk with
  | zero => exact absurd HA.out (by simp [orreryref19_Table.l0])
  | succ k1 =>
   have H := HA.out
   clear HA
   simp only [orreryref19_Table.l0] at H
   by_cases c6 : x8_1 < a0
   case pos =>
    rw [if_pos c6] at H
    have c6b0 : decide (x8_1 < a0) = true := decide_eq_true c6
    clear c6
    by_cases c7 : 0 ≤ a1
    case neg => rw [if_neg c7] at H; exact absurd H (by simp)
    rw [if_pos c7] at H
    have c7b0 := eq_true c7
    have c7b1 : decide (0 ≤ a1) = true := decide_eq_true c7
    clear c7
    by_cases c8 : (a1 : Int).toNat ≤ 35184372088832
    case neg => rw [if_neg c8] at H; exact absurd H (by simp)
    rw [if_pos c8] at H
    have c8b0 := eq_true c8
    have c8b1 : decide ((a1 : Int).toNat ≤ 35184372088832) = true := decide_eq_true c8
    clear c8
    obtain ⟨y257, hy257⟩ : ∃ y_ : List Int, y_ = (List.replicate (a1 : Int).toNat 0) := ⟨_, rfl⟩
    replace H : (orreryref19_Table.l1 k1 a0 a1 l2 x7_1 x8_1 y257 (y257.length : Int) 0) = some r := by first | (rw [hy257]; with_reducible exact H) | (have H2_ := (Option.bind_some _ _).symm.trans H; rw [hy257]; with_reducible exact H2_) | (have H2_ := (Option.bind_some _ _).symm.trans H; with_reducible exact H2_) | with_reducible exact H | (rw [hy257]; exact H) | exact H
    have Ny257 := Aside0.mk hy257
    clear hy257
    have H' := Aside0.mk H
    clear H
    go_wp2_with (first | ((with_reducible refine gate_dst (N := 20) rfl ?_); refine Kd.R_make (Kd.int .i64) _ 3 rfl (N := 20) rfl 23 _ _ rfl a1 rfl rfl Try.underlying23 (.int .i64 0) 8 info3 rfl (by decide) (by omega) 0 (ok := fun _ => True) (okp := fun _ => True) rfl (fun _ hk => hk) trivial (of_decide_eq_true (by first | (with_reducible assumption) | assumption)) (Nat.le_trans (Nat.mul_le_mul_right _ (of_decide_eq_true (by first | (with_reducible assumption) | assumption) : a1.toNat ≤ 35184372088832)) (by omega)) (Below.refl _ _) (Nat.le_refl _) ?_; intro v258 w9 ho10 hb hg_ hnew_; clear hg_ hnew_; (first | rw [← Ny257.out] at ho10 | (simp only [Int.reduceToNat] at ho10; rw [← Ny257.out] at ho10)); have n0_ := Aside0.mk (Kd.S_elder' (by (with_reducible repeat (first | apply Kd.S_alloc | apply Kd.S_drewN | apply Kd.S_drew)); exact HO_7.out) (Kd.R_base ho10) hb); have n1_ := Aside0.mk (Kd.R_lower ho10 (below_size (by repeat (first | (with_reducible first | exact HB.out | apply below_alloc | apply pw_below_drewN | apply below_drew1) | exact HB.out)))); have n2_ := Aside0.mk (below_step (by repeat (first | (with_reducible first | exact HB.out | apply below_alloc | apply pw_below_drewN | apply below_drew1) | exact HB.out)) hb); clear HO_7; clear HB; have HO_7 := n0_; have HO259 := n1_; have HB := n2_; clear n0_ n1_ n2_; clear hb ho10; obtain ⟨Ao11, co11, eo11⟩ := Kd.R_slice HO259.out; subst eo11))
    go_loopg [23] k1 (fun kq v23 w' => ∃ (x9_2 : List Int) (x23_2 : Int), v23 = .int .i64 x23_2 ∧ Aside0 (orreryref19_Table.l1 kq a0 a1 l2 x7_1 x8_1 x9_2 (y257.length : Int) x23_2 = some r) ∧ Aside0 (kq ≤ k1) ∧ Aside0 (Kd.S (Kd.slice 3 (Kd.int .i64)) 23 w' w.heap.size (fun k_ => some k_ ≠ ((.slice Ao11 y257.length co11) : Value).ownBlock) u7 x7_1) ∧ Aside0 (Kd.R (Kd.int .i64) 3 w' w.heap.size (fun _ => True) (.slice Ao11 y257.length co11) x9_2) ∧ Aside0 (Below w.heap.size w w'))
    case atStart => exact ⟨(y257), (0), (by first | rfl | (simp; done) | (simp [*]; done)), H', ⟨Nat.le_refl _⟩, ⟨by (with_reducible repeat (first | apply Kd.S_alloc | apply Kd.S_drewN | apply Kd.S_drew)); exact Kd.S_mono HO_7.out (fun _ hk => hk.2)⟩, ⟨by (with_reducible repeat (first | apply Kd.R_alloc | apply Kd.R_drewN | apply Kd.R_drew)); exact HO259.out⟩, ⟨by repeat (first | (with_reducible first | exact HB.out | apply below_alloc | apply pw_below_drewN | apply below_drew1) | exact HB.out)⟩⟩
    case round =>
     clear H'
     try clear c2
     try clear p2
     try clear c6
     try clear c6b0
     try clear c7
     try clear c7b0
     try clear c7b1
     try clear c8
     try clear c8b0
     try clear c8b1
     try clear p2
     obtain ⟨x9_2, x23_2, rfl, HA, HK2, HO_7, HO_9, HB⟩ := hrel
     have hl9_2 := (Kd.R_reads' HO_9.out).1
     rw [hl9_2] at HO_9
     (try simp only [hl9_2])
     (try simp only [hl9_2] at HO_7)
     cases gk with
     | zero => exact absurd HA.out (by simp [orreryref19_Table.l1])
     | succ k2 =>
      have H := HA.out
      clear HA
      simp only [orreryref19_Table.l1] at H
      by_cases c12 : x23_2 < (y257.length : Int)
      case neg =>
       rw [if_neg c12] at H
       have c12b0 : decide (x23_2 < (y257.length : Int)) = false := decide_eq_false c12
       clear c12
       (try (have c12b0r := c12b0; simp only [hl9_2] at c12b0r))
       by_cases c18 : x7_1.length < 5864062014805
       case neg => rw [if_neg c18] at H; exact absurd H (by simp)
       rw [if_pos c18] at H
       have LMc18 := Aside0.mk c18
       clear c18
       obtain ⟨y261, hy261⟩ : ∃ y_ : List (List Int), y_ = (x7_1 ++ [x9_2]) := ⟨_, rfl⟩
       replace H : (orreryref19_Table.l0 k2 a0 a1 l2 y261 (wrap64 (x8_1 + 1))) = some r := by first | (rw [hy261]; with_reducible exact H) | (have H2_ := (Option.bind_some _ _).symm.trans H; rw [hy261]; with_reducible exact H2_) | (have H2_ := (Option.bind_some _ _).symm.trans H; with_reducible exact H2_) | with_reducible exact H | (rw [hy261]; exact H) | exact H
       have Ny261 := Aside0.mk hy261
       clear hy261
       have H' := Aside0.mk H
       clear H
       go_wp2_with (first | ((with_reducible refine gate_builtin (b := .append) (xs := #[.tmp 30, .tmp 32]) rfl ?_); at_builtin; refine Kd.S_append (Kd.slice 3 (Kd.int .i64)) (w0 := w) w.heap.size rfl (.tmp 30) (.tmp 32) 37 23 (.slice none 0 0) 24 rfl Try.underlying37 info23 rfl (by decide) (by omega) u7 x7_1 x9_2 [.slice Ao11 x9_2.length co11] (fun _ => True) (fun k_ => some k_ = (.slice Ao11 x9_2.length co11 : Value).ownBlock) rfl rfl ?aP (fun k_ hk_ => ((Kd.R_mono (ok' := fun k_ => ((fun _ => True)) k_ ∧ some k_ ≠ (u7 : Value).ownBlock) (Kd.R_apart' (HO_9.out) (Kd.S_typed HO_7.out) (by decide)) (fun k_ hk => ⟨trivial, hk.2⟩))).1 k_ hk_.symm) ?aF ?aO ?aB ?aS ?aL ?_; (case aP => exact Kd.M_row (Kd.R_mono (Kd.R_tight rfl (Kd.R_mono (ok' := fun k_ => ((fun _ => True)) k_ ∧ some k_ ≠ (u7 : Value).ownBlock) (Kd.R_apart' (HO_9.out) (Kd.S_typed HO_7.out) (by decide)) (fun k_ hk => ⟨trivial, hk.2⟩))) (fun _ h_ => h_))); (case aB => exact (by repeat (first | (with_reducible first | exact HB.out | apply below_alloc | apply pw_below_drewN | apply below_drew1) | exact HB.out))); (case aF => exact (fun _ _ => trivial)); (case aO => exact (by (with_reducible repeat (first | apply Kd.S_alloc | apply Kd.S_drewN | apply Kd.S_drew)); exact Kd.S_mono HO_7.out (fun k_ hk => ⟨trivial, fun e_ => hk e_⟩))); (case aS => exact (below_size (by repeat (first | (with_reducible first | exact HB.out | apply below_alloc | apply pw_below_drewN | apply below_drew1) | exact HB.out)))); (case aL => have := LMc18.out; omega); intro v262 w19 ho hb hg hat; rw [← Ny261.out] at ho; have n0_ := Aside0.mk (hb); have n1_ := Aside0.mk (ho); clear HB; clear HO_7; clear HO_9; have HB := n0_; have HO263 := n1_; clear n0_ n1_; clear ho hb hg hat))
       (try simp only [← hl9_2])
       (first | go_roundg k2 | (refine Handed.intro k2 ?measure ?_; rotate_left; go_step; (repeat apply Exists.intro); (refine ⟨?rel, ?fr_⟩); (case fr_ => (simp only [add_plain]; rfl))))
       case measure => have := HK1.out; have := HK2.out; omega
       case rel => exact ⟨(y261), (wrap64 (x8_1 + 1)), (by first | rfl | (simp; done) | (simp [*]; done)), H', ⟨by have := HK1.out; have := HK2.out; omega⟩, ⟨by (try simp only [hl9_2]); (with_reducible repeat (first | apply Kd.S_alloc | apply Kd.S_drewN | apply Kd.S_drew)); exact HO263.out⟩, ⟨by repeat (first | (with_reducible first | exact HB.out | apply below_alloc | apply pw_below_drewN | apply below_drew1) | exact HB.out)⟩⟩
      rw [if_pos c12] at H
      have c12b0 : decide (x23_2 < (y257.length : Int)) = true := decide_eq_true c12
      clear c12
      (try (have c12b0r := c12b0; simp only [hl9_2] at c12b0r))
      by_cases c13 : 0 ≤ x23_2
      case neg => rw [if_neg c13] at H; exact absurd H (by simp)
      rw [if_pos c13] at H
      have c13b0 : decide (0 ≤ x23_2) = true := decide_eq_true c13
      clear c13
      (try (have c13b0r := c13b0; simp only [hl9_2] at c13b0r))
      by_cases c14 : x23_2 < (x9_2.length : Int)
      case neg => rw [if_neg c14] at H; exact absurd H (by simp)
      rw [if_pos c14] at H
      have c14b0 : decide (x23_2 < (x9_2.length : Int)) = true := decide_eq_true c14
      clear c14
      (try (have c14b0r := c14b0; simp only [hl9_2] at c14b0r))
      obtain ⟨y260, hy260⟩ : ∃ y_ : List Int, y_ = (x9_2.set (x23_2 : Int).toNat (-1)) := ⟨_, rfl⟩
      replace H : (orreryref19_Table.l1 k2 a0 a1 l2 x7_1 x8_1 y260 (y257.length : Int) (wrap64 (x23_2 + 1))) = some r := by first | (rw [hy260]; with_reducible exact H) | (have H2_ := (Option.bind_some _ _).symm.trans H; rw [hy260]; with_reducible exact H2_) | (have H2_ := (Option.bind_some _ _).symm.trans H; with_reducible exact H2_) | with_reducible exact H | (rw [hy260]; exact H) | exact H
      have Ny260 := Aside0.mk hy260
      clear hy260
      have H' := Aside0.mk H
      clear H
      have p15 : 0 ≤ (x23_2 : Int) := of_decide_eq_true (by first | (with_reducible assumption) | assumption)
      have q15 : (x23_2 : Int) < ((x9_2.length : Int) : Int) := of_decide_eq_true (by first | (with_reducible assumption) | assumption)
      obtain ⟨go15, co15, eo15, gb15, gl15, cl15, HG15⟩ := Kd.R_form HO_9.out (by omega)
      (first | cases eo15 | (injection eo15 with ea_ en_ ec_; (first | subst ea_ | (injection ea_ with ea_; subst ea_)); subst ec_; clear en_))
      have GB15 := Aside0.mk gb15
      have GG15 := Aside0.mk HG15
      clear gb15 gl15 HG15
      obtain ⟨hx15_0, hf15_0⟩ := Kd.R_celln 0 HO_9.out (x23_2 : Int) p15 q15
      replace p15 := eq_true p15
      replace q15 := eq_true q15
      have HP16 := Kd.R_putg HO_9.out (x23_2 : Int) (-1)
      go_wp2_with (first | ((with_reducible refine gate_store (t := 3) (p := 28) rfl ?_); refine store_event (t := 3) (p := 28) (v := ?vo_w17) (w1 := (wr.setCell ⟨go15, (x23_2 : Int).toNat, none⟩ (.int .i64 (-1)))) ?hg ?ho ?hn ?hr ?_; (case ho => rfl); (case hg => rfl); (case hn => rfl); (case hr => first | (go_simp; done) | (go_simp; rfl)); intro w17 hw; have hg : wr.grownBy w17 (some go15) := (by rw [hw]; exact HP16.2); have hp_ : Kd.R (Kd.int .i64) 3 w17 w.heap.size (fun _ => True) (.slice (some ⟨go15, 0, none⟩) x9_2.length co11) y260 := (by rw [hw, Ny260.out]; exact HP16.1); clear HP16; have n0_ := Aside0.mk (Kd.S_after (v := (.slice (some ⟨go15, 0, none⟩) x9_2.length co11)) (v1 := (.slice (some ⟨go15, 0, none⟩) x9_2.length co11)) (ok := (fun _ => True)) (by (with_reducible repeat (first | apply Kd.S_alloc | apply Kd.S_drewN | apply Kd.S_drew)); exact Kd.S_mono HO_7.out (fun _ hk => ⟨trivial, hk⟩)) hg (.inl rfl)); have n1_ := Aside0.mk (hp_); have n2_ := Aside0.mk ((by rw [hw]; exact below_set (HB.out) GB15.out : Below w.heap.size w w17)); clear HO_7; clear HO_9; clear HB; have HO_7 := n0_; have HO_9 := n1_; have HB := n2_; clear n0_ n1_ n2_; clear hg hw hp_))
      (try simp only [← hl9_2])
      (first | go_roundg k2 | (refine Handed.intro k2 ?measure ?_; rotate_left; go_step; (repeat apply Exists.intro); (refine ⟨?rel, ?fr_⟩); (case fr_ => (simp only [add_plain]; rfl))))
      case measure => have := HK1.out; have := HK2.out; omega
      case rel => exact ⟨(y260), (wrap64 (x23_2 + 1)), (by first | rfl | (simp; done) | (simp [*]; done)), H', ⟨by have := HK1.out; have := HK2.out; omega⟩, ⟨by (try simp only [hl9_2]); (with_reducible repeat (first | apply Kd.S_alloc | apply Kd.S_drewN | apply Kd.S_drew)); exact Kd.S_mono HO_7.out (fun _ hk => hk.2)⟩, ⟨by (try simp only [hl9_2]); (with_reducible repeat (first | apply Kd.R_alloc | apply Kd.R_drewN | apply Kd.R_drew)); exact HO_9.out⟩, ⟨by repeat (first | (with_reducible first | exact HB.out | apply below_alloc | apply pw_below_drewN | apply below_drew1) | exact HB.out)⟩⟩
   rw [if_neg c6] at H
   have c6b0 : decide (x8_1 < a0) = false := decide_eq_false c6
   clear c6
   have H' := Aside0.mk H
   clear H
   go_wp2
   go_loopg [36] k1 (fun kq v36 w' => ∃ (x7_2 : List (List Int)) (x36_2 : Int), v36 = .int .i64 x36_2 ∧ Aside0 (orreryref19_Table.l2 kq x7_2 l2 (l2.length : Int) x36_2 = some r) ∧ Aside0 (kq ≤ k1) ∧ Aside0 (Kd.S (Kd.slice 3 (Kd.int .i64)) 23 w' w.heap.size (fun _ => True) u7 x7_2) ∧ Aside0 (Below w.heap.size w w'))
   case atStart => exact ⟨(x7_1), (0), (by first | rfl | (simp; done) | (simp [*]; done)), H', ⟨Nat.le_refl _⟩, ⟨by (with_reducible repeat (first | apply Kd.S_alloc | apply Kd.S_drewN | apply Kd.S_drew)); exact HO_7.out⟩, ⟨by repeat (first | (with_reducible first | exact HB.out | apply below_alloc | apply pw_below_drewN | apply below_drew1) | exact HB.out)⟩⟩
   case round =>
    clear H'
    try clear c1
    try clear p1
    try clear q1
    try clear hx1
    try clear c2
    try clear p2
    try clear c6
    try clear c6b0
    try clear p6
    try clear c7
    try clear c7b0
    try clear c7b1
    try clear c8
    try clear c8b0
    try clear c8b1
    try clear c12
    try clear c12b0
    try clear c13
    try clear c13b0
    try clear c14
    try clear c14b0
    try clear p15
    try clear q15
    try clear hx15
    try clear hf15
    try clear c18
    try clear hx15_0
    try clear p15
    try clear p2
    try clear q15
    obtain ⟨x7_2, x36_2, rfl, HA, HK2, HO_7, HB⟩ := hrel
    cases gk with
    | zero => exact absurd HA.out (by simp [orreryref19_Table.l2])
    | succ k2 =>
     have H := HA.out
     clear HA
     simp only [orreryref19_Table.l2] at H
     by_cases c20 : x36_2 < (l2.length : Int)
     case neg =>
      rw [if_neg c20] at H
      have c20b0 : decide (x36_2 < (l2.length : Int)) = false := decide_eq_false c20
      clear c20
      obtain rfl := Option.some.inj H
      go_wp2
      go_ret
      exact ⟨_, by first | rfl | (simp [errW_none, errW_some] <;> rfl) | (simp [*, errW_none, errW_some] <;> rfl), by (with_reducible repeat (first | apply Kd.S_alloc | apply Kd.S_drewN | apply Kd.S_drew)); exact HO_7.out, by repeat (first | (with_reducible first | exact HB.out | apply below_alloc | apply pw_below_drewN | apply below_drew1) | exact HB.out)⟩
     rw [if_pos c20] at H
     have c20b0 : decide (x36_2 < (l2.length : Int)) = true := decide_eq_true c20
     clear c20
     by_cases c21 : 0 ≤ x36_2
     case neg => rw [if_neg c21] at H; exact absurd H (by simp)
     rw [if_pos c21] at H
     have c21b0 : decide (0 ≤ x36_2) = true := decide_eq_true c21
     clear c21
     by_cases c22 : x36_2 < (l2.length : Int)
     case neg => rw [if_neg c22] at H; exact absurd H (by simp)
     rw [if_pos c22] at H
     have c22b0 : decide (x36_2 < (l2.length : Int)) = true := decide_eq_true c22
     clear c22
     by_cases c23 : 0 ≤ ((rd_T33 l2 x36_2).f0)
     case neg => rw [if_neg c23] at H; exact absurd H (by simp)
     rw [if_pos c23] at H
     have c23b0 : decide (0 ≤ ((rd_T33 l2 x36_2).f0)) = true := decide_eq_true c23
     clear c23
     by_cases c24 : ((rd_T33 l2 x36_2).f0) < (x7_2.length : Int)
     case neg => rw [if_neg c24] at H; exact absurd H (by simp)
     rw [if_pos c24] at H
     have c24b0 : decide (((rd_T33 l2 x36_2).f0) < (x7_2.length : Int)) = true := decide_eq_true c24
     clear c24
     by_cases c25 : 0 ≤ ((rd_T33 l2 x36_2).f1)
     case neg => rw [if_neg c25] at H; exact absurd H (by simp)
     rw [if_pos c25] at H
     have c25b0 : decide (0 ≤ ((rd_T33 l2 x36_2).f1)) = true := decide_eq_true c25
     clear c25
     by_cases c26 : ((rd_T33 l2 x36_2).f1) < ((rd_L3 x7_2 ((rd_T33 l2 x36_2).f0)).length : Int)
     case neg => rw [if_neg c26] at H; exact absurd H (by simp)
     rw [if_pos c26] at H
     have c26b0 : decide (((rd_T33 l2 x36_2).f1) < ((rd_L3 x7_2 ((rd_T33 l2 x36_2).f0)).length : Int)) = true := decide_eq_true c26
     clear c26
     by_cases c27 : ((rd_T33 l2 x36_2).f2) > (rd (rd_L3 x7_2 ((rd_T33 l2 x36_2).f0)) ((rd_T33 l2 x36_2).f1))
     case neg =>
      rw [if_neg c27] at H
      have c27b0 : decide ((rd (rd_L3 x7_2 ((rd_T33 l2 x36_2).f0)) ((rd_T33 l2 x36_2).f1)) < ((rd_T33 l2 x36_2).f2)) = false := decide_eq_false c27
      clear c27
      have H' := Aside0.mk H
      clear H
      have p264 : 0 ≤ (x36_2 : Int) := of_decide_eq_true (by first | (with_reducible assumption) | assumption)
      have q264 : x36_2 < (l2.length : Int) := of_decide_eq_true (by first | (with_reducible assumption) | assumption)
      obtain ⟨ad264, e264, hx264_0, hx264_1, hx264_2⟩ := at_T33 HR2.out x36_2 p264 q264
      cases e264
      replace hx264_0 := (HB.out.cell (World.block_lt_of_cell? w _ hx264_0)).trans hx264_0
      replace hx264_1 := (HB.out.cell (World.block_lt_of_cell? w _ hx264_1)).trans hx264_1
      replace hx264_2 := (HB.out.cell (World.block_lt_of_cell? w _ hx264_2)).trans hx264_2
      replace p264 := eq_true p264
      replace q264 := eq_true q264
      try go_wp2_with (first | ((with_reducible refine gate_dst (N := 12) rfl ?_); refine box_event ?hg (N := 12) ?hd (cs := #[.int .i64 0, .int .i64 0, .int .i64 0]) (t := 33) ?hr ?_; (case hd => rfl); (case hg => rfl); (case hr => first | (go_simp; done) | (go_simp; rfl)); intro gb265 hg w37 hbox hb; have n0_ := Aside0.mk (Kd.S_below (by (with_reducible repeat (first | apply Kd.S_alloc | apply Kd.S_drewN | apply Kd.S_drew)); exact HO_7.out) hb); have n1_ := Aside0.mk (below_step (by repeat (first | (with_reducible first | exact HB.out | apply below_alloc | apply pw_below_drewN | apply below_drew1) | exact HB.out)) hb); have n2_ := Aside0.mk (hbox); have n3_ := Aside0.mk ((by rw [hg]; exact (below_size (by repeat (first | (with_reducible first | exact HB.out | apply below_alloc | apply pw_below_drewN | apply below_drew1) | exact HB.out))) : w.heap.size ≤ gb265)); have n4_ := Aside0.mk ((by rw [hg]; exact (below_size (by repeat (first | (with_reducible first | exact HB.out | apply below_alloc | apply pw_below_drewN | apply below_drew1) | exact HB.out))) : w.heap.size ≤ gb265)); clear HO_7; clear HB; have HO_7 := n0_; have HB := n1_; have BK265 := n2_; have GW265 := n3_; have GE265 := n4_; clear n0_ n1_ n2_ n3_ n4_; clear hb hbox hg; have hcz38_0 : w37.cell? ⟨gb265, 0, none⟩ = some (.int .i64 0) := (blk_cell BK265.out 0).trans rfl; have hcz38_1 : w37.cell? ⟨gb265, 1, none⟩ = some (.int .i64 0) := (blk_cell BK265.out 1).trans rfl; have hcz38_2 : w37.cell? ⟨gb265, 2, none⟩ = some (.int .i64 0) := (blk_cell BK265.out 2).trans rfl; have hfz38_0 := blk_frozen BK265.out 0; have hfz38_1 := blk_frozen BK265.out 1; have hfz38_2 := blk_frozen BK265.out 2))
      have n0_ : Aside0 (Kd.S (Kd.slice 3 (Kd.int .i64)) 23 (((w37.setCell ⟨gb265, 0, none⟩ (.int .i64 ((rd_T33 l2 x36_2).f0))).setCell ⟨gb265, 1, none⟩ (.int .i64 ((rd_T33 l2 x36_2).f1))).setCell ⟨gb265, 2, none⟩ (.int .i64 ((rd_T33 l2 x36_2).f2))) w.heap.size (fun _ => True) u7 x7_2) := ⟨by (with_reducible repeat (first | apply Kd.S_alloc | apply Kd.S_drewN | apply Kd.S_drew)); exact Kd.S_mono (Kd.S_far (p := ⟨gb265, 2, none⟩) (Kd.S_far (p := ⟨gb265, 1, none⟩) (Kd.S_far (p := ⟨gb265, 0, none⟩) (Kd.S_types HO_7.out BK265.out (by decide)) (fun _ hk => hk.2) (.int .i64 ((rd_T33 l2 x36_2).f0))) (fun _ hk => hk.2) (.int .i64 ((rd_T33 l2 x36_2).f1))) (fun _ hk => hk.2) (.int .i64 ((rd_T33 l2 x36_2).f2))) (fun _ hk => trivial)⟩
      have n1_ : Aside0 ((((w37.setCell ⟨gb265, 0, none⟩ (.int .i64 ((rd_T33 l2 x36_2).f0))).setCell ⟨gb265, 1, none⟩ (.int .i64 ((rd_T33 l2 x36_2).f1))).setCell ⟨gb265, 2, none⟩ (.int .i64 ((rd_T33 l2 x36_2).f2))).heap[gb265]? = some (.cells #[.int .i64 ((rd_T33 l2 x36_2).f0), .int .i64 ((rd_T33 l2 x36_2).f1), .int .i64 ((rd_T33 l2 x36_2).f2)] 33 (0, 0))) := ⟨by (with_reducible repeat (first | refine blk_drewN ?_ _ | refine blk_drew ?_ | refine blk_alloc ?_ _)); refine blk_put (cs := #[.int .i64 ((rd_T33 l2 x36_2).f0), .int .i64 ((rd_T33 l2 x36_2).f1), .int .i64 0]) ?_ 2 _ rfl; (with_reducible repeat (first | refine blk_drewN ?_ _ | refine blk_drew ?_ | refine blk_alloc ?_ _)); refine blk_put (cs := #[.int .i64 ((rd_T33 l2 x36_2).f0), .int .i64 0, .int .i64 0]) ?_ 1 _ rfl; (with_reducible repeat (first | refine blk_drewN ?_ _ | refine blk_drew ?_ | refine blk_alloc ?_ _)); refine blk_put (cs := #[.int .i64 0, .int .i64 0, .int .i64 0]) ?_ 0 _ rfl; (with_reducible repeat (first | refine blk_drewN ?_ _ | refine blk_drew ?_ | refine blk_alloc ?_ _)); exact BK265.out⟩
      have n2_ : Aside0 (Below w.heap.size w (((w37.setCell ⟨gb265, 0, none⟩ (.int .i64 ((rd_T33 l2 x36_2).f0))).setCell ⟨gb265, 1, none⟩ (.int .i64 ((rd_T33 l2 x36_2).f1))).setCell ⟨gb265, 2, none⟩ (.int .i64 ((rd_T33 l2 x36_2).f2)))) := ⟨by repeat (first | (with_reducible first | exact HB.out | apply below_alloc | apply pw_below_drewN | apply below_drew1 | refine below_set ?_ GE265.out) | exact HB.out)⟩
      (try clear HO_7)
      (try clear BK265)
      (try clear HB)
      generalize (((w37.setCell ⟨gb265, 0, none⟩ (.int .i64 ((rd_T33 l2 x36_2).f0))).setCell ⟨gb265, 1, none⟩ (.int .i64 ((rd_T33 l2 x36_2).f1))).setCell ⟨gb265, 2, none⟩ (.int .i64 ((rd_T33 l2 x36_2).f2))) = w39 at n0_ n1_ n2_ ⊢
      have HO_7 := n0_
      have BK265 := n1_
      have HB := n2_
      clear n0_ n1_ n2_
      have n0_ := Aside0.mk (Kd.S_drew HO_7.out)
      have n1_ := Aside0.mk (blk_drew BK265.out)
      have n2_ := Aside0.mk (below_drew1 HB.out)
      clear HO_7
      clear BK265
      clear HB
      have HO_7 := n0_
      have BK265 := n1_
      have HB := n2_
      clear n0_ n1_ n2_
      obtain ⟨Ao41, co41, eo41⟩ := Kd.S_slice HO_7.out
      (first | subst eo41 | (injection eo41 with f1_ f2_ f3_; have f4_ := f1_.symm; have f5_ := f3_.symm; clear f1_ f2_ f3_; subst f4_; subst f5_))
      have p266 : 0 ≤ (((rd_T33 l2 x36_2).f0) : Int) := of_decide_eq_true (by first | (with_reducible assumption) | assumption)
      have q266 : ((rd_T33 l2 x36_2).f0) < (x7_2.length : Int) := of_decide_eq_true (by first | (with_reducible assumption) | assumption)
      obtain ⟨ad266, A266_0, c266_0, e266, hx266_0, hl266_0, hi266_0⟩ := at_L3 (Kd.S_reads' HO_7.out).2.2 ((rd_T33 l2 x36_2).f0) p266 q266
      cases e266
      obtain ⟨ce266, hce266, hMe266, hcc266⟩ := Kd.S_get HO_7.out [] ((rd_T33 l2 x36_2).f0) p266 (by first | exact q266 | exact of_decide_eq_true (by first | (with_reducible assumption) | assumption) | (have e_ := (Kd.S_reads' HO_7.out).1; omega))
      obtain ⟨ve266_0, rfl, ge266_0⟩ := hMe266
      have hv266_0 := hcc266 0 _ rfl
      rw [Nat.add_zero, show ((Kd.slice 3 (Kd.int .i64))).sz = 1 from rfl, Nat.mul_one] at hv266_0
      replace hv266_0 := Option.some.inj (hv266_0.symm.trans hx266_0)
      rw [hv266_0] at ge266_0
      have HL266_0 := Aside0.mk (show Kd.R (Kd.int .i64) 3 _ _ _ _ (rd_L3 x7_2 ((rd_T33 l2 x36_2).f0)) from ge266_0)
      clear hv266_0 ge266_0
      have HX266_0 := Aside0.mk hx266_0
      clear hcc266 hce266
      have HR266_0 := Aside0.mk hi266_0
      have HC266_0 := Aside0.mk hl266_0
      clear hi266_0 hl266_0
      replace p266 := eq_true p266
      replace q266 := eq_true q266
      have p267 : 0 ≤ (((rd_T33 l2 x36_2).f1) : Int) := of_decide_eq_true (by first | (with_reducible assumption) | assumption)
      have q267 : ((rd_T33 l2 x36_2).f1) < ((rd_L3 x7_2 ((rd_T33 l2 x36_2).f0)).length : Int) := of_decide_eq_true (by first | (with_reducible assumption) | assumption)
      obtain ⟨ad267, e267, hx267_0⟩ := Kd.at_int (by repeat (first | (with_reducible exact HR266_0.out) | (with_reducible refine Kd.C_alloc ?_ _) | (with_reducible refine Kd.C_drewN ?_ _) | (with_reducible refine Kd.C_drew ?_) | exact HR266_0.out)) ((rd_T33 l2 x36_2).f1) p267 q267
      cases e267
      replace p267 := eq_true p267
      replace q267 := eq_true q267
      refine start_ (n := 12) (S := fun w' => w'.cell? ⟨gb265, 0, none⟩ = some (.int .i64 ((rd_T33 l2 x36_2).f0)) ∧ w'.cell? ⟨gb265, 1, none⟩ = some (.int .i64 ((rd_T33 l2 x36_2).f1)) ∧ w'.cell? ⟨gb265, 2, none⟩ = some (.int .i64 ((rd_T33 l2 x36_2).f2)) ∧ w'.cell? (ad266.add (((rd_T33 l2 x36_2).f0)).toNat) = some (.slice (some ad267) (rd_L3 x7_2 ((rd_T33 l2 x36_2).f0)).length c266_0) ∧ w'.cell? (ad267.add (((rd_T33 l2 x36_2).f1)).toNat) = some (.int .i64 (rd (rd_L3 x7_2 ((rd_T33 l2 x36_2).f0)) ((rd_T33 l2 x36_2).f1)))) (ds := []) (msk 12 0) (by kernel_rfl) rfl rfl ⟨(blk_cell BK265.out 0).trans rfl, (blk_cell BK265.out 1).trans rfl, (blk_cell BK265.out 2).trans rfl, hx266_0, hx267_0⟩ (fun hHeld => ?_); refine with_tabW orreryref19_Table.tab15 orreryref19_Table.bits15 (fun HT_ HW_ => ?_)
      generalize w39.drew = w40 at HO_7 BK265 HB HL266_0 HR266_0 HX266_0 hx266_0 hx267_0 hHeld ⊢
      refine pu_ 0 40 (msk 12 1) HT_.out ?_ ?_ ?_ ?_ ?_
      rotate_left
      · intro w'; go_simp; with_reducible rfl
      rotate_left
      · simp only [Act.put, sq, i64_w, i32_w]; rfl
      refine pu_ 2 42 (msk 12 5) HT_.out ?_ ?_ ?_ ?_ ?_
      rotate_left
      · intro w'; go_simp; with_reducible rfl
      rotate_left
      · simp only [Act.put, sq, i64_w, i32_w]; rfl
      refine pu_ 3 43 (msk 12 13) HT_.out ?_ ?_ ?_ ?_ ?_
      rotate_left
      · intro w'; go_simp; with_reducible rfl
      rotate_left
      · simp only [Act.put, sq, i64_w, i32_w]; rfl
      refine pu_ 7 47 (msk 12 141) HT_.out ?_ ?_ ?_ ?_ ?_
      rotate_left
      · intro w'; go_simp; with_reducible rfl
      rotate_left
      · simp only [Act.put, sq, i64_w, i32_w]; rfl
      refine tk_ 1 41 (msk 12 143) HT_.out HW_.out hHeld ?_ ?_ ?_ ?_ ?_
      rotate_left
      · rintro w' ⟨s0, s1, s2, s3, s4⟩; go_simp; with_reducible rfl
      rotate_left
      · simp only [Act.put, sq, i64_w, i32_w]; rfl
      refine tk_ 4 44 (msk 12 159) HT_.out HW_.out hHeld ?_ ?_ ?_ ?_ ?_
      rotate_left
      · rintro w' ⟨s0, s1, s2, s3, s4⟩; go_simp; with_reducible rfl
      rotate_left
      · simp only [Act.put, sq, i64_w, i32_w]; rfl
      refine pu_ 5 45 (msk 12 191) HT_.out ?_ ?_ ?_ ?_ ?_
      rotate_left
      · intro w'; go_simp; with_reducible rfl
      rotate_left
      · simp only [Act.put, sq, i64_w, i32_w]; rfl
      refine tk_ 6 46 (msk 12 255) HT_.out HW_.out hHeld ?_ ?_ ?_ ?_ ?_
      rotate_left
      · rintro w' ⟨s0, s1, s2, s3, s4⟩; go_simp; with_reducible rfl
      rotate_left
      · simp only [Act.put, sq, i64_w, i32_w]; rfl
      refine tk_ 8 48 (msk 12 511) HT_.out HW_.out hHeld ?_ ?_ ?_ ?_ ?_
      rotate_left
      · rintro w' ⟨s0, s1, s2, s3, s4⟩; go_simp; with_reducible rfl
      rotate_left
      · simp only [Act.put, sq, i64_w, i32_w]; rfl
      refine pu_ 9 49 (msk 12 1023) HT_.out ?_ ?_ ?_ ?_ ?_
      rotate_left
      · intro w'; go_simp; with_reducible rfl
      rotate_left
      · simp only [Act.put, sq, i64_w, i32_w]; rfl
      refine tk_ 10 50 (msk 12 2047) HT_.out HW_.out hHeld ?_ ?_ ?_ ?_ ?_
      rotate_left
      · rintro w' ⟨s0, s1, s2, s3, s4⟩; go_simp; with_reducible rfl
      rotate_left
      · simp only [Act.put, sq, i64_w, i32_w]; rfl
      refine pu_ 11 51 (msk 12 4095) HT_.out ?_ ?_ ?_ ?_ ?_
      rotate_left
      · intro w'; go_simp; with_reducible rfl
      rotate_left
      · simp only [Act.put, sq, i64_w, i32_w]; rfl
      refine done_ (done_of HT_.out (by kernel_rfl)) ?_
      try go_wp2
      (first | go_roundg k2 | (refine Handed.intro k2 ?measure ?_; rotate_left; go_step; (repeat apply Exists.intro); (refine ⟨?rel, ?fr_⟩); (case fr_ => (simp only [add_plain]; rfl))))
      case measure => have := HK1.out; have := HK2.out; omega
      case rel => exact ⟨(x7_2), (wrap64 (x36_2 + 1)), (by first | rfl | (simp; done) | (simp [*]; done)), H', ⟨by have := HK1.out; have := HK2.out; omega⟩, ⟨by (with_reducible repeat (first | apply Kd.S_alloc | apply Kd.S_drewN | apply Kd.S_drew)); exact HO_7.out⟩, ⟨by repeat (first | (with_reducible first | exact HB.out | apply below_alloc | apply pw_below_drewN | apply below_drew1 | refine below_set ?_ GE265.out) | exact HB.out)⟩⟩
     rw [if_pos c27] at H
     have c27b0 : decide ((rd (rd_L3 x7_2 ((rd_T33 l2 x36_2).f0)) ((rd_T33 l2 x36_2).f1)) < ((rd_T33 l2 x36_2).f2)) = true := decide_eq_true c27
     clear c27
     obtain ⟨y269, hy269⟩ : ∃ y_ : List Int, y_ = ((rd_L3 x7_2 ((rd_T33 l2 x36_2).f0)).set (((rd_T33 l2 x36_2).f1) : Int).toNat ((rd_T33 l2 x36_2).f2)) := ⟨_, rfl⟩
     replace H : (orreryref19_Table.l2 k2 (x7_2.set (((rd_T33 l2 x36_2).f0) : Int).toNat y269) l2 (l2.length : Int) (wrap64 (x36_2 + 1))) = some r := by first | (rw [hy269]; with_reducible exact H) | (have H2_ := (Option.bind_some _ _).symm.trans H; rw [hy269]; with_reducible exact H2_) | (have H2_ := (Option.bind_some _ _).symm.trans H; with_reducible exact H2_) | with_reducible exact H | (rw [hy269]; exact H) | exact H
     have Ny269 := Aside0.mk hy269
     clear hy269
     obtain ⟨y271, hy271⟩ : ∃ y_ : List (List Int), y_ = (x7_2.set (((rd_T33 l2 x36_2).f0) : Int).toNat y269) := ⟨_, rfl⟩
     replace H : (orreryref19_Table.l2 k2 y271 l2 (l2.length : Int) (wrap64 (x36_2 + 1))) = some r := by first | (rw [hy271]; with_reducible exact H) | (have H2_ := (Option.bind_some _ _).symm.trans H; rw [hy271]; with_reducible exact H2_) | (have H2_ := (Option.bind_some _ _).symm.trans H; with_reducible exact H2_) | with_reducible exact H | (rw [hy271]; exact H) | exact H
     have Ny271 := Aside0.mk hy271
     clear hy271
     have H' := Aside0.mk H
     clear H
     have p264 : 0 ≤ (x36_2 : Int) := of_decide_eq_true (by first | (with_reducible assumption) | assumption)
     have q264 : x36_2 < (l2.length : Int) := of_decide_eq_true (by first | (with_reducible assumption) | assumption)
     obtain ⟨ad264, e264, hx264_0, hx264_1, hx264_2⟩ := at_T33 HR2.out x36_2 p264 q264
     cases e264
     replace hx264_0 := (HB.out.cell (World.block_lt_of_cell? w _ hx264_0)).trans hx264_0
     replace hx264_1 := (HB.out.cell (World.block_lt_of_cell? w _ hx264_1)).trans hx264_1
     replace hx264_2 := (HB.out.cell (World.block_lt_of_cell? w _ hx264_2)).trans hx264_2
     replace p264 := eq_true p264
     replace q264 := eq_true q264
     try go_wp2_with (first | ((with_reducible refine gate_dst (N := 12) rfl ?_); refine box_event ?hg (N := 12) ?hd (cs := #[.int .i64 0, .int .i64 0, .int .i64 0]) (t := 33) ?hr ?_; (case hd => rfl); (case hg => rfl); (case hr => first | (go_simp; done) | (go_simp; rfl)); intro gb265 hg w29 hbox hb; have n0_ := Aside0.mk (Kd.S_below (by (with_reducible repeat (first | apply Kd.S_alloc | apply Kd.S_drewN | apply Kd.S_drew)); exact HO_7.out) hb); have n1_ := Aside0.mk (below_step (by repeat (first | (with_reducible first | exact HB.out | apply below_alloc | apply pw_below_drewN | apply below_drew1) | exact HB.out)) hb); have n2_ := Aside0.mk (hbox); have n3_ := Aside0.mk ((by rw [hg]; exact (below_size (by repeat (first | (with_reducible first | exact HB.out | apply below_alloc | apply pw_below_drewN | apply below_drew1) | exact HB.out))) : w.heap.size ≤ gb265)); have n4_ := Aside0.mk ((by rw [hg]; exact (below_size (by repeat (first | (with_reducible first | exact HB.out | apply below_alloc | apply pw_below_drewN | apply below_drew1) | exact HB.out))) : w.heap.size ≤ gb265)); clear HO_7; clear HB; have HO_7 := n0_; have HB := n1_; have BK265 := n2_; have GW265 := n3_; have GE265 := n4_; clear n0_ n1_ n2_ n3_ n4_; clear hb hbox hg; have hcz30_0 : w29.cell? ⟨gb265, 0, none⟩ = some (.int .i64 0) := (blk_cell BK265.out 0).trans rfl; have hcz30_1 : w29.cell? ⟨gb265, 1, none⟩ = some (.int .i64 0) := (blk_cell BK265.out 1).trans rfl; have hcz30_2 : w29.cell? ⟨gb265, 2, none⟩ = some (.int .i64 0) := (blk_cell BK265.out 2).trans rfl; have hfz30_0 := blk_frozen BK265.out 0; have hfz30_1 := blk_frozen BK265.out 1; have hfz30_2 := blk_frozen BK265.out 2))
     have n0_ : Aside0 (Kd.S (Kd.slice 3 (Kd.int .i64)) 23 (((w29.setCell ⟨gb265, 0, none⟩ (.int .i64 ((rd_T33 l2 x36_2).f0))).setCell ⟨gb265, 1, none⟩ (.int .i64 ((rd_T33 l2 x36_2).f1))).setCell ⟨gb265, 2, none⟩ (.int .i64 ((rd_T33 l2 x36_2).f2))) w.heap.size (fun _ => True) u7 x7_2) := ⟨by (with_reducible repeat (first | apply Kd.S_alloc | apply Kd.S_drewN | apply Kd.S_drew)); exact Kd.S_mono (Kd.S_far (p := ⟨gb265, 2, none⟩) (Kd.S_far (p := ⟨gb265, 1, none⟩) (Kd.S_far (p := ⟨gb265, 0, none⟩) (Kd.S_types HO_7.out BK265.out (by decide)) (fun _ hk => hk.2) (.int .i64 ((rd_T33 l2 x36_2).f0))) (fun _ hk => hk.2) (.int .i64 ((rd_T33 l2 x36_2).f1))) (fun _ hk => hk.2) (.int .i64 ((rd_T33 l2 x36_2).f2))) (fun _ hk => trivial)⟩
     have n1_ : Aside0 ((((w29.setCell ⟨gb265, 0, none⟩ (.int .i64 ((rd_T33 l2 x36_2).f0))).setCell ⟨gb265, 1, none⟩ (.int .i64 ((rd_T33 l2 x36_2).f1))).setCell ⟨gb265, 2, none⟩ (.int .i64 ((rd_T33 l2 x36_2).f2))).heap[gb265]? = some (.cells #[.int .i64 ((rd_T33 l2 x36_2).f0), .int .i64 ((rd_T33 l2 x36_2).f1), .int .i64 ((rd_T33 l2 x36_2).f2)] 33 (0, 0))) := ⟨by (with_reducible repeat (first | refine blk_drewN ?_ _ | refine blk_drew ?_ | refine blk_alloc ?_ _)); refine blk_put (cs := #[.int .i64 ((rd_T33 l2 x36_2).f0), .int .i64 ((rd_T33 l2 x36_2).f1), .int .i64 0]) ?_ 2 _ rfl; (with_reducible repeat (first | refine blk_drewN ?_ _ | refine blk_drew ?_ | refine blk_alloc ?_ _)); refine blk_put (cs := #[.int .i64 ((rd_T33 l2 x36_2).f0), .int .i64 0, .int .i64 0]) ?_ 1 _ rfl; (with_reducible repeat (first | refine blk_drewN ?_ _ | refine blk_drew ?_ | refine blk_alloc ?_ _)); refine blk_put (cs := #[.int .i64 0, .int .i64 0, .int .i64 0]) ?_ 0 _ rfl; (with_reducible repeat (first | refine blk_drewN ?_ _ | refine blk_drew ?_ | refine blk_alloc ?_ _)); exact BK265.out⟩
     have n2_ : Aside0 (Below w.heap.size w (((w29.setCell ⟨gb265, 0, none⟩ (.int .i64 ((rd_T33 l2 x36_2).f0))).setCell ⟨gb265, 1, none⟩ (.int .i64 ((rd_T33 l2 x36_2).f1))).setCell ⟨gb265, 2, none⟩ (.int .i64 ((rd_T33 l2 x36_2).f2)))) := ⟨by repeat (first | (with_reducible first | exact HB.out | apply below_alloc | apply pw_below_drewN | apply below_drew1 | refine below_set ?_ GE265.out) | exact HB.out)⟩
     (try clear HO_7)
     (try clear BK265)
     (try clear HB)
     generalize (((w29.setCell ⟨gb265, 0, none⟩ (.int .i64 ((rd_T33 l2 x36_2).f0))).setCell ⟨gb265, 1, none⟩ (.int .i64 ((rd_T33 l2 x36_2).f1))).setCell ⟨gb265, 2, none⟩ (.int .i64 ((rd_T33 l2 x36_2).f2))) = w31 at n0_ n1_ n2_ ⊢
     have HO_7 := n0_
     have BK265 := n1_
     have HB := n2_
     clear n0_ n1_ n2_
     have n0_ := Aside0.mk (Kd.S_drew HO_7.out)
     have n1_ := Aside0.mk (blk_drew BK265.out)
     have n2_ := Aside0.mk (below_drew1 HB.out)
     clear HO_7
     clear BK265
     clear HB
     have HO_7 := n0_
     have BK265 := n1_
     have HB := n2_
     clear n0_ n1_ n2_
     obtain ⟨Ao33, co33, eo33⟩ := Kd.S_slice HO_7.out
     (first | subst eo33 | (injection eo33 with f1_ f2_ f3_; have f4_ := f1_.symm; have f5_ := f3_.symm; clear f1_ f2_ f3_; subst f4_; subst f5_))
     have p266 : 0 ≤ (((rd_T33 l2 x36_2).f0) : Int) := of_decide_eq_true (by first | (with_reducible assumption) | assumption)
     have q266 : ((rd_T33 l2 x36_2).f0) < (x7_2.length : Int) := of_decide_eq_true (by first | (with_reducible assumption) | assumption)
     obtain ⟨ad266, A266_0, c266_0, e266, hx266_0, hl266_0, hi266_0⟩ := at_L3 (Kd.S_reads' HO_7.out).2.2 ((rd_T33 l2 x36_2).f0) p266 q266
     cases e266
     obtain ⟨ce266, hce266, hMe266, hcc266⟩ := Kd.S_get HO_7.out [] ((rd_T33 l2 x36_2).f0) p266 (by first | exact q266 | exact of_decide_eq_true (by first | (with_reducible assumption) | assumption) | (have e_ := (Kd.S_reads' HO_7.out).1; omega))
     obtain ⟨ve266_0, rfl, ge266_0⟩ := hMe266
     have hv266_0 := hcc266 0 _ rfl
     rw [Nat.add_zero, show ((Kd.slice 3 (Kd.int .i64))).sz = 1 from rfl, Nat.mul_one] at hv266_0
     replace hv266_0 := Option.some.inj (hv266_0.symm.trans hx266_0)
     rw [hv266_0] at ge266_0
     have HL266_0 := Aside0.mk (show Kd.R (Kd.int .i64) 3 _ _ _ _ (rd_L3 x7_2 ((rd_T33 l2 x36_2).f0)) from ge266_0)
     clear hv266_0 ge266_0
     have HX266_0 := Aside0.mk hx266_0
     clear hcc266 hce266
     have HR266_0 := Aside0.mk hi266_0
     have HC266_0 := Aside0.mk hl266_0
     clear hi266_0 hl266_0
     replace p266 := eq_true p266
     replace q266 := eq_true q266
     have p267 : 0 ≤ (((rd_T33 l2 x36_2).f1) : Int) := of_decide_eq_true (by first | (with_reducible assumption) | assumption)
     have q267 : ((rd_T33 l2 x36_2).f1) < ((rd_L3 x7_2 ((rd_T33 l2 x36_2).f0)).length : Int) := of_decide_eq_true (by first | (with_reducible assumption) | assumption)
     obtain ⟨ad267, e267, hx267_0⟩ := Kd.at_int (by repeat (first | (with_reducible exact HR266_0.out) | (with_reducible refine Kd.C_alloc ?_ _) | (with_reducible refine Kd.C_drewN ?_ _) | (with_reducible refine Kd.C_drew ?_) | exact HR266_0.out)) ((rd_T33 l2 x36_2).f1) p267 q267
     cases e267
     replace p267 := eq_true p267
     replace q267 := eq_true q267
     refine start_ (n := 12) (S := fun w' => w'.cell? ⟨gb265, 0, none⟩ = some (.int .i64 ((rd_T33 l2 x36_2).f0)) ∧ w'.cell? ⟨gb265, 1, none⟩ = some (.int .i64 ((rd_T33 l2 x36_2).f1)) ∧ w'.cell? ⟨gb265, 2, none⟩ = some (.int .i64 ((rd_T33 l2 x36_2).f2)) ∧ w'.cell? (ad266.add (((rd_T33 l2 x36_2).f0)).toNat) = some (.slice (some ad267) (rd_L3 x7_2 ((rd_T33 l2 x36_2).f0)).length c266_0) ∧ w'.cell? (ad267.add (((rd_T33 l2 x36_2).f1)).toNat) = some (.int .i64 (rd (rd_L3 x7_2 ((rd_T33 l2 x36_2).f0)) ((rd_T33 l2 x36_2).f1)))) (ds := []) (msk 12 0) (by kernel_rfl) rfl rfl ⟨(blk_cell BK265.out 0).trans rfl, (blk_cell BK265.out 1).trans rfl, (blk_cell BK265.out 2).trans rfl, hx266_0, hx267_0⟩ (fun hHeld => ?_); refine with_tabW orreryref19_Table.tab15 orreryref19_Table.bits15 (fun HT_ HW_ => ?_)
     generalize w31.drew = w32 at HO_7 BK265 HB HL266_0 HR266_0 HX266_0 hx266_0 hx267_0 hHeld ⊢
     refine pu_ 0 40 (msk 12 1) HT_.out ?_ ?_ ?_ ?_ ?_
     rotate_left
     · intro w'; go_simp; with_reducible rfl
     rotate_left
     · simp only [Act.put, sq, i64_w, i32_w]; rfl
     refine pu_ 2 42 (msk 12 5) HT_.out ?_ ?_ ?_ ?_ ?_
     rotate_left
     · intro w'; go_simp; with_reducible rfl
     rotate_left
     · simp only [Act.put, sq, i64_w, i32_w]; rfl
     refine pu_ 3 43 (msk 12 13) HT_.out ?_ ?_ ?_ ?_ ?_
     rotate_left
     · intro w'; go_simp; with_reducible rfl
     rotate_left
     · simp only [Act.put, sq, i64_w, i32_w]; rfl
     refine pu_ 7 47 (msk 12 141) HT_.out ?_ ?_ ?_ ?_ ?_
     rotate_left
     · intro w'; go_simp; with_reducible rfl
     rotate_left
     · simp only [Act.put, sq, i64_w, i32_w]; rfl
     refine tk_ 1 41 (msk 12 143) HT_.out HW_.out hHeld ?_ ?_ ?_ ?_ ?_
     rotate_left
     · rintro w' ⟨s0, s1, s2, s3, s4⟩; go_simp; with_reducible rfl
     rotate_left
     · simp only [Act.put, sq, i64_w, i32_w]; rfl
     refine tk_ 4 44 (msk 12 159) HT_.out HW_.out hHeld ?_ ?_ ?_ ?_ ?_
     rotate_left
     · rintro w' ⟨s0, s1, s2, s3, s4⟩; go_simp; with_reducible rfl
     rotate_left
     · simp only [Act.put, sq, i64_w, i32_w]; rfl
     refine pu_ 5 45 (msk 12 191) HT_.out ?_ ?_ ?_ ?_ ?_
     rotate_left
     · intro w'; go_simp; with_reducible rfl
     rotate_left
     · simp only [Act.put, sq, i64_w, i32_w]; rfl
     refine tk_ 6 46 (msk 12 255) HT_.out HW_.out hHeld ?_ ?_ ?_ ?_ ?_
     rotate_left
     · rintro w' ⟨s0, s1, s2, s3, s4⟩; go_simp; with_reducible rfl
     rotate_left
     · simp only [Act.put, sq, i64_w, i32_w]; rfl
     refine tk_ 8 48 (msk 12 511) HT_.out HW_.out hHeld ?_ ?_ ?_ ?_ ?_
     rotate_left
     · rintro w' ⟨s0, s1, s2, s3, s4⟩; go_simp; with_reducible rfl
     rotate_left
     · simp only [Act.put, sq, i64_w, i32_w]; rfl
     refine pu_ 9 49 (msk 12 1023) HT_.out ?_ ?_ ?_ ?_ ?_
     rotate_left
     · intro w'; go_simp; with_reducible rfl
     rotate_left
     · simp only [Act.put, sq, i64_w, i32_w]; rfl
     refine tk_ 10 50 (msk 12 2047) HT_.out HW_.out hHeld ?_ ?_ ?_ ?_ ?_
     rotate_left
     · rintro w' ⟨s0, s1, s2, s3, s4⟩; go_simp; with_reducible rfl
     rotate_left
     · simp only [Act.put, sq, i64_w, i32_w]; rfl
     refine pu_ 11 51 (msk 12 4095) HT_.out ?_ ?_ ?_ ?_ ?_
     rotate_left
     · intro w'; go_simp; with_reducible rfl
     rotate_left
     · simp only [Act.put, sq, i64_w, i32_w]; rfl
     refine done_ (done_of HT_.out (by kernel_rfl)) ?_
     try go_wp2
     have n0_ := Aside0.mk (Kd.S_drew HO_7.out)
     have n1_ := Aside0.mk (Kd.R_drew HL266_0.out)
     have n2_ := Aside0.mk (blk_drew BK265.out)
     have n3_ := Aside0.mk (Kd.C_drew HR266_0.out)
     have n4_ := Aside0.mk (below_drew1 HB.out)
     clear HO_7
     clear HL266_0
     clear BK265
     clear HR266_0
     clear HB
     have HO_7 := n0_
     have HL266_0 := n1_
     have BK265 := n2_
     have HR266_0 := n3_
     have HB := n4_
     clear n0_ n1_ n2_ n3_ n4_
     have p268 : 0 ≤ (((rd_T33 l2 x36_2).f0) : Int) := of_decide_eq_true (by first | (with_reducible assumption) | assumption)
     have q268 : ((rd_T33 l2 x36_2).f0) < (x7_2.length : Int) := of_decide_eq_true (by first | (with_reducible assumption) | assumption)
     obtain ⟨ad268, A268_0, c268_0, e268, hx268_0, hl268_0, hi268_0⟩ := at_L3 (Kd.S_reads' HO_7.out).2.2 ((rd_T33 l2 x36_2).f0) p268 q268
     obtain rfl : ad266 = ad268 := (by injection e268)
     obtain ⟨ce268, hce268, hMe268, hcc268⟩ := Kd.S_get HO_7.out [] ((rd_T33 l2 x36_2).f0) p268 (by first | exact q268 | exact of_decide_eq_true (by first | (with_reducible assumption) | assumption) | (have e_ := (Kd.S_reads' HO_7.out).1; omega))
     obtain ⟨ve268_0, rfl, ge268_0⟩ := hMe268
     have hv268_0 := hcc268 0 _ rfl
     rw [Nat.add_zero, show ((Kd.slice 3 (Kd.int .i64))).sz = 1 from rfl, Nat.mul_one] at hv268_0
     replace hv268_0 := Option.some.inj (hv268_0.symm.trans hx268_0)
     rw [hv268_0] at ge268_0
     have HL268_0 := Aside0.mk (show Kd.R (Kd.int .i64) 3 _ _ _ _ (rd_L3 x7_2 ((rd_T33 l2 x36_2).f0)) from ge268_0)
     clear hv268_0 ge268_0
     have HX268_0 := Aside0.mk hx268_0
     clear hcc268 hce268
     have HR268_0 := Aside0.mk hi268_0
     have HC268_0 := Aside0.mk hl268_0
     clear hi268_0 hl268_0
     replace p268 := eq_true p268
     replace q268 := eq_true q268
     have p28 : 0 ≤ (((rd_T33 l2 x36_2).f1) : Int) := of_decide_eq_true (by first | (with_reducible assumption) | assumption)
     have q28 : (((rd_T33 l2 x36_2).f1) : Int) < (((rd_L3 x7_2 ((rd_T33 l2 x36_2).f0)).length : Int) : Int) := of_decide_eq_true (by first | (with_reducible assumption) | assumption)
     obtain ⟨go28, co28, eo28, gb28, gl28, cl28, HG28⟩ := Kd.R_form HL268_0.out (by omega)
     (first | cases eo28 | (injection eo28 with ea_ en_ ec_; (first | subst ea_ | (injection ea_ with ea_; subst ea_)); subst ec_; clear en_))
     have GB28 := Aside0.mk gb28
     have GG28 := Aside0.mk HG28
     clear gb28 gl28 HG28
     obtain ⟨hx28_0, hf28_0⟩ := Kd.R_celln 0 HL268_0.out (((rd_T33 l2 x36_2).f1) : Int) p28 q28
     replace p28 := eq_true p28
     replace q28 := eq_true q28
     have hq35 : (((rd_T33 l2 x36_2).f0) : Int) < (x7_2.length : Int) := (by have h_ : (((rd_T33 l2 x36_2).f0) : Int) < ((x7_2.length : Int) : Int) := of_decide_eq_true (by first | (with_reducible assumption) | assumption); first | exact h_ | (have e_ := (Kd.S_reads' HO_7.out).1; omega) | simpa only [List.length_set, List.length_set] using h_)
     obtain ⟨oki35, ce35, hcl35, hM35, hcc35, hok35, hbk35⟩ := Kd.S_borrow HO_7.out [] (((rd_T33 l2 x36_2).f0) : Int) (of_decide_eq_true (by first | (with_reducible assumption) | assumption)) hq35
     obtain ⟨ve35_0, rfl, ge35_0⟩ := hM35
     have hv35 := hcc35 0 _ rfl
     rw [Nat.add_zero, show ((Kd.slice 3 (Kd.int .i64))).sz = 1 from rfl, Nat.mul_one] at hv35
     replace hv35 := Option.some.inj (hv35.symm.trans HX268_0.out)
     subst hv35
     clear hcc35 hcl35
     replace ge35_0 := (show Kd.R (Kd.int .i64) 3 _ _ _ _ (rd_L3 x7_2 ((rd_T33 l2 x36_2).f0)) from ge35_0)
     have HP35 := Kd.R_putg ge35_0 (((rd_T33 l2 x36_2).f1) : Int) ((rd_T33 l2 x36_2).f2)
     rw [← Ny269.out] at HP35
     have HS35 := hbk35 HP35.2 (fun k_ e_ => by injection e_ with e_; subst e_; exact ge35_0.1 _ rfl) (x' := y269) (Kd.M_row HP35.1)
     rw [← Ny271.out] at HS35
     have HQ35 := Aside0.mk HS35
     clear HP35 HS35 hbk35 hok35
     refine start_ (n := 11) (S := fun w' => w'.cell? ⟨gb265, 0, none⟩ = some (.int .i64 ((rd_T33 l2 x36_2).f0)) ∧ w'.cell? ⟨gb265, 1, none⟩ = some (.int .i64 ((rd_T33 l2 x36_2).f1)) ∧ w'.cell? ⟨gb265, 2, none⟩ = some (.int .i64 ((rd_T33 l2 x36_2).f2)) ∧ w'.cell? (ad266.add (((rd_T33 l2 x36_2).f0)).toNat) = some (.slice (some ⟨go28, 0, none⟩) (rd_L3 x7_2 ((rd_T33 l2 x36_2).f0)).length c268_0)) (ds := [10]) (msk 11 0) (by kernel_rfl) rfl rfl ⟨(blk_cell BK265.out 0).trans rfl, (blk_cell BK265.out 1).trans rfl, (blk_cell BK265.out 2).trans rfl, hx268_0⟩ (fun hHeld => ?_); refine with_tabW orreryref19_Table.tab16 orreryref19_Table.bits16 (fun HT_ HW_ => ?_)
     generalize w32.drew = w34 at HO_7 HL266_0 BK265 HR266_0 HB GG28 HL268_0 HQ35 HR268_0 HX268_0 hf28_0 hx268_0 hx28_0 hHeld ⊢
     refine pu_ 0 52 (msk 11 1) HT_.out ?_ ?_ ?_ ?_ ?_
     rotate_left
     · intro w'; go_simp; with_reducible rfl
     rotate_left
     · simp only [Act.put, sq, i64_w, i32_w]; rfl
     refine pu_ 1 53 (msk 11 3) HT_.out ?_ ?_ ?_ ?_ ?_
     rotate_left
     · intro w'; go_simp; with_reducible rfl
     rotate_left
     · simp only [Act.put, sq, i64_w, i32_w]; rfl
     refine pu_ 5 57 (msk 11 35) HT_.out ?_ ?_ ?_ ?_ ?_
     rotate_left
     · intro w'; go_simp; with_reducible rfl
     rotate_left
     · simp only [Act.put, sq, i64_w, i32_w]; rfl
     refine pu_ 7 59 (msk 11 163) HT_.out ?_ ?_ ?_ ?_ ?_
     rotate_left
     · intro w'; go_simp; with_reducible rfl
     rotate_left
     · simp only [Act.put, sq, i64_w, i32_w]; rfl
     refine tk_ 2 54 (msk 11 167) HT_.out HW_.out hHeld ?_ ?_ ?_ ?_ ?_
     rotate_left
     · rintro w' ⟨s0, s1, s2, s3⟩; go_simp; with_reducible rfl
     rotate_left
     · simp only [Act.put, sq, i64_w, i32_w]; rfl
     refine pu_ 3 55 (msk 11 175) HT_.out ?_ ?_ ?_ ?_ ?_
     rotate_left
     · intro w'; go_simp; with_reducible rfl
     rotate_left
     · simp only [Act.put, sq, i64_w, i32_w]; rfl
     refine tk_ 4 56 (msk 11 191) HT_.out HW_.out hHeld ?_ ?_ ?_ ?_ ?_
     rotate_left
     · rintro w' ⟨s0, s1, s2, s3⟩; go_simp; with_reducible rfl
     rotate_left
     · simp only [Act.put, sq, i64_w, i32_w]; rfl
     refine tk_ 6 58 (msk 11 255) HT_.out HW_.out hHeld ?_ ?_ ?_ ?_ ?_
     rotate_left
     · rintro w' ⟨s0, s1, s2, s3⟩; go_simp; with_reducible rfl
     rotate_left
     · simp only [Act.put, sq, i64_w, i32_w]; rfl
     refine tk_ 8 60 (msk 11 511) HT_.out HW_.out hHeld ?_ ?_ ?_ ?_ ?_
     rotate_left
     · rintro w' ⟨s0, s1, s2, s3⟩; go_simp; with_reducible rfl
     rotate_left
     · simp only [Act.put, sq, i64_w, i32_w]; rfl
     refine pu_ 9 61 (msk 11 1023) HT_.out ?_ ?_ ?_ ?_ ?_
     rotate_left
     · intro w'; go_simp; with_reducible rfl
     rotate_left
     · simp only [Act.put, sq, i64_w, i32_w]; rfl
     refine last_ (i := 10) (N := none) (msk 11 2047) rfl rfl (one_of HT_.out (by kernel_rfl)) (by decide) (fun K hK => ?_)
     refine skip_ (w1 := ?_) (by rfl) rfl ?_ ?_
     rotate_left
     · go_simp
       rfl
     refine hK.out _ _ ?_
     clear hK K
     refine done_ (done_of HT_.out (by kernel_rfl)) ?_
     try go_wp2
     (first | go_roundg k2 | (refine Handed.intro k2 ?measure ?_; rotate_left; go_step; (repeat apply Exists.intro); (refine ⟨?rel, ?fr_⟩); (case fr_ => (simp only [add_plain]; rfl))))
     case measure => have := HK1.out; have := HK2.out; omega
     case rel => exact ⟨(y271), (wrap64 (x36_2 + 1)), (by first | rfl | (simp; done) | (simp [*]; done)), H', ⟨by have := HK1.out; have := HK2.out; omega⟩, ⟨by (with_reducible repeat (first | apply Kd.S_alloc | apply Kd.S_drewN | apply Kd.S_drew)); exact HQ35.out⟩, ⟨by repeat (first | (with_reducible first | exact HB.out | apply below_alloc | apply pw_below_drewN | apply below_drew1 | refine below_set ?_ GB28.out | refine below_set ?_ GE265.out) | exact HB.out)⟩⟩

end Go.Proofs.Ytlaneafplmbcnaa.PO
