/- What the Go functions of this part compute, as Lean functions, and that the machine's calls come to just that; written for this claim by a program of the session (gen.sh, after the kit's printer). -/
import Derived.Test.YtlaneafplmbcnaaPOx0
import Derived.Test.YtlaneafplmbcnaaSq
namespace Go.Proofs.Ytlaneafplmbcnaa.PO
open Go.RowKit Go.Proofs.YtlaneafplmbcnaaW.PrintWords Go.Proofs.YtlaneafplmbcnaaW.PrintLast Go.Proofs.YtlaneafplmbcnaaW.PrintMore
attribute [local go_sem] max2_int min2_int max_two min_two max_three min_three max_four min_four   -- for this text's walks alone
set_option linter.unusedVariables false
set_option linter.unusedSimpArgs false

/-! ### match_table: function 25 -/
mutual
def match_table.l0 : Nat → Int → List (S33) → List (List Int) → Int → Int → Option ((List (List Int)))
  | 0, _, _, _, _, _ => none
  | k + 1, x0, x1, x5, x13, x14 => if x14 < x13 then (if 0 ≤ x0 then (if (x0 : Int).toNat ≤ 35184372088832 then (if 0 ≤ x14 then (if x14 < (x5.length : Int) then ((some (x5.set (x14 : Int).toNat (List.replicate (x0 : Int).toNat 0) : List (List Int))).bind fun y471 => (match_table.l1 k x0 x1 y471 x14 x13 x14 ((rd_L3 y471 x14).length : Int) 0)) else (none)) else (none)) else (none)) else (none)) else (match_table.l2 k x5 x1 (x1.length : Int) 0)
def match_table.l1 : Nat → Int → List (S33) → List (List Int) → Int → Int → Int → Int → Int → Option ((List (List Int)))
  | 0, _, _, _, _, _, _, _, _ => none
  | k + 1, x0, x1, x5, x6, x13, x14, x26, x27 => if x27 < x26 then (if 0 ≤ x6 then (if x6 < (x5.length : Int) then (if 0 ≤ x27 then (if x27 < ((rd_L3 x5 x6).length : Int) then (match_table.l1 k x0 x1 (x5.set (x6 : Int).toNat ((rd_L3 x5 x6).set (x27 : Int).toNat (-1073741824))) x6 x13 x14 x26 (wrap64 (x27 + 1))) else (none)) else (none)) else (none)) else (none)) else (match_table.l0 k x0 x1 x5 x13 (wrap64 (x14 + 1)))
def match_table.l2 : Nat → List (List Int) → List (S33) → Int → Int → Option ((List (List Int)))
  | 0, _, _, _, _ => none
  | k + 1, x5, x38, x39, x40 => if x40 < x39 then (if 0 ≤ x40 then (if x40 < (x38.length : Int) then (if 0 ≤ ((rd_T33 x38 x40).f0) then (if ((rd_T33 x38 x40).f0) < (x5.length : Int) then (if 0 ≤ ((rd_T33 x38 x40).f1) then (if ((rd_T33 x38 x40).f1) < ((rd_L3 x5 ((rd_T33 x38 x40).f0)).length : Int) then (match_table.l2 k (x5.set (((rd_T33 x38 x40).f0) : Int).toNat ((rd_L3 x5 ((rd_T33 x38 x40).f0)).set (((rd_T33 x38 x40).f1) : Int).toNat (mx (rd (rd_L3 x5 ((rd_T33 x38 x40).f0)) ((rd_T33 x38 x40).f1)) ((rd_T33 x38 x40).f2)))) x38 x39 (wrap64 (x40 + 1))) else (none)) else (none)) else (none)) else (none)) else (none)) else (none)) else (some x5)
end
def match_table.f (k : Nat) (a0 : Int) (l1 : List (S33)) : Option ((List (List Int))) := if 0 ≤ a0 then (if (a0 : Int).toNat ≤ 11728124029610 then ((some (List.replicate (a0 : Int).toNat [] : List (List Int))).bind fun y465 => (match_table.l0 k a0 l1 y465 (y465.length : Int) 0)) else (none)) else (none)
theorem match_table.mono_l : ∀ k, (∀ y0 y1 y2 y3 y4, LeO (match_table.l0 k y0 y1 y2 y3 y4) (match_table.l0 (k + 1) y0 y1 y2 y3 y4)) ∧ (∀ y0 y1 y2 y3 y4 y5 y6 y7, LeO (match_table.l1 k y0 y1 y2 y3 y4 y5 y6 y7) (match_table.l1 (k + 1) y0 y1 y2 y3 y4 y5 y6 y7)) ∧ (∀ y0 y1 y2 y3, LeO (match_table.l2 k y0 y1 y2 y3) (match_table.l2 (k + 1) y0 y1 y2 y3))
  | 0 => ⟨fun _ _ _ _ _ r h => by simp [match_table.l0] at h, fun _ _ _ _ _ _ _ _ r h => by simp [match_table.l1] at h, fun _ _ _ _ r h => by simp [match_table.l2] at h⟩
  | k + 1 => by
    obtain ⟨ih0, ih1, ih2⟩ := match_table.mono_l k
    refine ⟨?_, ?_, ?_⟩
    · intro y0 y1 y2 y3 y4
      unfold match_table.l0
      repeat' first
      | (with_reducible exact ih0 _ _ _ _ _)
      | (with_reducible exact ih1 _ _ _ _ _ _ _ _)
      | (with_reducible exact ih2 _ _ _ _)
      | (with_reducible exact LeO.refl _)
      | (with_reducible exact LeO.none _)
      | (with_reducible refine LeO.ite ?_ ?_)
      | (with_reducible refine LeO.bind ?_ (fun _ => ?_))
      | exact ih0 _ _ _ _ _
      | exact ih1 _ _ _ _ _ _ _ _
      | exact ih2 _ _ _ _
      | exact LeO.none _
      | refine LeO.ite ?_ ?_
      | refine LeO.bind ?_ (fun _ => ?_)
    · intro y0 y1 y2 y3 y4 y5 y6 y7
      unfold match_table.l1
      repeat' first
      | (with_reducible exact ih0 _ _ _ _ _)
      | (with_reducible exact ih1 _ _ _ _ _ _ _ _)
      | (with_reducible exact ih2 _ _ _ _)
      | (with_reducible exact LeO.refl _)
      | (with_reducible exact LeO.none _)
      | (with_reducible refine LeO.ite ?_ ?_)
      | (with_reducible refine LeO.bind ?_ (fun _ => ?_))
      | exact ih0 _ _ _ _ _
      | exact ih1 _ _ _ _ _ _ _ _
      | exact ih2 _ _ _ _
      | exact LeO.none _
      | refine LeO.ite ?_ ?_
      | refine LeO.bind ?_ (fun _ => ?_)
    · intro y0 y1 y2 y3
      unfold match_table.l2
      repeat' first
      | (with_reducible exact ih0 _ _ _ _ _)
      | (with_reducible exact ih1 _ _ _ _ _ _ _ _)
      | (with_reducible exact ih2 _ _ _ _)
      | (with_reducible exact LeO.refl _)
      | (with_reducible exact LeO.none _)
      | (with_reducible refine LeO.ite ?_ ?_)
      | (with_reducible refine LeO.bind ?_ (fun _ => ?_))
      | exact ih0 _ _ _ _ _
      | exact ih1 _ _ _ _ _ _ _ _
      | exact ih2 _ _ _ _
      | exact LeO.none _
      | refine LeO.ite ?_ ?_
      | refine LeO.bind ?_ (fun _ => ?_)
theorem match_table.mono : ∀ a0 a1 k, LeO (match_table.f k a0 a1) (match_table.f (k + 1) a0 a1) := by
 intro a0 a1 k
 obtain ⟨ih0, ih1, ih2⟩ := match_table.mono_l k
 unfold match_table.f
 repeat' first
     | (with_reducible exact ih0 _ _ _ _ _)
     | (with_reducible exact ih1 _ _ _ _ _ _ _ _)
     | (with_reducible exact ih2 _ _ _ _)
     | (with_reducible exact LeO.refl _)
     | (with_reducible exact LeO.none _)
     | (with_reducible refine LeO.ite ?_ ?_)
     | (with_reducible refine LeO.bind ?_ (fun _ => ?_))
     | exact ih0 _ _ _ _ _
     | exact ih1 _ _ _ _ _ _ _ _
     | exact ih2 _ _ _ _
     | exact LeO.none _
     | refine LeO.ite ?_ ?_
     | refine LeO.bind ?_ (fun _ => ?_)
def match_table.T15 : Bool × List (List Nat × List Nat) := (true, [([], []), ([], []), ([1], [1]), ([0, 2], [0, 2]), ([3], [3]), ([], []), ([5], [5]), ([], []), ([], []), ([8], [8]), ([7, 9], [7, 9]), ([10], [10]), ([], []), ([12], [12]), ([11, 13], [11, 13]), ([14], [14]), ([], []), ([16], [16]), ([15, 17], [15, 17]), ([4, 6, 0, 1, 2, 3, 4, 5, 6, 7, 8, 9, 10, 11, 12, 13, 14, 15, 16, 17, 18], [4, 6]), ([19, 18, 0, 1, 2, 3, 4, 5, 6, 7, 8, 9, 10, 11, 12, 13, 14, 15, 16, 17, 18], [18, 19])])
def match_table.B15 : List Nat := [0, 0, 2, 7, 15, 0, 32, 0, 0, 256, 896, 1920, 0, 4096, 16256, 32640, 0, 65536, 262016, 524287, 1048575]
theorem match_table.tab15 : rtab .any (opsOf Try.f25 15) = match_table.T15 := by kernel_rfl
theorem match_table.bits15 : waitsOk match_table.T15.2 match_table.B15 = true := by kernel_rfl
set_option maxHeartbeats 8000000 in
set_option maxRecDepth 100000 in
theorem match_table.calls (k : Nat) (a0 : Int) (A1 : Option Addr) (c1 : Nat) (l1 : List (S33)) (r : List (List Int)) (w : World) (hr1 : Kd.C k33 w A1 l1.length l1) (hc1 : l1.length ≤ c1) (h : match_table.f k a0 l1 = some r) :
    Calls Try.prog 25 #[.int .i64 a0, .slice A1 l1.length c1] w fun e w' => ∃ v0_ : Value, e = .returned (v0_) ∧ Kd.S (Kd.slice 3 (Kd.int .i64)) 23 w' w.heap.size (fun _ => True) v0_ r ∧ Below w.heap.size w w' := by
 have hu33 := Try.underlying33
 have HR1 := Aside0.mk hr1
 have HC1 := Aside0.mk hc1
 clear hr1 hc1
 have HB := Aside0.mk (Below.refl w.heap.size w)
 have H : (if 0 ≤ a0 then (if (a0 : Int).toNat ≤ 11728124029610 then ((some (List.replicate (a0 : Int).toNat [] : List (List Int))).bind fun y465 => (match_table.l0 k a0 l1 y465 (y465.length : Int) 0)) else (none)) else (none)) = some r := h
 clear h
 by_cases c3 : 0 ≤ a0
 case neg => rw [if_neg c3] at H; exact absurd H (by simp)
 rw [if_pos c3] at H
 have c3b0 := eq_true c3
 have c3b1 : decide (0 ≤ a0) = true := decide_eq_true c3
 clear c3
 by_cases c4 : (a0 : Int).toNat ≤ 11728124029610
 case neg => rw [if_neg c4] at H; exact absurd H (by simp)
 rw [if_pos c4] at H
 have c4b0 := eq_true c4
 have c4b1 : decide ((a0 : Int).toNat ≤ 11728124029610) = true := decide_eq_true c4
 clear c4
 obtain ⟨y465, hy465⟩ : ∃ y_ : List (List Int), y_ = (List.replicate (a0 : Int).toNat []) := ⟨_, rfl⟩
 replace H : (match_table.l0 k a0 l1 y465 (y465.length : Int) 0) = some r := by first | (rw [hy465]; with_reducible exact H) | (have H2_ := (Option.bind_some _ _).symm.trans H; rw [hy465]; with_reducible exact H2_) | (have H2_ := (Option.bind_some _ _).symm.trans H; with_reducible exact H2_) | with_reducible exact H | (rw [hy465]; exact H) | exact H
 have Ny465 := Aside0.mk hy465
 clear hy465
 have H' := Aside0.mk H
 clear H
 go_enter Try.func25, Try.ntmps25
 go_wp2_with (first | ((with_reducible refine gate_dst (N := 11) rfl ?_); refine Kd.S_make (Kd.slice 3 (Kd.int .i64)) _ 23 rfl (N := 11) rfl 37 _ _ rfl a0 rfl rfl Try.underlying37 (.slice none 0 0) 24 info23 rfl (by decide) (by omega) [] (ok := fun _ => True) (okp := fun _ => True) ⟨_, rfl, Kd.R_nil _ _ _ _ _⟩ (fun _ hk => hk) trivial (of_decide_eq_true (by first | (with_reducible assumption) | assumption)) (Nat.le_trans (Nat.mul_le_mul_right _ (of_decide_eq_true (by first | (with_reducible assumption) | assumption) : a0.toNat ≤ 11728124029610)) (by omega)) (Below.refl _ _) (Nat.le_refl _) ?_; intro v466 w5 ho6 hb hg_ hnew_; clear hg_ hnew_; (first | rw [← Ny465.out] at ho6 | (simp only [Int.reduceToNat] at ho6; rw [← Ny465.out] at ho6)); have n0_ := Aside0.mk (Kd.S_lower ho6 (below_size (by repeat (first | (with_reducible first | exact HB.out | apply below_alloc | apply pw_below_drewN | apply below_drew1) | exact HB.out)))); have n1_ := Aside0.mk (below_step (by repeat (first | (with_reducible first | exact HB.out | apply below_alloc | apply pw_below_drewN | apply below_drew1) | exact HB.out)) hb); clear HB; have HO467 := n0_; have HB := n1_; clear n0_ n1_; clear hb ho6; obtain ⟨Ao7, co7, eo7⟩ := Kd.S_slice HO467.out; subst eo7))
 go_loopg [14] k (fun kq v14 w' => ∃ (x5_1 : List (List Int)) (x14_1 : Int), v14 = .int .i64 x14_1 ∧ Aside0 (match_table.l0 kq a0 l1 x5_1 (y465.length : Int) x14_1 = some r) ∧ Aside0 (kq ≤ k) ∧ Aside0 (Kd.S (Kd.slice 3 (Kd.int .i64)) 23 w' w.heap.size (fun _ => True) (.slice Ao7 y465.length co7) x5_1) ∧ Aside0 (Below w.heap.size w w'))
 case atStart => exact ⟨(y465), (0), (by first | rfl | (simp; done) | (simp [*]; done)), H', ⟨Nat.le_refl _⟩, ⟨by (with_reducible repeat (first | apply Kd.S_alloc | apply Kd.S_drewN | apply Kd.S_drew)); exact HO467.out⟩, ⟨by repeat (first | (with_reducible first | exact HB.out | apply below_alloc | apply pw_below_drewN | apply below_drew1) | exact HB.out)⟩⟩
 case round =>
  clear H'
  try clear c1
  try clear c2
  try clear p2
  try clear c3
  try clear c3b0
  try clear c3b1
  try clear c4
  try clear c4b0
  try clear c4b1
  obtain ⟨x5_1, x14_1, rfl, HA, HK1, HO_5, HB⟩ := hrel
  have hl5_1 := (Kd.S_reads' HO_5.out).1
  rw [hl5_1] at HO_5
  (try simp only [hl5_1])
  cases gk with
  | zero => exact absurd HA.out (by simp [match_table.l0])
  | succ k1 =>
   have H := HA.out
   clear HA
   simp only [match_table.l0] at H
   by_cases c8 : x14_1 < (y465.length : Int)
   case pos =>
    rw [if_pos c8] at H
    have c8b0 : decide (x14_1 < (y465.length : Int)) = true := decide_eq_true c8
    clear c8
    (try (have c8b0r := c8b0; simp only [hl5_1] at c8b0r))
    by_cases c9 : 0 ≤ a0
    case neg => rw [if_neg c9] at H; exact absurd H (by simp)
    rw [if_pos c9] at H
    have c9b0 := eq_true c9
    have c9b1 : decide (0 ≤ a0) = true := decide_eq_true c9
    clear c9
    (try (have c9b0r := c9b0; simp only [hl5_1] at c9b0r))
    (try (have c9b1r := c9b1; simp only [hl5_1] at c9b1r))
    by_cases c10 : (a0 : Int).toNat ≤ 35184372088832
    case neg => rw [if_neg c10] at H; exact absurd H (by simp)
    rw [if_pos c10] at H
    have c10b0 := eq_true c10
    have c10b1 : decide ((a0 : Int).toNat ≤ 35184372088832) = true := decide_eq_true c10
    clear c10
    (try (have c10b0r := c10b0; simp only [hl5_1] at c10b0r))
    (try (have c10b1r := c10b1; simp only [hl5_1] at c10b1r))
    obtain ⟨y468, hy468⟩ : ∃ y_ : List Int, y_ = (List.replicate (a0 : Int).toNat 0) := ⟨_, rfl⟩
    replace H : (if 0 ≤ x14_1 then (if x14_1 < (x5_1.length : Int) then ((some (x5_1.set (x14_1 : Int).toNat y468 : List (List Int))).bind fun y471 => (match_table.l1 k1 a0 l1 y471 x14_1 (y465.length : Int) x14_1 ((rd_L3 y471 x14_1).length : Int) 0)) else (none)) else (none)) = some r := by first | (rw [hy468]; with_reducible exact H) | (have H2_ := (Option.bind_some _ _).symm.trans H; rw [hy468]; with_reducible exact H2_) | (have H2_ := (Option.bind_some _ _).symm.trans H; with_reducible exact H2_) | with_reducible exact H | (rw [hy468]; exact H) | exact H
    have Ny468 := Aside0.mk hy468
    clear hy468
    by_cases c11 : 0 ≤ x14_1
    case neg => rw [if_neg c11] at H; exact absurd H (by simp)
    rw [if_pos c11] at H
    have c11b0 : decide (0 ≤ x14_1) = true := decide_eq_true c11
    clear c11
    (try (have c11b0r := c11b0; simp only [hl5_1] at c11b0r))
    by_cases c12 : x14_1 < (x5_1.length : Int)
    case neg => rw [if_neg c12] at H; exact absurd H (by simp)
    rw [if_pos c12] at H
    have c12b0 : decide (x14_1 < (x5_1.length : Int)) = true := decide_eq_true c12
    clear c12
    (try (have c12b0r := c12b0; simp only [hl5_1] at c12b0r))
    obtain ⟨y471, hy471⟩ : ∃ y_ : List (List Int), y_ = (x5_1.set (x14_1 : Int).toNat y468) := ⟨_, rfl⟩
    replace H : (match_table.l1 k1 a0 l1 y471 x14_1 (y465.length : Int) x14_1 ((rd_L3 y471 x14_1).length : Int) 0) = some r := by first | (rw [hy471]; with_reducible exact H) | (have H2_ := (Option.bind_some _ _).symm.trans H; rw [hy471]; with_reducible exact H2_) | (have H2_ := (Option.bind_some _ _).symm.trans H; with_reducible exact H2_) | with_reducible exact H | (rw [hy471]; exact H) | exact H
    have Ny471 := Aside0.mk hy471
    clear hy471
    have H' := Aside0.mk H
    clear H
    go_wp2_with (first | ((with_reducible refine gate_dst (N := 20) rfl ?_); refine Kd.R_make (Kd.int .i64) _ 3 rfl (N := 20) rfl 23 _ _ rfl a0 rfl rfl Try.underlying23 (.int .i64 0) 8 info3 rfl (by decide) (by omega) 0 (ok := fun _ => True) (okp := fun _ => True) rfl (fun _ hk => hk) trivial (of_decide_eq_true (by first | (with_reducible assumption) | assumption)) (Nat.le_trans (Nat.mul_le_mul_right _ (of_decide_eq_true (by first | (with_reducible assumption) | assumption) : a0.toNat ≤ 35184372088832)) (by omega)) (Below.refl _ _) (Nat.le_refl _) ?_; intro v469 w14 ho15 hb hg_ hnew_; clear hg_ hnew_; (first | rw [← Ny468.out] at ho15 | (simp only [Int.reduceToNat] at ho15; rw [← Ny468.out] at ho15)); have n0_ := Aside0.mk (Kd.S_elder' (by (with_reducible repeat (first | apply Kd.S_alloc | apply Kd.S_drewN | apply Kd.S_drew)); exact HO_5.out) (Kd.R_base ho15) hb); have n1_ := Aside0.mk (Kd.R_lower ho15 (below_size (by repeat (first | (with_reducible first | exact HB.out | apply below_alloc | apply pw_below_drewN | apply below_drew1) | exact HB.out)))); have n2_ := Aside0.mk (below_step (by repeat (first | (with_reducible first | exact HB.out | apply below_alloc | apply pw_below_drewN | apply below_drew1) | exact HB.out)) hb); clear HO_5; clear HB; have HO_5 := n0_; have HO470 := n1_; have HB := n2_; clear n0_ n1_ n2_; clear hb ho15; have p13 : 0 ≤ (x14_1 : Int) := of_decide_eq_true (by first | (with_reducible assumption) | assumption); have q13 : (x14_1 : Int) < ((x5_1.length : Int) : Int) := of_decide_eq_true (by first | (with_reducible assumption) | assumption); obtain ⟨go13, co13, eo13, gb13, gl13, cl13, HG13⟩ := Kd.S_form HO_5.out (by omega); (first | cases eo13 | (injection eo13 with ea_ en_ ec_; (first | subst ea_ | (injection ea_ with ea_; subst ea_)); subst ec_; clear en_)); have GB13 := Aside0.mk gb13; have GG13 := Aside0.mk HG13; clear gb13 gl13 HG13; obtain ⟨_, ce13, hcl13, hM13, hcc13, hfr13, _, _⟩ := Kd.S_elem HO_5.out [] (x14_1 : Int) p13 q13; obtain ⟨ve13_0, rfl, ge13_0⟩ := hM13; have hx13_0 := hcc13 0 _ rfl; have hf13_0 := hfr13 0; (try simp only [show ((Kd.slice 3 (Kd.int .i64))).sz = 1 from rfl, Nat.mul_one, Nat.add_zero] at hx13_0); (try simp only [show ((Kd.slice 3 (Kd.int .i64))).sz = 1 from rfl, Nat.mul_one, Nat.add_zero] at hf13_0); (try clear hcl13); (try clear hcc13); (try clear hfr13); (try clear hM13); replace p13 := eq_true p13; replace q13 := eq_true q13; have n_ := Aside0.mk (Kd.S_mono (ok' := (fun k_ => some k_ ≠ (v469 : Value).ownBlock)) HO_5.out (fun k_ hk => hk.2)); clear HO_5; have HO_5 := n_; clear n_; have HX16 := Aside0.mk (show Kd.S (Kd.slice 3 (Kd.int .i64)) 23 w14 w.heap.size (fun k_ => ((fun _ => True)) k_ ∧ ¬ ((fun k_ => some k_ = (v469 : Value).ownBlock)) k_) (.slice (some ⟨go13, 0, none⟩) x5_1.length co7) x5_1 from (by (with_reducible repeat (first | apply Kd.S_alloc | apply Kd.S_drewN | apply Kd.S_drew)); exact Kd.S_mono HO_5.out (fun k_ hk => ⟨trivial, fun e_ => hk e_⟩))); obtain ⟨oki16, ce16, hcl16, hM16, hcc16, hfr16, hoki16, hH16⟩ := Kd.S_elem HX16.out [] (x14_1 : Int) (of_decide_eq_true (by first | (with_reducible assumption) | assumption)) (by have h_ : (x14_1 : Int) < ((x5_1.length : Int) : Int) := of_decide_eq_true (by first | (with_reducible assumption) | assumption); first | exact h_ | (have e_ := (Kd.S_reads' HO_5.out).1; omega) | simpa using h_); obtain ⟨ve16_0, rfl, ge16_0⟩ := hM16; have HP16 := Kd.S_seg hH16 (of_decide_eq_true (by first | (with_reducible assumption) | assumption)) (by have h_ : (x14_1 : Int) < ((x5_1.length : Int) : Int) := of_decide_eq_true (by first | (with_reducible assumption) | assumption); first | exact h_ | (have e_ := (Kd.S_reads' HO_5.out).1; omega) | simpa using h_) (seg := [v469]) (j := 0) (show 1 ≤ 1 from by decide) (x' := y468) (Kd.M_row (Kd.R_mono (Kd.R_tight rfl (Kd.R_mono (ok' := fun k_ => ((fun _ => True)) k_ ∧ k_ ≠ go13) (Kd.R_apart' (HO470.out) (Kd.S_typed HO_5.out) (by decide)) (fun k_ hk => ⟨trivial, fun e_ => (hk.2) (by rw [e_]; rfl)⟩))) (fun _ h_ => Or.inr (h_)))) (fun _ hk => hk) (fun k_ hk_ => ((Kd.R_mono (ok' := fun k_ => ((fun _ => True)) k_ ∧ k_ ≠ go13) (Kd.R_apart' (HO470.out) (Kd.S_typed HO_5.out) (by decide)) (fun k_ hk => ⟨trivial, fun e_ => (hk.2) (by rw [e_]; rfl)⟩))).1 k_ hk_.symm); have hx16_0 := hcc16 0 _ rfl; (try simp only [show ((Kd.slice 3 (Kd.int .i64))).sz = 1 from rfl, Nat.mul_one, Nat.add_zero] at hx16_0); have hf16_0 := hfr16 0; (try simp only [show ((Kd.slice 3 (Kd.int .i64))).sz = 1 from rfl, Nat.mul_one, Nat.add_zero] at hf16_0); (try clear hcl16); (try clear hcc16); (try clear hfr16); (try clear hM16); (try clear hoki16); (try clear hH16); (try simp only [show ((Kd.slice 3 (Kd.int .i64))).sz = 1 from rfl, Nat.mul_one, Nat.add_zero] at HP16)) | ((with_reducible refine gate_store (t := 23) (p := 21) rfl ?_); refine store_event (t := 23) (p := 21) (v := ?vo_w17) (w1 := (w14.setCell ⟨go13, (x14_1 : Int).toNat, none⟩ (v469))) ?hg ?ho ?hn ?hr ?_; (case ho => rfl); (case hg => rfl); (case hn => rfl); (case hr => first | (go_simp; done) | (go_simp; rfl) | (obtain ⟨Ax_, cx_, ex_⟩ := Kd.R_slice HO470.out; subst ex_; first | (go_simp; done) | (go_simp; rfl))); intro w17 hw; have hg : w14.grownBy w17 (some go13) := (by rw [hw]; exact HP16.2); have hp_ : Kd.S (Kd.slice 3 (Kd.int .i64)) 23 w17 w.heap.size (fun _ => True) (.slice (some ⟨go13, 0, none⟩) x5_1.length co7) y471 := (by rw [hw, Ny471.out]; exact HP16.1); clear HP16; have n0_ := Aside0.mk (hp_); have n1_ := Aside0.mk ((by rw [hw]; exact below_set (HB.out) GB13.out : Below w.heap.size w w17)); clear HO_5; clear HB; clear HO470; have HO_5 := n0_; have HB := n1_; clear n0_ n1_; clear hg hw hp_; have p472 : 0 ≤ (x14_1 : Int) := of_decide_eq_true (by first | (with_reducible assumption) | assumption); have q472 : x14_1 < (y471.length : Int) := (by have h_ : (x14_1 : Int) < ((x5_1.length : Int) : Int) := of_decide_eq_true (by first | (with_reducible assumption) | assumption); first | (have e_ := (Kd.S_reads' HO_5.out).1; omega) | simpa only [Ny471.out, List.length_set] using h_); have ql472 : ((x14_1 : Int) < ((x5_1.length : Int) : Int)) = True := eq_true (of_decide_eq_true (by first | (with_reducible assumption) | assumption)); obtain ⟨ad472, A472_0, c472_0, e472, hx472_0, hl472_0, hi472_0⟩ := at_L3 (Kd.S_reads' HO_5.out).2.2 x14_1 p472 q472; obtain rfl : (⟨go13, 0, none⟩ : Addr) = ad472 := (by injection e472); obtain ⟨ce472, hce472, hMe472, hcc472⟩ := Kd.S_get HO_5.out [] x14_1 p472 (by first | exact q472 | exact of_decide_eq_true (by first | (with_reducible assumption) | assumption) | (have e_ := (Kd.S_reads' HO_5.out).1; omega)); obtain ⟨ve472_0, rfl, ge472_0⟩ := hMe472; have hv472_0 := hcc472 0 _ rfl; rw [Nat.add_zero, show ((Kd.slice 3 (Kd.int .i64))).sz = 1 from rfl, Nat.mul_one] at hv472_0; replace hv472_0 := Option.some.inj (hv472_0.symm.trans hx472_0); rw [hv472_0] at ge472_0; have HL472_0 := Aside0.mk (show Kd.R (Kd.int .i64) 3 _ _ _ _ (rd_L3 y471 x14_1) from ge472_0); clear hv472_0 ge472_0; have HX472_0 := Aside0.mk hx472_0; clear hcc472 hce472; (first | simp only [add_plain] at hx472_0 | simp only [add_at] at hx472_0 | simp only [Addr.add, Nat.zero_add] at hx472_0 | skip); have HR472_0 := Aside0.mk hi472_0; have HC472_0 := Aside0.mk hl472_0; clear hi472_0 hl472_0; replace p472 := eq_true p472; replace q472 := eq_true q472))
    go_loopg [27] k1 (fun kq v27 w' => ∃ (x5_2 : List (List Int)) (x27_2 : Int), v27 = .int .i64 x27_2 ∧ Aside0 (match_table.l1 kq a0 l1 x5_2 x14_1 (y465.length : Int) x14_1 ((rd_L3 y471 x14_1).length : Int) x27_2 = some r) ∧ Aside0 (kq ≤ k1) ∧ Aside0 (Kd.S (Kd.slice 3 (Kd.int .i64)) 23 w' w.heap.size (fun _ => True) (.slice (some ⟨go13, 0, none⟩) x5_1.length co7) x5_2) ∧ Aside0 (Below w.heap.size w w'))
    case atStart => exact ⟨(y471), (0), (by first | rfl | (simp; done) | (simp [*]; done)), H', ⟨Nat.le_refl _⟩, ⟨by (try simp only [hl5_1]); (with_reducible repeat (first | apply Kd.S_alloc | apply Kd.S_drewN | apply Kd.S_drew)); exact HO_5.out⟩, ⟨by repeat (first | (with_reducible first | exact HB.out | apply below_alloc | apply pw_below_drewN | apply below_drew1) | exact HB.out)⟩⟩
    case round =>
     clear H'
     try clear c1
     try clear p1
     try clear q1
     try clear hx1
     try clear c2
     try clear p2
     try clear c3
     try clear c3b0
     try clear c3b1
     try clear c4
     try clear c4b0
     try clear c4b1
     try clear p4
     try clear q4
     try clear hx4
     try clear c8
     try clear c8b0
     try clear c9
     try clear c9b0
     try clear c9b1
     try clear c10
     try clear c10b0
     try clear c10b1
     try clear c11
     try clear c11b0
     try clear c12
     try clear c12b0
     try clear c13
     try clear p13
     try clear q13
     try clear hx13
     try clear hf13
     try clear c16
     try clear hx16
     try clear hf16
     try clear hx13_0
     try clear hx16_0
     try clear hx472_0
     try clear p13
     try clear p2
     try clear p472
     try clear q13
     try clear q472
     obtain ⟨x5_2, x27_2, rfl, HA, HK2, HO_5, HB⟩ := hrel
     have hl5_2 := (Kd.S_reads' HO_5.out).1
     rw [hl5_2] at HO_5
     (try simp only [hl5_2])
     cases gk with
     | zero => exact absurd HA.out (by simp [match_table.l1])
     | succ k2 =>
      have H := HA.out
      clear HA
      simp only [match_table.l1] at H
      by_cases c18 : x27_2 < ((rd_L3 y471 x14_1).length : Int)
      case neg =>
       rw [if_neg c18] at H
       have c18b0 : decide (x27_2 < ((rd_L3 y471 x14_1).length : Int)) = false := decide_eq_false c18
       clear c18
       (try (have c18b0r := c18b0; simp only [hl5_1, hl5_2] at c18b0r))
       have H' := Aside0.mk H
       clear H
       go_wp2
       (try simp only [← hl5_1, ← hl5_2])
       (first | go_roundg k2 | (refine Handed.intro k2 ?measure ?_; rotate_left; go_step; (repeat apply Exists.intro); (refine ⟨?rel, ?fr_⟩); (case fr_ => (simp only [add_plain]; rfl))))
       case measure => have := HK1.out; have := HK2.out; omega
       case rel => exact ⟨(x5_2), (wrap64 (x14_1 + 1)), (by first | rfl | (simp; done) | (simp [*]; done)), H', ⟨by have := HK1.out; have := HK2.out; omega⟩, ⟨by (try simp only [hl5_1]); (try simp only [hl5_2]); (with_reducible repeat (first | apply Kd.S_alloc | apply Kd.S_drewN | apply Kd.S_drew)); exact HO_5.out⟩, ⟨by repeat (first | (with_reducible first | exact HB.out | apply below_alloc | apply pw_below_drewN | apply below_drew1) | exact HB.out)⟩⟩
      rw [if_pos c18] at H
      have c18b0 : decide (x27_2 < ((rd_L3 y471 x14_1).length : Int)) = true := decide_eq_true c18
      clear c18
      (try (have c18b0r := c18b0; simp only [hl5_1, hl5_2] at c18b0r))
      by_cases c19 : 0 ≤ x14_1
      case neg => rw [if_neg c19] at H; exact absurd H (by simp)
      rw [if_pos c19] at H
      have c19b0 : decide (0 ≤ x14_1) = true := decide_eq_true c19
      clear c19
      (try (have c19b0r := c19b0; simp only [hl5_1, hl5_2] at c19b0r))
      by_cases c20 : x14_1 < (x5_2.length : Int)
      case neg => rw [if_neg c20] at H; exact absurd H (by simp)
      rw [if_pos c20] at H
      have c20b0 : decide (x14_1 < (x5_2.length : Int)) = true := decide_eq_true c20
      clear c20
      (try (have c20b0r := c20b0; simp only [hl5_1, hl5_2] at c20b0r))
      by_cases c21 : 0 ≤ x27_2
      case neg => rw [if_neg c21] at H; exact absurd H (by simp)
      rw [if_pos c21] at H
      have c21b0 : decide (0 ≤ x27_2) = true := decide_eq_true c21
      clear c21
      (try (have c21b0r := c21b0; simp only [hl5_1, hl5_2] at c21b0r))
      by_cases c22 : x27_2 < ((rd_L3 x5_2 x14_1).length : Int)
      case neg => rw [if_neg c22] at H; exact absurd H (by simp)
      rw [if_pos c22] at H
      have c22b0 : decide (x27_2 < ((rd_L3 x5_2 x14_1).length : Int)) = true := decide_eq_true c22
      clear c22
      (try (have c22b0r := c22b0; simp only [hl5_1, hl5_2] at c22b0r))
      obtain ⟨y474, hy474⟩ : ∃ y_ : List Int, y_ = ((rd_L3 x5_2 x14_1).set (x27_2 : Int).toNat (-1073741824)) := ⟨_, rfl⟩
      replace H : (match_table.l1 k2 a0 l1 (x5_2.set (x14_1 : Int).toNat y474) x14_1 (y465.length : Int) x14_1 ((rd_L3 y471 x14_1).length : Int) (wrap64 (x27_2 + 1))) = some r := by first | (rw [hy474]; with_reducible exact H) | (have H2_ := (Option.bind_some _ _).symm.trans H; rw [hy474]; with_reducible exact H2_) | (have H2_ := (Option.bind_some _ _).symm.trans H; with_reducible exact H2_) | with_reducible exact H | (rw [hy474]; exact H) | exact H
      have Ny474 := Aside0.mk hy474
      clear hy474
      obtain ⟨y476, hy476⟩ : ∃ y_ : List (List Int), y_ = (x5_2.set (x14_1 : Int).toNat y474) := ⟨_, rfl⟩
      replace H : (match_table.l1 k2 a0 l1 y476 x14_1 (y465.length : Int) x14_1 ((rd_L3 y471 x14_1).length : Int) (wrap64 (x27_2 + 1))) = some r := by first | (rw [hy476]; with_reducible exact H) | (have H2_ := (Option.bind_some _ _).symm.trans H; rw [hy476]; with_reducible exact H2_) | (have H2_ := (Option.bind_some _ _).symm.trans H; with_reducible exact H2_) | with_reducible exact H | (rw [hy476]; exact H) | exact H
      have Ny476 := Aside0.mk hy476
      clear hy476
      have H' := Aside0.mk H
      clear H
      have p473 : 0 ≤ (x14_1 : Int) := of_decide_eq_true (by first | (with_reducible assumption) | assumption)
      have q473 : x14_1 < (x5_2.length : Int) := of_decide_eq_true (by first | (with_reducible assumption) | assumption)
      obtain ⟨ad473, A473_0, c473_0, e473, hx473_0, hl473_0, hi473_0⟩ := at_L3 (Kd.S_reads' HO_5.out).2.2 x14_1 p473 q473
      obtain rfl : (⟨go13, 0, none⟩ : Addr) = ad473 := (by injection e473)
      obtain ⟨ce473, hce473, hMe473, hcc473⟩ := Kd.S_get HO_5.out [] x14_1 p473 (by first | exact q473 | exact of_decide_eq_true (by first | (with_reducible assumption) | assumption) | (have e_ := (Kd.S_reads' HO_5.out).1; omega))
      obtain ⟨ve473_0, rfl, ge473_0⟩ := hMe473
      have hv473_0 := hcc473 0 _ rfl
      rw [Nat.add_zero, show ((Kd.slice 3 (Kd.int .i64))).sz = 1 from rfl, Nat.mul_one] at hv473_0
      replace hv473_0 := Option.some.inj (hv473_0.symm.trans hx473_0)
      rw [hv473_0] at ge473_0
      have HL473_0 := Aside0.mk (show Kd.R (Kd.int .i64) 3 _ _ _ _ (rd_L3 x5_2 x14_1) from ge473_0)
      clear hv473_0 ge473_0
      have HX473_0 := Aside0.mk hx473_0
      clear hcc473 hce473
      (first | simp only [add_plain] at hx473_0 | simp only [add_at] at hx473_0 | simp only [Addr.add, Nat.zero_add] at hx473_0 | skip)
      have HR473_0 := Aside0.mk hi473_0
      have HC473_0 := Aside0.mk hl473_0
      clear hi473_0 hl473_0
      replace p473 := eq_true p473
      replace q473 := eq_true q473
      have p23 : 0 ≤ (x27_2 : Int) := of_decide_eq_true (by first | (with_reducible assumption) | assumption)
      have q23 : (x27_2 : Int) < (((rd_L3 x5_2 x14_1).length : Int) : Int) := of_decide_eq_true (by first | (with_reducible assumption) | assumption)
      obtain ⟨go23, co23, eo23, gb23, gl23, cl23, HG23⟩ := Kd.R_form HL473_0.out (by omega)
      (first | cases eo23 | (injection eo23 with ea_ en_ ec_; (first | subst ea_ | (injection ea_ with ea_; subst ea_)); subst ec_; clear en_))
      have GB23 := Aside0.mk gb23
      have GG23 := Aside0.mk HG23
      clear gb23 gl23 HG23
      obtain ⟨hx23_0, hf23_0⟩ := Kd.R_celln 0 HL473_0.out (x27_2 : Int) p23 q23
      replace p23 := eq_true p23
      replace q23 := eq_true q23
      have hq24 : (x14_1 : Int) < (x5_2.length : Int) := (by have h_ : (x14_1 : Int) < ((x5_2.length : Int) : Int) := of_decide_eq_true (by first | (with_reducible assumption) | assumption); first | exact h_ | (have e_ := (Kd.S_reads' HO_5.out).1; omega) | simpa only [List.length_set, List.length_set] using h_)
      obtain ⟨oki24, ce24, hcl24, hM24, hcc24, hok24, hbk24⟩ := Kd.S_borrow HO_5.out [] (x14_1 : Int) (of_decide_eq_true (by first | (with_reducible assumption) | assumption)) hq24
      obtain ⟨ve24_0, rfl, ge24_0⟩ := hM24
      have hv24 := hcc24 0 _ rfl
      rw [Nat.add_zero, show ((Kd.slice 3 (Kd.int .i64))).sz = 1 from rfl, Nat.mul_one] at hv24
      replace hv24 := Option.some.inj (hv24.symm.trans HX473_0.out)
      subst hv24
      clear hcc24 hcl24
      replace ge24_0 := (show Kd.R (Kd.int .i64) 3 _ _ _ _ (rd_L3 x5_2 x14_1) from ge24_0)
      have HP24 := Kd.R_putg ge24_0 (x27_2 : Int) (-1073741824)
      go_wp2_with (first | ((with_reducible refine gate_store (t := 3) (p := 35) rfl ?_); refine store_event (t := 3) (p := 35) (v := ?vo_w25) (w1 := (wr.setCell ⟨go23, (x27_2 : Int).toNat, none⟩ (.int .i64 (-1073741824)))) ?hg ?ho ?hn ?hr ?_; (case ho => rfl); (case hg => rfl); (case hn => rfl); (case hr => first | (go_simp; done) | (go_simp; rfl)); intro w25 hw; have hg : wr.grownBy w25 (some go23) := (by rw [hw]; exact HP24.2); have hz_ : Kd.R (Kd.int .i64) 3 w25 w.heap.size oki24 (.slice (some ⟨go23, 0, none⟩) (rd_L3 x5_2 x14_1).length c473_0) y474 := (by rw [hw, Ny474.out]; exact HP24.1); have hp_ : Kd.S (Kd.slice 3 (Kd.int .i64)) 23 w25 w.heap.size (fun _ => True) (.slice (some ⟨go13, 0, none⟩) x5_2.length co7) y476 := (by rw [Ny476.out]; exact hbk24 hg (fun k_ e_ => by injection e_ with e_; subst e_; exact ge24_0.1 _ rfl) (Kd.M_row hz_)); have hm_ := Kd.R_mono hz_ hok24; clear HP24 hbk24; have n0_ := Aside0.mk (hp_); have n1_ := Aside0.mk ((by rw [hw]; exact below_set (HB.out) GB23.out : Below w.heap.size w w25)); have n2_ := Aside0.mk (hm_); have n3_ := Aside0.mk ((Kd.R_reads' hm_).2.1); clear HO_5; clear HB; clear HL473_0; have HO_5 := n0_; have HB := n1_; have HL485 := n2_; have HC475 := n3_; clear n0_ n1_ n2_ n3_; clear hg hw hp_ hz_ hm_ hok24))
      (try simp only [← hl5_2])
      (first | go_roundg k2 | (refine Handed.intro k2 ?measure ?_; rotate_left; go_step; (repeat apply Exists.intro); (refine ⟨?rel, ?fr_⟩); (case fr_ => (simp only [add_plain]; rfl))))
      case measure => have := HK1.out; have := HK2.out; omega
      case rel => exact ⟨(y476), (wrap64 (x27_2 + 1)), (by first | rfl | (simp; done) | (simp [*]; done)), H', ⟨by have := HK1.out; have := HK2.out; omega⟩, ⟨by (try simp only [hl5_1]); (try simp only [hl5_2]); (with_reducible repeat (first | apply Kd.S_alloc | apply Kd.S_drewN | apply Kd.S_drew)); exact HO_5.out⟩, ⟨by repeat (first | (with_reducible first | exact HB.out | apply below_alloc | apply pw_below_drewN | apply below_drew1) | exact HB.out)⟩⟩
   rw [if_neg c8] at H
   have c8b0 : decide (x14_1 < (y465.length : Int)) = false := decide_eq_false c8
   clear c8
   (try (have c8b0r := c8b0; simp only [hl5_1] at c8b0r))
   have H' := Aside0.mk H
   clear H
   go_wp2
   go_loopg [40] k1 (fun kq v40 w' => ∃ (x5_2 : List (List Int)) (x40_2 : Int), v40 = .int .i64 x40_2 ∧ Aside0 (match_table.l2 kq x5_2 l1 (l1.length : Int) x40_2 = some r) ∧ Aside0 (kq ≤ k1) ∧ Aside0 (Kd.S (Kd.slice 3 (Kd.int .i64)) 23 w' w.heap.size (fun _ => True) (.slice Ao7 x5_1.length co7) x5_2) ∧ Aside0 (Below w.heap.size w w'))
   case atStart => exact ⟨(x5_1), (0), (by first | rfl | (simp; done) | (simp [*]; done)), H', ⟨Nat.le_refl _⟩, ⟨by (try simp only [hl5_1]); (with_reducible repeat (first | apply Kd.S_alloc | apply Kd.S_drewN | apply Kd.S_drew)); exact HO_5.out⟩, ⟨by repeat (first | (with_reducible first | exact HB.out | apply below_alloc | apply pw_below_drewN | apply below_drew1) | exact HB.out)⟩⟩
   case round =>
    clear H'
    try clear c1
    try clear p1
    try clear q1
    try clear hx1
    try clear c2
    try clear p2
    try clear q2
    try clear hx2
    try clear hf2
    try clear c3
    try clear c3b0
    try clear c3b1
    try clear c4
    try clear c4b0
    try clear c4b1
    try clear p4
    try clear q4
    try clear hx4
    try clear p6
    try clear c8
    try clear c8b0
    try clear c9
    try clear c9b0
    try clear c9b1
    try clear c10
    try clear c10b0
    try clear c10b1
    try clear c11
    try clear c11b0
    try clear c12
    try clear c12b0
    try clear c13
    try clear p13
    try clear q13
    try clear hx13
    try clear hf13
    try clear c16
    try clear hx16
    try clear hf16
    try clear c18
    try clear c18b0
    try clear c19
    try clear c19b0
    try clear c20
    try clear c20b0
    try clear c21
    try clear c21b0
    try clear c22
    try clear c22b0
    try clear p23
    try clear q23
    try clear hx23
    try clear hf23
    try clear c24
    try clear q24
    try clear c25
    try clear hx13_0
    try clear hx16_0
    try clear hx23_0
    try clear hx472_0
    try clear hx473_0
    try clear p1
    try clear p13
    try clear p2
    try clear p23
    try clear p4
    try clear p472
    try clear p473
    try clear q1
    try clear q13
    try clear q23
    try clear q4
    try clear q472
    try clear q473
    obtain ⟨x5_2, x40_2, rfl, HA, HK2, HO_5, HB⟩ := hrel
    have hl5_2 := (Kd.S_reads' HO_5.out).1
    rw [hl5_2] at HO_5
    (try simp only [hl5_2])
    cases gk with
    | zero => exact absurd HA.out (by simp [match_table.l2])
    | succ k2 =>
     have H := HA.out
     clear HA
     simp only [match_table.l2] at H
     by_cases c26 : x40_2 < (l1.length : Int)
     case neg =>
      rw [if_neg c26] at H
      have c26b0 : decide (x40_2 < (l1.length : Int)) = false := decide_eq_false c26
      clear c26
      (try (have c26b0r := c26b0; simp only [hl5_1, hl5_2] at c26b0r))
      obtain rfl := Option.some.inj H
      go_wp2
      go_ret
      exact ⟨_, by first | rfl | (simp [errW_none, errW_some] <;> rfl) | (simp [*, errW_none, errW_some] <;> rfl), by (with_reducible repeat (first | apply Kd.S_alloc | apply Kd.S_drewN | apply Kd.S_drew)); exact HO_5.out, by repeat (first | (with_reducible first | exact HB.out | apply below_alloc | apply pw_below_drewN | apply below_drew1) | exact HB.out)⟩
     rw [if_pos c26] at H
     have c26b0 : decide (x40_2 < (l1.length : Int)) = true := decide_eq_true c26
     clear c26
     (try (have c26b0r := c26b0; simp only [hl5_1, hl5_2] at c26b0r))
     by_cases c27 : 0 ≤ x40_2
     case neg => rw [if_neg c27] at H; exact absurd H (by simp)
     rw [if_pos c27] at H
     have c27b0 : decide (0 ≤ x40_2) = true := decide_eq_true c27
     clear c27
     (try (have c27b0r := c27b0; simp only [hl5_1, hl5_2] at c27b0r))
     by_cases c28 : x40_2 < (l1.length : Int)
     case neg => rw [if_neg c28] at H; exact absurd H (by simp)
     rw [if_pos c28] at H
     have c28b0 : decide (x40_2 < (l1.length : Int)) = true := decide_eq_true c28
     clear c28
     (try (have c28b0r := c28b0; simp only [hl5_1, hl5_2] at c28b0r))
     by_cases c29 : 0 ≤ ((rd_T33 l1 x40_2).f0)
     case neg => rw [if_neg c29] at H; exact absurd H (by simp)
     rw [if_pos c29] at H
     have c29b0 : decide (0 ≤ ((rd_T33 l1 x40_2).f0)) = true := decide_eq_true c29
     clear c29
     (try (have c29b0r := c29b0; simp only [hl5_1, hl5_2] at c29b0r))
     by_cases c30 : ((rd_T33 l1 x40_2).f0) < (x5_2.length : Int)
     case neg => rw [if_neg c30] at H; exact absurd H (by simp)
     rw [if_pos c30] at H
     have c30b0 : decide (((rd_T33 l1 x40_2).f0) < (x5_2.length : Int)) = true := decide_eq_true c30
     clear c30
     (try (have c30b0r := c30b0; simp only [hl5_1, hl5_2] at c30b0r))
     by_cases c31 : 0 ≤ ((rd_T33 l1 x40_2).f1)
     case neg => rw [if_neg c31] at H; exact absurd H (by simp)
     rw [if_pos c31] at H
     have c31b0 : decide (0 ≤ ((rd_T33 l1 x40_2).f1)) = true := decide_eq_true c31
     clear c31
     (try (have c31b0r := c31b0; simp only [hl5_1, hl5_2] at c31b0r))
     by_cases c32 : ((rd_T33 l1 x40_2).f1) < ((rd_L3 x5_2 ((rd_T33 l1 x40_2).f0)).length : Int)
     case neg => rw [if_neg c32] at H; exact absurd H (by simp)
     rw [if_pos c32] at H
     have c32b0 : decide (((rd_T33 l1 x40_2).f1) < ((rd_L3 x5_2 ((rd_T33 l1 x40_2).f0)).length : Int)) = true := decide_eq_true c32
     clear c32
     (try (have c32b0r := c32b0; simp only [hl5_1, hl5_2] at c32b0r))
     obtain ⟨ji33, hji33⟩ : ∃ j_ : Int, (mx (rd (rd_L3 x5_2 ((rd_T33 l1 x40_2).f0)) ((rd_T33 l1 x40_2).f1)) ((rd_T33 l1 x40_2).f2)) = j_ := ⟨_, rfl⟩
     replace H : (match_table.l2 k2 (x5_2.set (((rd_T33 l1 x40_2).f0) : Int).toNat ((rd_L3 x5_2 ((rd_T33 l1 x40_2).f0)).set (((rd_T33 l1 x40_2).f1) : Int).toNat (ji33))) l1 (l1.length : Int) (wrap64 (x40_2 + 1))) = some r := by first | (rw [hji33] at H; exact H) | (simp only [hji33] at H ⊢; exact H)
     have hji33_ : (if (rd (rd_L3 x5_2 ((rd_T33 l1 x40_2).f0)) ((rd_T33 l1 x40_2).f1)) < ((rd_T33 l1 x40_2).f2) then ((rd_T33 l1 x40_2).f2) else (rd (rd_L3 x5_2 ((rd_T33 l1 x40_2).f0)) ((rd_T33 l1 x40_2).f1))) = ji33 := hji33
     obtain ⟨y482, hy482⟩ : ∃ y_ : List Int, y_ = ((rd_L3 x5_2 ((rd_T33 l1 x40_2).f0)).set (((rd_T33 l1 x40_2).f1) : Int).toNat (ji33)) := ⟨_, rfl⟩
     replace H : (match_table.l2 k2 (x5_2.set (((rd_T33 l1 x40_2).f0) : Int).toNat y482) l1 (l1.length : Int) (wrap64 (x40_2 + 1))) = some r := by first | (rw [hy482]; with_reducible exact H) | (have H2_ := (Option.bind_some _ _).symm.trans H; rw [hy482]; with_reducible exact H2_) | (have H2_ := (Option.bind_some _ _).symm.trans H; with_reducible exact H2_) | with_reducible exact H | (rw [hy482]; exact H) | exact H
     have Ny482 := Aside0.mk hy482
     clear hy482
     obtain ⟨y484, hy484⟩ : ∃ y_ : List (List Int), y_ = (x5_2.set (((rd_T33 l1 x40_2).f0) : Int).toNat y482) := ⟨_, rfl⟩
     replace H : (match_table.l2 k2 y484 l1 (l1.length : Int) (wrap64 (x40_2 + 1))) = some r := by first | (rw [hy484]; with_reducible exact H) | (have H2_ := (Option.bind_some _ _).symm.trans H; rw [hy484]; with_reducible exact H2_) | (have H2_ := (Option.bind_some _ _).symm.trans H; with_reducible exact H2_) | with_reducible exact H | (rw [hy484]; exact H) | exact H
     have Ny484 := Aside0.mk hy484
     clear hy484
     have H' := Aside0.mk H
     clear H
     have p477 : 0 ≤ (x40_2 : Int) := of_decide_eq_true (by first | (with_reducible assumption) | assumption)
     have q477 : x40_2 < (l1.length : Int) := of_decide_eq_true (by first | (with_reducible assumption) | assumption)
     obtain ⟨ad477, e477, hx477_0, hx477_1, hx477_2⟩ := at_T33 HR1.out x40_2 p477 q477
     cases e477
     replace hx477_0 := (HB.out.cell (World.block_lt_of_cell? w _ hx477_0)).trans hx477_0
     replace hx477_1 := (HB.out.cell (World.block_lt_of_cell? w _ hx477_1)).trans hx477_1
     replace hx477_2 := (HB.out.cell (World.block_lt_of_cell? w _ hx477_2)).trans hx477_2
     replace p477 := eq_true p477
     replace q477 := eq_true q477
     try go_wp2_with (first | ((with_reducible refine gate_dst (N := 9) rfl ?_); refine box_event ?hg (N := 9) ?hd (cs := #[.int .i64 0, .int .i64 0, .int .i64 0]) (t := 33) ?hr ?_; (case hd => rfl); (case hg => rfl); (case hr => first | (go_simp; done) | (go_simp; rfl)); intro gb478 hg w35 hbox hb; have n0_ := Aside0.mk (Kd.S_below (by (with_reducible repeat (first | apply Kd.S_alloc | apply Kd.S_drewN | apply Kd.S_drew)); exact HO_5.out) hb); have n1_ := Aside0.mk (below_step (by repeat (first | (with_reducible first | exact HB.out | apply below_alloc | apply pw_below_drewN | apply below_drew1) | exact HB.out)) hb); have n2_ := Aside0.mk (hbox); have n3_ := Aside0.mk ((by rw [hg]; exact (below_size (by repeat (first | (with_reducible first | exact HB.out | apply below_alloc | apply pw_below_drewN | apply below_drew1) | exact HB.out))) : w.heap.size ≤ gb478)); have n4_ := Aside0.mk ((by rw [hg]; exact (below_size (by repeat (first | (with_reducible first | exact HB.out | apply below_alloc | apply pw_below_drewN | apply below_drew1) | exact HB.out))) : w.heap.size ≤ gb478)); clear HO_5; clear HB; have HO_5 := n0_; have HB := n1_; have BK478 := n2_; have GW478 := n3_; have GE478 := n4_; clear n0_ n1_ n2_ n3_ n4_; clear hb hbox hg; have hcz36_0 : w35.cell? ⟨gb478, 0, none⟩ = some (.int .i64 0) := (blk_cell BK478.out 0).trans rfl; have hcz36_1 : w35.cell? ⟨gb478, 1, none⟩ = some (.int .i64 0) := (blk_cell BK478.out 1).trans rfl; have hcz36_2 : w35.cell? ⟨gb478, 2, none⟩ = some (.int .i64 0) := (blk_cell BK478.out 2).trans rfl; have hfz36_0 := blk_frozen BK478.out 0; have hfz36_1 := blk_frozen BK478.out 1; have hfz36_2 := blk_frozen BK478.out 2))
     have n0_ : Aside0 (Kd.S (Kd.slice 3 (Kd.int .i64)) 23 (((w35.setCell ⟨gb478, 0, none⟩ (.int .i64 ((rd_T33 l1 x40_2).f0))).setCell ⟨gb478, 1, none⟩ (.int .i64 ((rd_T33 l1 x40_2).f1))).setCell ⟨gb478, 2, none⟩ (.int .i64 ((rd_T33 l1 x40_2).f2))) w.heap.size (fun _ => True) (.slice Ao7 x5_2.length co7) x5_2) := ⟨by (with_reducible repeat (first | apply Kd.S_alloc | apply Kd.S_drewN | apply Kd.S_drew)); exact Kd.S_mono (Kd.S_far (p := ⟨gb478, 2, none⟩) (Kd.S_far (p := ⟨gb478, 1, none⟩) (Kd.S_far (p := ⟨gb478, 0, none⟩) (Kd.S_types HO_5.out BK478.out (by decide)) (fun _ hk => hk.2) (.int .i64 ((rd_T33 l1 x40_2).f0))) (fun _ hk => hk.2) (.int .i64 ((rd_T33 l1 x40_2).f1))) (fun _ hk => hk.2) (.int .i64 ((rd_T33 l1 x40_2).f2))) (fun _ hk => trivial)⟩
     have n1_ : Aside0 ((((w35.setCell ⟨gb478, 0, none⟩ (.int .i64 ((rd_T33 l1 x40_2).f0))).setCell ⟨gb478, 1, none⟩ (.int .i64 ((rd_T33 l1 x40_2).f1))).setCell ⟨gb478, 2, none⟩ (.int .i64 ((rd_T33 l1 x40_2).f2))).heap[gb478]? = some (.cells #[.int .i64 ((rd_T33 l1 x40_2).f0), .int .i64 ((rd_T33 l1 x40_2).f1), .int .i64 ((rd_T33 l1 x40_2).f2)] 33 (0, 0))) := ⟨by (with_reducible repeat (first | refine blk_drewN ?_ _ | refine blk_drew ?_ | refine blk_alloc ?_ _)); refine blk_put (cs := #[.int .i64 ((rd_T33 l1 x40_2).f0), .int .i64 ((rd_T33 l1 x40_2).f1), .int .i64 0]) ?_ 2 _ rfl; (with_reducible repeat (first | refine blk_drewN ?_ _ | refine blk_drew ?_ | refine blk_alloc ?_ _)); refine blk_put (cs := #[.int .i64 ((rd_T33 l1 x40_2).f0), .int .i64 0, .int .i64 0]) ?_ 1 _ rfl; (with_reducible repeat (first | refine blk_drewN ?_ _ | refine blk_drew ?_ | refine blk_alloc ?_ _)); refine blk_put (cs := #[.int .i64 0, .int .i64 0, .int .i64 0]) ?_ 0 _ rfl; (with_reducible repeat (first | refine blk_drewN ?_ _ | refine blk_drew ?_ | refine blk_alloc ?_ _)); exact BK478.out⟩
     have n2_ : Aside0 (Below w.heap.size w (((w35.setCell ⟨gb478, 0, none⟩ (.int .i64 ((rd_T33 l1 x40_2).f0))).setCell ⟨gb478, 1, none⟩ (.int .i64 ((rd_T33 l1 x40_2).f1))).setCell ⟨gb478, 2, none⟩ (.int .i64 ((rd_T33 l1 x40_2).f2)))) := ⟨by repeat (first | (with_reducible first | exact HB.out | apply below_alloc | apply pw_below_drewN | apply below_drew1 | refine below_set ?_ GE478.out) | exact HB.out)⟩
     (try clear HO_5)
     (try clear BK478)
     (try clear HB)
     generalize (((w35.setCell ⟨gb478, 0, none⟩ (.int .i64 ((rd_T33 l1 x40_2).f0))).setCell ⟨gb478, 1, none⟩ (.int .i64 ((rd_T33 l1 x40_2).f1))).setCell ⟨gb478, 2, none⟩ (.int .i64 ((rd_T33 l1 x40_2).f2))) = w37 at n0_ n1_ n2_ ⊢
     have HO_5 := n0_
     have BK478 := n1_
     have HB := n2_
     clear n0_ n1_ n2_
     have n0_ := Aside0.mk (Kd.S_drew HO_5.out)
     have n1_ := Aside0.mk (blk_drew BK478.out)
     have n2_ := Aside0.mk (below_drew1 HB.out)
     clear HO_5
     clear BK478
     clear HB
     have HO_5 := n0_
     have BK478 := n1_
     have HB := n2_
     clear n0_ n1_ n2_
     have p479 : 0 ≤ (((rd_T33 l1 x40_2).f0) : Int) := of_decide_eq_true (by first | (with_reducible assumption) | assumption)
     have q479 : ((rd_T33 l1 x40_2).f0) < (x5_2.length : Int) := of_decide_eq_true (by first | (with_reducible assumption) | assumption)
     obtain ⟨ad479, A479_0, c479_0, e479, hx479_0, hl479_0, hi479_0⟩ := at_L3 (Kd.S_reads' HO_5.out).2.2 ((rd_T33 l1 x40_2).f0) p479 q479
     cases e479
     obtain ⟨ce479, hce479, hMe479, hcc479⟩ := Kd.S_get HO_5.out [] ((rd_T33 l1 x40_2).f0) p479 (by first | exact q479 | exact of_decide_eq_true (by first | (with_reducible assumption) | assumption) | (have e_ := (Kd.S_reads' HO_5.out).1; omega))
     obtain ⟨ve479_0, rfl, ge479_0⟩ := hMe479
     have hv479_0 := hcc479 0 _ rfl
     rw [Nat.add_zero, show ((Kd.slice 3 (Kd.int .i64))).sz = 1 from rfl, Nat.mul_one] at hv479_0
     replace hv479_0 := Option.some.inj (hv479_0.symm.trans hx479_0)
     rw [hv479_0] at ge479_0
     have HL479_0 := Aside0.mk (show Kd.R (Kd.int .i64) 3 _ _ _ _ (rd_L3 x5_2 ((rd_T33 l1 x40_2).f0)) from ge479_0)
     clear hv479_0 ge479_0
     have HX479_0 := Aside0.mk hx479_0
     clear hcc479 hce479
     have HR479_0 := Aside0.mk hi479_0
     have HC479_0 := Aside0.mk hl479_0
     clear hi479_0 hl479_0
     replace p479 := eq_true p479
     replace q479 := eq_true q479
     have p480 : 0 ≤ (((rd_T33 l1 x40_2).f0) : Int) := of_decide_eq_true (by first | (with_reducible assumption) | assumption)
     have q480 : ((rd_T33 l1 x40_2).f0) < (x5_2.length : Int) := of_decide_eq_true (by first | (with_reducible assumption) | assumption)
     obtain ⟨ad480, A480_0, c480_0, e480, hx480_0, hl480_0, hi480_0⟩ := at_L3 (Kd.S_reads' HO_5.out).2.2 ((rd_T33 l1 x40_2).f0) p480 q480
     obtain rfl : ad479 = ad480 := (by injection e480)
     obtain ⟨ce480, hce480, hMe480, hcc480⟩ := Kd.S_get HO_5.out [] ((rd_T33 l1 x40_2).f0) p480 (by first | exact q480 | exact of_decide_eq_true (by first | (with_reducible assumption) | assumption) | (have e_ := (Kd.S_reads' HO_5.out).1; omega))
     obtain ⟨ve480_0, rfl, ge480_0⟩ := hMe480
     have hv480_0 := hcc480 0 _ rfl
     rw [Nat.add_zero, show ((Kd.slice 3 (Kd.int .i64))).sz = 1 from rfl, Nat.mul_one] at hv480_0
     replace hv480_0 := Option.some.inj (hv480_0.symm.trans hx480_0)
     rw [hv480_0] at ge480_0
     have HL480_0 := Aside0.mk (show Kd.R (Kd.int .i64) 3 _ _ _ _ (rd_L3 x5_2 ((rd_T33 l1 x40_2).f0)) from ge480_0)
     clear hv480_0 ge480_0
     have HX480_0 := Aside0.mk hx480_0
     clear hcc480 hce480
     have HR480_0 := Aside0.mk hi480_0
     have HC480_0 := Aside0.mk hl480_0
     clear hi480_0 hl480_0
     replace p480 := eq_true p480
     replace q480 := eq_true q480
     have ea_ := Option.some.inj (hx479_0.symm.trans hx480_0)
     injection ea_ with ea_ en_ ec_
     subst ea_
     subst ec_
     clear en_
     have p481 : 0 ≤ (((rd_T33 l1 x40_2).f1) : Int) := of_decide_eq_true (by first | (with_reducible assumption) | assumption)
     have q481 : ((rd_T33 l1 x40_2).f1) < ((rd_L3 x5_2 ((rd_T33 l1 x40_2).f0)).length : Int) := of_decide_eq_true (by first | (with_reducible assumption) | assumption)
     obtain ⟨ad481, e481, hx481_0⟩ := Kd.at_int (by repeat (first | (with_reducible exact HR480_0.out) | (with_reducible refine Kd.C_alloc ?_ _) | (with_reducible refine Kd.C_drewN ?_ _) | (with_reducible refine Kd.C_drew ?_) | exact HR480_0.out)) ((rd_T33 l1 x40_2).f1) p481 q481
     cases e481
     replace p481 := eq_true p481
     replace q481 := eq_true q481
     have p34 : 0 ≤ (((rd_T33 l1 x40_2).f1) : Int) := of_decide_eq_true (by first | (with_reducible assumption) | assumption)
     have q34 : (((rd_T33 l1 x40_2).f1) : Int) < (((rd_L3 x5_2 ((rd_T33 l1 x40_2).f0)).length : Int) : Int) := of_decide_eq_true (by first | (with_reducible assumption) | assumption)
     obtain ⟨go34, co34, eo34, gb34, gl34, cl34, HG34⟩ := Kd.R_form HL479_0.out (by omega)
     (first | cases eo34 | (injection eo34 with ea_ en_ ec_; (first | subst ea_ | (injection ea_ with ea_; subst ea_)); subst ec_; clear en_))
     have GB34 := Aside0.mk gb34
     have GG34 := Aside0.mk HG34
     clear gb34 gl34 HG34
     (first | simp only [add_plain] at hx481_0 | skip)
     obtain ⟨hx34_0, hf34_0⟩ := Kd.R_celln 0 HL479_0.out (((rd_T33 l1 x40_2).f1) : Int) p34 q34
     replace p34 := eq_true p34
     replace q34 := eq_true q34
     have hq39 : (((rd_T33 l1 x40_2).f0) : Int) < (x5_2.length : Int) := (by have h_ : (((rd_T33 l1 x40_2).f0) : Int) < ((x5_2.length : Int) : Int) := of_decide_eq_true (by first | (with_reducible assumption) | assumption); first | exact h_ | (have e_ := (Kd.S_reads' HO_5.out).1; omega) | simpa only [List.length_set, List.length_set] using h_)
     obtain ⟨oki39, ce39, hcl39, hM39, hcc39, hok39, hbk39⟩ := Kd.S_borrow HO_5.out [] (((rd_T33 l1 x40_2).f0) : Int) (of_decide_eq_true (by first | (with_reducible assumption) | assumption)) hq39
     obtain ⟨ve39_0, rfl, ge39_0⟩ := hM39
     have hv39 := hcc39 0 _ rfl
     rw [Nat.add_zero, show ((Kd.slice 3 (Kd.int .i64))).sz = 1 from rfl, Nat.mul_one] at hv39
     replace hv39 := Option.some.inj (hv39.symm.trans HX479_0.out)
     subst hv39
     clear hcc39 hcl39
     replace ge39_0 := (show Kd.R (Kd.int .i64) 3 _ _ _ _ (rd_L3 x5_2 ((rd_T33 l1 x40_2).f0)) from ge39_0)
     have HP39 := Kd.R_putg ge39_0 (((rd_T33 l1 x40_2).f1) : Int) ji33
     rw [← Ny482.out] at HP39
     have HS39 := hbk39 HP39.2 (fun k_ e_ => by injection e_ with e_; subst e_; exact ge39_0.1 _ rfl) (x' := y482) (Kd.M_row HP39.1)
     rw [← Ny484.out] at HS39
     have HQ39 := Aside0.mk HS39
     clear HP39 HS39 hbk39 hok39
     refine start_ (n := 21) (S := fun w' => w'.cell? ⟨gb478, 0, none⟩ = some (.int .i64 ((rd_T33 l1 x40_2).f0)) ∧ w'.cell? ⟨gb478, 1, none⟩ = some (.int .i64 ((rd_T33 l1 x40_2).f1)) ∧ w'.cell? ⟨gb478, 2, none⟩ = some (.int .i64 ((rd_T33 l1 x40_2).f2)) ∧ w'.cell? (ad479.add (((rd_T33 l1 x40_2).f0)).toNat) = some (.slice (some (⟨go34, 0, none⟩ : Addr)) (rd_L3 x5_2 ((rd_T33 l1 x40_2).f0)).length c479_0) ∧ w'.cell? (ad479.add (((rd_T33 l1 x40_2).f0)).toNat) = some (.slice (some (⟨go34, 0, none⟩ : Addr)) (rd_L3 x5_2 ((rd_T33 l1 x40_2).f0)).length c479_0) ∧ w'.cell? ⟨go34, (((rd_T33 l1 x40_2).f1)).toNat, none⟩ = some (.int .i64 (rd (rd_L3 x5_2 ((rd_T33 l1 x40_2).f0)) ((rd_T33 l1 x40_2).f1)))) (ds := [20]) (msk 21 0) (by kernel_rfl) rfl rfl ⟨(blk_cell BK478.out 0).trans rfl, (blk_cell BK478.out 1).trans rfl, (blk_cell BK478.out 2).trans rfl, hx479_0, hx480_0, hx481_0⟩ (fun hHeld => ?_); refine with_tabW match_table.tab15 match_table.bits15 (fun HT_ HW_ => ?_)
     generalize w37.drew = w38 at HO_5 BK478 HB GG34 HL479_0 HL480_0 HQ39 HR479_0 HR480_0 HX479_0 HX480_0 hf34_0 hx34_0 hx479_0 hx480_0 hx481_0 hHeld ⊢
     refine pu_ 0 44 (msk 21 1) HT_.out ?_ ?_ ?_ ?_ ?_
     rotate_left
     · intro w'; go_simp; with_reducible rfl
     rotate_left
     · simp only [Act.put, sq, i64_w, i32_w]; rfl
     refine pu_ 1 45 (msk 21 3) HT_.out ?_ ?_ ?_ ?_ ?_
     rotate_left
     · intro w'; go_simp; with_reducible rfl
     rotate_left
     · simp only [Act.put, sq, i64_w, i32_w]; rfl
     refine pu_ 5 49 (msk 21 35) HT_.out ?_ ?_ ?_ ?_ ?_
     rotate_left
     · intro w'; go_simp; with_reducible rfl
     rotate_left
     · simp only [Act.put, sq, i64_w, i32_w]; rfl
     refine pu_ 7 51 (msk 21 163) HT_.out ?_ ?_ ?_ ?_ ?_
     rotate_left
     · intro w'; go_simp; with_reducible rfl
     rotate_left
     · simp only [Act.put, sq, i64_w, i32_w]; rfl
     refine pu_ 8 52 (msk 21 419) HT_.out ?_ ?_ ?_ ?_ ?_
     rotate_left
     · intro w'; go_simp; with_reducible rfl
     rotate_left
     · simp only [Act.put, sq, i64_w, i32_w]; rfl
     refine pu_ 12 56 (msk 21 4515) HT_.out ?_ ?_ ?_ ?_ ?_
     rotate_left
     · intro w'; go_simp; with_reducible rfl
     rotate_left
     · simp only [Act.put, sq, i64_w, i32_w]; rfl
     refine pu_ 16 60 (msk 21 70051) HT_.out ?_ ?_ ?_ ?_ ?_
     rotate_left
     · intro w'; go_simp; with_reducible rfl
     rotate_left
     · simp only [Act.put, sq, i64_w, i32_w]; rfl
     refine tk_ 2 46 (msk 21 70055) HT_.out HW_.out hHeld ?_ ?_ ?_ ?_ ?_
     rotate_left
     · rintro w' ⟨s0, s1, s2, s3, s4, s5⟩; go_simp; with_reducible rfl
     rotate_left
     · simp only [Act.put, sq, i64_w, i32_w]; rfl
     refine pu_ 3 47 (msk 21 70063) HT_.out ?_ ?_ ?_ ?_ ?_
     rotate_left
     · intro w'; go_simp; with_reducible rfl
     rotate_left
     · simp only [Act.put, sq, i64_w, i32_w]; rfl
     refine tk_ 4 48 (msk 21 70079) HT_.out HW_.out hHeld ?_ ?_ ?_ ?_ ?_
     rotate_left
     · rintro w' ⟨s0, s1, s2, s3, s4, s5⟩; go_simp; with_reducible rfl
     rotate_left
     · simp only [Act.put, sq, i64_w, i32_w]; rfl
     refine tk_ 6 50 (msk 21 70143) HT_.out HW_.out hHeld ?_ ?_ ?_ ?_ ?_
     rotate_left
     · rintro w' ⟨s0, s1, s2, s3, s4, s5⟩; go_simp; with_reducible rfl
     rotate_left
     · simp only [Act.put, sq, i64_w, i32_w]; rfl
     refine tk_ 9 53 (msk 21 70655) HT_.out HW_.out hHeld ?_ ?_ ?_ ?_ ?_
     rotate_left
     · rintro w' ⟨s0, s1, s2, s3, s4, s5⟩; go_simp; with_reducible rfl
     rotate_left
     · simp only [Act.put, sq, i64_w, i32_w]; rfl
     refine pu_ 10 54 (msk 21 71679) HT_.out ?_ ?_ ?_ ?_ ?_
     rotate_left
     · intro w'; go_simp; with_reducible rfl
     rotate_left
     · simp only [Act.put, sq, i64_w, i32_w]; rfl
     refine tk_ 11 55 (msk 21 73727) HT_.out HW_.out hHeld ?_ ?_ ?_ ?_ ?_
     rotate_left
     · rintro w' ⟨s0, s1, s2, s3, s4, s5⟩; go_simp; with_reducible rfl
     rotate_left
     · simp only [Act.put, sq, i64_w, i32_w]; rfl
     refine tk_ 13 57 (msk 21 81919) HT_.out HW_.out hHeld ?_ ?_ ?_ ?_ ?_
     rotate_left
     · rintro w' ⟨s0, s1, s2, s3, s4, s5⟩; go_simp; with_reducible rfl
     rotate_left
     · simp only [Act.put, sq, i64_w, i32_w]; rfl
     refine pu_ 14 58 (msk 21 98303) HT_.out ?_ ?_ ?_ ?_ ?_
     rotate_left
     · intro w'; go_simp; with_reducible rfl
     rotate_left
     · simp only [Act.put, sq, i64_w, i32_w]; rfl
     refine tk_ 15 59 (msk 21 131071) HT_.out HW_.out hHeld ?_ ?_ ?_ ?_ ?_
     rotate_left
     · rintro w' ⟨s0, s1, s2, s3, s4, s5⟩; go_simp; with_reducible rfl
     rotate_left
     · simp only [Act.put, sq, i64_w, i32_w]; rfl
     refine tk_ 17 61 (msk 21 262143) HT_.out HW_.out hHeld ?_ ?_ ?_ ?_ ?_
     rotate_left
     · rintro w' ⟨s0, s1, s2, s3, s4, s5⟩; go_simp; with_reducible rfl
     rotate_left
     · simp only [Act.put, sq, i64_w, i32_w]; rfl
     refine pu_ 18 62 (msk 21 524287) HT_.out ?_ ?_ ?_ ?_ ?_
     rotate_left
     · intro w'; go_simp; with_reducible rfl
     rotate_left
     · simp only [Act.put, sq, i64_w, i32_w]; rfl
     refine pu_ 19 63 (msk 21 1048575) HT_.out ?_ ?_ ?_ ?_ ?_
     rotate_left
     · intro w'; go_simp; with_reducible rfl
     rotate_left
     · simp only [Act.put, sq, i64_w, i32_w]; rfl
     refine last_ (i := 20) (N := none) (msk 21 2097151) rfl rfl (one_of HT_.out (by kernel_rfl)) (by decide) (fun K hK => ?_)
     refine skip_ (w1 := ?_) (by rfl) rfl ?_ ?_
     rotate_left
     · go_simp
       rfl
     refine hK.out _ _ ?_
     clear hK K
     refine done_ (done_of HT_.out (by kernel_rfl)) ?_
     try go_wp2
     (try simp only [← hl5_2])
     (first | go_roundg k2 | (refine Handed.intro k2 ?measure ?_; rotate_left; go_step; (repeat apply Exists.intro); (refine ⟨?rel, ?fr_⟩); (case fr_ => (simp only [add_plain]; rfl))))
     case measure => have := HK1.out; have := HK2.out; omega
     case rel => exact ⟨(y484), (wrap64 (x40_2 + 1)), (by first | rfl | (simp; done) | (simp [*]; done)), H', ⟨by have := HK1.out; have := HK2.out; omega⟩, ⟨by (try simp only [hl5_1]); (try simp only [hl5_2]); (with_reducible repeat (first | apply Kd.S_alloc | apply Kd.S_drewN | apply Kd.S_drew)); exact HQ39.out⟩, ⟨by repeat (first | (with_reducible first | exact HB.out | apply below_alloc | apply pw_below_drewN | apply below_drew1 | refine below_set ?_ GB34.out | refine below_set ?_ GE478.out) | exact HB.out)⟩⟩

end Go.Proofs.Ytlaneafplmbcnaa.PO
