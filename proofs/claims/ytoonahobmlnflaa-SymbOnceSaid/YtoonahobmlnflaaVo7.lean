/- Texts of this claim, one behind the other (PCx76 PCx274). -/
import Derived.Test.YtoonahobmlnflaaVo4
namespace Go.Proofs.Ytoonahobmlnflaa.PC
open Go.RowKit Go.Proofs.YtoonahobmlnflaaW.PrintWords Go.Proofs.YtoonahobmlnflaaW.PrintLast Go.Proofs.YtoonahobmlnflaaW.PrintMore
attribute [local go_sem] max2_int min2_int max_two min_two max_three min_three max_four min_four
set_option linter.unusedVariables false
set_option linter.unusedSimpArgs false
mutual
def orreryref14_Needed.l0 : Nat → List (S37) → List Int → List Int → Int → Int → Option (List Int)
  | 0, _, _, _, _, _ => none
  | k + 1, x0, x5, x13, x14, x15 => if x15 < x14 then (if 0 ≤ x15 then (if x15 < (x13.length : Int) then (if 0 ≤ (rd x13 x15) then (if (rd x13 x15) < (x5.length : Int) then (orreryref14_Needed.l0 k x0 (x5.set ((rd x13 x15) : Int).toNat 1) x13 x14 (wrap64 (x15 + 1))) else (none)) else (none)) else (none)) else (none)) else (orreryref14_Needed.l1 k x0 x5 (wrap64 ((x0.length : Int) - 1)))
def orreryref14_Needed.l1 : Nat → List (S37) → List Int → Int → Option (List Int)
  | 0, _, _, _ => none
  | k + 1, x0, x5, x8 => if x8 ≥ 0 then (if 0 ≤ x8 then (if x8 < (x0.length : Int) then ((orreryref14_Args.f k ((rT x0 x8).f0)).bind fun t351 => (if x8 < (x5.length : Int) then (if (rd x5 x8) = 1 then (orreryref14_Needed.j2 k x0 x5 x8 t351 (decide (t351 > 0))) else (orreryref14_Needed.j2 k x0 x5 x8 t351 false)) else (none))) else (none)) else (none)) else (some x5)
def orreryref14_Needed.j2 : Nat → List (S37) → List Int → Int → Int → Bool → Option (List Int)
  | 0, _, _, _, _, _ => none
  | k + 1, x0, x5, x8, x9, x44 => if x44 = true then (if 0 ≤ x8 then (if x8 < (x0.length : Int) then (if 0 ≤ ((rT x0 x8).f1) then (if ((rT x0 x8).f1) < (x5.length : Int) then ((some (x5.set (((rT x0 x8).f1) : Int).toNat 1 : List Int)).bind fun y354 => (if x8 < (x5.length : Int) then (if (rd y354 x8) = 1 then (if x9 > 1 then (if 0 ≤ ((rT x0 x8).f2) then (if ((rT x0 x8).f2) < (x5.length : Int) then (orreryref14_Needed.l1 k x0 (y354.set (((rT x0 x8).f2) : Int).toNat 1) (wrap64 (x8 - 1))) else (none)) else (none)) else (orreryref14_Needed.l1 k x0 y354 (wrap64 (x8 - 1)))) else (orreryref14_Needed.l1 k x0 y354 (wrap64 (x8 - 1)))) else (none))) else (none)) else (none)) else (none)) else (none)) else (if 0 ≤ x8 then (if x8 < (x5.length : Int) then (if (rd x5 x8) = 1 then (if x9 > 1 then (if x8 < (x0.length : Int) then (if 0 ≤ ((rT x0 x8).f2) then (if ((rT x0 x8).f2) < (x5.length : Int) then (orreryref14_Needed.l1 k x0 (x5.set (((rT x0 x8).f2) : Int).toNat 1) (wrap64 (x8 - 1))) else (none)) else (none)) else (none)) else (orreryref14_Needed.l1 k x0 x5 (wrap64 (x8 - 1)))) else (orreryref14_Needed.l1 k x0 x5 (wrap64 (x8 - 1)))) else (none)) else (none))
end
def orreryref14_Needed.f (k : Nat) (l0 : List (S37)) (l1 : List Int) : Option (List Int) := if 0 ≤ (l0.length : Int) then (if ((l0.length : Int) : Int).toNat ≤ 35184372088832 then (orreryref14_Needed.l0 k l0 (List.replicate ((l0.length : Int) : Int).toNat 0) l1 (l1.length : Int) 0) else (none)) else (none)
theorem orreryref14_Needed.mono_l : ∀ k, (∀ y0 y1 y2 y3 y4, LeO (orreryref14_Needed.l0 k y0 y1 y2 y3 y4) (orreryref14_Needed.l0 (k + 1) y0 y1 y2 y3 y4)) ∧ (∀ y0 y1 y2, LeO (orreryref14_Needed.l1 k y0 y1 y2) (orreryref14_Needed.l1 (k + 1) y0 y1 y2)) ∧ (∀ y0 y1 y2 y3 y4, LeO (orreryref14_Needed.j2 k y0 y1 y2 y3 y4) (orreryref14_Needed.j2 (k + 1) y0 y1 y2 y3 y4))
  | 0 => ⟨fun _ _ _ _ _ r h => by simp [orreryref14_Needed.l0] at h, fun _ _ _ r h => by simp [orreryref14_Needed.l1] at h, fun _ _ _ _ _ r h => by simp [orreryref14_Needed.j2] at h⟩
  | k + 1 => by
    obtain ⟨ih0, ih1, ih2⟩ := orreryref14_Needed.mono_l k
    refine ⟨?_, ?_, ?_⟩
    · intro y0 y1 y2 y3 y4
      unfold orreryref14_Needed.l0
      repeat' first
      | (with_reducible exact LeO.refl _)
      | exact ih0 _ _ _ _ _
      | exact ih1 _ _ _
      | exact ih2 _ _ _ _ _
      | exact orreryref14_Args.mono _ _
      | exact LeO.none _
      | refine LeO.ite ?_ ?_
      | refine LeO.bind ?_ (fun _ => ?_)
    · intro y0 y1 y2
      unfold orreryref14_Needed.l1
      repeat' first
      | (with_reducible exact LeO.refl _)
      | exact ih0 _ _ _ _ _
      | exact ih1 _ _ _
      | exact ih2 _ _ _ _ _
      | exact orreryref14_Args.mono _ _
      | exact LeO.none _
      | refine LeO.ite ?_ ?_
      | refine LeO.bind ?_ (fun _ => ?_)
    · intro y0 y1 y2 y3 y4
      unfold orreryref14_Needed.j2
      repeat' first
      | (with_reducible exact LeO.refl _)
      | exact ih0 _ _ _ _ _
      | exact ih1 _ _ _
      | exact ih2 _ _ _ _ _
      | exact orreryref14_Args.mono _ _
      | exact LeO.none _
      | refine LeO.ite ?_ ?_
      | refine LeO.bind ?_ (fun _ => ?_)
theorem orreryref14_Needed.mono : ∀ a0 a1 k, LeO (orreryref14_Needed.f k a0 a1) (orreryref14_Needed.f (k + 1) a0 a1) := by
 intro a0 a1 k
 obtain ⟨ih0, ih1, ih2⟩ := orreryref14_Needed.mono_l k
 unfold orreryref14_Needed.f
 repeat' first
     | (with_reducible exact LeO.refl _)
     | exact ih0 _ _ _ _ _
     | exact ih1 _ _ _
     | exact ih2 _ _ _ _ _
     | exact orreryref14_Args.mono _ _
     | exact LeO.none _
     | refine LeO.ite ?_ ?_
     | refine LeO.bind ?_ (fun _ => ?_)
set_option maxHeartbeats 8000000 in
set_option maxRecDepth 100000 in
theorem orreryref14_Needed.calls (k : Nat) (A0 : Option Addr) (c0 : Nat) (l0 : List (S37)) (A1 : Option Addr) (c1 : Nat) (l1 : List Int) (r : List Int) (w : World) (hr0 : Kd.C k37 w A0 l0.length l0) (hc0 : l0.length ≤ c0) (hr1 : Kd.C (Kd.int .i64) w A1 l1.length l1) (hc1 : l1.length ≤ c1) (h : orreryref14_Needed.f k l0 l1 = some r) :
    Calls Try.prog 9 #[.slice A0 l0.length c0, .slice A1 l1.length c1] w fun e w' => ∃ v0_ : Value, e = .returned (v0_) ∧ Kd.R (Kd.int .i64) 3 w' w.heap.size (fun _ => True) v0_ r ∧ Below w.heap.size w w' := by
 have HR0 := aq hr0
 have HC0 := aq hc0
 clear hr0 hc0
 have HR1 := aq hr1
 have HC1 := aq hc1
 clear hr1 hc1
 have HB := aq (Below.refl w.heap.size w)
 have H : (if 0 ≤ (l0.length : Int) then (if ((l0.length : Int) : Int).toNat ≤ 35184372088832 then (orreryref14_Needed.l0 k l0 (List.replicate ((l0.length : Int) : Int).toNat 0) l1 (l1.length : Int) 0) else (none)) else (none)) = some r := h
 clear h
 replace H := gp H
 obtain ⟨c3, H⟩ := H
 have c3b0 := eq_true c3
 have c3b1 : decide (0 ≤ (l0.length : Int)) = true := decide_eq_true c3
 clear c3
 replace H := gp H
 obtain ⟨c4, H⟩ := H
 have c4b0 := eq_true c4
 have c4b1 : decide (((l0.length : Int) : Int).toNat ≤ 35184372088832) = true := decide_eq_true c4
 clear c4
 obtain ⟨y345, hy345⟩ : ∃ y_ : List Int, y_ = (List.replicate ((l0.length : Int) : Int).toNat 0) := ⟨_, rfl⟩
 replace H : (orreryref14_Needed.l0 k l0 y345 l1 (l1.length : Int) 0) = some r := by first | (rw [hy345]; with_reducible exact H) | (have H2_ := (Option.bind_some _ _).symm.trans H; rw [hy345]; with_reducible exact H2_) | (have H2_ := (Option.bind_some _ _).symm.trans H; with_reducible exact H2_) | with_reducible exact H | (rw [hy345]; exact H) | exact H
 have Ny345 := aq hy345
 clear hy345
 have H' := aq H
 clear H
 go_enter Try.func9, Try.ntmps9
 go_wp2_with (first | ((with_reducible refine gD (N := 12) rfl ?_); refine Kd.R_make (Kd.int .i64) _ 3 rfl (N := 12) rfl 23 _ _ rfl (l0.length : Int) rfl rfl Try.underlying23 (.int .i64 0) 8 info3 rfl (by decide) (by omega) 0 (ok := fun _ => True) (okp := fun _ => True) rfl (fun _ hk => hk) trivial (of_decide_eq_true (by assumption)) (Nat.le_trans (Nat.mul_le_mul_right _ (of_decide_eq_true (by assumption) : (l0.length : Int).toNat ≤ 35184372088832)) (by omega)) (Below.refl _ _) (Nat.le_refl _) ?_; intro v346 w5 ho6 hb hg_ hnew_; clear hg_ hnew_; (first | rw [← Ny345.out] at ho6 | (simp only [Int.reduceToNat] at ho6; rw [← Ny345.out] at ho6)); have n0_ := aq (Kd.R_lower ho6 (bz_ (by exact ul HB.out))); have n1_ := aq (bt_ (by exact ul HB.out) hb); clear HB; have HO347 := n0_; have HB := n1_; clear n0_ n1_; clear hb ho6))
 go_loopg [15] k (fun kq v15 w' => ∃ (x5_1 : List Int) (x15_1 : Int), v15 = .int .i64 x15_1 ∧ Aside0 (orreryref14_Needed.l0 kq l0 x5_1 l1 (l1.length : Int) x15_1 = some r) ∧ Aside0 (kq ≤ k) ∧ Aside0 (Kd.R (Kd.int .i64) 3 w' w.heap.size (fun _ => True) v346 x5_1) ∧ Aside0 (Below w.heap.size w w'))
 case atStart => exact ⟨(y345), (0), (by first | rfl | simp [*]), H', ⟨Nat.le_refl _⟩, ⟨by (with_reducible repeat (first | apply Kd.R_alloc | apply Kd.R_drewN | apply Kd.R_drew)); exact HO347.out⟩, ⟨by exact ul HB.out⟩⟩
 case round =>
  clear H'
  obtain ⟨x5_1, x15_1, rfl, HA, HK1, HO_5, HB⟩ := hrel
  cases gk with
  | zero => exact absurd HA.out (by simp [orreryref14_Needed.l0])
  | succ k1 =>
   have H := HA.out
   clear HA
   simp only [orreryref14_Needed.l0] at H
   by_cases c7 : x15_1 < (l1.length : Int)
   case pos =>
    rw [if_pos c7] at H
    have c7b0 : decide (x15_1 < (l1.length : Int)) = true := decide_eq_true c7
    clear c7
    replace H := gd H
    obtain ⟨c8b0, H⟩ := H
    replace H := gd H
    obtain ⟨c9b0, H⟩ := H
    replace H := gd H
    obtain ⟨c10b0, H⟩ := H
    replace H := gd H
    obtain ⟨c11b0, H⟩ := H
    obtain ⟨y349, hy349⟩ : ∃ y_ : List Int, y_ = (x5_1.set ((rd l1 x15_1) : Int).toNat 1) := ⟨_, rfl⟩
    replace H : (orreryref14_Needed.l0 k1 l0 y349 l1 (l1.length : Int) (wrap64 (x15_1 + 1))) = some r := by first | (rw [hy349]; with_reducible exact H) | (have H2_ := (Option.bind_some _ _).symm.trans H; rw [hy349]; with_reducible exact H2_) | (have H2_ := (Option.bind_some _ _).symm.trans H; with_reducible exact H2_) | with_reducible exact H | (rw [hy349]; exact H) | exact H
    have Ny349 := aq hy349
    clear hy349
    have H' := aq H
    clear H
    have p348 : 0 ≤ (x15_1 : Int) := of_decide_eq_true (by assumption)
    have q348 : x15_1 < (l1.length : Int) := of_decide_eq_true (by assumption)
    obtain ⟨ad348, e348, hx348_0⟩ := Kd.at_int HR1.out x15_1 p348 q348
    cases e348
    replace hx348_0 := bc HB.out hx348_0
    replace p348 := eq_true p348
    replace q348 := eq_true q348
    have p12 : 0 ≤ ((rd l1 x15_1) : Int) := of_decide_eq_true (by assumption)
    have q12 : ((rd l1 x15_1) : Int) < ((x5_1.length : Int) : Int) := of_decide_eq_true (by assumption)
    obtain ⟨go12, co12, eo12, gb12, gl12, cl12, HG12⟩ := Kd.R_form HO_5.out (by omega)
    (first | cases eo12 | (injection eo12 with ea_ en_ ec_; (first | subst ea_ | (injection ea_ with ea_; subst ea_)); subst ec_; clear en_))
    have GB12 := aq gb12
    have GG12 := aq HG12
    clear gb12 gl12 HG12
    obtain ⟨hx12_0, hf12_0⟩ := Kd.R_celln 0 HO_5.out ((rd l1 x15_1) : Int) p12 q12
    replace p12 := eq_true p12
    replace q12 := eq_true q12
    have HP13 := Kd.R_putg HO_5.out ((rd l1 x15_1) : Int) 1
    go_wp2_with (first | ((with_reducible refine gate_store (t := 3) (p := 21) rfl ?_); refine store_event (t := 3) (p := 21) (v := ?vo_w14) (w1 := (wr.setCell ⟨go12, ((rd l1 x15_1) : Int).toNat, none⟩ (.int .i64 1))) ?hg ?ho ?hn ?hr ?_; (case ho => rfl); (case hg => rfl); (case hn => rfl); (case hr => first | (go_simp; done) | (go_simp; rfl)); intro w14 hw; have hg : wr.grownBy w14 (some go12) := (by rw [hw]; exact HP13.2); have hp_ : Kd.R (Kd.int .i64) 3 w14 w.heap.size (fun _ => True) (.slice (some ⟨go12, 0, none⟩) x5_1.length co12) y349 := (by rw [hw, Ny349.out]; exact HP13.1); clear HP13; replace HO_5 := aq (hp_); replace HB := aq ((by rw [hw]; exact bs_ (HB.out) GB12.out : Below w.heap.size w w14)); clear hg hw hp_))
    (first | go_roundg k1 | (refine Handed.intro k1 ?measure ?_; rotate_left; go_step; (repeat apply Exists.intro); (refine ⟨?rel, ?fr_⟩); (case fr_ => (simp only [add_plain]; rfl))))
    case measure => have := HK1.out; omega
    case rel => exact ⟨(y349), (wrap64 (x15_1 + 1)), (by first | rfl | simp [*]), H', ⟨by have := HK1.out; omega⟩, ⟨by (with_reducible repeat (first | apply Kd.R_alloc | apply Kd.R_drewN | apply Kd.R_drew)); exact HO_5.out⟩, ⟨by exact ul HB.out⟩⟩
   rw [if_neg c7] at H
   have c7b0 : decide (x15_1 < (l1.length : Int)) = false := decide_eq_false c7
   clear c7
   have H' := aq H
   clear H
   go_wp2
   go_loopg [8] k1 (fun kq v8 w' => ∃ (x5_2 : List Int) (x8_2 : Int), v8 = .int .i64 x8_2 ∧ Aside0 (orreryref14_Needed.l1 kq l0 x5_2 x8_2 = some r) ∧ Aside0 (kq ≤ k1) ∧ Aside0 (Kd.R (Kd.int .i64) 3 w' w.heap.size (fun _ => True) v346 x5_2) ∧ Aside0 (Below w.heap.size w w'))
   case atStart => exact ⟨(x5_1), (wrap64 ((l0.length : Int) - 1)), (by first | rfl | simp [*]), H', ⟨Nat.le_refl _⟩, ⟨by (with_reducible repeat (first | apply Kd.R_alloc | apply Kd.R_drewN | apply Kd.R_drew)); exact HO_5.out⟩, ⟨by exact ul HB.out⟩⟩
   case round =>
    clear H'
    obtain ⟨x5_2, x8_2, rfl, HA, HK2, HO_5, HB⟩ := hrel
    cases gk with
    | zero => exact absurd HA.out (by simp [orreryref14_Needed.l1])
    | succ k2 =>
     have H := HA.out
     clear HA
     simp only [orreryref14_Needed.l1] at H
     by_cases c15 : x8_2 ≥ 0
     case neg =>
      rw [if_neg c15] at H
      have c15b0 : decide (0 ≤ x8_2) = false := decide_eq_false c15
      clear c15
      obtain rfl := Option.some.inj H
      go_wp2
      go_ret
      exact ⟨_, by first | rfl | (simp [eN_, eS_] <;> rfl) | (simp [*, eN_, eS_] <;> rfl), by (with_reducible repeat (first | apply Kd.R_alloc | apply Kd.R_drewN | apply Kd.R_drew)); exact HO_5.out, by exact ul HB.out⟩
     rw [if_pos c15] at H
     have c15b0 : decide (0 ≤ x8_2) = true := decide_eq_true c15
     clear c15
     replace H := gd H
     obtain ⟨c16b0, H⟩ := H
     replace H := gd H
     obtain ⟨c17b0, H⟩ := H
     replace H := Option.bind_eq_some_iff.mp H
     obtain ⟨t351, A180, H⟩ := H
     replace H : (if x8_2 < (x5_2.length : Int) then (if (rd x5_2 x8_2) = 1 then (orreryref14_Needed.j2 k2 l0 x5_2 x8_2 t351 (decide (t351 > 0))) else (orreryref14_Needed.j2 k2 l0 x5_2 x8_2 t351 false)) else (none)) = some r := H
     have A18 := aq A180
     clear A180
     have HC19 := aq H
     clear H
     have p350 : 0 ≤ (x8_2 : Int) := of_decide_eq_true (by assumption)
     have q350 : x8_2 < (l0.length : Int) := of_decide_eq_true (by assumption)
     obtain ⟨ad350, e350, hx350_0, hx350_1, hx350_2, hx350_3, hx350_4, hx350_5, hx350_6, hx350_7, hx350_8, hx350_9, hx350_10, hx350_11, hx350_12, hx350_13, hx350_14, hx350_15, hx350_16, hx350_17, hx350_18, hx350_19, hx350_20, hx350_21⟩ := at_T37 HR0.out x8_2 p350 q350
     cases e350
     replace hx350_0 := bc HB.out hx350_0
     replace hx350_1 := bc HB.out hx350_1
     replace hx350_2 := bc HB.out hx350_2
     replace hx350_3 := bc HB.out hx350_3
     replace hx350_4 := bc HB.out hx350_4
     replace hx350_5 := bc HB.out hx350_5
     replace hx350_6 := bc HB.out hx350_6
     replace hx350_7 := bc HB.out hx350_7
     replace hx350_8 := bc HB.out hx350_8
     replace hx350_9 := bc HB.out hx350_9
     replace hx350_10 := bc HB.out hx350_10
     replace hx350_11 := bc HB.out hx350_11
     replace hx350_12 := bc HB.out hx350_12
     replace hx350_13 := bc HB.out hx350_13
     replace hx350_14 := bc HB.out hx350_14
     replace hx350_15 := bc HB.out hx350_15
     replace hx350_16 := bc HB.out hx350_16
     replace hx350_17 := bc HB.out hx350_17
     replace hx350_18 := bc HB.out hx350_18
     replace hx350_19 := bc HB.out hx350_19
     replace hx350_20 := bc HB.out hx350_20
     replace hx350_21 := bc HB.out hx350_21
     replace p350 := eq_true p350
     replace q350 := eq_true q350
     go_upto_region 11 with (first | ((with_reducible refine gate_callee (f := 24) rfl ?_); refine goesL_ (some 35) rfl rfl Try.func24 (by kernel_rfl) rfl #[.int .i64 ((rT l0 x8_2).f0)] rfl (by simp only [List.map_toArray, List.map_cons, List.map_nil] <;> rfl) ?_; (with_reducible refine (orreryref14_Args.calls k2 ((rT l0 x8_2).f0) t351 _ A18.out).mono ?_); rintro e w' ⟨rfl, ⟨nd, rfl⟩⟩; refine ⟨_, rfl, ?_⟩))
     (try simp only [Act.put, List.setIfInBounds_toArray, List.set_cons_zero, List.set_cons_succ])
     go_cut [44] (fun v44 wc => ∃ (kq : Nat) (x44_18 : Bool), v44 = .bool x44_18 ∧ Aside0 (orreryref14_Needed.j2 kq l0 x5_2 x8_2 t351 x44_18 = some r) ∧ Aside0 (kq ≤ k2) ∧ Aside0 (Kd.R (Kd.int .i64) 3 wc w.heap.size (fun _ => True) v346 x5_2) ∧ Aside0 (Below w.heap.size w wc))
     case first =>
      have H := HC19.out
      clear HC19
      replace H := gd H
      obtain ⟨c20b0, H⟩ := H
      (first | rw [c20b0] | (simp only [iw, jw]; rw [c20b0]) | skip)
      by_cases c21 : (rd x5_2 x8_2) = 1
      case neg =>
       rw [if_neg c21] at H
       have c21b0 : ((rd x5_2 x8_2) == 1) = false := beq_eq_false_iff_ne.mpr c21
       have c21b1 : ((rd x5_2 x8_2) != 1) = true := bne_iff_ne.mpr c21
       have H' := aq H
       clear H
       obtain ⟨Ao23, co23, eo23⟩ := Kd.R_slice HO_5.out
       subst eo23
       have p352 : 0 ≤ (x8_2 : Int) := of_decide_eq_true (by assumption)
       have q352 : x8_2 < (x5_2.length : Int) := of_decide_eq_true (by assumption)
       obtain ⟨ad352, e352, hx352_0⟩ := Kd.at_int (Kd.R_reads' HO_5.out).2.2 x8_2 p352 q352
       cases e352
       replace p352 := eq_true p352
       replace q352 := eq_true q352
       go_wp2
       go_meet
       case rel => exact ⟨_, (false), (by first | rfl | simp [*]), H', ⟨by have := HK1.out; have := HK2.out; first | omega | exact Nat.le_refl _⟩, ⟨by (with_reducible repeat (first | apply Kd.R_alloc | apply Kd.R_drewN | apply Kd.R_drew)); exact HO_5.out⟩, ⟨by exact ul HB.out⟩⟩
      rw [if_pos c21] at H
      have c21b0 : ((rd x5_2 x8_2) == 1) = true := beq_iff_eq.mpr c21
      have c21b1 : ((rd x5_2 x8_2) != 1) = false := bne_eq_false_iff_eq.mpr c21
      clear c21
      have H' := aq H
      clear H
      obtain ⟨Ao22, co22, eo22⟩ := Kd.R_slice HO_5.out
      subst eo22
      have p352 : 0 ≤ (x8_2 : Int) := of_decide_eq_true (by assumption)
      have q352 : x8_2 < (x5_2.length : Int) := of_decide_eq_true (by assumption)
      obtain ⟨ad352, e352, hx352_0⟩ := Kd.at_int (Kd.R_reads' HO_5.out).2.2 x8_2 p352 q352
      cases e352
      replace p352 := eq_true p352
      replace q352 := eq_true q352
      go_wp2
      go_meet
      case rel => exact ⟨_, (decide (t351 > 0)), (by first | rfl | simp [*]), H', ⟨by have := HK1.out; have := HK2.out; first | omega | exact Nat.le_refl _⟩, ⟨by (with_reducible repeat (first | apply Kd.R_alloc | apply Kd.R_drewN | apply Kd.R_drew)); exact HO_5.out⟩, ⟨by exact ul HB.out⟩⟩
     case rest =>
      clear HC19
      obtain ⟨kq, x44_18, rfl, HA, HJ18, HO_5, HB⟩ := hcut
      cases kq with
      | zero => exact absurd HA.out (by simp [orreryref14_Needed.j2])
      | succ kj18 =>
       have H := HA.out
       clear HA
       simp only [orreryref14_Needed.j2] at H
       by_cases c24 : x44_18 = true
       case neg =>
        replace c24 := Bool.eq_false_iff.mpr c24
        subst c24
        have H1 : (if 0 ≤ x8_2 then (if x8_2 < (x5_2.length : Int) then (if (rd x5_2 x8_2) = 1 then (if t351 > 1 then (if x8_2 < (l0.length : Int) then (if 0 ≤ ((rT l0 x8_2).f2) then (if ((rT l0 x8_2).f2) < (x5_2.length : Int) then (orreryref14_Needed.l1 kj18 l0 (x5_2.set (((rT l0 x8_2).f2) : Int).toNat 1) (wrap64 (x8_2 - 1))) else (none)) else (none)) else (none)) else (orreryref14_Needed.l1 kj18 l0 x5_2 (wrap64 (x8_2 - 1)))) else (orreryref14_Needed.l1 kj18 l0 x5_2 (wrap64 (x8_2 - 1)))) else (none)) else (none)) = some r := by rw [if_neg (show ¬ (false = true) by decide)] at H; exact H
        clear H
        have H := H1
        clear H1
        replace H := gd H
        obtain ⟨c44b0, H⟩ := H
        replace H := gd H
        obtain ⟨c45b0, H⟩ := H
        by_cases c46 : (rd x5_2 x8_2) = 1
        case neg =>
         rw [if_neg c46] at H
         have c46b0 : ((rd x5_2 x8_2) == 1) = false := beq_eq_false_iff_ne.mpr c46
         have c46b1 : ((rd x5_2 x8_2) != 1) = true := bne_iff_ne.mpr c46
         have H' := aq H
         clear H
         obtain ⟨Ao56, co56, eo56⟩ := Kd.R_slice HO_5.out
         subst eo56
         have p358 : 0 ≤ (x8_2 : Int) := of_decide_eq_true (by assumption)
         have q358 : x8_2 < (x5_2.length : Int) := of_decide_eq_true (by assumption)
         obtain ⟨ad358, e358, hx358_0⟩ := Kd.at_int (Kd.R_reads' HO_5.out).2.2 x8_2 p358 q358
         cases e358
         replace p358 := eq_true p358
         replace q358 := eq_true q358
         go_wp2
         (first | go_roundg kj18 | (refine Handed.intro kj18 ?measure ?_; rotate_left; go_step; (repeat apply Exists.intro); (refine ⟨?rel, ?fr_⟩); (case fr_ => (simp only [add_plain]; rfl))))
         case measure => have := HK1.out; have := HK2.out; have := HJ18.out; omega
         case rel => exact ⟨(x5_2), (wrap64 (x8_2 - 1)), (by first | rfl | simp [*]), H', ⟨by have := HK1.out; have := HK2.out; have := HJ18.out; omega⟩, ⟨by (with_reducible repeat (first | apply Kd.R_alloc | apply Kd.R_drewN | apply Kd.R_drew)); exact HO_5.out⟩, ⟨by exact ul HB.out⟩⟩
        rw [if_pos c46] at H
        have c46b0 : ((rd x5_2 x8_2) == 1) = true := beq_iff_eq.mpr c46
        have c46b1 : ((rd x5_2 x8_2) != 1) = false := bne_eq_false_iff_eq.mpr c46
        clear c46
        by_cases c47 : t351 > 1
        case neg =>
         rw [if_neg c47] at H
         have c47b0 : decide (1 < t351) = false := decide_eq_false c47
         clear c47
         have H' := aq H
         clear H
         obtain ⟨Ao55, co55, eo55⟩ := Kd.R_slice HO_5.out
         subst eo55
         have p358 : 0 ≤ (x8_2 : Int) := of_decide_eq_true (by assumption)
         have q358 : x8_2 < (x5_2.length : Int) := of_decide_eq_true (by assumption)
         obtain ⟨ad358, e358, hx358_0⟩ := Kd.at_int (Kd.R_reads' HO_5.out).2.2 x8_2 p358 q358
         cases e358
         replace p358 := eq_true p358
         replace q358 := eq_true q358
         go_wp2
         (first | go_roundg kj18 | (refine Handed.intro kj18 ?measure ?_; rotate_left; go_step; (repeat apply Exists.intro); (refine ⟨?rel, ?fr_⟩); (case fr_ => (simp only [add_plain]; rfl))))
         case measure => have := HK1.out; have := HK2.out; have := HJ18.out; omega
         case rel => exact ⟨(x5_2), (wrap64 (x8_2 - 1)), (by first | rfl | simp [*]), H', ⟨by have := HK1.out; have := HK2.out; have := HJ18.out; omega⟩, ⟨by (with_reducible repeat (first | apply Kd.R_alloc | apply Kd.R_drewN | apply Kd.R_drew)); exact HO_5.out⟩, ⟨by exact ul HB.out⟩⟩
        rw [if_pos c47] at H
        have c47b0 : decide (1 < t351) = true := decide_eq_true c47
        clear c47
        replace H := gd H
        obtain ⟨c48b0, H⟩ := H
        replace H := gd H
        obtain ⟨c49b0, H⟩ := H
        replace H := gd H
        obtain ⟨c50b0, H⟩ := H
        obtain ⟨y360, hy360⟩ : ∃ y_ : List Int, y_ = (x5_2.set (((rT l0 x8_2).f2) : Int).toNat 1) := ⟨_, rfl⟩
        replace H : (orreryref14_Needed.l1 kj18 l0 y360 (wrap64 (x8_2 - 1))) = some r := by first | (rw [hy360]; with_reducible exact H) | (have H2_ := (Option.bind_some _ _).symm.trans H; rw [hy360]; with_reducible exact H2_) | (have H2_ := (Option.bind_some _ _).symm.trans H; with_reducible exact H2_) | with_reducible exact H | (rw [hy360]; exact H) | exact H
        have Ny360 := aq hy360
        clear hy360
        have H' := aq H
        clear H
        obtain ⟨Ao52, co52, eo52⟩ := Kd.R_slice HO_5.out
        subst eo52
        have p358 : 0 ≤ (x8_2 : Int) := of_decide_eq_true (by assumption)
        have q358 : x8_2 < (x5_2.length : Int) := of_decide_eq_true (by assumption)
        obtain ⟨ad358, e358, hx358_0⟩ := Kd.at_int (Kd.R_reads' HO_5.out).2.2 x8_2 p358 q358
        cases e358
        replace p358 := eq_true p358
        replace q358 := eq_true q358
        have p359 : 0 ≤ (x8_2 : Int) := of_decide_eq_true (by assumption)
        have q359 : x8_2 < (l0.length : Int) := of_decide_eq_true (by assumption)
        obtain ⟨ad359, e359, hx359_0, hx359_1, hx359_2, hx359_3, hx359_4, hx359_5, hx359_6, hx359_7, hx359_8, hx359_9, hx359_10, hx359_11, hx359_12, hx359_13, hx359_14, hx359_15, hx359_16, hx359_17, hx359_18, hx359_19, hx359_20, hx359_21⟩ := at_T37 HR0.out x8_2 p359 q359
        obtain rfl : ad350 = ad359 := (by injection e359)
        replace hx359_0 := bc HB.out hx359_0
        replace hx359_1 := bc HB.out hx359_1
        replace hx359_2 := bc HB.out hx359_2
        replace hx359_3 := bc HB.out hx359_3
        replace hx359_4 := bc HB.out hx359_4
        replace hx359_5 := bc HB.out hx359_5
        replace hx359_6 := bc HB.out hx359_6
        replace hx359_7 := bc HB.out hx359_7
        replace hx359_8 := bc HB.out hx359_8
        replace hx359_9 := bc HB.out hx359_9
        replace hx359_10 := bc HB.out hx359_10
        replace hx359_11 := bc HB.out hx359_11
        replace hx359_12 := bc HB.out hx359_12
        replace hx359_13 := bc HB.out hx359_13
        replace hx359_14 := bc HB.out hx359_14
        replace hx359_15 := bc HB.out hx359_15
        replace hx359_16 := bc HB.out hx359_16
        replace hx359_17 := bc HB.out hx359_17
        replace hx359_18 := bc HB.out hx359_18
        replace hx359_19 := bc HB.out hx359_19
        replace hx359_20 := bc HB.out hx359_20
        replace hx359_21 := bc HB.out hx359_21
        replace p359 := eq_true p359
        replace q359 := eq_true q359
        have p51 : 0 ≤ (((rT l0 x8_2).f2) : Int) := of_decide_eq_true (by assumption)
        have q51 : (((rT l0 x8_2).f2) : Int) < ((x5_2.length : Int) : Int) := of_decide_eq_true (by assumption)
        obtain ⟨go51, co51, eo51, gb51, gl51, cl51, HG51⟩ := Kd.R_form HO_5.out (by omega)
        (first | cases eo51 | (injection eo51 with ea_ en_ ec_; (first | subst ea_ | (injection ea_ with ea_; subst ea_)); subst ec_; clear en_))
        have GB51 := aq gb51
        have GG51 := aq HG51
        clear gb51 gl51 HG51
        (first | simp only [add_plain] at hx358_0 | skip)
        obtain ⟨hx51_0, hf51_0⟩ := Kd.R_celln 0 HO_5.out (((rT l0 x8_2).f2) : Int) p51 q51
        replace p51 := eq_true p51
        replace q51 := eq_true q51
        have HP53 := Kd.R_putg HO_5.out (((rT l0 x8_2).f2) : Int) 1
        go_wp2_with (first | ((with_reducible refine gate_store (t := 3) (p := 67) rfl ?_); refine store_event (t := 3) (p := 67) (v := ?vo_w54) (w1 := (wc.setCell ⟨go51, (((rT l0 x8_2).f2) : Int).toNat, none⟩ (.int .i64 1))) ?hg ?ho ?hn ?hr ?_; (case ho => rfl); (case hg => rfl); (case hn => rfl); (case hr => first | (go_simp; done) | (go_simp; rfl)); intro w54 hw; have hg : wc.grownBy w54 (some go51) := (by rw [hw]; exact HP53.2); have hp_ : Kd.R (Kd.int .i64) 3 w54 w.heap.size (fun _ => True) (.slice (some ⟨go51, 0, none⟩) x5_2.length co52) y360 := (by rw [hw, Ny360.out]; exact HP53.1); clear HP53; replace HO_5 := aq (hp_); replace HB := aq ((by rw [hw]; exact bs_ (HB.out) GB51.out : Below w.heap.size w w54)); clear hg hw hp_))
        (first | go_roundg kj18 | (refine Handed.intro kj18 ?measure ?_; rotate_left; go_step; (repeat apply Exists.intro); (refine ⟨?rel, ?fr_⟩); (case fr_ => (simp only [add_plain]; rfl))))
        case measure => have := HK1.out; have := HK2.out; have := HJ18.out; omega
        case rel => exact ⟨(y360), (wrap64 (x8_2 - 1)), (by first | rfl | simp [*]), H', ⟨by have := HK1.out; have := HK2.out; have := HJ18.out; omega⟩, ⟨by (with_reducible repeat (first | apply Kd.R_alloc | apply Kd.R_drewN | apply Kd.R_drew)); exact HO_5.out⟩, ⟨by exact ul HB.out⟩⟩
       subst c24
       have H1 : (if 0 ≤ x8_2 then (if x8_2 < (l0.length : Int) then (if 0 ≤ ((rT l0 x8_2).f1) then (if ((rT l0 x8_2).f1) < (x5_2.length : Int) then ((some (x5_2.set (((rT l0 x8_2).f1) : Int).toNat 1 : List Int)).bind fun y354 => (if x8_2 < (x5_2.length : Int) then (if (rd y354 x8_2) = 1 then (if t351 > 1 then (if 0 ≤ ((rT l0 x8_2).f2) then (if ((rT l0 x8_2).f2) < (x5_2.length : Int) then (orreryref14_Needed.l1 kj18 l0 (y354.set (((rT l0 x8_2).f2) : Int).toNat 1) (wrap64 (x8_2 - 1))) else (none)) else (none)) else (orreryref14_Needed.l1 kj18 l0 y354 (wrap64 (x8_2 - 1)))) else (orreryref14_Needed.l1 kj18 l0 y354 (wrap64 (x8_2 - 1)))) else (none))) else (none)) else (none)) else (none)) else (none)) = some r := by rw [if_pos rfl] at H; exact H
       clear H
       have H := H1
       clear H1
       replace H := gd H
       obtain ⟨c25b0, H⟩ := H
       replace H := gd H
       obtain ⟨c26b0, H⟩ := H
       replace H := gd H
       obtain ⟨c27b0, H⟩ := H
       replace H := gd H
       obtain ⟨c28b0, H⟩ := H
       obtain ⟨y354, hy354⟩ : ∃ y_ : List Int, y_ = (x5_2.set (((rT l0 x8_2).f1) : Int).toNat 1) := ⟨_, rfl⟩
       replace H : (if x8_2 < (x5_2.length : Int) then (if (rd y354 x8_2) = 1 then (if t351 > 1 then (if 0 ≤ ((rT l0 x8_2).f2) then (if ((rT l0 x8_2).f2) < (x5_2.length : Int) then (orreryref14_Needed.l1 kj18 l0 (y354.set (((rT l0 x8_2).f2) : Int).toNat 1) (wrap64 (x8_2 - 1))) else (none)) else (none)) else (orreryref14_Needed.l1 kj18 l0 y354 (wrap64 (x8_2 - 1)))) else (orreryref14_Needed.l1 kj18 l0 y354 (wrap64 (x8_2 - 1)))) else (none)) = some r := by first | (rw [hy354]; with_reducible exact H) | (have H2_ := (Option.bind_some _ _).symm.trans H; rw [hy354]; with_reducible exact H2_) | (have H2_ := (Option.bind_some _ _).symm.trans H; with_reducible exact H2_) | with_reducible exact H | (rw [hy354]; exact H) | exact H
       have Ny354 := aq hy354
       clear hy354
       replace H := gd H
       obtain ⟨c30b0, H⟩ := H
       by_cases c31 : (rd y354 x8_2) = 1
       case neg =>
        rw [if_neg c31] at H
        have c31b0 : ((rd y354 x8_2) == 1) = false := beq_eq_false_iff_ne.mpr c31
        have c31b1 : ((rd y354 x8_2) != 1) = true := bne_iff_ne.mpr c31
        have H' := aq H
        clear H
        have p353 : 0 ≤ (x8_2 : Int) := of_decide_eq_true (by assumption)
        have q353 : x8_2 < (l0.length : Int) := of_decide_eq_true (by assumption)
        obtain ⟨ad353, e353, hx353_0, hx353_1, hx353_2, hx353_3, hx353_4, hx353_5, hx353_6, hx353_7, hx353_8, hx353_9, hx353_10, hx353_11, hx353_12, hx353_13, hx353_14, hx353_15, hx353_16, hx353_17, hx353_18, hx353_19, hx353_20, hx353_21⟩ := at_T37 HR0.out x8_2 p353 q353
        obtain rfl : ad350 = ad353 := (by injection e353)
        replace hx353_0 := bc HB.out hx353_0
        replace hx353_1 := bc HB.out hx353_1
        replace hx353_2 := bc HB.out hx353_2
        replace hx353_3 := bc HB.out hx353_3
        replace hx353_4 := bc HB.out hx353_4
        replace hx353_5 := bc HB.out hx353_5
        replace hx353_6 := bc HB.out hx353_6
        replace hx353_7 := bc HB.out hx353_7
        replace hx353_8 := bc HB.out hx353_8
        replace hx353_9 := bc HB.out hx353_9
        replace hx353_10 := bc HB.out hx353_10
        replace hx353_11 := bc HB.out hx353_11
        replace hx353_12 := bc HB.out hx353_12
        replace hx353_13 := bc HB.out hx353_13
        replace hx353_14 := bc HB.out hx353_14
        replace hx353_15 := bc HB.out hx353_15
        replace hx353_16 := bc HB.out hx353_16
        replace hx353_17 := bc HB.out hx353_17
        replace hx353_18 := bc HB.out hx353_18
        replace hx353_19 := bc HB.out hx353_19
        replace hx353_20 := bc HB.out hx353_20
        replace hx353_21 := bc HB.out hx353_21
        replace p353 := eq_true p353
        replace q353 := eq_true q353
        have p29 : 0 ≤ (((rT l0 x8_2).f1) : Int) := of_decide_eq_true (by assumption)
        have q29 : (((rT l0 x8_2).f1) : Int) < ((x5_2.length : Int) : Int) := of_decide_eq_true (by assumption)
        obtain ⟨go29, co29, eo29, gb29, gl29, cl29, HG29⟩ := Kd.R_form HO_5.out (by omega)
        (first | cases eo29 | (injection eo29 with ea_ en_ ec_; (first | subst ea_ | (injection ea_ with ea_; subst ea_)); subst ec_; clear en_))
        have GB29 := aq gb29
        have GG29 := aq HG29
        clear gb29 gl29 HG29
        obtain ⟨hx29_0, hf29_0⟩ := Kd.R_celln 0 HO_5.out (((rT l0 x8_2).f1) : Int) p29 q29
        replace p29 := eq_true p29
        replace q29 := eq_true q29
        have HP42 := Kd.R_putg HO_5.out (((rT l0 x8_2).f1) : Int) 1
        go_wp2_with (first | ((with_reducible refine gate_store (t := 3) (p := 51) rfl ?_); refine store_event (t := 3) (p := 51) (v := ?vo_w43) (w1 := (wc.setCell ⟨go29, (((rT l0 x8_2).f1) : Int).toNat, none⟩ (.int .i64 1))) ?hg ?ho ?hn ?hr ?_; (case ho => rfl); (case hg => rfl); (case hn => rfl); (case hr => first | (go_simp; done) | (go_simp; rfl)); intro w43 hw; have hg : wc.grownBy w43 (some go29) := (by rw [hw]; exact HP42.2); have hp_ : Kd.R (Kd.int .i64) 3 w43 w.heap.size (fun _ => True) (.slice (some ⟨go29, 0, none⟩) x5_2.length co29) y354 := (by rw [hw, Ny354.out]; exact HP42.1); clear HP42; replace HO_5 := aq (hp_); replace HB := aq ((by rw [hw]; exact bs_ (HB.out) GB29.out : Below w.heap.size w w43)); clear hg hw hp_; have p355 : 0 ≤ (x8_2 : Int) := of_decide_eq_true (by assumption); have q355 : x8_2 < (y354.length : Int) := (by have h_ : (x8_2 : Int) < ((x5_2.length : Int) : Int) := of_decide_eq_true (by assumption); first | (have e_ := (Kd.R_reads' HO_5.out).1; omega) | simpa only [Ny354.out, List.length_set] using h_); have ql355 : ((x8_2 : Int) < ((x5_2.length : Int) : Int)) = True := eq_true (of_decide_eq_true (by assumption)); obtain ⟨ad355, e355, hx355_0⟩ := Kd.at_int (Kd.R_reads' HO_5.out).2.2 x8_2 p355 q355; obtain rfl : (⟨go29, 0, none⟩ : Addr) = ad355 := (by injection e355); (first | simp only [add_plain] at hx355_0 | simp only [add_at] at hx355_0 | simp only [Addr.add, Nat.zero_add] at hx355_0 | skip); replace p355 := eq_true p355; replace q355 := eq_true q355))
        (first | go_roundg kj18 | (refine Handed.intro kj18 ?measure ?_; rotate_left; go_step; (repeat apply Exists.intro); (refine ⟨?rel, ?fr_⟩); (case fr_ => (simp only [add_plain]; rfl))))
        case measure => have := HK1.out; have := HK2.out; have := HJ18.out; omega
        case rel => exact ⟨(y354), (wrap64 (x8_2 - 1)), (by first | rfl | simp [*]), H', ⟨by have := HK1.out; have := HK2.out; have := HJ18.out; omega⟩, ⟨by (with_reducible repeat (first | apply Kd.R_alloc | apply Kd.R_drewN | apply Kd.R_drew)); exact HO_5.out⟩, ⟨by exact ul HB.out⟩⟩
       rw [if_pos c31] at H
       have c31b0 : ((rd y354 x8_2) == 1) = true := beq_iff_eq.mpr c31
       have c31b1 : ((rd y354 x8_2) != 1) = false := bne_eq_false_iff_eq.mpr c31
       clear c31
       by_cases c32 : t351 > 1
       case neg =>
        rw [if_neg c32] at H
        have c32b0 : decide (1 < t351) = false := decide_eq_false c32
        clear c32
        have H' := aq H
        clear H
        have p353 : 0 ≤ (x8_2 : Int) := of_decide_eq_true (by assumption)
        have q353 : x8_2 < (l0.length : Int) := of_decide_eq_true (by assumption)
        obtain ⟨ad353, e353, hx353_0, hx353_1, hx353_2, hx353_3, hx353_4, hx353_5, hx353_6, hx353_7, hx353_8, hx353_9, hx353_10, hx353_11, hx353_12, hx353_13, hx353_14, hx353_15, hx353_16, hx353_17, hx353_18, hx353_19, hx353_20, hx353_21⟩ := at_T37 HR0.out x8_2 p353 q353
        obtain rfl : ad350 = ad353 := (by injection e353)
        replace hx353_0 := bc HB.out hx353_0
        replace hx353_1 := bc HB.out hx353_1
        replace hx353_2 := bc HB.out hx353_2
        replace hx353_3 := bc HB.out hx353_3
        replace hx353_4 := bc HB.out hx353_4
        replace hx353_5 := bc HB.out hx353_5
        replace hx353_6 := bc HB.out hx353_6
        replace hx353_7 := bc HB.out hx353_7
        replace hx353_8 := bc HB.out hx353_8
        replace hx353_9 := bc HB.out hx353_9
        replace hx353_10 := bc HB.out hx353_10
        replace hx353_11 := bc HB.out hx353_11
        replace hx353_12 := bc HB.out hx353_12
        replace hx353_13 := bc HB.out hx353_13
        replace hx353_14 := bc HB.out hx353_14
        replace hx353_15 := bc HB.out hx353_15
        replace hx353_16 := bc HB.out hx353_16
        replace hx353_17 := bc HB.out hx353_17
        replace hx353_18 := bc HB.out hx353_18
        replace hx353_19 := bc HB.out hx353_19
        replace hx353_20 := bc HB.out hx353_20
        replace hx353_21 := bc HB.out hx353_21
        replace p353 := eq_true p353
        replace q353 := eq_true q353
        have p29 : 0 ≤ (((rT l0 x8_2).f1) : Int) := of_decide_eq_true (by assumption)
        have q29 : (((rT l0 x8_2).f1) : Int) < ((x5_2.length : Int) : Int) := of_decide_eq_true (by assumption)
        obtain ⟨go29, co29, eo29, gb29, gl29, cl29, HG29⟩ := Kd.R_form HO_5.out (by omega)
        (first | cases eo29 | (injection eo29 with ea_ en_ ec_; (first | subst ea_ | (injection ea_ with ea_; subst ea_)); subst ec_; clear en_))
        have GB29 := aq gb29
        have GG29 := aq HG29
        clear gb29 gl29 HG29
        obtain ⟨hx29_0, hf29_0⟩ := Kd.R_celln 0 HO_5.out (((rT l0 x8_2).f1) : Int) p29 q29
        replace p29 := eq_true p29
        replace q29 := eq_true q29
        have HP40 := Kd.R_putg HO_5.out (((rT l0 x8_2).f1) : Int) 1
        go_wp2_with (first | ((with_reducible refine gate_store (t := 3) (p := 51) rfl ?_); refine store_event (t := 3) (p := 51) (v := ?vo_w41) (w1 := (wc.setCell ⟨go29, (((rT l0 x8_2).f1) : Int).toNat, none⟩ (.int .i64 1))) ?hg ?ho ?hn ?hr ?_; (case ho => rfl); (case hg => rfl); (case hn => rfl); (case hr => first | (go_simp; done) | (go_simp; rfl)); intro w41 hw; have hg : wc.grownBy w41 (some go29) := (by rw [hw]; exact HP40.2); have hp_ : Kd.R (Kd.int .i64) 3 w41 w.heap.size (fun _ => True) (.slice (some ⟨go29, 0, none⟩) x5_2.length co29) y354 := (by rw [hw, Ny354.out]; exact HP40.1); clear HP40; replace HO_5 := aq (hp_); replace HB := aq ((by rw [hw]; exact bs_ (HB.out) GB29.out : Below w.heap.size w w41)); clear hg hw hp_; have p355 : 0 ≤ (x8_2 : Int) := of_decide_eq_true (by assumption); have q355 : x8_2 < (y354.length : Int) := (by have h_ : (x8_2 : Int) < ((x5_2.length : Int) : Int) := of_decide_eq_true (by assumption); first | (have e_ := (Kd.R_reads' HO_5.out).1; omega) | simpa only [Ny354.out, List.length_set] using h_); have ql355 : ((x8_2 : Int) < ((x5_2.length : Int) : Int)) = True := eq_true (of_decide_eq_true (by assumption)); obtain ⟨ad355, e355, hx355_0⟩ := Kd.at_int (Kd.R_reads' HO_5.out).2.2 x8_2 p355 q355; obtain rfl : (⟨go29, 0, none⟩ : Addr) = ad355 := (by injection e355); (first | simp only [add_plain] at hx355_0 | simp only [add_at] at hx355_0 | simp only [Addr.add, Nat.zero_add] at hx355_0 | skip); replace p355 := eq_true p355; replace q355 := eq_true q355))
        (first | go_roundg kj18 | (refine Handed.intro kj18 ?measure ?_; rotate_left; go_step; (repeat apply Exists.intro); (refine ⟨?rel, ?fr_⟩); (case fr_ => (simp only [add_plain]; rfl))))
        case measure => have := HK1.out; have := HK2.out; have := HJ18.out; omega
        case rel => exact ⟨(y354), (wrap64 (x8_2 - 1)), (by first | rfl | simp [*]), H', ⟨by have := HK1.out; have := HK2.out; have := HJ18.out; omega⟩, ⟨by (with_reducible repeat (first | apply Kd.R_alloc | apply Kd.R_drewN | apply Kd.R_drew)); exact HO_5.out⟩, ⟨by exact ul HB.out⟩⟩
       rw [if_pos c32] at H
       have c32b0 : decide (1 < t351) = true := decide_eq_true c32
       clear c32
       replace H := gd H
       obtain ⟨c33b0, H⟩ := H
       replace H := gd H
       obtain ⟨c34b0, H⟩ := H
       obtain ⟨y357, hy357⟩ : ∃ y_ : List Int, y_ = (y354.set (((rT l0 x8_2).f2) : Int).toNat 1) := ⟨_, rfl⟩
       replace H : (orreryref14_Needed.l1 kj18 l0 y357 (wrap64 (x8_2 - 1))) = some r := by first | (rw [hy357]; with_reducible exact H) | (have H2_ := (Option.bind_some _ _).symm.trans H; rw [hy357]; with_reducible exact H2_) | (have H2_ := (Option.bind_some _ _).symm.trans H; with_reducible exact H2_) | with_reducible exact H | (rw [hy357]; exact H) | exact H
       have Ny357 := aq hy357
       clear hy357
       have H' := aq H
       clear H
       have p353 : 0 ≤ (x8_2 : Int) := of_decide_eq_true (by assumption)
       have q353 : x8_2 < (l0.length : Int) := of_decide_eq_true (by assumption)
       obtain ⟨ad353, e353, hx353_0, hx353_1, hx353_2, hx353_3, hx353_4, hx353_5, hx353_6, hx353_7, hx353_8, hx353_9, hx353_10, hx353_11, hx353_12, hx353_13, hx353_14, hx353_15, hx353_16, hx353_17, hx353_18, hx353_19, hx353_20, hx353_21⟩ := at_T37 HR0.out x8_2 p353 q353
       obtain rfl : ad350 = ad353 := (by injection e353)
       replace hx353_0 := bc HB.out hx353_0
       replace hx353_1 := bc HB.out hx353_1
       replace hx353_2 := bc HB.out hx353_2
       replace hx353_3 := bc HB.out hx353_3
       replace hx353_4 := bc HB.out hx353_4
       replace hx353_5 := bc HB.out hx353_5
       replace hx353_6 := bc HB.out hx353_6
       replace hx353_7 := bc HB.out hx353_7
       replace hx353_8 := bc HB.out hx353_8
       replace hx353_9 := bc HB.out hx353_9
       replace hx353_10 := bc HB.out hx353_10
       replace hx353_11 := bc HB.out hx353_11
       replace hx353_12 := bc HB.out hx353_12
       replace hx353_13 := bc HB.out hx353_13
       replace hx353_14 := bc HB.out hx353_14
       replace hx353_15 := bc HB.out hx353_15
       replace hx353_16 := bc HB.out hx353_16
       replace hx353_17 := bc HB.out hx353_17
       replace hx353_18 := bc HB.out hx353_18
       replace hx353_19 := bc HB.out hx353_19
       replace hx353_20 := bc HB.out hx353_20
       replace hx353_21 := bc HB.out hx353_21
       replace p353 := eq_true p353
       replace q353 := eq_true q353
       have p29 : 0 ≤ (((rT l0 x8_2).f1) : Int) := of_decide_eq_true (by assumption)
       have q29 : (((rT l0 x8_2).f1) : Int) < ((x5_2.length : Int) : Int) := of_decide_eq_true (by assumption)
       obtain ⟨go29, co29, eo29, gb29, gl29, cl29, HG29⟩ := Kd.R_form HO_5.out (by omega)
       (first | cases eo29 | (injection eo29 with ea_ en_ ec_; (first | subst ea_ | (injection ea_ with ea_; subst ea_)); subst ec_; clear en_))
       have GB29 := aq gb29
       have GG29 := aq HG29
       clear gb29 gl29 HG29
       obtain ⟨hx29_0, hf29_0⟩ := Kd.R_celln 0 HO_5.out (((rT l0 x8_2).f1) : Int) p29 q29
       replace p29 := eq_true p29
       replace q29 := eq_true q29
       have HP36 := Kd.R_putg HO_5.out (((rT l0 x8_2).f1) : Int) 1
       go_wp2_with (first | ((with_reducible refine gate_store (t := 3) (p := 51) rfl ?_); refine store_event (t := 3) (p := 51) (v := ?vo_w37) (w1 := (wc.setCell ⟨go29, (((rT l0 x8_2).f1) : Int).toNat, none⟩ (.int .i64 1))) ?hg ?ho ?hn ?hr ?_; (case ho => rfl); (case hg => rfl); (case hn => rfl); (case hr => first | (go_simp; done) | (go_simp; rfl)); intro w37 hw; have hg : wc.grownBy w37 (some go29) := (by rw [hw]; exact HP36.2); have hp_ : Kd.R (Kd.int .i64) 3 w37 w.heap.size (fun _ => True) (.slice (some ⟨go29, 0, none⟩) x5_2.length co29) y354 := (by rw [hw, Ny354.out]; exact HP36.1); clear HP36; replace HO_5 := aq (hp_); replace HB := aq ((by rw [hw]; exact bs_ (HB.out) GB29.out : Below w.heap.size w w37)); clear hg hw hp_; have p355 : 0 ≤ (x8_2 : Int) := of_decide_eq_true (by assumption); have q355 : x8_2 < (y354.length : Int) := (by have h_ : (x8_2 : Int) < ((x5_2.length : Int) : Int) := of_decide_eq_true (by assumption); first | (have e_ := (Kd.R_reads' HO_5.out).1; omega) | simpa only [Ny354.out, List.length_set] using h_); have ql355 : ((x8_2 : Int) < ((x5_2.length : Int) : Int)) = True := eq_true (of_decide_eq_true (by assumption)); obtain ⟨ad355, e355, hx355_0⟩ := Kd.at_int (Kd.R_reads' HO_5.out).2.2 x8_2 p355 q355; obtain rfl : (⟨go29, 0, none⟩ : Addr) = ad355 := (by injection e355); (first | simp only [add_plain] at hx355_0 | simp only [add_at] at hx355_0 | simp only [Addr.add, Nat.zero_add] at hx355_0 | skip); replace p355 := eq_true p355; replace q355 := eq_true q355; have p356 : 0 ≤ (x8_2 : Int) := of_decide_eq_true (by assumption); have q356 : x8_2 < (l0.length : Int) := of_decide_eq_true (by assumption); obtain ⟨ad356, e356, hx356_0, hx356_1, hx356_2, hx356_3, hx356_4, hx356_5, hx356_6, hx356_7, hx356_8, hx356_9, hx356_10, hx356_11, hx356_12, hx356_13, hx356_14, hx356_15, hx356_16, hx356_17, hx356_18, hx356_19, hx356_20, hx356_21⟩ := at_T37 HR0.out x8_2 p356 q356; obtain rfl : ad350 = ad356 := (by injection e356); replace hx356_0 := bc HB.out hx356_0; replace hx356_1 := bc HB.out hx356_1; replace hx356_2 := bc HB.out hx356_2; replace hx356_3 := bc HB.out hx356_3; replace hx356_4 := bc HB.out hx356_4; replace hx356_5 := bc HB.out hx356_5; replace hx356_6 := bc HB.out hx356_6; replace hx356_7 := bc HB.out hx356_7; replace hx356_8 := bc HB.out hx356_8; replace hx356_9 := bc HB.out hx356_9; replace hx356_10 := bc HB.out hx356_10; replace hx356_11 := bc HB.out hx356_11; replace hx356_12 := bc HB.out hx356_12; replace hx356_13 := bc HB.out hx356_13; replace hx356_14 := bc HB.out hx356_14; replace hx356_15 := bc HB.out hx356_15; replace hx356_16 := bc HB.out hx356_16; replace hx356_17 := bc HB.out hx356_17; replace hx356_18 := bc HB.out hx356_18; replace hx356_19 := bc HB.out hx356_19; replace hx356_20 := bc HB.out hx356_20; replace hx356_21 := bc HB.out hx356_21; replace p356 := eq_true p356; replace q356 := eq_true q356; have p35 : 0 ≤ (((rT l0 x8_2).f2) : Int) := of_decide_eq_true (by assumption); have q35 : (((rT l0 x8_2).f2) : Int) < ((x5_2.length : Int) : Int) := of_decide_eq_true (by assumption); obtain ⟨hx35_0, hf35_0⟩ := Kd.R_celln 0 HO_5.out (((rT l0 x8_2).f2) : Int) p35 q35; replace p35 := eq_true p35; replace q35 := eq_true q35; obtain ⟨hy38_, hz38_⟩ := Kd.R_celln 0 HO_5.out (((rT l0 x8_2).f2) : Int) (of_decide_eq_true (by assumption)) (of_decide_eq_true (by assumption)); have HP38 := Kd.R_putg HO_5.out (((rT l0 x8_2).f2) : Int) 1) | ((with_reducible refine gate_store (t := 3) (p := 67) rfl ?_); refine store_event (t := 3) (p := 67) (v := ?vo_w39) (w1 := (w37.setCell ⟨go29, (((rT l0 x8_2).f2) : Int).toNat, none⟩ (.int .i64 1))) ?hg ?ho ?hn ?hr ?_; (case ho => rfl); (case hg => rfl); (case hn => rfl); (case hr => first | (go_simp; done) | (go_simp; rfl)); intro w39 hw; have hg : w37.grownBy w39 (some go29) := (by rw [hw]; exact HP38.2); have hp_ : Kd.R (Kd.int .i64) 3 w39 w.heap.size (fun _ => True) (.slice (some ⟨go29, 0, none⟩) x5_2.length co29) y357 := (by rw [hw, Ny357.out]; exact HP38.1); clear HP38; replace HO_5 := aq (hp_); replace HB := aq ((by rw [hw]; exact bs_ (HB.out) GB29.out : Below w.heap.size w w39)); clear hg hw hp_))
       (first | go_roundg kj18 | (refine Handed.intro kj18 ?measure ?_; rotate_left; go_step; (repeat apply Exists.intro); (refine ⟨?rel, ?fr_⟩); (case fr_ => (simp only [add_plain]; rfl))))
       case measure => have := HK1.out; have := HK2.out; have := HJ18.out; omega
       case rel => exact ⟨(y357), (wrap64 (x8_2 - 1)), (by first | rfl | simp [*]), H', ⟨by have := HK1.out; have := HK2.out; have := HJ18.out; omega⟩, ⟨by (with_reducible repeat (first | apply Kd.R_alloc | apply Kd.R_drewN | apply Kd.R_drew)); exact HO_5.out⟩, ⟨by exact ul HB.out⟩⟩
end Go.Proofs.Ytoonahobmlnflaa.PC
namespace Go.Proofs.Ytoonahobmlnflaa.PC
open Go.RowKit Go.Proofs.YtoonahobmlnflaaW.PrintWords Go.Proofs.YtoonahobmlnflaaW.PrintLast Go.Proofs.YtoonahobmlnflaaW.PrintMore
attribute [local go_sem] max2_int min2_int max_two min_two max_three min_three max_four min_four
set_option linter.unusedVariables false
set_option linter.unusedSimpArgs false
def orreryref17_Ints.l0 : Nat → List Int → List Int → Int → Int → Option (Bool)
  | 0, _, _, _, _ => none
  | k + 1, x0, x1, x12, x13 => if x13 < x12 then (if 0 ≤ x13 then (if x13 < (x0.length : Int) then (if x13 < (x1.length : Int) then (if (rd x0 x13) = (rd x1 x13) then (orreryref17_Ints.l0 k x0 x1 x12 (wrap64 (x13 + 1))) else (some false)) else (none)) else (none)) else (none)) else (some true)
def orreryref17_Ints.f (k : Nat) (l0 : List Int) (l1 : List Int) : Option (Bool) := if (l0.length : Int) = (l1.length : Int) then (orreryref17_Ints.l0 k l0 l1 (l0.length : Int) 0) else (some false)
theorem orreryref17_Ints.mono_l : ∀ k, (∀ y0 y1 y2 y3, LeO (orreryref17_Ints.l0 k y0 y1 y2 y3) (orreryref17_Ints.l0 (k + 1) y0 y1 y2 y3))
  | 0 => fun _ _ _ _ r h => by simp [orreryref17_Ints.l0] at h
  | k + 1 => by
    have ih0 := orreryref17_Ints.mono_l k
    · intro y0 y1 y2 y3
      unfold orreryref17_Ints.l0
      repeat' first
      | (with_reducible exact LeO.refl _)
      | exact ih0 _ _ _ _
      | exact LeO.none _
      | refine LeO.ite ?_ ?_
      | refine LeO.bind ?_ (fun _ => ?_)
theorem orreryref17_Ints.mono : ∀ a0 a1 k, LeO (orreryref17_Ints.f k a0 a1) (orreryref17_Ints.f (k + 1) a0 a1) := by
 intro a0 a1 k
 have ih0 := orreryref17_Ints.mono_l k
 unfold orreryref17_Ints.f
 repeat' first
     | (with_reducible exact LeO.refl _)
     | exact ih0 _ _ _ _
     | exact LeO.none _
     | refine LeO.ite ?_ ?_
     | refine LeO.bind ?_ (fun _ => ?_)
set_option maxHeartbeats 8000000 in
set_option maxRecDepth 100000 in
theorem orreryref17_Ints.calls (k : Nat) (A0 : Option Addr) (c0 : Nat) (l0 : List Int) (A1 : Option Addr) (c1 : Nat) (l1 : List Int) (r : Bool) (w : World) (hr0 : Kd.C (Kd.int .i64) w A0 l0.length l0) (hc0 : l0.length ≤ c0) (hr1 : Kd.C (Kd.int .i64) w A1 l1.length l1) (hc1 : l1.length ≤ c1) (h : orreryref17_Ints.f k l0 l1 = some r) :
    Calls Try.prog 11 #[.slice A0 l0.length c0, .slice A1 l1.length c1] w fun e w' => e = .returned (.bool r) ∧ Drawn0 w w' := by
 have HR0 := aq hr0
 have HC0 := aq hc0
 clear hr0 hc0
 have HR1 := aq hr1
 have HC1 := aq hc1
 clear hr1 hc1
 have H : (if (l0.length : Int) = (l1.length : Int) then (orreryref17_Ints.l0 k l0 l1 (l0.length : Int) 0) else (some false)) = some r := h
 clear h
 by_cases c3 : (l0.length : Int) = (l1.length : Int)
 case neg =>
  rw [if_neg c3] at H
  have c3b0 : ((l0.length : Int) == (l1.length : Int)) = false := beq_eq_false_iff_ne.mpr c3
  have c3b1 : ((l0.length : Int) != (l1.length : Int)) = true := bne_iff_ne.mpr c3
  have c3b2 : (l0.length == l1.length) = false := by first | simpa using c3 | (simp at c3 ⊢; omega)
  obtain rfl := Option.some.inj H
  go_enter Try.func11, Try.ntmps11
  go_wp2
  repeat (go_quiet (fail); try go_wp2)
  go_ret
  exact ⟨by first | rfl | (simp; done) | (simp [*]; done), by repeat (first | exact Drawn0.refl _ | apply Drawn0.step)⟩
 rw [if_pos c3] at H
 have c3b0 : ((l0.length : Int) == (l1.length : Int)) = true := beq_iff_eq.mpr c3
 have c3b1 : ((l0.length : Int) != (l1.length : Int)) = false := bne_eq_false_iff_eq.mpr c3
 have c3b2 : (l0.length == l1.length) = true := by first | simpa using c3 | (simp at c3 ⊢; omega)
 clear c3
 have H' := aq H
 clear H
 go_enter Try.func11, Try.ntmps11
 go_wp2
 repeat (go_quiet (fail); try go_wp2)
 go_loopg [13] k (fun kq v13 w' => ∃ (x13_1 : Int), v13 = .int .i64 x13_1 ∧ Aside0 (orreryref17_Ints.l0 kq l0 l1 (l0.length : Int) x13_1 = some r) ∧ Aside0 (kq ≤ k) ∧ Drawn0 w w')
 case atStart => exact ⟨(0), (by first | rfl | (simp; done) | (simp [*]; done)), H', ⟨Nat.le_refl _⟩, by repeat (first | exact Drawn0.refl _ | apply Drawn0.step)⟩
 case round =>
  clear H'
  try clear c1
  try clear p2
  try clear c3
  try clear c3b0
  try clear c3b1
  try clear c3b2
  obtain ⟨x13_1, rfl, HA, HK1, ⟨m1, rfl⟩⟩ := hrel
  cases gk with
  | zero => exact absurd HA.out (by simp [orreryref17_Ints.l0])
  | succ k1 =>
   have H := HA.out
   clear HA
   simp only [orreryref17_Ints.l0] at H
   by_cases c4 : x13_1 < (l0.length : Int)
   case neg =>
    rw [if_neg c4] at H
    have c4b0 : decide (x13_1 < (l0.length : Int)) = false := decide_eq_false c4
    clear c4
    obtain rfl := Option.some.inj H
    go_wp2
    repeat (go_quiet (fail); try go_wp2)
    go_ret
    exact ⟨by first | rfl | (simp; done) | (simp [*]; done), by repeat (first | exact Drawn0.refl _ | apply Drawn0.step)⟩
   rw [if_pos c4] at H
   have c4b0 : decide (x13_1 < (l0.length : Int)) = true := decide_eq_true c4
   clear c4
   replace H := gd H
   obtain ⟨c5b0, H⟩ := H
   replace H := gd H
   obtain ⟨c6b0, H⟩ := H
   replace H := gd H
   obtain ⟨c7b0, H⟩ := H
   by_cases c8 : (rd l0 x13_1) = (rd l1 x13_1)
   case neg =>
    rw [if_neg c8] at H
    have c8b0 : ((rd l0 x13_1) == (rd l1 x13_1)) = false := beq_eq_false_iff_ne.mpr c8
    have c8b1 : ((rd l0 x13_1) != (rd l1 x13_1)) = true := bne_iff_ne.mpr c8
    obtain rfl := Option.some.inj H
    have p414 : 0 ≤ (x13_1 : Int) := of_decide_eq_true (by assumption)
    have q414 : x13_1 < (l0.length : Int) := of_decide_eq_true (by assumption)
    obtain ⟨ad414, e414, hx414_0⟩ := Kd.at_int HR0.out x13_1 p414 q414
    cases e414
    replace p414 := eq_true p414
    replace q414 := eq_true q414
    have p415 : 0 ≤ (x13_1 : Int) := of_decide_eq_true (by assumption)
    have q415 : x13_1 < (l1.length : Int) := of_decide_eq_true (by assumption)
    obtain ⟨ad415, e415, hx415_0⟩ := Kd.at_int HR1.out x13_1 p415 q415
    cases e415
    replace p415 := eq_true p415
    replace q415 := eq_true q415
    go_wp2
    repeat (go_quiet (fail); try go_wp2)
    go_ret
    exact ⟨by first | rfl | (simp; done) | (simp [*]; done), by repeat (first | exact Drawn0.refl _ | apply Drawn0.step)⟩
   rw [if_pos c8] at H
   have c8b0 : ((rd l0 x13_1) == (rd l1 x13_1)) = true := beq_iff_eq.mpr c8
   have c8b1 : ((rd l0 x13_1) != (rd l1 x13_1)) = false := bne_eq_false_iff_eq.mpr c8
   clear c8
   have H' := aq H
   clear H
   have p414 : 0 ≤ (x13_1 : Int) := of_decide_eq_true (by assumption)
   have q414 : x13_1 < (l0.length : Int) := of_decide_eq_true (by assumption)
   obtain ⟨ad414, e414, hx414_0⟩ := Kd.at_int HR0.out x13_1 p414 q414
   cases e414
   replace p414 := eq_true p414
   replace q414 := eq_true q414
   have p415 : 0 ≤ (x13_1 : Int) := of_decide_eq_true (by assumption)
   have q415 : x13_1 < (l1.length : Int) := of_decide_eq_true (by assumption)
   obtain ⟨ad415, e415, hx415_0⟩ := Kd.at_int HR1.out x13_1 p415 q415
   cases e415
   replace p415 := eq_true p415
   replace q415 := eq_true q415
   go_wp2
   repeat (go_quiet (fail); try go_wp2)
   (first | go_roundg k1 | (refine Handed.intro k1 ?measure ?_; rotate_left; go_step; (repeat apply Exists.intro); (refine ⟨?rel, ?fr_⟩); (case fr_ => (simp only [add_plain]; rfl))))
   case measure => have := HK1.out; omega
   case rel => exact ⟨(wrap64 (x13_1 + 1)), (by first | rfl | (simp; done) | (simp [*]; done)), H', ⟨by have := HK1.out; omega⟩, by repeat (first | exact Drawn0.refl _ | apply Drawn0.step)⟩
end Go.Proofs.Ytoonahobmlnflaa.PC
