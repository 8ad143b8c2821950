/- Texts of this claim, one behind the other. -/
import Derived.Test.YtoonahobmlnflaaVa3
import Derived.Laws.BitsAllLaws
set_option linter.unusedVariables false
set_option linter.unusedSimpArgs false
set_option maxRecDepth 100000
set_option maxHeartbeats 16000000
namespace Go.Proofs.Ytoonahobmlnflaa.PC
open Go.RowKit A B C
attribute [local go_sem] xJ xL wY wZ xU xV xK xM
def xD.f (k : Nat) (a0 : Int) : Option (List Int) := (zC.f k (([(a0) % 4294967296, (a0 / 4294967296) % 4294967296] : List Int))).bind fun t312 => (some t312)
theorem xD.calls (k : Nat) (a0 : Int) (r : List Int) (w : World) (h : xD.f k a0 = some r) :
    Calls Try.prog 85 #[.int .u64 a0] w fun e w' => ∃ v0_ : Value, e = .returned (v0_) ∧ Kd.V (Kd.int .u32) 140 w' w.heap.size (fun k_ => (w.heap.size ≤ k_)) v0_ r ∧ Below w.heap.size w w' := by
 have HB := aq (Below.refl w.heap.size w)
 have H := h
 unfold xD.f at H
 clear h
 obtain ⟨y309, hy309⟩ : ∃ y_ : List Int, y_ = (([(a0) % 4294967296, (a0 / 4294967296) % 4294967296] : List Int)) := ⟨_, rfl⟩
 replace H : ((zC.f k y309).bind fun t312 => (some t312)) = some r := by first | (rw [hy309]; with_reducible exact H) | (have H2_ := (Option.bind_some _ _).symm.trans H; rw [hy309]; with_reducible exact H2_) | (have H2_ := (Option.bind_some _ _).symm.trans H; with_reducible exact H2_) | with_reducible exact H | (rw [hy309]; exact H) | exact H
 have Ny309 := aq hy309
 clear hy309
 replace H := Option.bind_eq_some_iff.mp H
 obtain ⟨t312, A20, H⟩ := H
 try dsimp only at H
 have A2 := aq A20
 clear A20
 obtain rfl := Option.some.inj H
 go_enter Try.func85, Try.ntmps85
 go_wp2_with (first | ((with_reducible refine gD (N := 8) rfl ?_); refine Kd.R_lit (Kd.int .u32) _ 140 ?hg (N := 8) ?hd (xs := ([(a0) % 4294967296, (a0 / 4294967296) % 4294967296] : List Int)) (inner := [.int .u32 ((a0) % 4294967296), .int .u32 ((a0 / 4294967296) % 4294967296)]) (ok := fun _ => True) (okp := fun _ => True) ?hr ?hp (fun _ hk => hk) trivial (Below.refl _ _) (Nat.le_refl _) (by simp) ?_; (case hd => rfl); (case hg => rfl); (case hr => first | (go_simp; done) | (go_simp; rfl)); (case hp => exact (wH.one (show Kd.M (Kd.int .u32) _ _ _ ((a0) % 4294967296) [.int .u32 ((a0) % 4294967296)] from rfl) (wH.one (show Kd.M (Kd.int .u32) _ _ _ ((a0 / 4294967296) % 4294967296) [.int .u32 ((a0 / 4294967296) % 4294967296)] from rfl) (wH.none _ _)))); intro v310 w3 ho4 hb hg_ hnew_; clear hg_ hnew_; (first | rw [← Ny309.out] at ho4 | (simp only [Int.reduceToNat] at ho4; rw [← Ny309.out] at ho4)); have n0_ := aq (Kd.vN (Kd.R_newM (M := fun k_ => (w.heap.size ≤ k_)) ho4 (bz_ (by exact ul HB.out)) (fun k_ h_ => h_)) (bz_ (by exact ul HB.out))); have n1_ := aq (bt_ (by exact ul HB.out) hb); clear HB; have HO311 := n0_; have HB := n1_; clear n0_ n1_; clear hb ho4; obtain ⟨Ao5, co5, eo5⟩ := Kd.yE HO311.out; subst eo5) | ((with_reducible refine yK (f := 119) rfl ?_); refine wD (some 9) rfl rfl Try.func119 (by kernel_rfl) rfl #[.slice Ao5 y309.length co5] rfl (by (try simp only [List.map_toArray, List.map_cons, List.map_nil]); first | done | rfl | (simp only [List.length_drop, List.length_take]; rfl)) ?_; (with_reducible refine (zC.calls k (fun k_ => some k_ = (.slice Ao5 y309.length co5 : Value).ownBlock) _ _ y309 t312 _ ?side1 A2.out).mono ?_); (case side1 => exact Kd.R_V (Kd.R_tight rfl (HO311.out))); rintro e w6 ⟨v313, rfl, ho0, hb⟩; refine ⟨_, rfl, ?_⟩; have n0_ := aq (Kd.yS (by (with_reducible repeat (first | apply Kd.wT | apply Kd.vK | apply Kd.tX)); exact HO311.out) hb); have n1_ := aq (Kd.tG (Kd.tY (ok' := fun k_ => (w.heap.size ≤ k_)) ho0 (fun k_ hk_ => Or.elim hk_ (fun hs_ => ((HO311.out).1 k_ hs_.symm).1) (fun hn_ => (Nat.le_trans (bz_ (by exact ul HB.out)) hn_)))) (bz_ (by exact ul HB.out))); have n2_ := aq (bt_ (by exact ul HB.out) hb); clear HO311; clear HB; have HO311 := n0_; have HO314 := n1_; have HB := n2_; clear n0_ n1_ n2_; (try clear hb); (try clear hb2); (try clear hk); (try clear hi); (try clear ho0)))
 go_ret
 exact ⟨_, by first | rfl | (simp [eN_, eS_] <;> rfl) | (simp [*, eN_, eS_] <;> rfl), by (with_reducible repeat (first | apply Kd.xZ | apply Kd.yA | apply Kd.xI)); exact HO314.out, by exact ul HB.out⟩
def xS.f (k : Nat) (a0 : Int) : Option (List Int) := if a0 < 0 then ((xD.f k (IntKind.u64.wrap (-(IntKind.u64.wrap (a0))))).bind fun t315 => (some t315)) else ((xD.f k (IntKind.u64.wrap (a0))).bind fun t318 => (some t318))
theorem xS.calls (k : Nat) (a0 : Int) (r : List Int) (w : World) (h : xS.f k a0 = some r) :
    Calls Try.prog 55 #[.int .i64 a0] w fun e w' => ∃ v0_ : Value, e = .returned (v0_) ∧ Kd.V (Kd.int .u32) 140 w' w.heap.size (fun k_ => (w.heap.size ≤ k_)) v0_ r ∧ Below w.heap.size w w' := by
 have HB := aq (Below.refl w.heap.size w)
 have H := h
 unfold xS.f at H
 clear h
 by_cases c2 : a0 < 0
 case neg =>
  rw [if_neg c2] at H
  have c2b0 : decide (a0 < 0) = false := decide_eq_false c2
  clear c2
  replace H := Option.bind_eq_some_iff.mp H
  obtain ⟨t318, A50, H⟩ := H
  try dsimp only at H
  have A5 := aq A50
  clear A50
  obtain rfl := Option.some.inj H
  go_enter Try.func55, Try.ntmps55
  go_wp2_with (first | ((with_reducible refine yK (f := 85) rfl ?_); refine wD (some 11) rfl rfl Try.func85 (by kernel_rfl) rfl #[.int .u64 (IntKind.u64.wrap (a0))] rfl (by (try simp only [List.map_toArray, List.map_cons, List.map_nil]); first | done | rfl | (simp only [List.length_drop, List.length_take]; rfl)) ?_; (with_reducible refine (xD.calls k (IntKind.u64.wrap (a0)) t318 _ A5.out).mono ?_); rintro e w6 ⟨v319, rfl, ho0, hb⟩; refine ⟨_, rfl, ?_⟩; have n0_ := aq (Kd.tG (Kd.tY (ok' := fun k_ => (w.heap.size ≤ k_)) ho0 (fun k_ hk_ => (Nat.le_trans (bz_ (by exact ul HB.out)) hk_))) (bz_ (by exact ul HB.out))); have n1_ := aq (bt_ (by exact ul HB.out) hb); clear HB; have HO320 := n0_; have HB := n1_; clear n0_ n1_; (try clear hb); (try clear hb2); (try clear hk); (try clear hi); (try clear ho0)))
  go_ret
  exact ⟨_, by first | rfl | (simp [eN_, eS_] <;> rfl) | (simp [*, eN_, eS_] <;> rfl), by (with_reducible repeat (first | apply Kd.xZ | apply Kd.yA | apply Kd.xI)); exact HO320.out, by exact ul HB.out⟩
 rw [if_pos c2] at H
 have c2b0 : decide (a0 < 0) = true := decide_eq_true c2
 clear c2
 replace H := Option.bind_eq_some_iff.mp H
 obtain ⟨t315, A30, H⟩ := H
 try dsimp only at H
 have A3 := aq A30
 clear A30
 obtain rfl := Option.some.inj H
 go_enter Try.func55, Try.ntmps55
 go_wp2_with (first | ((with_reducible refine yK (f := 85) rfl ?_); refine wD (some 8) rfl rfl Try.func85 (by kernel_rfl) rfl #[.int .u64 (IntKind.u64.wrap (-(IntKind.u64.wrap (a0))))] rfl (by (try simp only [List.map_toArray, List.map_cons, List.map_nil]); first | done | rfl | (simp only [List.length_drop, List.length_take]; rfl)) ?_; (with_reducible refine (xD.calls k (IntKind.u64.wrap (-(IntKind.u64.wrap (a0)))) t315 _ A3.out).mono ?_); rintro e w4 ⟨v316, rfl, ho0, hb⟩; refine ⟨_, rfl, ?_⟩; have n0_ := aq (Kd.tG (Kd.tY (ok' := fun k_ => (w.heap.size ≤ k_)) ho0 (fun k_ hk_ => (Nat.le_trans (bz_ (by exact ul HB.out)) hk_))) (bz_ (by exact ul HB.out))); have n1_ := aq (bt_ (by exact ul HB.out) hb); clear HB; have HO317 := n0_; have HB := n1_; clear n0_ n1_; (try clear hb); (try clear hb2); (try clear hk); (try clear hi); (try clear ho0)))
 go_ret
 exact ⟨_, by first | rfl | (simp [eN_, eS_] <;> rfl) | (simp [*, eN_, eS_] <;> rfl), by (with_reducible repeat (first | apply Kd.xZ | apply Kd.yA | apply Kd.xI)); exact HO317.out, by exact ul HB.out⟩
def wQ.f (k : Nat)  : Option (List Int) := (xD.f k 1).bind fun t321 => (some t321)
theorem wQ.calls (k : Nat)  (r : List Int) (w : World) (h : wQ.f k  = some r) :
    Calls Try.prog 56 #[] w fun e w' => ∃ v0_ : Value, e = .returned (v0_) ∧ Kd.V (Kd.int .u32) 140 w' w.heap.size (fun k_ => (w.heap.size ≤ k_)) v0_ r ∧ Below w.heap.size w w' := by
 have HB := aq (Below.refl w.heap.size w)
 have H := h
 unfold wQ.f at H
 clear h
 replace H := Option.bind_eq_some_iff.mp H
 obtain ⟨t321, A10, H⟩ := H
 try dsimp only at H
 have A1 := aq A10
 clear A10
 obtain rfl := Option.some.inj H
 go_enter Try.func56, Try.ntmps56
 go_wp2_with (first | ((with_reducible refine yK (f := 85) rfl ?_); refine wD (some 1) rfl rfl Try.func85 (by kernel_rfl) rfl #[.int .u64 1] rfl (by (try simp only [List.map_toArray, List.map_cons, List.map_nil]); first | done | rfl | (simp only [List.length_drop, List.length_take]; rfl)) ?_; (with_reducible refine (xD.calls k 1 t321 _ A1.out).mono ?_); rintro e w2 ⟨v322, rfl, ho0, hb⟩; refine ⟨_, rfl, ?_⟩; have n0_ := aq (Kd.tG (Kd.tY (ok' := fun k_ => (w.heap.size ≤ k_)) ho0 (fun k_ hk_ => (Nat.le_trans (bz_ (by exact ul HB.out)) hk_))) (bz_ (by exact ul HB.out))); have n1_ := aq (bt_ (by exact ul HB.out) hb); clear HB; have HO323 := n0_; have HB := n1_; clear n0_ n1_; (try clear hb); (try clear hb2); (try clear hk); (try clear hi); (try clear ho0)))
 go_ret
 exact ⟨_, by first | rfl | (simp [eN_, eS_] <;> rfl) | (simp [*, eN_, eS_] <;> rfl), by (with_reducible repeat (first | apply Kd.xZ | apply Kd.yA | apply Kd.xI)); exact HO323.out, by exact ul HB.out⟩
def yT.f (k : Nat) (a0_0 : Int) (a0_1 : Int) : Option (Bool) := if a0_1 ≥ 1 then (if a0_0 = (-9223372036854775808) then (some false) else ((xS.f k a0_0).bind fun t325 => ((xS.f k a0_1).bind fun t328 => ((yW.f k t325 t328).bind fun t331 => ((wQ.f k).bind fun t334 => ((zJ.f k t331 t334).bind fun t337 => (some (t337 == 0)))))))) else (some false)
def yT.T1 : Bool × List (List Nat × List Nat) := (true, [([], []), ([0], [0]), ([1], [1]), ([2], [2]), ([3], [3]), ([4, 3], [3, 4]), ([5, 3], [3, 5]), ([3, 6], [3, 6]), ([7, 3], [7]), ([8], [8]), ([9, 8], [8, 9]), ([10, 8, 8], [8, 10]), ([8], [8]), ([12, 8], [8, 12]), ([13, 11, 8], [8, 13]), ([11, 14, 14, 8], [8, 11, 14]), ([15, 8], [8]), ([15, 16, 16, 8], [8, 15, 16]), ([17, 8], [8, 17]), ([8, 18], [8, 18]), ([19, 17, 0, 1, 2, 3, 4, 5, 6, 7, 8, 9, 10, 11, 12, 13, 14, 15, 16, 17, 18, 19], [19])])
def yT.B1 : List Nat := [0, 1, 3, 7, 15, 31, 63, 127, 255, 511, 1023, 2047, 511, 4607, 16383, 32767, 65535, 131071, 262143, 524287, 1048575]
theorem yT.tab1 : vL .any (opsOf Try.f32 1) = yT.T1 := by kernel_rfl
theorem yT.pL : xH yT.T1.2 yT.B1 = true := by kernel_rfl
theorem yT.calls (k : Nat) (a0_0 : Int) (a0_1 : Int) (r : Bool) (w : World) (h : yT.f k a0_0 a0_1 = some r) :
    Calls Try.prog 32 #[.agg #[.int .i64 a0_0, .int .i64 a0_1]] w fun e w' => e = .returned (.bool r) ∧ Below w.heap.size w w' := by
 have hu30 := Try.underlying30
 have HB := aq (Below.refl w.heap.size w)
 have H := h
 unfold yT.f at H
 clear h
 by_cases c2 : a0_1 ≥ 1
 case neg =>
  rw [if_neg c2] at H
  have c2b0 : decide (1 ≤ a0_1) = false := decide_eq_false c2
  clear c2
  obtain rfl := Option.some.inj H
  go_enter Try.func32, Try.ntmps32
  try go_wp2_with (first | ((with_reducible refine gD (N := 1) rfl ?_); refine bE ?hg (N := 1) ?hd (cs := #[.int .i64 a0_0, .int .i64 a0_1]) (t := 30) ?hr ?_; (case hd => rfl); (case hg => rfl); (case hr => first | (go_simp; done) | (go_simp; rfl)); intro gb324 hg w21 hbox hb; have n0_ := aq (bt_ (by exact ul HB.out) hb); have n1_ := aq (hbox); have n2_ := aq ((by rw [hg]; exact (bz_ (by exact ul HB.out)) : w.heap.size ≤ gb324)); have n3_ := aq ((by rw [hg]; exact (bz_ (by exact ul HB.out)) : w.heap.size ≤ gb324)); clear HB; have HB := n0_; have BK324 := n1_; have GW324 := n2_; have GE324 := n3_; clear n0_ n1_ n2_ n3_; clear hb hbox hg))
  have n0_ := aq (xX BK324.out)
  have n1_ := aq (zQ HB.out)
  clear BK324
  clear HB
  have BK324 := n0_
  have HB := n1_
  clear n0_ n1_
  refine xA (n := 21) (S := fun w' => w'.cell? ⟨gb324, 0, none⟩ = some (.int .i64 a0_0) ∧ w'.cell? ⟨gb324, 1, none⟩ = some (.int .i64 a0_1)) (ds := []) (msk 21 0) (by kernel_rfl) rfl rfl ⟨(bq BK324.out 0).trans rfl, (bq BK324.out 1).trans rfl⟩ (fun hHeld => ?_); refine yH yT.tab1 yT.pL (fun HT_ HW_ => ?_)
  generalize w21.drew = w22 at BK324 HB hHeld ⊢
  refine pU 0 3 (msk 21 1) HT_.out ?_
  refine tU 1 4 (msk 21 3) HT_.out HW_.out hHeld ?_ ?_ ?_
  rotate_left
  · rintro w' ⟨s0, s1⟩; go_simp; with_reducible rfl
  refine pU 2 5 (msk 21 7) HT_.out ?_
  refine pU 3 6 (msk 21 15) HT_.out ?_
  refine pW 4 7 (msk 21 31) HT_.out ?_
  refine pW 5 8 (msk 21 63) HT_.out ?_
  refine pW 6 9 (msk 21 127) HT_.out ?_
  refine pU 7 10 (msk 21 255) HT_.out ?_
  refine pU 8 11 (msk 21 511) HT_.out ?_
  refine pW 9 12 (msk 21 1023) HT_.out ?_
  refine pW 10 13 (msk 21 2047) HT_.out ?_
  refine pW 11 14 (msk 21 4095) HT_.out ?_
  refine pW 12 15 (msk 21 8191) HT_.out ?_
  refine pW 13 16 (msk 21 16383) HT_.out ?_
  refine pW 14 17 (msk 21 32767) HT_.out ?_
  refine pW 15 18 (msk 21 65535) HT_.out ?_
  refine pW 16 19 (msk 21 131071) HT_.out ?_
  refine pW 17 20 (msk 21 262143) HT_.out ?_
  refine pW 18 21 (msk 21 524287) HT_.out ?_
  refine pU 19 22 (msk 21 1048575) HT_.out ?_
  refine pU 20 2 (msk 21 2097151) HT_.out ?_
  refine vZ (xT HT_.out (by kernel_rfl)) ?_
  try go_wp2
  go_ret
  exact ⟨by first | rfl | (simp [eN_, eS_] <;> rfl) | (simp [*, eN_, eS_] <;> rfl), by repeat first | exact HB.out | refine bs_ ?_ GE324.out | refine ul ?_⟩
 rw [if_pos c2] at H
 have c2b0 : decide (1 ≤ a0_1) = true := decide_eq_true c2
 clear c2
 by_cases c3 : a0_0 = (-9223372036854775808)
 case pos =>
  rw [if_pos c3] at H
  have c3b0 : (a0_0 == (-9223372036854775808)) = true := beq_iff_eq.mpr c3
  have c3b1 : (a0_0 != (-9223372036854775808)) = false := bne_eq_false_iff_eq.mpr c3
  clear c3
  obtain rfl := Option.some.inj H
  go_enter Try.func32, Try.ntmps32
  try go_wp2_with (first | ((with_reducible refine gD (N := 1) rfl ?_); refine bE ?hg (N := 1) ?hd (cs := #[.int .i64 a0_0, .int .i64 a0_1]) (t := 30) ?hr ?_; (case hd => rfl); (case hg => rfl); (case hr => first | (go_simp; done) | (go_simp; rfl)); intro gb324 hg w4 hbox hb; have n0_ := aq (bt_ (by exact ul HB.out) hb); have n1_ := aq (hbox); have n2_ := aq ((by rw [hg]; exact (bz_ (by exact ul HB.out)) : w.heap.size ≤ gb324)); have n3_ := aq ((by rw [hg]; exact (bz_ (by exact ul HB.out)) : w.heap.size ≤ gb324)); clear HB; have HB := n0_; have BK324 := n1_; have GW324 := n2_; have GE324 := n3_; clear n0_ n1_ n2_ n3_; clear hb hbox hg))
  have n0_ := aq (xX BK324.out)
  have n1_ := aq (zQ HB.out)
  clear BK324
  clear HB
  have BK324 := n0_
  have HB := n1_
  clear n0_ n1_
  refine xA (n := 21) (S := fun w' => w'.cell? ⟨gb324, 0, none⟩ = some (.int .i64 a0_0) ∧ w'.cell? ⟨gb324, 1, none⟩ = some (.int .i64 a0_1)) (ds := []) (msk 21 0) (by kernel_rfl) rfl rfl ⟨(bq BK324.out 0).trans rfl, (bq BK324.out 1).trans rfl⟩ (fun hHeld => ?_); refine yH yT.tab1 yT.pL (fun HT_ HW_ => ?_)
  generalize w4.drew = w5 at BK324 HB hHeld ⊢
  refine pU 0 3 (msk 21 1) HT_.out ?_
  refine tU 1 4 (msk 21 3) HT_.out HW_.out hHeld ?_ ?_ ?_
  rotate_left
  · rintro w' ⟨s0, s1⟩; go_simp; with_reducible rfl
  refine pU 2 5 (msk 21 7) HT_.out ?_
  refine pU 3 6 (msk 21 15) HT_.out ?_
  refine pU 4 7 (msk 21 31) HT_.out ?_
  refine tU 5 8 (msk 21 63) HT_.out HW_.out hHeld ?_ ?_ ?_
  rotate_left
  · rintro w' ⟨s0, s1⟩; go_simp; with_reducible rfl
  refine pU 6 9 (msk 21 127) HT_.out ?_
  refine pU 7 10 (msk 21 255) HT_.out ?_
  refine pU 8 11 (msk 21 511) HT_.out ?_
  refine pW 9 12 (msk 21 1023) HT_.out ?_
  refine pW 10 13 (msk 21 2047) HT_.out ?_
  refine pW 11 14 (msk 21 4095) HT_.out ?_
  refine pW 12 15 (msk 21 8191) HT_.out ?_
  refine pW 13 16 (msk 21 16383) HT_.out ?_
  refine pW 14 17 (msk 21 32767) HT_.out ?_
  refine pW 15 18 (msk 21 65535) HT_.out ?_
  refine pW 16 19 (msk 21 131071) HT_.out ?_
  refine pW 17 20 (msk 21 262143) HT_.out ?_
  refine pW 18 21 (msk 21 524287) HT_.out ?_
  refine pU 19 22 (msk 21 1048575) HT_.out ?_
  refine pU 20 2 (msk 21 2097151) HT_.out ?_
  refine vZ (xT HT_.out (by kernel_rfl)) ?_
  try go_wp2
  go_ret
  exact ⟨by first | rfl | (simp [eN_, eS_] <;> rfl) | (simp [*, eN_, eS_] <;> rfl), by repeat first | exact HB.out | refine bs_ ?_ GE324.out | refine ul ?_⟩
 rw [if_neg c3] at H
 have c3b0 : (a0_0 == (-9223372036854775808)) = false := beq_eq_false_iff_ne.mpr c3
 have c3b1 : (a0_0 != (-9223372036854775808)) = true := bne_iff_ne.mpr c3
 replace H := Option.bind_eq_some_iff.mp H
 obtain ⟨t325, A60, H⟩ := H
 try dsimp only at H
 have A6 := aq A60
 clear A60
 replace H := Option.bind_eq_some_iff.mp H
 obtain ⟨t328, A70, H⟩ := H
 try dsimp only at H
 have A7 := aq A70
 clear A70
 replace H := Option.bind_eq_some_iff.mp H
 obtain ⟨t331, A80, H⟩ := H
 try dsimp only at H
 have A8 := aq A80
 clear A80
 replace H := Option.bind_eq_some_iff.mp H
 obtain ⟨t334, A90, H⟩ := H
 try dsimp only at H
 have A9 := aq A90
 clear A90
 replace H := Option.bind_eq_some_iff.mp H
 obtain ⟨t337, A100, H⟩ := H
 try dsimp only at H
 have A10 := aq A100
 clear A100
 obtain rfl := Option.some.inj H
 go_enter Try.func32, Try.ntmps32
 try go_wp2_with (first | ((with_reducible refine gD (N := 1) rfl ?_); refine bE ?hg (N := 1) ?hd (cs := #[.int .i64 a0_0, .int .i64 a0_1]) (t := 30) ?hr ?_; (case hd => rfl); (case hg => rfl); (case hr => first | (go_simp; done) | (go_simp; rfl)); intro gb324 hg w11 hbox hb; have n0_ := aq (bt_ (by exact ul HB.out) hb); have n1_ := aq (hbox); have n2_ := aq ((by rw [hg]; exact (bz_ (by exact ul HB.out)) : w.heap.size ≤ gb324)); have n3_ := aq ((by rw [hg]; exact (bz_ (by exact ul HB.out)) : w.heap.size ≤ gb324)); clear HB; have HB := n0_; have BK324 := n1_; have GW324 := n2_; have GE324 := n3_; clear n0_ n1_ n2_ n3_; clear hb hbox hg))
 have n0_ := aq (xX BK324.out)
 have n1_ := aq (zQ HB.out)
 clear BK324
 clear HB
 have BK324 := n0_
 have HB := n1_
 clear n0_ n1_
 refine xA (n := 21) (S := fun w' => w'.cell? ⟨gb324, 0, none⟩ = some (.int .i64 a0_0) ∧ w'.cell? ⟨gb324, 1, none⟩ = some (.int .i64 a0_1)) (ds := []) (msk 21 0) (by kernel_rfl) rfl rfl ⟨(bq BK324.out 0).trans rfl, (bq BK324.out 1).trans rfl⟩ (fun hHeld => ?_); refine yH yT.tab1 yT.pL (fun HT_ HW_ => ?_)
 generalize w11.drew = w12 at BK324 HB hHeld ⊢
 refine pU 0 3 (msk 21 1) HT_.out ?_
 refine tU 1 4 (msk 21 3) HT_.out HW_.out hHeld ?_ ?_ ?_
 rotate_left
 · rintro w' ⟨s0, s1⟩; go_simp; with_reducible rfl
 refine pU 2 5 (msk 21 7) HT_.out ?_
 refine pU 3 6 (msk 21 15) HT_.out ?_
 refine pU 4 7 (msk 21 31) HT_.out ?_
 refine tU 5 8 (msk 21 63) HT_.out HW_.out hHeld ?_ ?_ ?_
 rotate_left
 · rintro w' ⟨s0, s1⟩; go_simp; with_reducible rfl
 refine pU 6 9 (msk 21 127) HT_.out ?_
 refine pU 7 10 (msk 21 255) HT_.out ?_
 refine pU 8 11 (msk 21 511) HT_.out ?_
 refine pU 9 12 (msk 21 1023) HT_.out ?_
 refine pU 12 15 (msk 21 5119) HT_.out ?_
 refine tU 10 13 (msk 21 6143) HT_.out HW_.out hHeld ?_ ?_ ?_
 rotate_left
 · rintro w' ⟨s0, s1⟩; go_simp; with_reducible rfl
 refine tU 13 16 (msk 21 14335) HT_.out HW_.out hHeld ?_ ?_ ?_
 rotate_left
 · rintro w' ⟨s0, s1⟩; go_simp; with_reducible rfl
 refine uV (i := 11) (N := some 14) (msk 21 16383) rfl rfl (yG HT_.out (by kernel_rfl)) (by decide) (fun K hK => ?_)
 refine uP Try.func55 (by kernel_rfl) rfl #[.int .i64 a0_0] (by rfl) rfl rfl (by simp only [List.map_toArray, List.map_cons, List.map_nil] <;> rfl) ?_
 with_reducible refine (xS.calls k a0_0 t325 _ A6.out).mono ?_
 rintro e w13 ⟨v326, rfl, ho0, hb⟩
 refine ⟨_, rfl, ?_⟩
 have n0_ := aq (Kd.tG (Kd.tY (ok' := fun k_ => k_ ≠ gb324) ho0 (fun k_ hk_ => (Kd.freshB (g := gb324) (o := .cells #[.int .i64 a0_0, .int .i64 a0_1] 30 (0, 0)) (by exact ub BK324.out) k_ hk_))) (bz_ (by repeat first | exact HB.out | refine bs_ ?_ GE324.out | refine ul ?_)))
 have n1_ := bk BK324 hb
 have n2_ := aq (bt_ (by repeat first | exact HB.out | refine bs_ ?_ GE324.out | refine ul ?_) hb)
 clear BK324
 clear HB
 have HO327 := n0_
 have BK324 := n1_
 have HB := n2_
 clear n0_ n1_ n2_
 (try clear hb)
 (try clear hb2)
 (try clear hk)
 (try clear hi)
 (try clear ho0)
 refine hK.out _ _ ⟨(bq BK324.out 0).trans rfl, (bq BK324.out 1).trans rfl⟩ (fun hHeld => ?_)
 clear hK K
 refine wO (a' := ?_) ?_ ?_
 rotate_left
 · show Act.put _ (some 14) _ = _
   simp only [Act.put, sq, iw, jw]
   rfl
 refine uV (i := 14) (N := some 17) (msk 21 32767) rfl rfl (yG HT_.out (by kernel_rfl)) (by decide) (fun K hK => ?_)
 refine uP Try.func55 (by kernel_rfl) rfl #[.int .i64 a0_1] (by rfl) rfl rfl (by simp only [List.map_toArray, List.map_cons, List.map_nil] <;> rfl) ?_
 with_reducible refine (xS.calls k a0_1 t328 _ A7.out).mono ?_
 rintro e w14 ⟨v329, rfl, ho0, hb⟩
 refine ⟨_, rfl, ?_⟩
 have n0_ := aq (Kd.uC (by (with_reducible repeat (first | apply Kd.xZ | apply Kd.yA | apply Kd.xI)); exact HO327.out) hb)
 have n1_ := aq (Kd.tG (Kd.tY (ok' := fun k_ => k_ ≠ gb324) ho0 (fun k_ hk_ => (Kd.freshB (g := gb324) (o := .cells #[.int .i64 a0_0, .int .i64 a0_1] 30 (0, 0)) (by exact ub BK324.out) k_ hk_))) (bz_ (by repeat first | exact HB.out | refine bs_ ?_ GE324.out | refine ul ?_)))
 have n2_ := bk BK324 hb
 have n3_ := aq (bt_ (by repeat first | exact HB.out | refine bs_ ?_ GE324.out | refine ul ?_) hb)
 clear HO327
 clear BK324
 clear HB
 have HO327 := n0_
 have HO330 := n1_
 have BK324 := n2_
 have HB := n3_
 clear n0_ n1_ n2_ n3_
 (try clear hb)
 (try clear hb2)
 (try clear hk)
 (try clear hi)
 (try clear ho0)
 obtain ⟨Ao15, co15, eo15⟩ := Kd.tH HO327.out
 (first | subst eo15 | (injection eo15 with f1_ f2_ f3_; have f4_ := f1_.symm; have f5_ := f3_.symm; clear f1_ f2_ f3_; subst f4_; subst f5_))
 obtain ⟨Ao16, co16, eo16⟩ := Kd.tH HO330.out
 (first | subst eo16 | (injection eo16 with f1_ f2_ f3_; have f4_ := f1_.symm; have f5_ := f3_.symm; clear f1_ f2_ f3_; subst f4_; subst f5_))
 refine hK.out _ _ ⟨(bq BK324.out 0).trans rfl, (bq BK324.out 1).trans rfl⟩ (fun hHeld => ?_)
 clear hK K
 refine wO (a' := ?_) ?_ ?_
 rotate_left
 · show Act.put _ (some 17) _ = _
   simp only [Act.put, sq, iw, jw]
   rfl
 refine uV (i := 15) (N := some 18) (msk 21 65535) rfl rfl (yG HT_.out (by kernel_rfl)) (by decide) (fun K hK => ?_)
 refine uP Try.func54 (by kernel_rfl) rfl #[.slice Ao15 t325.length co15, .slice Ao16 t328.length co16] (by rfl) rfl rfl (by simp only [List.map_toArray, List.map_cons, List.map_nil] <;> rfl) ?_
 with_reducible refine (yW.calls k (fun k_ => k_ ≠ gb324) _ _ t325 (fun k_ => k_ ≠ gb324) _ _ t328 t331 _ ?side1 ?side2 A8.out).mono ?_
 (case side1 => exact HO327.out)
 (case side2 => exact HO330.out)
 rintro e w17 ⟨v332, rfl, ho0, hb⟩
 refine ⟨_, rfl, ?_⟩
 have n0_ := aq (Kd.uC (by (with_reducible repeat (first | apply Kd.xZ | apply Kd.yA | apply Kd.xI)); exact HO327.out) hb)
 have n1_ := aq (Kd.uC (by (with_reducible repeat (first | apply Kd.xZ | apply Kd.yA | apply Kd.xI)); exact HO330.out) hb)
 have n2_ := aq (Kd.tG (Kd.tY (ok' := fun k_ => k_ ≠ gb324) ho0 (fun k_ hk_ => Or.elim hk_ (fun hs_ => Or.elim hs_ (fun hs_ => hs_) (fun hs_ => hs_)) (fun hn_ => (Kd.freshB (g := gb324) (o := .cells #[.int .i64 a0_0, .int .i64 a0_1] 30 (0, 0)) (by exact ub BK324.out) k_ hn_)))) (bz_ (by repeat first | exact HB.out | refine bs_ ?_ GE324.out | refine ul ?_)))
 have n3_ := bk BK324 hb
 have n4_ := aq (bt_ (by repeat first | exact HB.out | refine bs_ ?_ GE324.out | refine ul ?_) hb)
 clear HO327
 clear HO330
 clear BK324
 clear HB
 have HO327 := n0_
 have HO330 := n1_
 have HO333 := n2_
 have BK324 := n3_
 have HB := n4_
 clear n0_ n1_ n2_ n3_ n4_
 (try clear hb)
 (try clear hb2)
 (try clear hk)
 (try clear hi)
 (try clear ho0)
 refine hK.out _ _ ⟨(bq BK324.out 0).trans rfl, (bq BK324.out 1).trans rfl⟩ (fun hHeld => ?_)
 clear hK K
 refine wO (a' := ?_) ?_ ?_
 rotate_left
 · show Act.put _ (some 18) _ = _
   simp only [Act.put, sq, iw, jw]
   rfl
 refine uV (i := 16) (N := some 19) (msk 21 131071) rfl rfl (yG HT_.out (by kernel_rfl)) (by decide) (fun K hK => ?_)
 refine uP Try.func56 (by kernel_rfl) rfl #[] (by rfl) rfl rfl (by simp only [List.map_toArray, List.map_cons, List.map_nil] <;> rfl) ?_
 with_reducible refine (wQ.calls k  t334 _ A9.out).mono ?_
 rintro e w18 ⟨v335, rfl, ho0, hb⟩
 refine ⟨_, rfl, ?_⟩
 have n0_ := aq (Kd.uC (by (with_reducible repeat (first | apply Kd.xZ | apply Kd.yA | apply Kd.xI)); exact HO327.out) hb)
 have n1_ := aq (Kd.uC (by (with_reducible repeat (first | apply Kd.xZ | apply Kd.yA | apply Kd.xI)); exact HO330.out) hb)
 have n2_ := aq (Kd.uC (by (with_reducible repeat (first | apply Kd.xZ | apply Kd.yA | apply Kd.xI)); exact HO333.out) hb)
 have n3_ := aq (Kd.tG (Kd.tY (ok' := fun k_ => k_ ≠ gb324) ho0 (fun k_ hk_ => (Kd.freshB (g := gb324) (o := .cells #[.int .i64 a0_0, .int .i64 a0_1] 30 (0, 0)) (by exact ub BK324.out) k_ hk_))) (bz_ (by repeat first | exact HB.out | refine bs_ ?_ GE324.out | refine ul ?_)))
 have n4_ := bk BK324 hb
 have n5_ := aq (bt_ (by repeat first | exact HB.out | refine bs_ ?_ GE324.out | refine ul ?_) hb)
 clear HO327
 clear HO330
 clear HO333
 clear BK324
 clear HB
 have HO327 := n0_
 have HO330 := n1_
 have HO333 := n2_
 have HO336 := n3_
 have BK324 := n4_
 have HB := n5_
 clear n0_ n1_ n2_ n3_ n4_ n5_
 (try clear hb)
 (try clear hb2)
 (try clear hk)
 (try clear hi)
 (try clear ho0)
 obtain ⟨Ao19, co19, eo19⟩ := Kd.tH HO333.out
 (first | subst eo19 | (injection eo19 with f1_ f2_ f3_; have f4_ := f1_.symm; have f5_ := f3_.symm; clear f1_ f2_ f3_; subst f4_; subst f5_))
 obtain ⟨Ao20, co20, eo20⟩ := Kd.tH HO336.out
 (first | subst eo20 | (injection eo20 with f1_ f2_ f3_; have f4_ := f1_.symm; have f5_ := f3_.symm; clear f1_ f2_ f3_; subst f4_; subst f5_))
 refine hK.out _ _ ⟨(bq BK324.out 0).trans rfl, (bq BK324.out 1).trans rfl⟩ (fun hHeld => ?_)
 clear hK K
 refine wO (a' := ?_) ?_ ?_
 rotate_left
 · show Act.put _ (some 19) _ = _
   simp only [Act.put, sq, iw, jw]
   rfl
 refine uV (i := 17) (N := some 20) (msk 21 262143) rfl rfl (yG HT_.out (by kernel_rfl)) (by decide) (fun K hK => ?_)
 refine uP Try.func53 (by kernel_rfl) rfl #[.slice Ao19 t331.length co19, .slice Ao20 t334.length co20] (by rfl) rfl rfl (by simp only [List.map_toArray, List.map_cons, List.map_nil] <;> rfl) ?_
 with_reducible refine (zJ.calls k _ _ t331 _ _ t334 t337 _ ?side1 ?side2 ?side3 ?side4 A10.out).mono ?_
 (case side1 => repeat (first | exact (Kd.wV HO333.out).2.2 | (with_reducible refine Kd.qS ?_ _) | (with_reducible refine Kd.qT ?_ _) | (with_reducible refine Kd.oJ ?_)))
 (case side2 => exact (Kd.wV HO333.out).2.1)
 (case side3 => repeat (first | exact (Kd.wV HO336.out).2.2 | (with_reducible refine Kd.qS ?_ _) | (with_reducible refine Kd.qT ?_ _) | (with_reducible refine Kd.oJ ?_)))
 (case side4 => exact (Kd.wV HO336.out).2.1)
 rintro e w' ⟨rfl, ⟨nd, rfl⟩⟩
 refine ⟨_, rfl, ?_⟩
 refine hK.out _ _ ⟨(bq BK324.out 0).trans rfl, (bq BK324.out 1).trans rfl⟩ (fun hHeld => ?_)
 clear hK K
 refine wO (a' := ?_) ?_ ?_
 rotate_left
 · show Act.put _ (some 20) _ = _
   simp only [Act.put, sq, iw, jw]
   rfl
 refine pU 18 21 (msk 21 524287) HT_.out ?_
 refine pU 19 22 (msk 21 1048575) HT_.out ?_
 refine pU 20 2 (msk 21 2097151) HT_.out ?_
 refine vZ (xT HT_.out (by kernel_rfl)) ?_
 try go_wp2
 go_ret
 exact ⟨by first | rfl | (simp [eN_, eS_] <;> rfl) | (simp [*, eN_, eS_] <;> rfl), by repeat first | exact HB.out | refine bs_ ?_ GE324.out | refine ul ?_⟩
end Go.Proofs.Ytoonahobmlnflaa.PC
namespace Go.Proofs.Ytoonahobmlnflaa.PC
open Go.RowKit A B C
theorem sP {n : Int} (h0 : -9223372036854775808 ≤ n) (h1 : n ≤ 9223372036854775807) : wrap64 n = n := by unfold wrap64; omega
def vB : List Int → Int
 | [] => 0
 | d :: l => d + 4294967296 * vB l
def Dg (l : List Int) : Prop := ∀ d ∈ l, 0 ≤ d ∧ d < 4294967296
def Gd (l : List Int) : Prop := Dg l ∧ ∀ h : l ≠ [], l.getLast h ≠ 0
theorem Dg.nil : Dg [] := fun _ h => by cases h
theorem Gd.nil : Gd [] := ⟨Dg.nil, fun h => absurd rfl h⟩
theorem Dg.app {a b : List Int} (ha : Dg a) (hb : Dg b) : Dg (a ++ b) := fun d h => (List.mem_append.1 h).elim (ha d) (hb d)
theorem Dg.left {a b : List Int} (h : Dg (a ++ b)) : Dg a := fun d hd => h d (List.mem_append_left _ hd)
theorem Dg.right {a b : List Int} (h : Dg (a ++ b)) : Dg b := fun d hd => h d (List.mem_append_right _ hd)
theorem Dg.one {d : Int} (h0 : 0 ≤ d) (h1 : d < 4294967296) : Dg [d] := fun x hx => by rw [List.mem_singleton] at hx; subst hx; exact ⟨h0, h1⟩
theorem Dg.take {a : List Int} (h : Dg a) (n : Nat) : Dg (a.take n) := fun d hd => h d (List.mem_of_mem_take hd)
theorem Dg.zeros (n : Nat) : Dg (List.replicate n 0) := fun d hd => by rw [List.eq_of_mem_replicate hd]; omega
def pB (n : Nat) : Int := 4294967296 ^ n
theorem pB_zero : pB 0 = 1 := rfl
theorem pB_succ (n : Nat) : pB (n + 1) = pB n * 4294967296 := Int.pow_succ ..
theorem pB_pos (n : Nat) : 0 < pB n := Int.pow_pos (by decide)
theorem pB_add (m n : Nat) : pB (m + n) = pB m * pB n := Int.pow_add ..
theorem pB_le {m n : Nat} (h : m ≤ n) : pB m ≤ pB n := by
 obtain ⟨d, rfl⟩ := Nat.le.dest h
 rw [pB_add]
 have h1 := pB_pos m
 have h2 := pB_pos d
 calc pB m = pB m * 1 := (Int.mul_one _).symm
  _ ≤ pB m * pB d := Int.mul_le_mul_of_nonneg_left (by omega) (by omega)
theorem pB_two (n : Nat) : pB n = 2 ^ (32 * n) := by unfold pB; rw [Int.pow_mul]; rfl
theorem uA (a b : List Int) : vB (a ++ b) = vB a + pB a.length * vB b := by
 induction a with
 | nil => simp [vB, pB_zero]
 | cons d a ih =>
  rw [List.cons_append, vB, vB, ih, List.length_cons, pB_succ, Int.mul_add, ← Int.mul_assoc, Int.mul_comm (pB a.length) 4294967296, Int.add_assoc]
theorem oA (d : Int) : vB [d] = d := by simp [vB]
theorem vB_zeros (n : Nat) : vB (List.replicate n 0) = 0 := by
 induction n with
 | zero => rfl
 | succ n ih => rw [List.replicate_succ, vB, ih]; rfl
theorem rU {a : List Int} (h : Dg a) : 0 ≤ vB a := by
 induction a with
 | nil => exact Int.le_refl _
 | cons d a ih =>
  have h1 := h d List.mem_cons_self
  have h2 := ih (fun x hx => h x (List.mem_cons_of_mem _ hx))
  rw [vB]; omega
theorem vB_lt {a : List Int} (h : Dg a) : vB a < pB a.length := by
 induction a with
 | nil => rw [vB, List.length_nil, pB_zero]; omega
 | cons d a ih =>
  have h1 := h d List.mem_cons_self
  have h2 := ih (fun x hx => h x (List.mem_cons_of_mem _ hx))
  rw [vB, List.length_cons, pB_succ]; omega
theorem mB (a : List Int) (d : Int) (h : a ++ [d] ≠ []) : (a ++ [d]).getLast h = d := by simp
theorem pV {l : List Int} (h : l ≠ []) : ∃ a d, l = a ++ [d] := ⟨l.dropLast, l.getLast h, (List.dropLast_concat_getLast h).symm⟩
theorem Gd.snoc {a : List Int} {d : Int} (h : Gd (a ++ [d])) : Dg a ∧ 0 < d ∧ d < 4294967296 := by
 have h1 := h.2 (by simp)
 rw [mB] at h1
 have h2 := h.1 d (by simp)
 exact ⟨h.1.left, by omega, h2.2⟩
theorem mul_ge {p d : Int} (hp : 0 < p) (hd : 1 ≤ d) : p ≤ p * d := by
 calc p = p * 1 := (Int.mul_one _).symm
  _ ≤ p * d := Int.mul_le_mul_of_nonneg_left hd (by omega)
theorem Gd.ge {l : List Int} (h : Gd l) (hn : l ≠ []) : pB (l.length - 1) ≤ vB l := by
 obtain ⟨a, d, rfl⟩ := pV hn
 obtain ⟨h1, h2, h3⟩ := h.snoc
 rw [uA, oA, List.length_append, List.length_singleton, Nat.add_sub_cancel]
 have := mul_ge (pB_pos a.length) (d := d) (by omega)
 have := rU h1
 omega
theorem Gd.pos {l : List Int} (h : Gd l) (hn : l ≠ []) : 0 < vB l := by have := h.ge hn; have := pB_pos (l.length - 1); omega
theorem Gd.shorter {a b : List Int} (ha : Dg a) (hb : Gd b) (h : a.length < b.length) : vB a < vB b := by
 have h1 := vB_lt ha
 have h2 := hb.ge (by intro e; subst e; simp at h)
 have h3 : pB a.length ≤ pB (b.length - 1) := pB_le (by omega)
 omega
theorem rd_last (a : List Int) (d : Int) : rd (a ++ [d]) (a.length : Int) = d := by simp [rd, List.getD_eq_getElem?_getD]
theorem rd_mid (a : List Int) (d : Int) (s : List Int) : rd (a ++ d :: s) (a.length : Int) = d := by simp [rd, List.getD_eq_getElem?_getD]
theorem trim_l0 : ∀ (n : Nat) (l : List Int), l.length = n → n ≤ 4294967296 → Dg l → ∃ r, Ev (fun k => zC.l0 k l) r ∧ Gd r ∧ vB r = vB l ∧ r.length ≤ l.length := by
 intro n
 induction n with
 | zero =>
  intro l hl _ h
  obtain rfl := List.eq_nil_of_length_eq_zero hl
  refine ⟨[], Ev.step (f := fun _ => some []) (fun k => ?_) (Ev.now _), Gd.nil, rfl, Nat.le_refl _⟩
  simp [zC.l0]
 | succ n ih =>
  intro l hl hn h
  obtain ⟨a, d, rfl⟩ := pV (l := l) (by intro e; subst e; simp at hl)
  have hla : a.length = n := by simpa using hl
  by_cases hd : d = 0
  ·subst hd
   obtain ⟨r, h1, h2, h3, h4⟩ := ih a hla (by omega) h.left
   refine ⟨r, Ev.step (fun k => ?_) h1, h2, by rw [h3, uA, oA, Int.mul_zero, Int.add_zero], by simp; omega⟩
   simp only [zC.l0, hl]
   rw [sP (by omega) (by omega), show ((n + 1 : Nat) : Int) - 1 = (a.length : Int) by omega, rd_last, if_pos (by omega), if_pos (by omega), if_pos (by omega), if_pos rfl, if_pos (by omega), Int.toNat_natCast, List.take_left]
  ·refine ⟨a ++ [d], Ev.step (f := fun _ => some (a ++ [d])) (fun k => ?_) (Ev.now _), ⟨h, fun _ => by rw [mB]; exact hd⟩, rfl, Nat.le_refl _⟩
   simp only [zC.l0, hl]
   rw [sP (by omega) (by omega), show ((n + 1 : Nat) : Int) - 1 = (a.length : Int) by omega, rd_last, if_pos (by omega), if_pos (by omega), if_pos (by omega), if_neg hd]
theorem Ev_trim {l : List Int} (hn : l.length ≤ 4294967296) (h : Dg l) : ∃ r, Ev (fun k => zC.f k l) r ∧ Gd r ∧ vB r = vB l ∧ r.length ≤ l.length := trim_l0 _ l rfl hn h
theorem Ev_Of {n : Int} (h0 : 0 ≤ n) (h1 : n < 18446744073709551616) : ∃ r, Ev (fun k => xD.f k n) r ∧ Gd r ∧ vB r = n ∧ r.length ≤ 2 := by
 obtain ⟨r, h2, h3, h4, h5⟩ := Ev_trim (l := [n % 4294967296, (n / 4294967296) % 4294967296]) (by simp) (fun d hd => by simp at hd; omega)
 exact ⟨r, Ev.bind h2 (Ev.now _), h3, by rw [h4]; simp only [vB]; omega, h5⟩
theorem Cmp_l0 (a b : List Int) (hl : a.length ≤ 4294967296) : ∀ (j : Nat) (a1 b1 s : List Int), a = a1 ++ s → b = b1 ++ s → a1.length = j → b1.length = j → Dg a1 → Dg b1 →
  ∃ c : Int, Ev (fun k => zJ.l0 k a b ((j : Int) - 1)) c ∧ ((c = -1 ∧ vB a < vB b) ∨ (c = 0 ∧ vB a = vB b) ∨ (c = 1 ∧ vB b < vB a)) := by
 intro j
 induction j with
 | zero =>
  intro a1 b1 s ea eb h1 h2 _ _
  obtain rfl := List.eq_nil_of_length_eq_zero h1
  obtain rfl := List.eq_nil_of_length_eq_zero h2
  refine ⟨0, Ev.step (f := fun _ => some 0) (fun k => ?_) (Ev.now _), .inr (.inl ⟨rfl, by rw [ea, eb]⟩)⟩
  simp [zJ.l0]
 | succ j ih =>
  intro a1 b1 s ea eb h1 h2 d1 d2
  obtain ⟨a2, x, rfl⟩ := pV (l := a1) (by intro e; subst e; simp at h1)
  obtain ⟨b2, y, rfl⟩ := pV (l := b1) (by intro e; subst e; simp at h2)
  have hla : a2.length = j := by simpa using h1
  have hlb : b2.length = j := by simpa using h2
  rw [List.append_assoc, List.singleton_append] at ea eb
  have hx : rd a (j : Int) = x := by rw [ea, ← hla]; exact rd_mid _ _ _
  have hy : rd b (j : Int) = y := by rw [eb, ← hlb]; exact rd_mid _ _ _
  have hja : j < a.length := by rw [ea]; simp [hla]
  have hjb : j < b.length := by rw [eb]; simp [hlb]
  have hva : vB a = vB a2 + pB j * (x + 4294967296 * vB s) := by rw [ea, uA, hla, vB]
  have hvb : vB b = vB b2 + pB j * (y + 4294967296 * vB s) := by rw [eb, uA, hlb, vB]
  have n1 := rU d1.left
  have n2 := rU d2.left
  have l1 := vB_lt d1.left
  have l2 := vB_lt d2.left
  rw [hla] at l1
  rw [hlb] at l2
  have hp := pB_pos j
  have hmul : ∀ x y z : Int, x + 1 ≤ y → pB j * (x + z) + pB j ≤ pB j * (y + z) := fun x y z h => by
   have := Int.mul_le_mul_of_nonneg_left (show x + z + 1 ≤ y + z by omega) (show 0 ≤ pB j by omega)
   rwa [Int.mul_add, Int.mul_one] at this
  by_cases c1 : x < y
  ·refine ⟨-1, Ev.step (f := fun _ => some (-1)) (fun k => ?_) (Ev.now _), .inl ⟨rfl, ?_⟩⟩
   ·simp only [zJ.l0]
    rw [show ((j + 1 : Nat) : Int) - 1 = (j : Int) by omega, hx, hy, if_pos (by omega), if_pos (by omega), if_pos (by omega), if_pos (by omega), if_pos c1]
   ·have := hmul x y (4294967296 * vB s) (by omega)
    omega
  by_cases c2 : y < x
  ·refine ⟨1, Ev.step (f := fun _ => some 1) (fun k => ?_) (Ev.now _), .inr (.inr ⟨rfl, ?_⟩)⟩
   ·simp only [zJ.l0]
    rw [show ((j + 1 : Nat) : Int) - 1 = (j : Int) by omega, hx, hy, if_pos (by omega), if_pos (by omega), if_pos (by omega), if_pos (by omega), if_neg c1, if_pos c2]
   ·have := hmul y x (4294967296 * vB s) (by omega)
    omega
  obtain rfl : x = y := by omega
  obtain ⟨c, h3, h4⟩ := ih a2 b2 (x :: s) ea eb hla hlb d1.left d2.left
  refine ⟨c, Ev.step (fun k => ?_) h3, h4⟩
  simp only [zJ.l0]
  rw [show ((j + 1 : Nat) : Int) - 1 = (j : Int) by omega, hx, hy, if_pos (by omega), if_pos (by omega), if_pos (by omega), if_pos (by omega), if_neg c1, if_neg c2, sP (by omega) (by omega)]
theorem Ev_Cmp {a b : List Int} (ha : Gd a) (hb : Gd b) (hl : a.length ≤ 4294967296) (hl2 : b.length ≤ 4294967296) :
  ∃ c : Int, Ev (fun k => zJ.f k a b) c ∧ ((c = -1 ∧ vB a < vB b) ∨ (c = 0 ∧ vB a = vB b) ∨ (c = 1 ∧ vB b < vB a)) := by
 by_cases e : a.length = b.length
 ·obtain ⟨c, h1, h2⟩ := Cmp_l0 a b hl a.length a b [] (by simp) (by simp) rfl e.symm ha.1 hb.1
  refine ⟨c, Ev.congr (fun k => ?_) h1, h2⟩
  simp only [zJ.f]
  rw [if_pos (by omega), sP (by omega) (by omega)]
 by_cases c : a.length < b.length
 ·refine ⟨-1, Ev.congr (f := fun _ => some (-1)) (fun k => ?_) (Ev.now _), .inl ⟨rfl, Gd.shorter ha.1 hb c⟩⟩
  simp only [zJ.f]
  rw [if_neg (by omega), if_pos (by omega)]
 ·refine ⟨1, Ev.congr (f := fun _ => some 1) (fun k => ?_) (Ev.now _), .inr (.inr ⟨rfl, Gd.shorter hb.1 ha (by omega)⟩)⟩
  simp only [zJ.f]
  rw [if_neg (by omega), if_neg (by omega)]
theorem two_pos (n : Nat) : (0 : Int) < 2 ^ n := Int.pow_pos (by decide)
theorem two_succ (n : Nat) : (2 : Int) ^ (n + 1) = 2 ^ n * 2 := Int.pow_succ ..
theorem Bits_l0 : ∀ (n : Nat) (x3 x4 : Int), n ≤ 64 → 0 ≤ x3 → x3 + n ≤ 281474976710656 → 0 ≤ x4 → x4 < 2 ^ n →
  ∃ m : Nat, m ≤ n ∧ Ev (fun k => yX.l0 k x3 x4) (x3 + m) ∧ x4 < 2 ^ m ∧ (x4 = 0 → m = 0) ∧ (0 < x4 → 1 ≤ m ∧ 2 ^ (m - 1) ≤ x4) := by
 intro n
 induction n with
 | zero =>
  intro x3 x4 _ h0 h1 h2 h3
  have : x4 = 0 := by have : (2 : Int) ^ 0 = 1 := rfl; omega
  subst this
  refine ⟨0, Nat.le_refl _, Ev.step (f := fun _ => some x3) (fun k => ?_) (by simpa using Ev.now x3), by decide, fun _ => rfl, fun h => absurd h (by decide)⟩
  simp [yX.l0]
 | succ n ih =>
  intro x3 x4 hn h0 h1 h2 h3
  by_cases hz : x4 = 0
  ·subst hz
   refine ⟨0, Nat.zero_le _, Ev.step (f := fun _ => some x3) (fun k => ?_) (by simpa using Ev.now x3), by decide, fun _ => rfl, fun h => absurd h (by decide)⟩
   simp [yX.l0]
  rw [two_succ] at h3
  obtain ⟨m, hm, he, hlt, hz0, hge⟩ := ih (x3 + 1) (x4 / 2) (by omega) (by omega) (by omega) (by omega) (by omega)
  refine ⟨m + 1, by omega, Ev.step (fun k => ?_) (by rw [show x3 + ((m + 1 : Nat) : Int) = x3 + 1 + (m : Int) by omega]; exact he), by rw [two_succ]; omega, fun h => absurd h hz, fun _ => ⟨by omega, ?_⟩⟩
  ·simp only [yX.l0]
   rw [if_pos (by omega), sP (by omega) (by omega)]
  ·rw [Nat.add_sub_cancel]
   by_cases h : 0 < x4 / 2
   ·have h5 := hge h
    obtain ⟨p, rfl⟩ : ∃ p, m = p + 1 := ⟨m - 1, by omega⟩
    rw [Nat.add_sub_cancel] at h5
    rw [two_succ]; omega
   ·obtain rfl := hz0 (by omega)
    have : (2 : Int) ^ 0 = 1 := rfl
    omega
theorem Ev_Bits {l : List Int} (h : Gd l) (hl : l.length ≤ 4294967296) : ∃ m : Nat, m ≤ 32 * l.length ∧ Ev (fun k => yX.f k l) (m : Int) ∧ vB l < 2 ^ m ∧ (l ≠ [] → 1 ≤ m ∧ 2 ^ (m - 1) ≤ vB l) := by
 by_cases hn : l = []
 ·subst hn
  exact ⟨0, Nat.zero_le _, Ev.congr (f := fun _ => some 0) (fun k => by simp [yX.f]) (Ev.now _), by decide, fun h => absurd rfl h⟩
 obtain ⟨a, d, rfl⟩ := pV hn
 obtain ⟨h1, h2, h3⟩ := h.snoc
 have hla : (a ++ [d]).length = a.length + 1 := by simp
 obtain ⟨m, hm, he, hlt, _, hge⟩ := Bits_l0 32 (32 * (a.length : Int)) d (by omega) (by omega) (by omega) (by omega) (by have : (2 : Int) ^ 32 = 4294967296 := rfl; omega)
 obtain ⟨h4, h5⟩ := hge h2
 have e1 : (2 : Int) ^ (32 * a.length + m) = pB a.length * 2 ^ m := by rw [Int.pow_add, ← pB_two]
 have hp := pB_pos a.length
 have hv : vB (a ++ [d]) = vB a + pB a.length * d := by rw [uA, oA]
 have n1 := rU h1
 have n2 := vB_lt h1
 refine ⟨32 * a.length + m, by rw [hla]; omega, Ev.congr (fun k => ?_) (by rw [show ((32 * a.length + m : Nat) : Int) = 32 * (a.length : Int) + (m : Int) by omega]; exact he), ?_, fun _ => ⟨by omega, ?_⟩⟩
 ·simp only [yX.f, hla]
  rw [if_neg (by omega), sP (n := ((a.length + 1 : Nat) : Int) - 1) (by omega) (by omega), show ((a.length + 1 : Nat) : Int) - 1 = (a.length : Int) by omega, if_pos (by omega), if_pos (by omega), rd_last, sP (by omega) (by omega)]
 ·rw [e1, hv]
  have := Int.mul_le_mul_of_nonneg_left (show d + 1 ≤ 2 ^ m by omega) (show 0 ≤ pB a.length by omega)
  rw [Int.mul_add, Int.mul_one] at this
  omega
 ·rw [hv, show 32 * a.length + m - 1 = 32 * a.length + (m - 1) by omega, Int.pow_add, ← pB_two]
  have := Int.mul_le_mul_of_nonneg_left h5 (show 0 ≤ pB a.length by omega)
  omega
theorem or_small {c d : Int} {s : Nat} (hs : s < 32) (c0 : 0 ≤ c) (c1 : c < 2 ^ s) (d0 : 0 ≤ d) (d1 : d < 4294967296) :
  Go.bits .or .u64 c (shl .u64 (IntKind.u64.wrap d) (s : Int)) = c + d * 2 ^ s ∧ c + d * 2 ^ s < 2 ^ s * 4294967296 := by
 have hp := two_pos s
 have h1 : d * 2 ^ s + 2 ^ s ≤ 2 ^ s * 4294967296 := by
  have := Int.mul_le_mul_of_nonneg_left (show d + 1 ≤ 4294967296 by omega) (show (0 : Int) ≤ 2 ^ s by omega)
  rw [Int.mul_add, Int.mul_one, Int.mul_comm] at this
  omega
 have h2 : (2 : Int) ^ s * 4294967296 ≤ 18446744073709551616 := by
  have h3 : (2 : Int) ^ s ≤ 2 ^ 32 := by
   obtain ⟨e, he⟩ := Nat.le.dest (show s ≤ 32 by omega)
   rw [← he, Int.pow_add]
   exact mul_ge hp (by have := two_pos e; omega)
  have : (2 : Int) ^ 32 = 4294967296 := rfl
  omega
 have h0 : 0 ≤ d * 2 ^ s := Int.mul_nonneg d0 (by omega)
 refine ⟨?_, by omega⟩
 have e1 : shl .u64 (IntKind.u64.wrap d) (s : Int) = d * 2 ^ s := by
  unfold shl
  rw [IntKind.wrap_u64, IntKind.wrap_u64, Int.toNat_natCast, Nat.min_eq_left (by show s ≤ 64; omega), Int.emod_eq_of_lt (a := d) d0 (by omega), Int.emod_eq_of_lt h0 (by omega)]
 rw [e1, u64_or _ _ c0 (by omega) h0 (by omega)]
 have e2 : (d * 2 ^ s).toNat = d.toNat <<< s := by
  obtain ⟨D, rfl⟩ := Int.eq_ofNat_of_zero_le d0
  rw [Int.toNat_natCast, Nat.shiftLeft_eq, show (D : Int) * 2 ^ s = ((D * 2 ^ s : Nat) : Int) by push_cast; rfl, Int.toNat_natCast]
 have hc : c.toNat < 2 ^ s := by
  have : ((2 ^ s : Nat) : Int) = 2 ^ s := by push_cast; rfl
  omega
 rw [e2, Nat.or_comm, ← Nat.shiftLeft_add_eq_or_of_lt hc]
 have : ((d.toNat <<< s : Nat) : Int) = d * 2 ^ s := by rw [← e2]; omega
 omega
theorem Left_l0 (a : List Int) (n q s : Nat) (hn : n = 32 * q + s) (hs : s < 32) (hn2 : n ≤ 1073741824) (ha : Dg a) (hl : a.length ≤ 1073741824) : ∀ (e i : Nat) (out : List Int) (c : Int), i + e = a.length → out.length = q + i → Dg out → 0 ≤ c → c < 2 ^ s → vB out + pB out.length * c = 2 ^ n * vB (a.take i) →
  ∃ r, Ev (fun k => zB.l0 k (n : Int) out c a (a.length : Int) (i : Int)) r ∧ Gd r ∧ vB r = 2 ^ n * vB a ∧ r.length ≤ q + a.length + 1 := by
 intro e
 have hp := two_pos s
 have h3 : (2 : Int) ^ s ≤ 2147483648 := by
  obtain ⟨e, he⟩ := Nat.le.dest (show s ≤ 31 by omega)
  have : (2 : Int) ^ 31 = 2147483648 := rfl
  rw [← this, ← he, Int.pow_add]
  exact mul_ge hp (by have := two_pos e; omega)
 induction e with
 | zero =>
  intro i out c hi ho hd c0 c1 hv
  obtain rfl : i = a.length := by omega
  rw [List.take_length] at hv
  obtain ⟨r, h1, h2, h4, h5⟩ := Ev_trim (l := out ++ [c % 4294967296]) (by simp; omega) (hd.app (Dg.one (by omega) (by omega)))
  refine ⟨r, Ev.step (fun k => ?_) (Ev.bind h1 (Ev.now _)), h2, ?_, by simp at h5; omega⟩
  ·simp only [zB.l0]
   rw [if_neg (by omega), if_pos (by omega)]
  ·rw [h4, uA, oA, ← hv, Int.emod_eq_of_lt c0 (by omega)]
 | succ e ih =>
  intro i out c hi ho hd c0 c1 hv
  have hil : i < a.length := by omega
  generalize hdv : rd a (i : Int) = d
  have hdg : d = a[i] := by rw [← hdv]; simp [rd, List.getD_eq_getElem?_getD, List.getElem?_eq_getElem hil]
  have hdr := ha d (by rw [hdg]; exact List.getElem_mem _)
  obtain ⟨ho1, ho2⟩ := or_small hs c0 c1 hdr.1 hdr.2
  have h0 : 0 ≤ d * 2 ^ s := Int.mul_nonneg hdr.1 (by omega)
  have et : a.take (i + 1) = a.take i ++ [d] := by rw [List.take_succ_eq_append_getElem hil, hdg]
  have htl : (a.take i).length = i := by simp; omega
  obtain ⟨r, h1, h2, h4, h5⟩ := ih (i + 1) (out ++ [(c + d * 2 ^ s) % 4294967296]) ((c + d * 2 ^ s) / 4294967296) (by omega) (by simp; omega) (hd.app (Dg.one (by omega) (by omega))) (by omega) (by omega) (by
   rw [et, uA, uA, oA, oA, htl, List.length_append, List.length_singleton, pB_succ, Int.mul_add (2 ^ n), ← hv, Int.add_assoc, Int.mul_assoc, ← Int.mul_add, Int.add_comm ((c + d * 2 ^ s) % 4294967296), Int.mul_ediv_add_emod, ho, Int.add_assoc, Int.mul_add (pB (q + i)), ← ho]
   congr 2
   rw [ho, pB_add, pB_two q, hn, Int.pow_add]
   simp only [Int.mul_assoc, Int.mul_comm, Int.mul_left_comm])
  refine ⟨r, Ev.step (fun k => ?_) h1, h2, h4, h5⟩
  have em : IntKind.u64.wrap (Int.tmod (n : Int) 32) = (s : Int) := by rw [IntKind.wrap_u64, Int.tmod_eq_emod_of_nonneg (by omega)]; omega
  simp only [zB.l0]
  rw [em, hdv, ho1, if_pos (by omega), if_pos (by omega), if_pos (by omega), if_pos (by omega), if_pos (by omega), sP (by omega) (by omega), show (i : Int) + 1 = ((i + 1 : Nat) : Int) by omega]
theorem Ev_Left {a : List Int} (n : Nat) (hn : n ≤ 1073741824) (ha : Gd a) (hl : a.length ≤ 1073741824) : ∃ r, Ev (fun k => zB.f k a (n : Int)) r ∧ Gd r ∧ vB r = 2 ^ n * vB a ∧ r.length ≤ n / 32 + a.length + 1 := by
 by_cases e : a = []
 ·subst e
  exact ⟨[], Ev.congr (f := fun _ => some []) (fun k => by simp [zB.f]) (Ev.now _), Gd.nil, by simp [vB], Nat.zero_le _⟩
 have hpos : 0 < a.length := List.length_pos_iff.2 e
 obtain ⟨r, h1, h2, h3, h4⟩ := Left_l0 a n (n / 32) (n % 32) (by omega) (by omega) hn ha.1 hl a.length 0 (List.replicate (n / 32) 0) 0 (by omega) (by simp) (Dg.zeros _) (Int.le_refl _) (two_pos _) (by rw [vB_zeros, List.take_zero]; simp [vB])
 refine ⟨r, Ev.congr (fun k => ?_) h1, h2, h3, h4⟩
 have et : wrap64 (Int.tdiv (n : Int) 32) = ((n / 32 : Nat) : Int) := by rw [Int.tdiv_eq_ediv_of_nonneg (by omega), sP (by omega) (by omega)]; omega
 simp only [zB.f, et, Int.toNat_natCast]
 rw [if_neg (by omega), if_pos (by omega), if_pos (by omega)]
 rfl
theorem Less_l0 (a b : List Int) (ha : Dg a) (hb : Dg b) (hl : a.length ≤ 1073741824) (hbl : b.length ≤ a.length) (hle : vB b ≤ vB a) : ∀ (e i : Nat) (out : List Int) (x6 : Int), i + e = a.length → out.length = i → Dg out → (x6 = 0 ∨ x6 = 1) → vB out = vB (a.take i) - vB (b.take i) + pB i * x6 →
  ∃ r, Ev (fun k => zH.l0 k a b out x6 (i : Int)) r ∧ Gd r ∧ vB r = vB a - vB b ∧ r.length ≤ a.length := by
 intro e
 induction e with
 | zero =>
  intro i out x6 hi ho hd hx hv
  obtain rfl : i = a.length := by omega
  rw [List.take_length, List.take_of_length_le hbl] at hv
  have h5 := vB_lt hd
  rw [ho] at h5
  obtain rfl : x6 = 0 := by
   rcases hx with h | h
   ·exact h
   ·subst h; omega
  obtain ⟨r, h1, h2, h3, h4⟩ := Ev_trim (l := out) (by omega) hd
  refine ⟨r, Ev.step (fun k => ?_) (Ev.bind h1 (Ev.now _)), h2, by rw [h3, hv]; omega, by omega⟩
  simp only [zH.l0]
  rw [if_neg (by omega)]
 | succ e ih =>
  intro i out x6 hi ho hd hx hv
  have hil : i < a.length := by omega
  generalize hdv : rd a (i : Int) = d
  have hdg : d = a[i] := by rw [← hdv]; simp [rd, List.getD_eq_getElem?_getD, List.getElem?_eq_getElem hil]
  have hdr := ha d (by rw [hdg]; exact List.getElem_mem _)
  have et : a.take (i + 1) = a.take i ++ [d] := by rw [List.take_succ_eq_append_getElem hil, hdg]
  have htl : (a.take i).length = i := by simp; omega
  -- the digit of b, or none
  obtain ⟨y, hy0, hy1, hyv, hyr⟩ : ∃ y : Int, 0 ≤ y ∧ y < 4294967296 ∧ vB (b.take (i + 1)) = vB (b.take i) + pB i * y ∧ ((i < b.length ∧ rd b (i : Int) = y) ∨ (b.length ≤ i ∧ y = 0)) := by
   by_cases hib : i < b.length
   ·have hg : rd b (i : Int) = b[i] := by simp [rd, List.getD_eq_getElem?_getD, List.getElem?_eq_getElem hib]
    have hr := hb (rd b (i : Int)) (by rw [hg]; exact List.getElem_mem _)
    refine ⟨rd b (i : Int), hr.1, hr.2, ?_, .inl ⟨hib, rfl⟩⟩
    rw [List.take_succ_eq_append_getElem hib, uA, oA, hg, show (b.take i).length = i by simp; omega]
   ·exact ⟨0, Int.le_refl _, by omega, by rw [List.take_of_length_le (by omega), List.take_of_length_le (by omega), Int.mul_zero, Int.add_zero], .inr ⟨by omega, rfl⟩⟩
  have hx0 : 0 ≤ x6 ∧ x6 ≤ 1 := by omega
  have hmid : ∀ (z x6' : Int), 0 ≤ z → z < 4294967296 → z = d - x6 - y + 4294967296 * x6' → (x6' = 0 ∨ x6' = 1) →
    ∃ r, Ev (fun k => zH.l0 k a b (out ++ [z]) x6' ((i + 1 : Nat) : Int)) r ∧ Gd r ∧ vB r = vB a - vB b ∧ r.length ≤ a.length := fun z x6' z0 z1 hz hx' =>
   ih (i + 1) (out ++ [z]) x6' (by omega) (by simp; omega) (hd.app (Dg.one z0 z1)) hx' (by
    rw [et, uA, uA, oA, oA, htl, ho, hyv, hv, hz, pB_succ]
    simp only [Int.mul_add, Int.mul_sub, Int.mul_assoc]
    omega)
  by_cases hneg : d - x6 - y < 0
  ·obtain ⟨r, h1, h2, h3, h4⟩ := hmid (d - x6 - y + 4294967296) 1 (by omega) (by omega) (by omega) (.inr rfl)
   refine ⟨r, Ev.step (fun k => ?_) h1, h2, h3, h4⟩
   simp only [zH.l0]
   rw [hdv, if_pos (by omega), if_pos (by omega), sP (n := d) (by omega) (by omega), sP (n := d - x6) (by omega) (by omega), sP (n := (i : Int) + 1) (by omega) (by omega), show (i : Int) + 1 = ((i + 1 : Nat) : Int) by omega]
   rcases hyr with ⟨h5, h6⟩ | ⟨h5, h6⟩
   ·rw [if_pos (by omega), h6, sP (n := y) (by omega) (by omega), sP (n := d - x6 - y) (by omega) (by omega), if_pos hneg, if_pos (by omega), sP (by omega) (by omega), Int.emod_eq_of_lt (by omega) (by omega)]
   ·subst h6
    rw [Int.sub_zero] at hneg ⊢
    rw [if_neg (by omega), if_pos hneg, if_pos (by omega), sP (by omega) (by omega), Int.emod_eq_of_lt (by omega) (by omega)]
  ·obtain ⟨r, h1, h2, h3, h4⟩ := hmid (d - x6 - y) 0 (by omega) (by omega) (by omega) (.inl rfl)
   refine ⟨r, Ev.step (fun k => ?_) h1, h2, h3, h4⟩
   simp only [zH.l0]
   rw [hdv, if_pos (by omega), if_pos (by omega), sP (n := d) (by omega) (by omega), sP (n := d - x6) (by omega) (by omega), sP (n := (i : Int) + 1) (by omega) (by omega), show (i : Int) + 1 = ((i + 1 : Nat) : Int) by omega]
   rcases hyr with ⟨h5, h6⟩ | ⟨h5, h6⟩
   ·rw [if_pos (by omega), h6, sP (n := y) (by omega) (by omega), sP (n := d - x6 - y) (by omega) (by omega), if_neg hneg, if_pos (by omega), Int.emod_eq_of_lt (by omega) (by omega)]
   ·subst h6
    rw [Int.sub_zero] at hneg ⊢
    rw [if_neg (by omega), if_neg hneg, if_pos (by omega), Int.emod_eq_of_lt (by omega) (by omega)]
theorem Gd.len_le {a b : List Int} (ha : Dg a) (hb : Gd b) (h : vB b ≤ vB a) : b.length ≤ a.length := Classical.byContradiction fun e => by have := hb.shorter ha (a := a) (by omega); omega
theorem Ev_Less {a b : List Int} (ha : Gd a) (hb : Gd b) (hl : a.length ≤ 1073741824) (hle : vB b ≤ vB a) : ∃ r, Ev (fun k => zH.f k a b) r ∧ Gd r ∧ vB r = vB a - vB b ∧ r.length ≤ a.length :=
 Less_l0 a b ha.1 hb.1 hl (Gd.len_le ha.1 hb hle) hle a.length 0 [] 0 (by omega) rfl Dg.nil (.inl rfl) (by simp [vB])
theorem emod_sub_mul (a b : Int) (k : Int) : (a - k * b) % b = a % b := by rw [Int.sub_eq_add_neg, ← Int.neg_mul, Int.add_mul_emod_self_right]
theorem rest_l0 (b : List Int) (hb : Gd b) (hbp : 0 < vB b) (hbl : b.length ≤ 33554432) : ∀ (j : Nat) (a : List Int), j ≤ 1073741823 → Gd a → a.length ≤ 33554432 → vB a < 2 ^ j * vB b → ∃ r, Ev (fun k => zL.l0 k a b ((j : Int) - 1)) r ∧ Gd r ∧ vB r = vB a % vB b ∧ r.length ≤ a.length := by
 intro j
 induction j with
 | zero =>
  intro a _ ha hal hlt
  have e1 : (2 : Int) ^ 0 = 1 := rfl
  rw [e1, Int.one_mul] at hlt
  refine ⟨a, Ev.step (f := fun _ => some a) (fun k => ?_) (Ev.now _), ha, by rw [Int.emod_eq_of_lt (rU ha.1) hlt], Nat.le_refl _⟩
  simp [zL.l0]
 | succ j ih =>
  intro a hj ha hal hlt
  obtain ⟨d, d1, d2, d3, d4⟩ := Ev_Left j (by omega) hb (by omega)
  obtain ⟨c, c1, c2⟩ := Ev_Cmp d2 ha (by omega) (by omega)
  have eS : ((j + 1 : Nat) : Int) - 1 = (j : Int) := by omega
  rw [two_succ] at hlt
  have hlt2 : vB a < 2 * (2 ^ j * vB b) := by rw [Int.mul_comm (2 ^ j) 2, Int.mul_assoc] at hlt; exact hlt
  by_cases hc : c ≤ 0
  ·obtain ⟨a2, e1, e2, e3, e4⟩ := Ev_Less ha d2 (by omega) (by omega)
   obtain ⟨r, r1, r2, r3, r4⟩ := ih a2 (by omega) e2 (by omega) (by rw [e3, d3]; omega)
   refine ⟨r, Ev.step (f := fun k => (zB.f k b (j : Int)).bind fun t296 => ((zJ.f k t296 a).bind fun t299 => (if t299 ≤ 0 then ((zH.f k a t296).bind fun t300 => (zL.l0 k t300 b ((j : Int) - 1))) else (zL.l0 k a b ((j : Int) - 1))))) (fun k => ?_) (Ev.bind d1 (Ev.bind c1 ?_)), r2, by rw [r3, e3, d3, emod_sub_mul], by omega⟩
   ·simp only [zL.l0]
    rw [eS, if_pos (by omega), sP (by omega) (by omega)]
   ·refine Ev.congr (fun k => ?_) (Ev.bind (f := fun k t300 => zL.l0 k t300 b ((j : Int) - 1)) e1 r1)
    rw [if_pos hc]
  ·obtain ⟨r, r1, r2, r3, r4⟩ := ih a (by omega) ha hal (by omega)
   refine ⟨r, Ev.step (f := fun k => (zB.f k b (j : Int)).bind fun t296 => ((zJ.f k t296 a).bind fun t299 => (if t299 ≤ 0 then ((zH.f k a t296).bind fun t300 => (zL.l0 k t300 b ((j : Int) - 1))) else (zL.l0 k a b ((j : Int) - 1))))) (fun k => ?_) (Ev.bind d1 (Ev.bind c1 ?_)), r2, r3, r4⟩
   ·simp only [zL.l0]
    rw [eS, if_pos (by omega), sP (by omega) (by omega)]
   ·refine Ev.congr (fun k => ?_) r1
    rw [if_neg hc]
theorem Ev_rest {a b : List Int} (ha : Gd a) (hb : Gd b) (hal : a.length ≤ 33554431) (hbl : b.length ≤ 33554431) (hbp : 0 < vB b) : ∃ r, Ev (fun k => zL.f k a b) r ∧ Gd r ∧ vB r = vB a % vB b ∧ r.length ≤ a.length := by
 obtain ⟨m, m1, m2, m3, m4⟩ := Ev_Bits ha (by omega)
 obtain ⟨n, n1, n2, n3, n4⟩ := Ev_Bits hb (by omega)
 obtain ⟨n5, n6⟩ := n4 (by intro e; subst e; simp [vB] at hbp)
 by_cases h : n ≤ m
 ·obtain ⟨r, r1, r2, r3, r4⟩ := rest_l0 b hb hbp (by omega) (m - n + 1) a (by omega) ha (by omega) (by
   have h1 : (2 : Int) ^ m = 2 ^ (m - n + 1) * 2 ^ (n - 1) := by rw [← Int.pow_add]; congr 1; omega
   have h2 := Int.mul_le_mul_of_nonneg_left n6 (show (0 : Int) ≤ 2 ^ (m - n + 1) by have := two_pos (m - n + 1); omega)
   omega)
  refine ⟨r, Ev.bind m2 (Ev.bind n2 (Ev.congr (fun k => ?_) r1)), r2, r3, r4⟩
  rw [sP (by omega) (by omega), show (m : Int) - (n : Int) = ((m - n + 1 : Nat) : Int) - 1 by omega]
 ·have h1 : vB a < vB b := by
   obtain ⟨d, hd⟩ := Nat.le.dest (show m ≤ n - 1 by omega)
   have h2 : (2 : Int) ^ m ≤ 2 ^ (n - 1) := by rw [← hd, Int.pow_add]; exact mul_ge (two_pos m) (by have := two_pos d; omega)
   omega
  refine ⟨a, Ev.bind m2 (Ev.bind n2 (Ev.step (f := fun _ => some a) (fun k => ?_) (Ev.now _))), ha, by rw [Int.emod_eq_of_lt (rU ha.1) h1], Nat.le_refl _⟩
  simp only [zL.l0]
  rw [sP (by omega) (by omega), if_neg (by omega)]
theorem gcd_step {a b : Int} (ha : 0 ≤ a) (hb : 0 < b) : Nat.gcd b.toNat (a % b).toNat = Nat.gcd a.toNat b.toNat := by
 rw [Int.toNat_emod ha (by omega), Nat.gcd_comm b.toNat, ← Nat.gcd_rec, Nat.gcd_comm]
theorem common_l0 : ∀ (n : Nat) (a b : List Int), (vB b).toNat ≤ n → Gd a → Gd b → a.length ≤ 33554431 → b.length ≤ 33554431 → ∃ r, Ev (fun k => yW.l0 k a b) r ∧ Gd r ∧ vB r = (Nat.gcd (vB a).toNat (vB b).toNat : Nat) ∧ r.length ≤ 33554431 := by
 intro n
 induction n using Nat.strongRecOn with
 | ind n ih =>
  intro a b hn ha hb hal hbl
  by_cases e : b = []
  ·subst e
   refine ⟨a, Ev.step (f := fun _ => some a) (fun k => ?_) (Ev.now _), ha, ?_, hal⟩
   ·simp [yW.l0]
   ·have := rU ha.1
    simp only [vB]
    rw [show (0 : Int).toNat = 0 from rfl, Nat.gcd_zero_right]
    omega
  ·have hp := hb.pos e
   have hpos : 0 < b.length := List.length_pos_iff.2 e
   obtain ⟨t, t1, t2, t3, t4⟩ := Ev_rest ha hb hal hbl hp
   have hm := Int.emod_lt_of_pos (vB a) hp
   have hm0 := Int.emod_nonneg (vB a) (b := vB b) (by omega)
   obtain ⟨r, r1, r2, r3, r4⟩ := ih (vB t).toNat (by omega) b t (Nat.le_refl _) hb t2 hbl (by omega)
   refine ⟨r, Ev.step (fun k => ?_) (Ev.bind t1 r1), r2, ?_, r4⟩
   ·simp only [yW.l0]
    rw [if_pos (by omega)]
   ·rw [r3, t3, gcd_step (rU ha.1) hp]
theorem Ev_common {a b : List Int} (ha : Gd a) (hb : Gd b) (hal : a.length ≤ 33554431) (hbl : b.length ≤ 33554431) : ∃ r, Ev (fun k => yW.f k a b) r ∧ Gd r ∧ vB r = (Nat.gcd (vB a).toNat (vB b).toNat : Nat) ∧ r.length ≤ 33554431 := common_l0 _ a b (Nat.le_refl _) ha hb hal hbl
def zE (n d : Int) : Bool := decide (1 ≤ d ∧ -9223372036854775808 < n ∧ Nat.gcd n.natAbs d.natAbs = 1)
def I64 (n : Int) : Prop := -9223372036854775808 ≤ n ∧ n ≤ 9223372036854775807
theorem absW {n : Int} (h : I64 n) : (if n < 0 then IntKind.u64.wrap (-(IntKind.u64.wrap n)) else IntKind.u64.wrap n) = (n.natAbs : Int) := by
 have := h.1
 have := h.2
 rw [IntKind.wrap_u64, IntKind.wrap_u64]
 split <;> omega
theorem Ev_bigsize {n : Int} (h : I64 n) : ∃ r, Ev (fun k => xS.f k n) r ∧ Gd r ∧ vB r = (n.natAbs : Int) ∧ r.length ≤ 2 := by
 have h1 := h.1
 have h2 := h.2
 obtain ⟨r, r1, r2, r3, r4⟩ := Ev_Of (n := (n.natAbs : Int)) (by omega) (by omega)
 refine ⟨r, Ev.congr (fun k => ?_) (Ev.bind r1 (Ev.now _)), r2, r3, r4⟩
 have := absW h
 simp only [xS.f]
 split
 ·rename_i c; rw [if_pos c] at this; rw [this]
 ·rename_i c; rw [if_neg c] at this; rw [this]
theorem Ev_refRight {n d : Int} (hn : I64 n) (hd : I64 d) : Ev (fun k => yT.f k n d) (zE n d) := by
 unfold zE
 by_cases c1 : 1 ≤ d
 ·by_cases c2 : n = -9223372036854775808
  ·refine Ev.congr (f := fun _ => some false) (fun k => by simp [yT.f, c1, c2]) ?_
   rw [decide_eq_false (by omega)]
   exact Ev.now _
  ·obtain ⟨x, x1, x2, x3, x4⟩ := Ev_bigsize hn
   obtain ⟨y, y1, y2, y3, y4⟩ := Ev_bigsize hd
   obtain ⟨g, g1, g2, g3, g4⟩ := Ev_common x2 y2 (by omega) (by omega)
   obtain ⟨o, o1, o2, o3, o4⟩ := Ev_Of (n := 1) (by omega) (by omega)
   obtain ⟨c, d1, d2⟩ := Ev_Cmp g2 o2 (by omega) (by omega)
   have ho : Ev (fun k => wQ.f k) o := Ev.bind o1 (Ev.now _)
   refine Ev.congr (f := fun k => (xS.f k n).bind fun t322 => ((xS.f k d).bind fun t325 => ((yW.f k t322 t325).bind fun t328 => ((wQ.f k).bind fun t331 => ((zJ.f k t328 t331).bind fun t334 => (some (t334 == 0))))))) (fun k => ?_) ?_
   ·simp only [yT.f]
    rw [if_pos (by omega), if_neg c2]
   have e : (c == 0) = decide (1 ≤ d ∧ -9223372036854775808 < n ∧ Nat.gcd n.natAbs d.natAbs = 1) := by
    rw [g3, o3, x3, y3, Int.toNat_natCast, Int.toNat_natCast] at d2
    have := hn.1
    rw [Bool.eq_iff_iff, beq_iff_eq, decide_eq_true_iff]
    omega
   rw [← e]
   exact Ev.bind x1 (Ev.bind y1 (Ev.bind g1 (Ev.bind ho (Ev.bind d1 (Ev.now _)))))
 ·refine Ev.congr (f := fun _ => some false) (fun k => ?_) ?_
  ·simp only [yT.f]
   rw [if_neg (by omega)]
  rw [decide_eq_false (by omega)]
  exact Ev.now _
theorem gcd_l0 : ∀ (n : Nat) (a b : Int), b.toNat ≤ n → 0 ≤ a → 0 ≤ b → Ev (fun k => yV.l0 k a b) ((Nat.gcd a.toNat b.toNat : Nat) : Int) := by
 intro n
 induction n using Nat.strongRecOn with
 | ind n ih =>
  intro a b hn ha hb
  by_cases e : b = 0
  ·subst e
   refine Ev.step (f := fun _ => some a) (fun k => ?_) ?_
   ·simp [yV.l0]
   ·rw [show (0 : Int).toNat = 0 from rfl, Nat.gcd_zero_right, Int.toNat_of_nonneg ha]
    exact Ev.now _
  ·have hp : 0 < b := by omega
   have hm := Int.emod_lt_of_pos a hp
   have hm0 := Int.emod_nonneg a (b := b) (by omega)
   have h1 := ih (a % b).toNat (by omega) b (a % b) (Nat.le_refl _) hb hm0
   rw [gcd_step ha hp] at h1
   refine Ev.step (fun k => ?_) h1
   simp only [yV.l0]
   rw [if_pos (by omega), if_neg e, Int.tmod_eq_emod_of_nonneg ha]
theorem Ev_gcd {a b : Int} (ha : 0 ≤ a) (hb : 0 ≤ b) : Ev (fun k => yV.f k a b) ((Nat.gcd a.toNat b.toNat : Nat) : Int) := gcd_l0 _ a b (Nat.le_refl _) ha hb
theorem rE {n : Int} (h : I64 n) : zR.f n = some (n.natAbs : Int) := by
 have := absW h
 unfold zR.f
 split
 ·rename_i c; rw [if_pos c] at this; rw [this]
 ·rename_i c; rw [if_neg c] at this; rw [this]
theorem uY {n d : Int} (hn : I64 n) (hd : I64 d) : Ev (fun k => zM.f k n d) (zE n d) := by
 unfold zE
 have := hn.1
 by_cases c1 : 1 ≤ d
 ·by_cases c2 : n > -9223372036854775808
  ·have hg := Ev_gcd (a := (n.natAbs : Int)) (b := (d.natAbs : Int)) (by omega) (by omega)
   rw [Int.toNat_natCast, Int.toNat_natCast] at hg
   refine Ev.congr (f := fun k => (yV.f k (n.natAbs : Int) (d.natAbs : Int)).bind fun t104 => (some (t104 == 1))) (fun k => ?_) ?_
   ·simp only [zM.f]
    rw [if_pos (by omega), if_pos c2, rE hn, rE hd]
    rfl
   have e : (((Nat.gcd n.natAbs d.natAbs : Nat) : Int) == 1) = decide (1 ≤ d ∧ -9223372036854775808 < n ∧ Nat.gcd n.natAbs d.natAbs = 1) := by
    rw [Bool.eq_iff_iff, beq_iff_eq, decide_eq_true_iff]
    omega
   rw [← e]
   exact Ev.bind hg (Ev.now _)
  ·refine Ev.congr (f := fun _ => some false) (fun k => ?_) ?_
   ·simp only [zM.f]
    rw [if_pos (by omega), if_neg c2]
   rw [decide_eq_false (by omega)]
   exact Ev.now _
 ·refine Ev.congr (f := fun _ => some false) (fun k => ?_) ?_
  ·simp only [zM.f]
   rw [if_neg (by omega)]
  rw [decide_eq_false (by omega)]
  exact Ev.now _
end Go.Proofs.Ytoonahobmlnflaa.PC
namespace Go.Proofs.Ytoonahobmlnflaa.PC
open Go.RowKit A B C
attribute [local go_sem] xJ xL wY wZ xU xV xK xM
mutual
def zD.j0 : Nat → Int → Bool → Option (Int)
 | 0, _, _ => none
 | k + 1, x0, x12 => if x12 = true then (some 0) else (if x0 ≥ 3 then (zD.j1 k x0 (decide (x0 ≤ 6))) else (zD.j1 k x0 false))
def zD.j1 : Nat → Int → Bool → Option (Int)
 | 0, _, _ => none
 | k + 1, x0, x18 => if x18 = true then (some 2) else (if x0 ≥ 7 then (if x0 ≤ 14 then (some 1) else (some (-1))) else (some (-1)))
end
def zD.f (k : Nat) (a0 : Int) : Option (Int) := if a0 = 1 then (zD.j0 k a0 true) else (if a0 = 2 then (zD.j0 k a0 true) else (zD.j0 k a0 (a0 == 15)))
theorem zD.calls (k : Nat) (a0 : Int) (r : Int) (w : World) (h : zD.f k a0 = some r) :
    Calls Try.prog 24 #[.int .i64 a0] w fun e w' => e = .returned (.int .i64 r) ∧ zP w w' := by
 have H := h
 unfold zD.f at H
 clear h
 have HC2 := aq H
 clear H
 go_enter Try.func24, Try.ntmps24
 go_upto_region 1 with (fail)
 go_cut [12] (fun v12 wc => ∃ (kq : Nat) (x12_1 : Bool), v12 = .bool x12_1 ∧ zV (zD.j0 kq a0 x12_1 = some r) ∧ zV (kq ≤ k) ∧ zP w wc)
 case first =>
  have H := HC2.out
  clear HC2
  by_cases c3 : a0 = 1
  case pos =>
   rw [if_pos c3] at H
   have c3b0 : (a0 == 1) = true := beq_iff_eq.mpr c3
   have c3b1 : (a0 != 1) = false := bne_eq_false_iff_eq.mpr c3
   clear c3
   (first | rw [c3b0] | (simp only [iw, jw]; rw [c3b0]) | skip)
   have H' := aq H
   clear H
   go_wp2
   go_meet
   case rel => exact ⟨_, (true), (by first | rfl | (simp; done) | (simp [*]; done)), H', ⟨by first | omega | exact Nat.le_refl _⟩, by repeat (first | exact zP.refl _ | apply zP.step)⟩
  rw [if_neg c3] at H
  have c3b0 : (a0 == 1) = false := beq_eq_false_iff_ne.mpr c3
  have c3b1 : (a0 != 1) = true := bne_iff_ne.mpr c3
  (first | rw [c3b0] | (simp only [iw, jw]; rw [c3b0]) | skip)
  by_cases c4 : a0 = 2
  case neg =>
   rw [if_neg c4] at H
   have c4b0 : (a0 == 2) = false := beq_eq_false_iff_ne.mpr c4
   have c4b1 : (a0 != 2) = true := bne_iff_ne.mpr c4
   have H' := aq H
   clear H
   go_wp2
   go_meet
   case rel => exact ⟨_, ((a0 == 15)), (by first | rfl | (simp; done) | (simp [*]; done)), H', ⟨by first | omega | exact Nat.le_refl _⟩, by repeat (first | exact zP.refl _ | apply zP.step)⟩
  rw [if_pos c4] at H
  have c4b0 : (a0 == 2) = true := beq_iff_eq.mpr c4
  have c4b1 : (a0 != 2) = false := bne_eq_false_iff_eq.mpr c4
  clear c4
  have H' := aq H
  clear H
  go_wp2
  go_meet
  case rel => exact ⟨_, (true), (by first | rfl | (simp; done) | (simp [*]; done)), H', ⟨by first | omega | exact Nat.le_refl _⟩, by repeat (first | exact zP.refl _ | apply zP.step)⟩
 case rest =>
  clear HC2
  try clear c2
  try clear p2
  try clear c3
  try clear c3b0
  try clear c3b1
  try clear c4
  try clear c4b0
  try clear c4b1
  obtain ⟨kq, x12_1, rfl, HA, HJ1, ⟨mc1, rfl⟩⟩ := hcut
  cases kq with
  | zero => exact absurd HA.out (by simp [zD.j0])
  | succ kj1 =>
   have H := HA.out
   clear HA
   simp only [zD.j0] at H
   by_cases c5 : x12_1 = true
   case pos =>
    subst c5
    have H1 : (some 0) = some r := by rw [if_pos rfl] at H; exact H
    clear H
    have H := H1
    clear H1
    obtain rfl := Option.some.inj H
    go_wp2
    go_ret
    exact ⟨by first | rfl | (simp; done) | (simp [*]; done), by repeat (first | exact zP.refl _ | apply zP.step)⟩
   replace c5 := Bool.eq_false_iff.mpr c5
   subst c5
   have H1 : (if a0 ≥ 3 then (zD.j1 kj1 a0 (decide (a0 ≤ 6))) else (zD.j1 kj1 a0 false)) = some r := by rw [if_neg (show ¬ (false = true) by decide)] at H; exact H
   clear H
   have H := H1
   clear H1
   have HC6 := aq H
   clear H
   go_upto_region 3 with (fail)
   go_cut [18] (fun v18 wc => ∃ (kq : Nat) (x18_5 : Bool), v18 = .bool x18_5 ∧ zV (zD.j1 kq a0 x18_5 = some r) ∧ zV (kq ≤ kj1) ∧ zP w wc)
   case first =>
    have H := HC6.out
    clear HC6
    by_cases c7 : a0 ≥ 3
    case neg =>
     rw [if_neg c7] at H
     have c7b0 : decide (3 ≤ a0) = false := decide_eq_false c7
     clear c7
     (first | rw [c7b0] | (simp only [iw, jw]; rw [c7b0]) | skip)
     have H' := aq H
     clear H
     go_wp2
     go_meet
     case rel => exact ⟨_, (false), (by first | rfl | (simp; done) | (simp [*]; done)), H', ⟨by have := HJ1.out; first | omega | exact Nat.le_refl _⟩, by repeat (first | exact zP.refl _ | apply zP.step)⟩
    rw [if_pos c7] at H
    have c7b0 : decide (3 ≤ a0) = true := decide_eq_true c7
    clear c7
    (first | rw [c7b0] | (simp only [iw, jw]; rw [c7b0]) | skip)
    have H' := aq H
    clear H
    go_wp2
    go_meet
    case rel => exact ⟨_, (decide (a0 ≤ 6)), (by first | rfl | (simp; done) | (simp [*]; done)), H', ⟨by have := HJ1.out; first | omega | exact Nat.le_refl _⟩, by repeat (first | exact zP.refl _ | apply zP.step)⟩
   case rest =>
    clear HC6
    try clear c1
    try clear c2
    try clear p2
    try clear c3
    try clear c3b0
    try clear c3b1
    try clear c4
    try clear c4b0
    try clear c4b1
    try clear c5
    try clear c7
    try clear c7b0
    try clear p2
    obtain ⟨kq, x18_5, rfl, HA, HJ5, ⟨mc5, rfl⟩⟩ := hcut
    cases kq with
    | zero => exact absurd HA.out (by simp [zD.j1])
    | succ kj5 =>
     have H := HA.out
     clear HA
     simp only [zD.j1] at H
     by_cases c8 : x18_5 = true
     case pos =>
      subst c8
      have H1 : (some 2) = some r := by rw [if_pos rfl] at H; exact H
      clear H
      have H := H1
      clear H1
      obtain rfl := Option.some.inj H
      go_wp2
      go_ret
      exact ⟨by first | rfl | (simp; done) | (simp [*]; done), by repeat (first | exact zP.refl _ | apply zP.step)⟩
     replace c8 := Bool.eq_false_iff.mpr c8
     subst c8
     have H1 : (if a0 ≥ 7 then (if a0 ≤ 14 then (some 1) else (some (-1))) else (some (-1))) = some r := by rw [if_neg (show ¬ (false = true) by decide)] at H; exact H
     clear H
     have H := H1
     clear H1
     by_cases c9 : a0 ≥ 7
     case neg =>
      rw [if_neg c9] at H
      have c9b0 : decide (7 ≤ a0) = false := decide_eq_false c9
      clear c9
      obtain rfl := Option.some.inj H
      go_wp2
      go_ret
      exact ⟨by first | rfl | (simp; done) | (simp [*]; done), by repeat (first | exact zP.refl _ | apply zP.step)⟩
     rw [if_pos c9] at H
     have c9b0 : decide (7 ≤ a0) = true := decide_eq_true c9
     clear c9
     by_cases c10 : a0 ≤ 14
     case pos =>
      rw [if_pos c10] at H
      have c10b0 : decide (a0 ≤ 14) = true := decide_eq_true c10
      clear c10
      obtain rfl := Option.some.inj H
      go_wp2
      go_ret
      exact ⟨by first | rfl | (simp; done) | (simp [*]; done), by repeat (first | exact zP.refl _ | apply zP.step)⟩
     rw [if_neg c10] at H
     have c10b0 : decide (a0 ≤ 14) = false := decide_eq_false c10
     clear c10
     obtain rfl := Option.some.inj H
     go_wp2
     go_ret
     exact ⟨by first | rfl | (simp; done) | (simp [*]; done), by repeat (first | exact zP.refl _ | apply zP.step)⟩
theorem eqA32 (d : Nat) (w : World) (x0 y0 : Int) (x1 y1 : Int) :
    (Op.equalIn (d + 2) 32 (.agg #[.int .i64 x0, .int .i64 x1]) (.agg #[.int .i64 y0, .int .i64 y1])).run Try.prog w = .ok (x0 == y0 && (x1 == y1)) w := by
 refine eqA_of Try.underlying32 (by kernel_rfl) ?_
 refine sZ (by rfl) (by go_simp; rfl) (by go_simp; rfl) (by go_simp) ?_
 exact oE (by rfl) (by go_simp; rfl) (by go_simp; rfl) (by go_simp)
def bits_Mul64.f (a0 : Int) (a1 : Int) : Option (Int × Int) := some (IntKind.u64.wrap ((IntKind.u64.wrap ((IntKind.u64.wrap ((a0 / 4294967296) * (a1 / 4294967296))) + ((IntKind.u64.wrap ((IntKind.u64.wrap ((a0 / 4294967296) * (Go.bits .and .u64 a1 4294967295))) + ((IntKind.u64.wrap ((Go.bits .and .u64 a0 4294967295) * (Go.bits .and .u64 a1 4294967295))) / 4294967296))) / 4294967296))) + ((IntKind.u64.wrap ((Go.bits .and .u64 (IntKind.u64.wrap ((IntKind.u64.wrap ((a0 / 4294967296) * (Go.bits .and .u64 a1 4294967295))) + ((IntKind.u64.wrap ((Go.bits .and .u64 a0 4294967295) * (Go.bits .and .u64 a1 4294967295))) / 4294967296))) 4294967295) + (IntKind.u64.wrap ((Go.bits .and .u64 a0 4294967295) * (a1 / 4294967296))))) / 4294967296)), IntKind.u64.wrap (a0 * a1))
theorem bits_Mul64.calls (a0 : Int) (a1 : Int) (r1 : Int) (r2 : Int) (w : World) (h : bits_Mul64.f a0 a1 = some (r1, r2)) :
    Calls Try.prog 121 #[.int .u64 a0, .int .u64 a1] w fun e w' => e = .returned (.tuple #[.int .u64 r1, .int .u64 r2]) ∧ zP w w' := by
 have H := h
 unfold bits_Mul64.f at H
 clear h
 simp only [Option.some.injEq, Prod.mk.injEq] at H
 obtain ⟨rfl, rfl⟩ := H
 go_enter Try.func121, Try.ntmps121
 go_wp2
 go_ret2
 exact ⟨by first | rfl | (simp; done) | (simp [*]; done), by repeat (first | exact zP.refl _ | apply zP.step)⟩
def yB.j0 : Nat → Bool → Int → Int → Bool → Option (Int × Int × Int)
 | 0, _, _, _, _ => none
 | k + 1, x0, x1, x2, x23 => if x23 = true then (some (0, 0, 3)) else (if x0 = true then (some (wrap64 (-(wrap64 (x1))), wrap64 (x2), 0)) else (some (wrap64 (x1), wrap64 (x2), 0)))
def yB.f (k : Nat) (a0 : Bool) (a1 : Int) (a2 : Int) : Option (Int × Int × Int) := (yV.f k a1 a2).bind fun t142 => (if t142 = 0 then (none) else (if (IntKind.u64.wrap (Int.tdiv a1 t142)) > 9223372036854775807 then (yB.j0 k a0 (IntKind.u64.wrap (Int.tdiv a1 t142)) (IntKind.u64.wrap (Int.tdiv a2 t142)) true) else (yB.j0 k a0 (IntKind.u64.wrap (Int.tdiv a1 t142)) (IntKind.u64.wrap (Int.tdiv a2 t142)) (decide ((IntKind.u64.wrap (Int.tdiv a2 t142)) > 9223372036854775807)))))
theorem yB.calls (k : Nat) (a0 : Bool) (a1 : Int) (a2 : Int) (r1 : Int) (r2 : Int) (r3 : Int) (w : World) (h : yB.f k a0 a1 a2 = some (r1, r2, r3)) :
    Calls Try.prog 126 #[.bool a0, .int .u64 a1, .int .u64 a2] w fun e w' => e = .returned (.tuple #[.agg #[.int .i64 r1, .int .i64 r2], .int .i64 r3]) ∧ Below w.heap.size w w' := by
 have hu30 := Try.underlying30
 have HB := aq (Below.refl w.heap.size w)
 have H := h
 unfold yB.f at H
 clear h
 replace H := Option.bind_eq_some_iff.mp H
 obtain ⟨t142, A40, H⟩ := H
 try dsimp only at H
 have A4 := aq A40
 clear A40
 by_cases c5 : t142 = 0
 case pos => rw [if_pos c5] at H; exact absurd H (by simp)
 rw [if_neg c5] at H
 have c5b0 : (t142 == 0) = false := beq_eq_false_iff_ne.mpr c5
 have c5b1 : (t142 != 0) = true := bne_iff_ne.mpr c5
 have HC6 := aq H
 clear H
 go_enter Try.func126, Try.ntmps126
 go_upto_region 3 with (first | ((with_reducible refine gD (N := 6) rfl ?_); refine bE ?hg (N := 6) ?hd (cs := #[.int .i64 0, .int .i64 0]) (t := 30) ?hr ?_; (case hd => rfl); (case hg => rfl); (case hr => first | (go_simp; done) | (go_simp; rfl)); intro gb141 hg w7 hbox hb; have n0_ := aq (bt_ (by exact ul HB.out) hb); have n1_ := aq (hbox); have n2_ := aq ((by rw [hg]; exact (bz_ (by exact ul HB.out)) : w.heap.size ≤ gb141)); have n3_ := aq ((by rw [hg]; exact (bz_ (by exact ul HB.out)) : w.heap.size ≤ gb141)); clear HB; have HB := n0_; have BK141 := n1_; have GW141 := n2_; have GE141 := n3_; clear n0_ n1_ n2_ n3_; clear hb hbox hg) | (go_at_call 87; (with_reducible refine (yV.calls k a1 a2 t142 _ A4.out).mono ?_); rintro e w' ⟨rfl, ⟨nd, rfl⟩⟩; (try first | exact dA | exact dB)))
 repeat (go_quiet (first | ((with_reducible refine gD (N := 6) rfl ?_); refine bE ?hg (N := 6) ?hd (cs := #[.int .i64 0, .int .i64 0]) (t := 30) ?hr ?_; (case hd => rfl); (case hg => rfl); (case hr => first | (go_simp; done) | (go_simp; rfl)); intro gb141 hg w7 hbox hb; have n0_ := aq (bt_ (by exact ul HB.out) hb); have n1_ := aq (hbox); have n2_ := aq ((by rw [hg]; exact (bz_ (by exact ul HB.out)) : w.heap.size ≤ gb141)); have n3_ := aq ((by rw [hg]; exact (bz_ (by exact ul HB.out)) : w.heap.size ≤ gb141)); clear HB; have HB := n0_; have BK141 := n1_; have GW141 := n2_; have GE141 := n3_; clear n0_ n1_ n2_ n3_; clear hb hbox hg) | (go_at_call 87; (with_reducible refine (yV.calls k a1 a2 t142 _ A4.out).mono ?_); rintro e w' ⟨rfl, ⟨nd, rfl⟩⟩; (try first | exact dA | exact dB))); go_upto_region 3 with (first | ((with_reducible refine gD (N := 6) rfl ?_); refine bE ?hg (N := 6) ?hd (cs := #[.int .i64 0, .int .i64 0]) (t := 30) ?hr ?_; (case hd => rfl); (case hg => rfl); (case hr => first | (go_simp; done) | (go_simp; rfl)); intro gb141 hg w7 hbox hb; have n0_ := aq (bt_ (by exact ul HB.out) hb); have n1_ := aq (hbox); have n2_ := aq ((by rw [hg]; exact (bz_ (by exact ul HB.out)) : w.heap.size ≤ gb141)); have n3_ := aq ((by rw [hg]; exact (bz_ (by exact ul HB.out)) : w.heap.size ≤ gb141)); clear HB; have HB := n0_; have BK141 := n1_; have GW141 := n2_; have GE141 := n3_; clear n0_ n1_ n2_ n3_; clear hb hbox hg) | (go_at_call 87; (with_reducible refine (yV.calls k a1 a2 t142 _ A4.out).mono ?_); rintro e w' ⟨rfl, ⟨nd, rfl⟩⟩; (try first | exact dA | exact dB))))
 (try simp only [Act.put, List.setIfInBounds_toArray, List.set_cons_zero, List.set_cons_succ])
 go_cut [23] (fun v23 wc => ∃ (kq : Nat) (x23_5 : Bool), v23 = .bool x23_5 ∧ zV (yB.j0 kq a0 (IntKind.u64.wrap (Int.tdiv a1 t142)) (IntKind.u64.wrap (Int.tdiv a2 t142)) x23_5 = some (r1, r2, r3)) ∧ zV (kq ≤ k) ∧ zV (wc.heap[gb141]? = some (.cells #[.int .i64 0, .int .i64 0] 30 (0, 0))) ∧ zV (Below w.heap.size w wc))
 case first =>
  have H := HC6.out
  clear HC6
  by_cases c8 : (IntKind.u64.wrap (Int.tdiv a1 t142)) > 9223372036854775807
  case pos =>
   rw [if_pos c8] at H
   have c8b0 : decide (9223372036854775807 < (IntKind.u64.wrap (Int.tdiv a1 t142))) = true := decide_eq_true c8
   clear c8
   (first | rw [c8b0] | (simp only [iw, jw]; rw [c8b0]) | skip)
   have H' := aq H
   clear H
   go_wp2
   repeat (go_quiet (fail); try go_wp2)
   go_meet
   case rel => exact ⟨_, (true), (by first | rfl | simp [*]), H', ⟨by first | omega | exact Nat.le_refl _⟩, ⟨by exact ub BK141.out⟩, ⟨by repeat first | exact HB.out | refine bs_ ?_ GE141.out | refine ul ?_⟩⟩
  rw [if_neg c8] at H
  have c8b0 : decide (9223372036854775807 < (IntKind.u64.wrap (Int.tdiv a1 t142))) = false := decide_eq_false c8
  clear c8
  (first | rw [c8b0] | (simp only [iw, jw]; rw [c8b0]) | skip)
  have H' := aq H
  clear H
  go_wp2
  repeat (go_quiet (fail); try go_wp2)
  go_meet
  case rel => exact ⟨_, (decide ((IntKind.u64.wrap (Int.tdiv a2 t142)) > 9223372036854775807)), (by first | rfl | simp [*]), H', ⟨by first | omega | exact Nat.le_refl _⟩, ⟨by exact ub BK141.out⟩, ⟨by repeat first | exact HB.out | refine bs_ ?_ GE141.out | refine ul ?_⟩⟩
 case rest =>
  clear HC6
  obtain ⟨kq, x23_5, rfl, HA, HJ5, BK141, HB⟩ := hcut
  cases kq with
  | zero => exact absurd HA.out (by simp [yB.j0])
  | succ kj5 =>
   have H := HA.out
   clear HA
   simp only [yB.j0] at H
   by_cases c9 : x23_5 = true
   case pos =>
    subst c9
    have H1 : (some (0, 0, 3)) = some (r1, r2, r3) := by rw [if_pos rfl] at H; exact H
    clear H
    have H := H1
    clear H1
    simp only [Option.some.injEq, Prod.mk.injEq] at H
    obtain ⟨rfl, rfl, rfl⟩ := H
    have hcz10_0 := bT BK141.out 0 (.int .i64 0)
    have hcz10_1 := bT BK141.out 1 (.int .i64 0)
    have hfz10_0 := bf_ BK141.out 0
    have hfz10_1 := bf_ BK141.out 1
    go_wp2
    repeat (go_quiet (fail); try go_wp2)
    refine bodyPost_ret (yR rfl _ _ gb141 30 #[.int .i64 0, .int .i64 0] (0, 0) _ rfl (by refine ub ?_; refine yO (cs := #[.int .i64 0, .int .i64 0]) ?_ 1 _ rfl; refine ub ?_; refine yO (cs := #[.int .i64 0, .int .i64 0]) ?_ 0 _ rfl; refine ub ?_; exact BK141.out) Try.underlying30 rfl (by kernel_rfl)) rfl ?_
    exact ⟨by first | rfl | (simp [eN_, eS_] <;> rfl) | (simp [*, eN_, eS_] <;> rfl), by repeat first | exact HB.out | refine bs_ ?_ GE141.out | refine ul ?_⟩
   replace c9 := Bool.eq_false_iff.mpr c9
   subst c9
   have H1 : (if a0 = true then (some (wrap64 (-(wrap64 ((IntKind.u64.wrap (Int.tdiv a1 t142))))), wrap64 ((IntKind.u64.wrap (Int.tdiv a2 t142))), 0)) else (some (wrap64 ((IntKind.u64.wrap (Int.tdiv a1 t142))), wrap64 ((IntKind.u64.wrap (Int.tdiv a2 t142))), 0))) = some (r1, r2, r3) := by rw [if_neg (show ¬ (false = true) by decide)] at H; exact H
   clear H
   have H := H1
   clear H1
   by_cases c11 : a0 = true
   case pos =>
    subst c11
    have H1 : (some (wrap64 (-(wrap64 ((IntKind.u64.wrap (Int.tdiv a1 t142))))), wrap64 ((IntKind.u64.wrap (Int.tdiv a2 t142))), 0)) = some (r1, r2, r3) := by rw [if_pos rfl] at H; exact H
    clear H
    have H := H1
    clear H1
    simp only [Option.some.injEq, Prod.mk.injEq] at H
    obtain ⟨rfl, rfl, rfl⟩ := H
    have hcz12_0 := bT BK141.out 0 (.int .i64 0)
    have hcz12_1 := bT BK141.out 1 (.int .i64 0)
    have hfz12_0 := bf_ BK141.out 0
    have hfz12_1 := bf_ BK141.out 1
    go_wp2
    repeat (go_quiet (fail); try go_wp2)
    refine bodyPost_ret (yR rfl _ _ gb141 30 #[.int .i64 (wrap64 (-(wrap64 ((IntKind.u64.wrap (Int.tdiv a1 t142)))))), .int .i64 (wrap64 ((IntKind.u64.wrap (Int.tdiv a2 t142))))] (0, 0) _ rfl (by refine ub ?_; refine yO (cs := #[.int .i64 (wrap64 (-(wrap64 ((IntKind.u64.wrap (Int.tdiv a1 t142)))))), .int .i64 0]) ?_ 1 _ rfl; refine ub ?_; refine yO (cs := #[.int .i64 0, .int .i64 0]) ?_ 0 _ rfl; refine ub ?_; exact BK141.out) Try.underlying30 rfl (by kernel_rfl)) rfl ?_
    exact ⟨by first | rfl | (simp [eN_, eS_] <;> rfl) | (simp [*, eN_, eS_] <;> rfl), by repeat first | exact HB.out | refine bs_ ?_ GE141.out | refine ul ?_⟩
   replace c11 := Bool.eq_false_iff.mpr c11
   subst c11
   have H1 : (some (wrap64 ((IntKind.u64.wrap (Int.tdiv a1 t142))), wrap64 ((IntKind.u64.wrap (Int.tdiv a2 t142))), 0)) = some (r1, r2, r3) := by rw [if_neg (show ¬ (false = true) by decide)] at H; exact H
   clear H
   have H := H1
   clear H1
   simp only [Option.some.injEq, Prod.mk.injEq] at H
   obtain ⟨rfl, rfl, rfl⟩ := H
   have hcz13_0 := bT BK141.out 0 (.int .i64 0)
   have hcz13_1 := bT BK141.out 1 (.int .i64 0)
   have hfz13_0 := bf_ BK141.out 0
   have hfz13_1 := bf_ BK141.out 1
   go_wp2
   repeat (go_quiet (fail); try go_wp2)
   refine bodyPost_ret (yR rfl _ _ gb141 30 #[.int .i64 (wrap64 ((IntKind.u64.wrap (Int.tdiv a1 t142)))), .int .i64 (wrap64 ((IntKind.u64.wrap (Int.tdiv a2 t142))))] (0, 0) _ rfl (by refine ub ?_; refine yO (cs := #[.int .i64 (wrap64 ((IntKind.u64.wrap (Int.tdiv a1 t142)))), .int .i64 0]) ?_ 1 _ rfl; refine ub ?_; refine yO (cs := #[.int .i64 0, .int .i64 0]) ?_ 0 _ rfl; refine ub ?_; exact BK141.out) Try.underlying30 rfl (by kernel_rfl)) rfl ?_
   exact ⟨by first | rfl | (simp [eN_, eS_] <;> rfl) | (simp [*, eN_, eS_] <;> rfl), by repeat first | exact HB.out | refine bs_ ?_ GE141.out | refine ul ?_⟩
end Go.Proofs.Ytoonahobmlnflaa.PC
