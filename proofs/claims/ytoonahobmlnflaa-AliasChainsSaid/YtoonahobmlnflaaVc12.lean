/- Texts of this claim, one behind the other. -/
import Derived.Test.YtoonahobmlnflaaVc11
set_option linter.unusedVariables false
set_option linter.unusedSimpArgs false
set_option maxRecDepth 100000
set_option maxHeartbeats 16000000
namespace Go.Proofs.Ytoonahobmlnflaa.PC
open Go.RowKit A B C
attribute [local go_sem] yC yE xO xP yK yL yD yF
mutual
def zP.j0 : Nat → Bool → Int → Int → Int → Int → Option (Int × Int × Int)
  | 0, _, _, _, _, _ => none
  | k + 1, x27, x235000, x235001, x236000, x236001 => if x27 = true then (some (0, 0, 1)) else ((zE.f k (IntKind.u64.wrap (x235001)) (IntKind.u64.wrap (x236001))).bind fun t239 => (if t239 = 0 then (none) else ((zS.f x235000).bind fun t240 => ((bits_Mul64.f t240 (IntKind.u64.wrap (Int.tdiv (IntKind.u64.wrap (x236001)) t239))).bind fun bt241 => ((zS.f x236000).bind fun t243 => ((bits_Mul64.f t243 (IntKind.u64.wrap (Int.tdiv (IntKind.u64.wrap (x235001)) t239))).bind fun bt244 => (if ((decide (x235000 < 0)) == (decide (x236000 < 0))) = true then ((bits_Add64.f bt241.2 bt244.2 0).bind fun bt246 => (zP.j2 k t239 (IntKind.u64.wrap (Int.tdiv (IntKind.u64.wrap (x235001)) t239)) (IntKind.u64.wrap (Int.tdiv (IntKind.u64.wrap (x236001)) t239)) (IntKind.u64.wrap (bt241.1 + (IntKind.u64.wrap (bt244.1 + bt246.2)))) bt246.1 (decide (x235000 < 0)))) else (if bt241.1 > bt244.1 then (zP.j1 k t239 (IntKind.u64.wrap (Int.tdiv (IntKind.u64.wrap (x235001)) t239)) (IntKind.u64.wrap (Int.tdiv (IntKind.u64.wrap (x236001)) t239)) bt241.1 bt241.2 bt244.1 bt244.2 (decide (x235000 < 0)) true x236000 x236001) else (if bt241.1 = bt244.1 then (zP.j1 k t239 (IntKind.u64.wrap (Int.tdiv (IntKind.u64.wrap (x235001)) t239)) (IntKind.u64.wrap (Int.tdiv (IntKind.u64.wrap (x236001)) t239)) bt241.1 bt241.2 bt244.1 bt244.2 (decide (x235000 < 0)) (decide (bt241.2 ≥ bt244.2)) x236000 x236001) else (zP.j1 k t239 (IntKind.u64.wrap (Int.tdiv (IntKind.u64.wrap (x235001)) t239)) (IntKind.u64.wrap (Int.tdiv (IntKind.u64.wrap (x236001)) t239)) bt241.1 bt241.2 bt244.1 bt244.2 (decide (x235000 < 0)) false x236000 x236001))))))))))
def zP.j2 : Nat → Int → Int → Int → Int → Int → Bool → Option (Int × Int × Int)
  | 0, _, _, _, _, _, _ => none
  | k + 1, x6, x7, x8, x9, x10, x13 => (uA.f k x9 x10 x6).bind fun t252 => ((zE.f k t252 x6).bind fun t253 => (if t253 = 0 then (zP.j3 k x6 x7 x8 x9 x10 x13 t253 true) else (zP.j3 k x6 x7 x8 x9 x10 x13 t253 (decide (x9 ≥ t253)))))
def zP.j3 : Nat → Int → Int → Int → Int → Int → Bool → Int → Bool → Option (Int × Int × Int)
  | 0, _, _, _, _, _, _, _, _ => none
  | k + 1, x6, x7, x8, x9, x10, x13, x15, x135 => if x135 = true then (some (0, 0, 3)) else ((zU.f k x9 x10 x15).bind fun bt254 => (if bt254.1 = 0 then (some (0, 1, 0)) else (if x15 = 0 then (none) else ((bits_Mul64.f (IntKind.u64.wrap (x7 * (IntKind.u64.wrap (Int.tdiv x6 x15)))) x8).bind fun bt256 => (if bt256.1 > 0 then (some (0, 0, 3)) else ((yJ.f k x13 bt254.1 bt256.2).bind fun bt258 => (some (bt258.1, bt258.2.1, bt258.2.2))))))))
def zP.j1 : Nat → Int → Int → Int → Int → Int → Int → Int → Bool → Bool → Int → Int → Option (Int × Int × Int)
  | 0, _, _, _, _, _, _, _, _, _, _, _ => none
  | k + 1, x6, x7, x8, x9, x10, x11, x12, x13, x98, x236000, x236001 => if x98 = true then ((bits_Sub64.f x10 x12 0).bind fun bt248 => (zP.j2 k x6 x7 x8 (IntKind.u64.wrap (x9 - (IntKind.u64.wrap (x11 + bt248.2)))) bt248.1 x13)) else ((bits_Sub64.f x12 x10 0).bind fun bt250 => (zP.j2 k x6 x7 x8 (IntKind.u64.wrap ((IntKind.u64.wrap (x11 - x9)) - bt250.2)) bt250.1 (decide (x236000 < 0))))
end
def zP.f (k : Nat) (a0_0 : Int) (a0_1 : Int) (a1_0 : Int) (a1_1 : Int) : Option (Int × Int × Int) := (zO.f k a0_0 a0_1).bind fun t237 => (if t237 = true then ((zO.f k a1_0 a1_1).bind fun t238 => (zP.j0 k (!t238) a0_0 a0_1 a1_0 a1_1)) else (zP.j0 k true a0_0 a0_1 a1_0 a1_1))
theorem zP.calls (k : Nat) (a0_0 : Int) (a0_1 : Int) (a1_0 : Int) (a1_1 : Int) (r1 : Int) (r2 : Int) (r3 : Int) (w : World) (h : zP.f k a0_0 a0_1 a1_0 a1_1 = some (r1, r2, r3)) :
    Calls Try.prog 103 #[.agg #[.int .i64 a0_0, .int .i64 a0_1], .agg #[.int .i64 a1_0, .int .i64 a1_1]] w fun e w' => e = .returned (.tuple #[.agg #[.int .i64 r1, .int .i64 r2], .int .i64 r3]) ∧ Below w.heap.size w w' := by
 have hu30 := Try.underlying30
 have HB := aq (Below.refl w.heap.size w)
 have H := h
 unfold zP.f at H
 clear h
 have HC3 := aq H
 clear H
 go_enter Try.func103, Try.ntmps103
 go_upto_region 1 with (first | ((with_reducible refine gD (N := 2) rfl ?_); refine bE ?hg (N := 2) ?hd (cs := #[.int .i64 a0_0, .int .i64 a0_1]) (t := 30) ?hr ?_; (case hd => rfl); (case hg => rfl); (case hr => first | (go_simp; done) | (go_simp; rfl)); intro gb234 hg w4 hbox hb; have n0_ := aq (bt_ (by repeat (first | (with_reducible first | exact HB.out | apply zY | apply bdN | apply zQ) | exact HB.out)) hb); have n1_ := aq (hbox); have n2_ := aq ((by rw [hg]; exact (bz_ (by repeat (first | (with_reducible first | exact HB.out | apply zY | apply bdN | apply zQ) | exact HB.out))) : w.heap.size ≤ gb234)); have n3_ := aq ((by rw [hg]; exact (bz_ (by repeat (first | (with_reducible first | exact HB.out | apply zY | apply bdN | apply zQ) | exact HB.out))) : w.heap.size ≤ gb234)); clear HB; have HB := n0_; have BK234 := n1_; have GW234 := n2_; have GE234 := n3_; clear n0_ n1_ n2_ n3_; clear hb hbox hg) | ((with_reducible refine gD (N := 3) rfl ?_); refine bE ?hg (N := 3) ?hd (cs := #[.int .i64 a1_0, .int .i64 a1_1]) (t := 30) ?hr ?_; (case hd => rfl); (case hg => rfl); (case hr => first | (go_simp; done) | (go_simp; rfl)); intro gb235 hg w5 hbox hb; have n0_ := bk BK234 hb; have n1_ := aq (bt_ (by repeat (first | (with_reducible first | exact HB.out | apply zY | apply bdN | apply zQ | refine bs_ ?_ GE234.out) | exact HB.out)) hb); have n2_ := aq (hbox); have n3_ := aq ((by rw [hg]; exact (bz_ (by repeat (first | (with_reducible first | exact HB.out | apply zY | apply bdN | apply zQ | refine bs_ ?_ GE234.out) | exact HB.out))) : w.heap.size ≤ gb235)); have n4_ := aq ((by rw [hg]; exact (bz_ (by repeat (first | (with_reducible first | exact HB.out | apply zY | apply bdN | apply zQ | refine bs_ ?_ GE234.out) | exact HB.out))) : w.heap.size ≤ gb235)); have n5_ := aq ((by rw [hg]; exact Nat.ne_of_lt (zN (g := gb234) (o := .cells #[.int .i64 a0_0, .int .i64 a0_1] 30 (0, 0)) (by exact ub BK234.out)) : gb234 ≠ gb235)); have n6_ := aq ((by rw [hg]; exact Nat.ne_of_gt (zN (g := gb234) (o := .cells #[.int .i64 a0_0, .int .i64 a0_1] 30 (0, 0)) (by exact ub BK234.out)) : gb235 ≠ gb234)); clear BK234; clear HB; have BK234 := n0_; have HB := n1_; have BK235 := n2_; have GW235 := n3_; have GE235 := n4_; have NB234_235 := n5_; have NB235_234 := n6_; clear n0_ n1_ n2_ n3_ n4_ n5_ n6_; clear hb hbox hg) | ((with_reducible refine gD (N := 4) rfl ?_); refine bE ?hg (N := 4) ?hd (cs := #[.int .i64 0, .int .i64 0]) (t := 30) ?hr ?_; (case hd => rfl); (case hg => rfl); (case hr => first | (go_simp; done) | (go_simp; rfl)); intro gb236 hg w6 hbox hb; have n0_ := bk BK234 hb; have n1_ := bk BK235 hb; have n2_ := aq (bt_ (by repeat (first | (with_reducible first | exact HB.out | apply zY | apply bdN | apply zQ | refine bs_ ?_ GE234.out | refine bs_ ?_ GE235.out) | exact HB.out)) hb); have n3_ := aq (hbox); have n4_ := aq ((by rw [hg]; exact (bz_ (by repeat (first | (with_reducible first | exact HB.out | apply zY | apply bdN | apply zQ | refine bs_ ?_ GE234.out | refine bs_ ?_ GE235.out) | exact HB.out))) : w.heap.size ≤ gb236)); have n5_ := aq ((by rw [hg]; exact (bz_ (by repeat (first | (with_reducible first | exact HB.out | apply zY | apply bdN | apply zQ | refine bs_ ?_ GE234.out | refine bs_ ?_ GE235.out) | exact HB.out))) : w.heap.size ≤ gb236)); have n6_ := aq ((by rw [hg]; exact Nat.ne_of_lt (zN (g := gb234) (o := .cells #[.int .i64 a0_0, .int .i64 a0_1] 30 (0, 0)) (by exact ub BK234.out)) : gb234 ≠ gb236)); have n7_ := aq ((by rw [hg]; exact Nat.ne_of_gt (zN (g := gb234) (o := .cells #[.int .i64 a0_0, .int .i64 a0_1] 30 (0, 0)) (by exact ub BK234.out)) : gb236 ≠ gb234)); have n8_ := aq ((by rw [hg]; exact Nat.ne_of_lt (zN (g := gb235) (o := .cells #[.int .i64 a1_0, .int .i64 a1_1] 30 (0, 0)) (by exact ub BK235.out)) : gb235 ≠ gb236)); have n9_ := aq ((by rw [hg]; exact Nat.ne_of_gt (zN (g := gb235) (o := .cells #[.int .i64 a1_0, .int .i64 a1_1] 30 (0, 0)) (by exact ub BK235.out)) : gb236 ≠ gb235)); clear BK234; clear BK235; clear HB; have BK234 := n0_; have BK235 := n1_; have HB := n2_; have BK236 := n3_; have GW236 := n4_; have GE236 := n5_; have NB234_236 := n6_; have NB236_234 := n7_; have NB235_236 := n8_; have NB236_235 := n9_; clear n0_ n1_ n2_ n3_ n4_ n5_ n6_ n7_ n8_ n9_; clear hb hbox hg))
 (try simp only [Act.put, List.setIfInBounds_toArray, List.set_cons_zero, List.set_cons_succ])
 go_cut [27] (fun v27 wc => ∃ (kq : Nat) (x27_2 : Bool), v27 = .bool x27_2 ∧ zT (zP.j0 kq x27_2 a0_0 a0_1 a1_0 a1_1 = some (r1, r2, r3)) ∧ zT (kq ≤ k) ∧ zT (wc.heap[gb234]? = some (.cells #[.int .i64 a0_0, .int .i64 a0_1] 30 (0, 0))) ∧ zT (wc.heap[gb235]? = some (.cells #[.int .i64 a1_0, .int .i64 a1_1] 30 (0, 0))) ∧ zT (wc.heap[gb236]? = some (.cells #[.int .i64 0, .int .i64 0] 30 (0, 0))) ∧ zT (Below w.heap.size w wc))
 case first =>
  have H := HC3.out
  clear HC3
  replace H := Option.bind_eq_some_iff.mp H
  obtain ⟨t237, A70, H⟩ := H
  try dsimp only at H
  have A7 := aq A70
  clear A70
  by_cases c8 : t237 = true
  case neg =>
   replace c8 := Bool.eq_false_iff.mpr c8
   subst c8
   have H1 : (zP.j0 k true a0_0 a0_1 a1_0 a1_1) = some (r1, r2, r3) := by rw [if_neg (show ¬ (false = true) by decide)] at H; exact H
   clear H
   have H := H1
   clear H1
   have H' := aq H
   clear H
   have hcz19_0 := bT BK234.out 0 (.int .i64 a0_0)
   have hcz19_1 := bT BK234.out 1 (.int .i64 a0_1)
   have hfz19_0 := bf_ BK234.out 0
   have hfz19_1 := bf_ BK234.out 1
   go_wp2_with (first | (go_at_call 59; (with_reducible refine (zO.calls k a0_0 a0_1 false _ A7.out).mono ?_); rintro e w20 ⟨rfl, hb⟩; replace BK234 := bk BK234 hb; replace BK235 := bk BK235 hb; replace BK236 := bk BK236 hb; replace HB := aq (bt_ (by repeat (first | (with_reducible first | exact HB.out | apply zY | apply bdN | apply zQ | refine bs_ ?_ GE234.out | refine bs_ ?_ GE235.out | refine bs_ ?_ GE236.out) | exact HB.out)) hb); (try clear hb); (try clear hb2); (try clear hk); (try clear hi)))
   go_meet
   case rel => exact ⟨_, (true), (by first | rfl | (simp; done) | (simp [*]; done)), H', ⟨by first | omega | exact Nat.le_refl _⟩, ⟨by exact ub BK234.out⟩, ⟨by exact ub BK235.out⟩, ⟨by exact ub BK236.out⟩, ⟨by repeat (first | (with_reducible first | exact HB.out | apply zY | apply bdN | apply zQ | refine bs_ ?_ GE234.out | refine bs_ ?_ GE235.out | refine bs_ ?_ GE236.out) | exact HB.out)⟩⟩
  subst c8
  have H1 : ((zO.f k a1_0 a1_1).bind fun t238 => (zP.j0 k (!t238) a0_0 a0_1 a1_0 a1_1)) = some (r1, r2, r3) := by rw [if_pos rfl] at H; exact H
  clear H
  have H := H1
  clear H1
  replace H := Option.bind_eq_some_iff.mp H
  obtain ⟨t238, A90, H⟩ := H
  try dsimp only at H
  have A9 := aq A90
  clear A90
  have H' := aq H
  clear H
  have hcz12_0 := bT BK234.out 0 (.int .i64 a0_0)
  have hcz12_1 := bT BK234.out 1 (.int .i64 a0_1)
  have hfz12_0 := bf_ BK234.out 0
  have hfz12_1 := bf_ BK234.out 1
  go_wp2_with (first | (go_at_call 59; (with_reducible refine (zO.calls k a0_0 a0_1 true _ A7.out).mono ?_); rintro e w13 ⟨rfl, hb⟩; replace BK234 := bk BK234 hb; replace BK235 := bk BK235 hb; replace BK236 := bk BK236 hb; replace HB := aq (bt_ (by repeat (first | (with_reducible first | exact HB.out | apply zY | apply bdN | apply zQ | refine bs_ ?_ GE234.out | refine bs_ ?_ GE235.out | refine bs_ ?_ GE236.out) | exact HB.out)) hb); (try clear hb); (try clear hb2); (try clear hk); (try clear hi); have hnb14 := NB235_236.out; have hnc14 := NB236_235.out; have hcz15_0 := bT BK235.out 0 (.int .i64 a1_0); have hcz15_1 := bT BK235.out 1 (.int .i64 a1_1); have hfz15_0 := bf_ BK235.out 0; have hfz15_1 := bf_ BK235.out 1) | (go_at_call 59; (with_reducible refine (zO.calls k a1_0 a1_1 t238 _ A9.out).mono ?_); rintro e w16 ⟨rfl, hb⟩; replace BK234 := bk BK234 hb; replace BK235 := bk BK235 hb; replace BK236 := bk BK236 hb; replace HB := aq (bt_ (by repeat (first | (with_reducible first | exact HB.out | apply zY | apply bdN | apply zQ | refine bs_ ?_ GE234.out | refine bs_ ?_ GE235.out | refine bs_ ?_ GE236.out) | exact HB.out)) hb); (try clear hb); (try clear hb2); (try clear hk); (try clear hi)))
  go_meet
  case rel => exact ⟨_, (!t238), (by first | rfl | (simp; done) | (simp [*]; done)), H', ⟨by first | omega | exact Nat.le_refl _⟩, ⟨by exact ub BK234.out⟩, ⟨by exact ub BK235.out⟩, ⟨by exact ub BK236.out⟩, ⟨by repeat (first | (with_reducible first | exact HB.out | apply zY | apply bdN | apply zQ | refine bs_ ?_ GE234.out | refine bs_ ?_ GE235.out | refine bs_ ?_ GE236.out) | exact HB.out)⟩⟩
 case rest =>
  clear HC3
  try clear c1
  try clear p2
  try clear c8
  try clear c10
  try clear c11
  try clear c14
  try clear c17
  try clear c18
  try clear hcz12_0
  try clear hcz12_1
  try clear hcz15_0
  try clear hcz15_1
  try clear hcz19_0
  try clear hcz19_1
  try clear hfz12_0
  try clear hfz12_1
  try clear hfz15_0
  try clear hfz15_1
  try clear hfz19_0
  try clear hfz19_1
  obtain ⟨kq, x27_2, rfl, HA, HJ2, BK234, BK235, BK236, HB⟩ := hcut
  cases kq with
  | zero => exact absurd HA.out (by simp [zP.j0])
  | succ kj2 =>
   have H := HA.out
   clear HA
   simp only [zP.j0] at H
   by_cases c21 : x27_2 = true
   case pos =>
    subst c21
    have H1 : (some (0, 0, 1)) = some (r1, r2, r3) := by rw [if_pos rfl] at H; exact H
    clear H
    have H := H1
    clear H1
    simp only [Option.some.injEq, Prod.mk.injEq] at H
    obtain ⟨rfl, rfl, rfl⟩ := H
    have hcz24_0 := bT BK236.out 0 (.int .i64 0)
    have hcz24_1 := bT BK236.out 1 (.int .i64 0)
    have hfz24_0 := bf_ BK236.out 0
    have hfz24_1 := bf_ BK236.out 1
    go_wp2
    refine bodyPost_ret (zB rfl _ _ gb236 30 #[.int .i64 0, .int .i64 0] (0, 0) _ rfl (by refine ub ?_; refine yV (cs := #[.int .i64 0, .int .i64 0]) ?_ 1 _ rfl; refine ub ?_; refine yV (cs := #[.int .i64 0, .int .i64 0]) ?_ 0 _ rfl; refine ub ?_; exact BK236.out) Try.underlying30 rfl (by kernel_rfl)) rfl ?_
    exact ⟨by first | rfl | (simp [eN_, eS_] <;> rfl) | (simp [*, eN_, eS_] <;> rfl), by repeat (first | (with_reducible first | exact HB.out | apply zY | apply bdN | apply zQ | refine bs_ ?_ GE234.out | refine bs_ ?_ GE235.out | refine bs_ ?_ GE236.out) | exact HB.out)⟩
   replace c21 := Bool.eq_false_iff.mpr c21
   subst c21
   have H1 : ((zE.f kj2 (IntKind.u64.wrap (a0_1)) (IntKind.u64.wrap (a1_1))).bind fun t239 => (if t239 = 0 then (none) else ((zS.f a0_0).bind fun t240 => ((bits_Mul64.f t240 (IntKind.u64.wrap (Int.tdiv (IntKind.u64.wrap (a1_1)) t239))).bind fun bt241 => ((zS.f a1_0).bind fun t243 => ((bits_Mul64.f t243 (IntKind.u64.wrap (Int.tdiv (IntKind.u64.wrap (a0_1)) t239))).bind fun bt244 => (if ((decide (a0_0 < 0)) == (decide (a1_0 < 0))) = true then ((bits_Add64.f bt241.2 bt244.2 0).bind fun bt246 => (zP.j2 kj2 t239 (IntKind.u64.wrap (Int.tdiv (IntKind.u64.wrap (a0_1)) t239)) (IntKind.u64.wrap (Int.tdiv (IntKind.u64.wrap (a1_1)) t239)) (IntKind.u64.wrap (bt241.1 + (IntKind.u64.wrap (bt244.1 + bt246.2)))) bt246.1 (decide (a0_0 < 0)))) else (if bt241.1 > bt244.1 then (zP.j1 kj2 t239 (IntKind.u64.wrap (Int.tdiv (IntKind.u64.wrap (a0_1)) t239)) (IntKind.u64.wrap (Int.tdiv (IntKind.u64.wrap (a1_1)) t239)) bt241.1 bt241.2 bt244.1 bt244.2 (decide (a0_0 < 0)) true a1_0 a1_1) else (if bt241.1 = bt244.1 then (zP.j1 kj2 t239 (IntKind.u64.wrap (Int.tdiv (IntKind.u64.wrap (a0_1)) t239)) (IntKind.u64.wrap (Int.tdiv (IntKind.u64.wrap (a1_1)) t239)) bt241.1 bt241.2 bt244.1 bt244.2 (decide (a0_0 < 0)) (decide (bt241.2 ≥ bt244.2)) a1_0 a1_1) else (zP.j1 kj2 t239 (IntKind.u64.wrap (Int.tdiv (IntKind.u64.wrap (a0_1)) t239)) (IntKind.u64.wrap (Int.tdiv (IntKind.u64.wrap (a1_1)) t239)) bt241.1 bt241.2 bt244.1 bt244.2 (decide (a0_0 < 0)) false a1_0 a1_1)))))))))) = some (r1, r2, r3) := by rw [if_neg (show ¬ (false = true) by decide)] at H; exact H
   clear H
   have H := H1
   clear H1
   replace H := Option.bind_eq_some_iff.mp H
   obtain ⟨t239, A250, H⟩ := H
   try dsimp only at H
   have A25 := aq A250
   clear A250
   by_cases c26 : t239 = 0
   case pos => rw [if_pos c26] at H; exact absurd H (by simp)
   rw [if_neg c26] at H
   have c26b0 : (t239 == 0) = false := beq_eq_false_iff_ne.mpr c26
   have c26b1 : (t239 != 0) = true := bne_iff_ne.mpr c26
   replace H := Option.bind_eq_some_iff.mp H
   obtain ⟨t240, A270, H⟩ := H
   try dsimp only at H
   have A27 := aq A270
   clear A270
   replace H := Option.bind_eq_some_iff.mp H
   obtain ⟨⟨t241, t242⟩, A280, H⟩ := H
   try dsimp only at H
   have A28 := aq A280
   clear A280
   replace H := Option.bind_eq_some_iff.mp H
   obtain ⟨t243, A290, H⟩ := H
   try dsimp only at H
   have A29 := aq A290
   clear A290
   replace H := Option.bind_eq_some_iff.mp H
   obtain ⟨⟨t244, t245⟩, A300, H⟩ := H
   try dsimp only at H
   have A30 := aq A300
   clear A300
   have HC31 := aq H
   clear H
   have hcz34_0 := bT BK234.out 0 (.int .i64 a0_0)
   have hcz34_1 := bT BK234.out 1 (.int .i64 a0_1)
   have hfz34_0 := bf_ BK234.out 0
   have hfz34_1 := bf_ BK234.out 1
   have hcz36_0 := bT BK235.out 0 (.int .i64 a1_0)
   have hcz36_1 := bT BK235.out 1 (.int .i64 a1_1)
   have hfz36_0 := bf_ BK235.out 0
   have hfz36_1 := bf_ BK235.out 1
   go_upto_block 0 with (first | (go_at_call 87; (with_reducible refine (zE.calls kj2 (IntKind.u64.wrap (a0_1)) (IntKind.u64.wrap (a1_1)) t239 _ A25.out).mono ?_); rintro e w' ⟨rfl, ⟨nd, rfl⟩⟩; (try first | exact dA | exact dB)) | (go_at_call 88; (with_reducible refine (zS.calls a0_0 t240 _ A27.out).mono ?_); rintro e w' ⟨rfl, ⟨nd, rfl⟩⟩; (try first | exact dA | exact dB)) | (go_at_call 121; (with_reducible refine (bits_Mul64.calls t240 (IntKind.u64.wrap (Int.tdiv (IntKind.u64.wrap (a1_1)) t239)) t241 t242 _ A28.out).mono ?_); rintro e w' ⟨rfl, ⟨nd, rfl⟩⟩; (try first | exact dA | exact dB)) | (go_at_call 88; (with_reducible refine (zS.calls a1_0 t243 _ A29.out).mono ?_); rintro e w' ⟨rfl, ⟨nd, rfl⟩⟩; (try first | exact dA | exact dB)) | (go_at_call 121; (with_reducible refine (bits_Mul64.calls t243 (IntKind.u64.wrap (Int.tdiv (IntKind.u64.wrap (a0_1)) t239)) t244 t245 _ A30.out).mono ?_); rintro e w' ⟨rfl, ⟨nd, rfl⟩⟩; (try first | exact dA | exact dB)))
   repeat (go_quiet (first | (go_at_call 87; (with_reducible refine (zE.calls kj2 (IntKind.u64.wrap (a0_1)) (IntKind.u64.wrap (a1_1)) t239 _ A25.out).mono ?_); rintro e w' ⟨rfl, ⟨nd, rfl⟩⟩; (try first | exact dA | exact dB)) | (go_at_call 88; (with_reducible refine (zS.calls a0_0 t240 _ A27.out).mono ?_); rintro e w' ⟨rfl, ⟨nd, rfl⟩⟩; (try first | exact dA | exact dB)) | (go_at_call 121; (with_reducible refine (bits_Mul64.calls t240 (IntKind.u64.wrap (Int.tdiv (IntKind.u64.wrap (a1_1)) t239)) t241 t242 _ A28.out).mono ?_); rintro e w' ⟨rfl, ⟨nd, rfl⟩⟩; (try first | exact dA | exact dB)) | (go_at_call 88; (with_reducible refine (zS.calls a1_0 t243 _ A29.out).mono ?_); rintro e w' ⟨rfl, ⟨nd, rfl⟩⟩; (try first | exact dA | exact dB)) | (go_at_call 121; (with_reducible refine (bits_Mul64.calls t243 (IntKind.u64.wrap (Int.tdiv (IntKind.u64.wrap (a0_1)) t239)) t244 t245 _ A30.out).mono ?_); rintro e w' ⟨rfl, ⟨nd, rfl⟩⟩; (try first | exact dA | exact dB))); go_upto_block 0 with (first | (go_at_call 87; (with_reducible refine (zE.calls kj2 (IntKind.u64.wrap (a0_1)) (IntKind.u64.wrap (a1_1)) t239 _ A25.out).mono ?_); rintro e w' ⟨rfl, ⟨nd, rfl⟩⟩; (try first | exact dA | exact dB)) | (go_at_call 88; (with_reducible refine (zS.calls a0_0 t240 _ A27.out).mono ?_); rintro e w' ⟨rfl, ⟨nd, rfl⟩⟩; (try first | exact dA | exact dB)) | (go_at_call 121; (with_reducible refine (bits_Mul64.calls t240 (IntKind.u64.wrap (Int.tdiv (IntKind.u64.wrap (a1_1)) t239)) t241 t242 _ A28.out).mono ?_); rintro e w' ⟨rfl, ⟨nd, rfl⟩⟩; (try first | exact dA | exact dB)) | (go_at_call 88; (with_reducible refine (zS.calls a1_0 t243 _ A29.out).mono ?_); rintro e w' ⟨rfl, ⟨nd, rfl⟩⟩; (try first | exact dA | exact dB)) | (go_at_call 121; (with_reducible refine (bits_Mul64.calls t243 (IntKind.u64.wrap (Int.tdiv (IntKind.u64.wrap (a0_1)) t239)) t244 t245 _ A30.out).mono ?_); rintro e w' ⟨rfl, ⟨nd, rfl⟩⟩; (try first | exact dA | exact dB))))
   (try simp only [Act.put, List.setIfInBounds_toArray, List.set_cons_zero, List.set_cons_succ])
   go_cut [9, 10, 13] (fun v9 v10 v13 wc => ∃ (kq : Nat) (x9_30 : Int) (x10_30 : Int) (x13_30 : Bool), v9 = .int .u64 x9_30 ∧ v10 = .int .u64 x10_30 ∧ v13 = .bool x13_30 ∧ zT (zP.j2 kq t239 (IntKind.u64.wrap (Int.tdiv (IntKind.u64.wrap (a0_1)) t239)) (IntKind.u64.wrap (Int.tdiv (IntKind.u64.wrap (a1_1)) t239)) x9_30 x10_30 x13_30 = some (r1, r2, r3)) ∧ zT (kq ≤ kj2) ∧ zT (wc.heap[gb234]? = some (.cells #[.int .i64 a0_0, .int .i64 a0_1] 30 (0, 0))) ∧ zT (wc.heap[gb235]? = some (.cells #[.int .i64 a1_0, .int .i64 a1_1] 30 (0, 0))) ∧ zT (wc.heap[gb236]? = some (.cells #[.int .i64 0, .int .i64 0] 30 (0, 0))) ∧ zT (Below w.heap.size w wc))
   case first =>
    have H := HC31.out
    clear HC31
    by_cases c37 : ((decide (a0_0 < 0)) == (decide (a1_0 < 0))) = true
    case pos =>
     rw [if_pos c37] at H
     have c37b0 : ((decide (a0_0 < 0)) == (decide (a1_0 < 0))) = true := c37
     clear c37
     (first | rw [c37b0] | (simp only [iw, jw]; rw [c37b0]) | skip)
     replace H := Option.bind_eq_some_iff.mp H
     obtain ⟨⟨t246, t247⟩, A380, H⟩ := H
     try dsimp only at H
     have A38 := aq A380
     clear A380
     have H' := aq H
     clear H
     have hcz41_0 := bT BK234.out 0 (.int .i64 a0_0)
     have hcz41_1 := bT BK234.out 1 (.int .i64 a0_1)
     have hfz41_0 := bf_ BK234.out 0
     have hfz41_1 := bf_ BK234.out 1
     have hcz43_0 := bT BK235.out 0 (.int .i64 a1_0)
     have hcz43_1 := bT BK235.out 1 (.int .i64 a1_1)
     have hfz43_0 := bf_ BK235.out 0
     have hfz43_1 := bf_ BK235.out 1
     have hx_ := bits_Add64.run A38.out
     go_wp2_with (first | (go_at_call 122; (with_reducible refine (bits_Add64.calls t242 t245 0 t246 t247 _ A38.out).mono ?_); rintro e w44 ⟨rfl, hb⟩; replace BK234 := bk BK234 hb; replace BK235 := bk BK235 hb; replace BK236 := bk BK236 hb; replace HB := aq (bt_ (by repeat (first | (with_reducible first | exact HB.out | apply zY | apply bdN | apply zQ | refine bs_ ?_ GE234.out | refine bs_ ?_ GE235.out | refine bs_ ?_ GE236.out) | exact HB.out)) hb); (try clear hb); (try clear hb2); (try clear hk); (try clear hi)))
     repeat (go_quiet (first | (go_at_call 122; (with_reducible refine (bits_Add64.calls t242 t245 0 t246 t247 _ A38.out).mono ?_); rintro e w44 ⟨rfl, hb⟩; replace BK234 := bk BK234 hb; replace BK235 := bk BK235 hb; replace BK236 := bk BK236 hb; replace HB := aq (bt_ (by repeat (first | (with_reducible first | exact HB.out | apply zY | apply bdN | apply zQ | refine bs_ ?_ GE234.out | refine bs_ ?_ GE235.out | refine bs_ ?_ GE236.out) | exact HB.out)) hb); (try clear hb); (try clear hb2); (try clear hk); (try clear hi))); try go_wp2_with (first | (go_at_call 122; (with_reducible refine (bits_Add64.calls t242 t245 0 t246 t247 _ A38.out).mono ?_); rintro e w44 ⟨rfl, hb⟩; replace BK234 := bk BK234 hb; replace BK235 := bk BK235 hb; replace BK236 := bk BK236 hb; replace HB := aq (bt_ (by repeat (first | (with_reducible first | exact HB.out | apply zY | apply bdN | apply zQ | refine bs_ ?_ GE234.out | refine bs_ ?_ GE235.out | refine bs_ ?_ GE236.out) | exact HB.out)) hb); (try clear hb); (try clear hb2); (try clear hk); (try clear hi))))
     go_meet
     case rel => exact ⟨_, (IntKind.u64.wrap (t241 + (IntKind.u64.wrap (t244 + t247)))), (t246), (decide (a0_0 < 0)), (by first | rfl | (simp; done) | (simp [*]; done)), (by first | rfl | (simp; done) | (simp [*]; done)), (by first | rfl | (simp; done) | (simp [*]; done)), H', ⟨by have := HJ2.out; first | omega | exact Nat.le_refl _⟩, ⟨by exact ub BK234.out⟩, ⟨by exact ub BK235.out⟩, ⟨by exact ub BK236.out⟩, ⟨by repeat (first | (with_reducible first | exact HB.out | apply zY | apply bdN | apply zQ | refine bs_ ?_ GE234.out | refine bs_ ?_ GE235.out | refine bs_ ?_ GE236.out) | exact HB.out)⟩⟩
    rw [if_neg c37] at H
    have c37b0 : ((decide (a0_0 < 0)) == (decide (a1_0 < 0))) = false := by simpa using c37
    clear c37
    (first | rw [c37b0] | (simp only [iw, jw]; rw [c37b0]) | skip)
    have HC45 := aq H
    clear H
    have hcz48_0 := bT BK234.out 0 (.int .i64 a0_0)
    have hcz48_1 := bT BK234.out 1 (.int .i64 a0_1)
    have hfz48_0 := bf_ BK234.out 0
    have hfz48_1 := bf_ BK234.out 1
    have hcz50_0 := bT BK235.out 0 (.int .i64 a1_0)
    have hcz50_1 := bT BK235.out 1 (.int .i64 a1_1)
    have hfz50_0 := bf_ BK235.out 0
    have hfz50_1 := bf_ BK235.out 1
    go_upto_region 15 with (fail)
    repeat (go_quiet (fail); go_upto_region 15 with (fail))
    go_cut [98] (fun v98 wc => ∃ (kq : Nat) (x98_44 : Bool), v98 = .bool x98_44 ∧ zT (zP.j1 kq t239 (IntKind.u64.wrap (Int.tdiv (IntKind.u64.wrap (a0_1)) t239)) (IntKind.u64.wrap (Int.tdiv (IntKind.u64.wrap (a1_1)) t239)) t241 t242 t244 t245 (decide (a0_0 < 0)) x98_44 a1_0 a1_1 = some (r1, r2, r3)) ∧ zT (kq ≤ kj2) ∧ zT (wc.heap[gb234]? = some (.cells #[.int .i64 a0_0, .int .i64 a0_1] 30 (0, 0))) ∧ zT (wc.heap[gb235]? = some (.cells #[.int .i64 a1_0, .int .i64 a1_1] 30 (0, 0))) ∧ zT (wc.heap[gb236]? = some (.cells #[.int .i64 0, .int .i64 0] 30 (0, 0))) ∧ zT (Below w.heap.size w wc))
    case first =>
     have H := HC45.out
     clear HC45
     by_cases c51 : t241 > t244
     case pos =>
      rw [if_pos c51] at H
      have c51b0 : decide (t244 < t241) = true := decide_eq_true c51
      clear c51
      (first | rw [c51b0] | (simp only [iw, jw]; rw [c51b0]) | skip)
      have H' := aq H
      clear H
      go_wp2
      repeat (go_quiet (fail); try go_wp2)
      go_meet
      case rel => exact ⟨_, (true), (by first | rfl | (simp; done) | (simp [*]; done)), H', ⟨by have := HJ2.out; first | omega | exact Nat.le_refl _⟩, ⟨by exact ub BK234.out⟩, ⟨by exact ub BK235.out⟩, ⟨by exact ub BK236.out⟩, ⟨by repeat (first | (with_reducible first | exact HB.out | apply zY | apply bdN | apply zQ | refine bs_ ?_ GE234.out | refine bs_ ?_ GE235.out | refine bs_ ?_ GE236.out) | exact HB.out)⟩⟩
     rw [if_neg c51] at H
     have c51b0 : decide (t244 < t241) = false := decide_eq_false c51
     clear c51
     (first | rw [c51b0] | (simp only [iw, jw]; rw [c51b0]) | skip)
     by_cases c52 : t241 = t244
     case neg =>
      rw [if_neg c52] at H
      have c52b0 : (t241 == t244) = false := beq_eq_false_iff_ne.mpr c52
      have c52b1 : (t241 != t244) = true := bne_iff_ne.mpr c52
      have H' := aq H
      clear H
      go_wp2
      repeat (go_quiet (fail); try go_wp2)
      go_meet
      case rel => exact ⟨_, (false), (by first | rfl | (simp; done) | (simp [*]; done)), H', ⟨by have := HJ2.out; first | omega | exact Nat.le_refl _⟩, ⟨by exact ub BK234.out⟩, ⟨by exact ub BK235.out⟩, ⟨by exact ub BK236.out⟩, ⟨by repeat (first | (with_reducible first | exact HB.out | apply zY | apply bdN | apply zQ | refine bs_ ?_ GE234.out | refine bs_ ?_ GE235.out | refine bs_ ?_ GE236.out) | exact HB.out)⟩⟩
     rw [if_pos c52] at H
     have c52b0 : (t241 == t244) = true := beq_iff_eq.mpr c52
     have c52b1 : (t241 != t244) = false := bne_eq_false_iff_eq.mpr c52
     clear c52
     have H' := aq H
     clear H
     go_wp2
     repeat (go_quiet (fail); try go_wp2)
     go_meet
     case rel => exact ⟨_, (decide (t242 ≥ t245)), (by first | rfl | (simp; done) | (simp [*]; done)), H', ⟨by have := HJ2.out; first | omega | exact Nat.le_refl _⟩, ⟨by exact ub BK234.out⟩, ⟨by exact ub BK235.out⟩, ⟨by exact ub BK236.out⟩, ⟨by repeat (first | (with_reducible first | exact HB.out | apply zY | apply bdN | apply zQ | refine bs_ ?_ GE234.out | refine bs_ ?_ GE235.out | refine bs_ ?_ GE236.out) | exact HB.out)⟩⟩
    case rest =>
     clear HC45
     try clear c1
     try clear c2
     try clear p2
     try clear c3
     try clear c4
     try clear c5
     try clear c8
     try clear c10
     try clear c11
     try clear c14
     try clear c17
     try clear c18
     try clear c21
     try clear c22
     try clear c23
     try clear c26
     try clear c26b0
     try clear c26b1
     try clear c32
     try clear c33
     try clear c35
     try clear c37
     try clear c37b0
     try clear c37b1
     try clear c37b2
     try clear c39
     try clear c40
     try clear c42
     try clear c46
     try clear c47
     try clear c49
     try clear c51
     try clear c51b0
     try clear c52
     try clear c52b0
     try clear c52b1
     try clear hcz12_0
     try clear hcz12_1
     try clear hcz15_0
     try clear hcz15_1
     try clear hcz19_0
     try clear hcz19_1
     try clear hcz24_0
     try clear hcz24_1
     try clear hcz34_0
     try clear hcz34_1
     try clear hcz36_0
     try clear hcz36_1
     try clear hcz41_0
     try clear hcz41_1
     try clear hcz43_0
     try clear hcz43_1
     try clear hcz48_0
     try clear hcz48_1
     try clear hcz50_0
     try clear hcz50_1
     try clear hfz12_0
     try clear hfz12_1
     try clear hfz15_0
     try clear hfz15_1
     try clear hfz19_0
     try clear hfz19_1
     try clear hfz24_0
     try clear hfz24_1
     try clear hfz34_0
     try clear hfz34_1
     try clear hfz36_0
     try clear hfz36_1
     try clear hfz41_0
     try clear hfz41_1
     try clear hfz43_0
     try clear hfz43_1
     try clear hfz48_0
     try clear hfz48_1
     try clear hfz50_0
     try clear hfz50_1
     try clear p2
     obtain ⟨kq, x98_44, rfl, HA, HJ44, BK234, BK235, BK236, HB⟩ := hcut
     cases kq with
     | zero => exact absurd HA.out (by simp [zP.j1])
     | succ kj44 =>
      have H := HA.out
      clear HA
      simp only [zP.j1] at H
      by_cases c53 : x98_44 = true
      case pos =>
       subst c53
       have H1 : ((bits_Sub64.f t242 t245 0).bind fun bt248 => (zP.j2 kj44 t239 (IntKind.u64.wrap (Int.tdiv (IntKind.u64.wrap (a0_1)) t239)) (IntKind.u64.wrap (Int.tdiv (IntKind.u64.wrap (a1_1)) t239)) (IntKind.u64.wrap (t241 - (IntKind.u64.wrap (t244 + bt248.2)))) bt248.1 (decide (a0_0 < 0)))) = some (r1, r2, r3) := by rw [if_pos rfl] at H; exact H
       clear H
       have H := H1
       clear H1
       replace H := Option.bind_eq_some_iff.mp H
       obtain ⟨⟨t248, t249⟩, A540, H⟩ := H
       try dsimp only at H
       have A54 := aq A540
       clear A540
       have H' := aq H
       clear H
       have hx_ := bits_Sub64.run A54.out
       go_wp2_with (first | (go_at_call 123; (with_reducible refine (bits_Sub64.calls t242 t245 0 t248 t249 _ A54.out).mono ?_); rintro e w55 ⟨rfl, hb⟩; replace BK234 := bk BK234 hb; replace BK235 := bk BK235 hb; replace BK236 := bk BK236 hb; replace HB := aq (bt_ (by repeat (first | (with_reducible first | exact HB.out | apply zY | apply bdN | apply zQ | refine bs_ ?_ GE234.out | refine bs_ ?_ GE235.out | refine bs_ ?_ GE236.out) | exact HB.out)) hb); (try clear hb); (try clear hb2); (try clear hk); (try clear hi)))
       repeat (go_quiet (first | (go_at_call 123; (with_reducible refine (bits_Sub64.calls t242 t245 0 t248 t249 _ A54.out).mono ?_); rintro e w55 ⟨rfl, hb⟩; replace BK234 := bk BK234 hb; replace BK235 := bk BK235 hb; replace BK236 := bk BK236 hb; replace HB := aq (bt_ (by repeat (first | (with_reducible first | exact HB.out | apply zY | apply bdN | apply zQ | refine bs_ ?_ GE234.out | refine bs_ ?_ GE235.out | refine bs_ ?_ GE236.out) | exact HB.out)) hb); (try clear hb); (try clear hb2); (try clear hk); (try clear hi))); try go_wp2_with (first | (go_at_call 123; (with_reducible refine (bits_Sub64.calls t242 t245 0 t248 t249 _ A54.out).mono ?_); rintro e w55 ⟨rfl, hb⟩; replace BK234 := bk BK234 hb; replace BK235 := bk BK235 hb; replace BK236 := bk BK236 hb; replace HB := aq (bt_ (by repeat (first | (with_reducible first | exact HB.out | apply zY | apply bdN | apply zQ | refine bs_ ?_ GE234.out | refine bs_ ?_ GE235.out | refine bs_ ?_ GE236.out) | exact HB.out)) hb); (try clear hb); (try clear hb2); (try clear hk); (try clear hi))))
       go_meet
       case rel => exact ⟨_, (IntKind.u64.wrap (t241 - (IntKind.u64.wrap (t244 + t249)))), (t248), ((decide (a0_0 < 0))), (by first | rfl | (simp; done) | (simp [*]; done)), (by first | rfl | (simp; done) | (simp [*]; done)), (by first | rfl | (simp; done) | (simp [*]; done)), H', ⟨by have := HJ2.out; have := HJ44.out; first | omega | exact Nat.le_refl _⟩, ⟨by exact ub BK234.out⟩, ⟨by exact ub BK235.out⟩, ⟨by exact ub BK236.out⟩, ⟨by repeat (first | (with_reducible first | exact HB.out | apply zY | apply bdN | apply zQ | refine bs_ ?_ GE234.out | refine bs_ ?_ GE235.out | refine bs_ ?_ GE236.out) | exact HB.out)⟩⟩
      replace c53 := Bool.eq_false_iff.mpr c53
      subst c53
      have H1 : ((bits_Sub64.f t245 t242 0).bind fun bt250 => (zP.j2 kj44 t239 (IntKind.u64.wrap (Int.tdiv (IntKind.u64.wrap (a0_1)) t239)) (IntKind.u64.wrap (Int.tdiv (IntKind.u64.wrap (a1_1)) t239)) (IntKind.u64.wrap ((IntKind.u64.wrap (t244 - t241)) - bt250.2)) bt250.1 (decide (a1_0 < 0)))) = some (r1, r2, r3) := by rw [if_neg (show ¬ (false = true) by decide)] at H; exact H
      clear H
      have H := H1
      clear H1
      replace H := Option.bind_eq_some_iff.mp H
      obtain ⟨⟨t250, t251⟩, A560, H⟩ := H
      try dsimp only at H
      have A56 := aq A560
      clear A560
      have H' := aq H
      clear H
      have hcz59_0 := bT BK235.out 0 (.int .i64 a1_0)
      have hcz59_1 := bT BK235.out 1 (.int .i64 a1_1)
      have hfz59_0 := bf_ BK235.out 0
      have hfz59_1 := bf_ BK235.out 1
      have hx_ := bits_Sub64.run A56.out
      go_wp2_with (first | (go_at_call 123; (with_reducible refine (bits_Sub64.calls t245 t242 0 t250 t251 _ A56.out).mono ?_); rintro e w60 ⟨rfl, hb⟩; replace BK234 := bk BK234 hb; replace BK235 := bk BK235 hb; replace BK236 := bk BK236 hb; replace HB := aq (bt_ (by repeat (first | (with_reducible first | exact HB.out | apply zY | apply bdN | apply zQ | refine bs_ ?_ GE234.out | refine bs_ ?_ GE235.out | refine bs_ ?_ GE236.out) | exact HB.out)) hb); (try clear hb); (try clear hb2); (try clear hk); (try clear hi)))
      repeat (go_quiet (first | (go_at_call 123; (with_reducible refine (bits_Sub64.calls t245 t242 0 t250 t251 _ A56.out).mono ?_); rintro e w60 ⟨rfl, hb⟩; replace BK234 := bk BK234 hb; replace BK235 := bk BK235 hb; replace BK236 := bk BK236 hb; replace HB := aq (bt_ (by repeat (first | (with_reducible first | exact HB.out | apply zY | apply bdN | apply zQ | refine bs_ ?_ GE234.out | refine bs_ ?_ GE235.out | refine bs_ ?_ GE236.out) | exact HB.out)) hb); (try clear hb); (try clear hb2); (try clear hk); (try clear hi))); try go_wp2_with (first | (go_at_call 123; (with_reducible refine (bits_Sub64.calls t245 t242 0 t250 t251 _ A56.out).mono ?_); rintro e w60 ⟨rfl, hb⟩; replace BK234 := bk BK234 hb; replace BK235 := bk BK235 hb; replace BK236 := bk BK236 hb; replace HB := aq (bt_ (by repeat (first | (with_reducible first | exact HB.out | apply zY | apply bdN | apply zQ | refine bs_ ?_ GE234.out | refine bs_ ?_ GE235.out | refine bs_ ?_ GE236.out) | exact HB.out)) hb); (try clear hb); (try clear hb2); (try clear hk); (try clear hi))))
      go_meet
      case rel => exact ⟨_, (IntKind.u64.wrap ((IntKind.u64.wrap (t244 - t241)) - t251)), (t250), (decide (a1_0 < 0)), (by first | rfl | (simp; done) | (simp [*]; done)), (by first | rfl | (simp; done) | (simp [*]; done)), (by first | rfl | (simp; done) | (simp [*]; done)), H', ⟨by have := HJ2.out; have := HJ44.out; first | omega | exact Nat.le_refl _⟩, ⟨by exact ub BK234.out⟩, ⟨by exact ub BK235.out⟩, ⟨by exact ub BK236.out⟩, ⟨by repeat (first | (with_reducible first | exact HB.out | apply zY | apply bdN | apply zQ | refine bs_ ?_ GE234.out | refine bs_ ?_ GE235.out | refine bs_ ?_ GE236.out) | exact HB.out)⟩⟩
   case rest =>
    clear HC31
    try clear c1
    try clear c2
    try clear p2
    try clear c3
    try clear c4
    try clear c5
    try clear c8
    try clear c10
    try clear c11
    try clear c14
    try clear c17
    try clear c18
    try clear c21
    try clear c22
    try clear c23
    try clear c26
    try clear c26b0
    try clear c26b1
    try clear c32
    try clear c33
    try clear c35
    try clear c37
    try clear c37b0
    try clear c37b1
    try clear c37b2
    try clear c39
    try clear c40
    try clear c42
    try clear c46
    try clear c47
    try clear c49
    try clear c51
    try clear c51b0
    try clear c52
    try clear c52b0
    try clear c52b1
    try clear c53
    try clear c57
    try clear c58
    try clear hcz12_0
    try clear hcz12_1
    try clear hcz15_0
    try clear hcz15_1
    try clear hcz19_0
    try clear hcz19_1
    try clear hcz24_0
    try clear hcz24_1
    try clear hcz34_0
    try clear hcz34_1
    try clear hcz36_0
    try clear hcz36_1
    try clear hcz41_0
    try clear hcz41_1
    try clear hcz43_0
    try clear hcz43_1
    try clear hcz48_0
    try clear hcz48_1
    try clear hcz50_0
    try clear hcz50_1
    try clear hcz59_0
    try clear hcz59_1
    try clear hfz12_0
    try clear hfz12_1
    try clear hfz15_0
    try clear hfz15_1
    try clear hfz19_0
    try clear hfz19_1
    try clear hfz24_0
    try clear hfz24_1
    try clear hfz34_0
    try clear hfz34_1
    try clear hfz36_0
    try clear hfz36_1
    try clear hfz41_0
    try clear hfz41_1
    try clear hfz43_0
    try clear hfz43_1
    try clear hfz48_0
    try clear hfz48_1
    try clear hfz50_0
    try clear hfz50_1
    try clear hfz59_0
    try clear hfz59_1
    try clear p2
    obtain ⟨kq, x9_30, x10_30, x13_30, rfl, rfl, rfl, HA, HJ30, BK234, BK235, BK236, HB⟩ := hcut
    cases kq with
    | zero => exact absurd HA.out (by simp [zP.j2])
    | succ kj30 =>
     have H := HA.out
     clear HA
     simp only [zP.j2] at H
     replace H := Option.bind_eq_some_iff.mp H
     obtain ⟨t252, A610, H⟩ := H
     try dsimp only at H
     have A61 := aq A610
     clear A610
     replace H := Option.bind_eq_some_iff.mp H
     obtain ⟨t253, A620, H⟩ := H
     try dsimp only at H
     have A62 := aq A620
     clear A620
     have HC63 := aq H
     clear H
     go_upto_region 19 with (first | (go_at_call 124; (with_reducible refine (uA.calls kj30 x9_30 x10_30 t239 t252 _ A61.out).mono ?_); rintro e w64 ⟨rfl, hb⟩; replace BK234 := bk BK234 hb; replace BK235 := bk BK235 hb; replace BK236 := bk BK236 hb; replace HB := aq (bt_ (by repeat (first | (with_reducible first | exact HB.out | apply zY | apply bdN | apply zQ | refine bs_ ?_ GE234.out | refine bs_ ?_ GE235.out | refine bs_ ?_ GE236.out) | exact HB.out)) hb); (try clear hb); (try clear hb2); (try clear hk); (try clear hi)) | (go_at_call 87; (with_reducible refine (zE.calls kj30 t252 t239 t253 _ A62.out).mono ?_); rintro e w' ⟨rfl, ⟨nd, rfl⟩⟩; (try first | exact dA | exact dB)))
     repeat (go_quiet (first | (go_at_call 124; (with_reducible refine (uA.calls kj30 x9_30 x10_30 t239 t252 _ A61.out).mono ?_); rintro e w64 ⟨rfl, hb⟩; replace BK234 := bk BK234 hb; replace BK235 := bk BK235 hb; replace BK236 := bk BK236 hb; replace HB := aq (bt_ (by repeat (first | (with_reducible first | exact HB.out | apply zY | apply bdN | apply zQ | refine bs_ ?_ GE234.out | refine bs_ ?_ GE235.out | refine bs_ ?_ GE236.out) | exact HB.out)) hb); (try clear hb); (try clear hb2); (try clear hk); (try clear hi)) | (go_at_call 87; (with_reducible refine (zE.calls kj30 t252 t239 t253 _ A62.out).mono ?_); rintro e w' ⟨rfl, ⟨nd, rfl⟩⟩; (try first | exact dA | exact dB))); go_upto_region 19 with (first | (go_at_call 124; (with_reducible refine (uA.calls kj30 x9_30 x10_30 t239 t252 _ A61.out).mono ?_); rintro e w64 ⟨rfl, hb⟩; replace BK234 := bk BK234 hb; replace BK235 := bk BK235 hb; replace BK236 := bk BK236 hb; replace HB := aq (bt_ (by repeat (first | (with_reducible first | exact HB.out | apply zY | apply bdN | apply zQ | refine bs_ ?_ GE234.out | refine bs_ ?_ GE235.out | refine bs_ ?_ GE236.out) | exact HB.out)) hb); (try clear hb); (try clear hb2); (try clear hk); (try clear hi)) | (go_at_call 87; (with_reducible refine (zE.calls kj30 t252 t239 t253 _ A62.out).mono ?_); rintro e w' ⟨rfl, ⟨nd, rfl⟩⟩; (try first | exact dA | exact dB))))
     (try simp only [Act.put, List.setIfInBounds_toArray, List.set_cons_zero, List.set_cons_succ])
     go_cut [135] (fun v135 wc => ∃ (kq : Nat) (x135_62 : Bool), v135 = .bool x135_62 ∧ zT (zP.j3 kq t239 (IntKind.u64.wrap (Int.tdiv (IntKind.u64.wrap (a0_1)) t239)) (IntKind.u64.wrap (Int.tdiv (IntKind.u64.wrap (a1_1)) t239)) x9_30 x10_30 x13_30 t253 x135_62 = some (r1, r2, r3)) ∧ zT (kq ≤ kj30) ∧ zT (wc.heap[gb234]? = some (.cells #[.int .i64 a0_0, .int .i64 a0_1] 30 (0, 0))) ∧ zT (wc.heap[gb235]? = some (.cells #[.int .i64 a1_0, .int .i64 a1_1] 30 (0, 0))) ∧ zT (wc.heap[gb236]? = some (.cells #[.int .i64 0, .int .i64 0] 30 (0, 0))) ∧ zT (Below w.heap.size w wc))
     case first =>
      have H := HC63.out
      clear HC63
      by_cases c65 : t253 = 0
      case pos =>
       rw [if_pos c65] at H
       have c65b0 : (t253 == 0) = true := beq_iff_eq.mpr c65
       have c65b1 : (t253 != 0) = false := bne_eq_false_iff_eq.mpr c65
       clear c65
       (first | rw [c65b0] | (simp only [iw, jw]; rw [c65b0]) | skip)
       have H' := aq H
       clear H
       go_wp2
       go_meet
       case rel => exact ⟨_, (true), (by first | rfl | (simp; done) | (simp [*]; done)), H', ⟨by have := HJ2.out; have := HJ30.out; first | omega | exact Nat.le_refl _⟩, ⟨by exact ub BK234.out⟩, ⟨by exact ub BK235.out⟩, ⟨by exact ub BK236.out⟩, ⟨by repeat (first | (with_reducible first | exact HB.out | apply zY | apply bdN | apply zQ | refine bs_ ?_ GE234.out | refine bs_ ?_ GE235.out | refine bs_ ?_ GE236.out) | exact HB.out)⟩⟩
      rw [if_neg c65] at H
      have c65b0 : (t253 == 0) = false := beq_eq_false_iff_ne.mpr c65
      have c65b1 : (t253 != 0) = true := bne_iff_ne.mpr c65
      (first | rw [c65b0] | (simp only [iw, jw]; rw [c65b0]) | skip)
      have H' := aq H
      clear H
      go_wp2
      go_meet
      case rel => exact ⟨_, (decide (x9_30 ≥ t253)), (by first | rfl | (simp; done) | (simp [*]; done)), H', ⟨by have := HJ2.out; have := HJ30.out; first | omega | exact Nat.le_refl _⟩, ⟨by exact ub BK234.out⟩, ⟨by exact ub BK235.out⟩, ⟨by exact ub BK236.out⟩, ⟨by repeat (first | (with_reducible first | exact HB.out | apply zY | apply bdN | apply zQ | refine bs_ ?_ GE234.out | refine bs_ ?_ GE235.out | refine bs_ ?_ GE236.out) | exact HB.out)⟩⟩
     case rest =>
      clear HC63
      try clear c1
      try clear c2
      try clear p2
      try clear c3
      try clear c4
      try clear c5
      try clear c6
      try clear c8
      try clear c10
      try clear c11
      try clear c14
      try clear c17
      try clear c18
      try clear c21
      try clear c22
      try clear c23
      try clear c26
      try clear c26b0
      try clear c26b1
      try clear c32
      try clear c33
      try clear c35
      try clear c37
      try clear c37b0
      try clear c37b1
      try clear c37b2
      try clear c39
      try clear c40
      try clear c42
      try clear c46
      try clear c47
      try clear c49
      try clear c51
      try clear c51b0
      try clear c52
      try clear c52b0
      try clear c52b1
      try clear c53
      try clear c57
      try clear c58
      try clear c65
      try clear c65b0
      try clear c65b1
      try clear hcz12_0
      try clear hcz12_1
      try clear hcz15_0
      try clear hcz15_1
      try clear hcz19_0
      try clear hcz19_1
      try clear hcz24_0
      try clear hcz24_1
      try clear hcz34_0
      try clear hcz34_1
      try clear hcz36_0
      try clear hcz36_1
      try clear hcz41_0
      try clear hcz41_1
      try clear hcz43_0
      try clear hcz43_1
      try clear hcz48_0
      try clear hcz48_1
      try clear hcz50_0
      try clear hcz50_1
      try clear hcz59_0
      try clear hcz59_1
      try clear hfz12_0
      try clear hfz12_1
      try clear hfz15_0
      try clear hfz15_1
      try clear hfz19_0
      try clear hfz19_1
      try clear hfz24_0
      try clear hfz24_1
      try clear hfz34_0
      try clear hfz34_1
      try clear hfz36_0
      try clear hfz36_1
      try clear hfz41_0
      try clear hfz41_1
      try clear hfz43_0
      try clear hfz43_1
      try clear hfz48_0
      try clear hfz48_1
      try clear hfz50_0
      try clear hfz50_1
      try clear hfz59_0
      try clear hfz59_1
      try clear p2
      obtain ⟨kq, x135_62, rfl, HA, HJ62, BK234, BK235, BK236, HB⟩ := hcut
      cases kq with
      | zero => exact absurd HA.out (by simp [zP.j3])
      | succ kj62 =>
       have H := HA.out
       clear HA
       simp only [zP.j3] at H
       by_cases c66 : x135_62 = true
       case pos =>
        subst c66
        have H1 : (some (0, 0, 3)) = some (r1, r2, r3) := by rw [if_pos rfl] at H; exact H
        clear H
        have H := H1
        clear H1
        simp only [Option.some.injEq, Prod.mk.injEq] at H
        obtain ⟨rfl, rfl, rfl⟩ := H
        have hcz69_0 := bT BK236.out 0 (.int .i64 0)
        have hcz69_1 := bT BK236.out 1 (.int .i64 0)
        have hfz69_0 := bf_ BK236.out 0
        have hfz69_1 := bf_ BK236.out 1
        go_wp2
        refine bodyPost_ret (zB rfl _ _ gb236 30 #[.int .i64 0, .int .i64 0] (0, 0) _ rfl (by refine ub ?_; refine yV (cs := #[.int .i64 0, .int .i64 0]) ?_ 1 _ rfl; refine ub ?_; refine yV (cs := #[.int .i64 0, .int .i64 0]) ?_ 0 _ rfl; refine ub ?_; exact BK236.out) Try.underlying30 rfl (by kernel_rfl)) rfl ?_
        exact ⟨by first | rfl | (simp [eN_, eS_] <;> rfl) | (simp [*, eN_, eS_] <;> rfl), by repeat (first | (with_reducible first | exact HB.out | apply zY | apply bdN | apply zQ | refine bs_ ?_ GE234.out | refine bs_ ?_ GE235.out | refine bs_ ?_ GE236.out) | exact HB.out)⟩
       replace c66 := Bool.eq_false_iff.mpr c66
       subst c66
       have H1 : ((zU.f kj62 x9_30 x10_30 t253).bind fun bt254 => (if bt254.1 = 0 then (some (0, 1, 0)) else (if t253 = 0 then (none) else ((bits_Mul64.f (IntKind.u64.wrap ((IntKind.u64.wrap (Int.tdiv (IntKind.u64.wrap (a0_1)) t239)) * (IntKind.u64.wrap (Int.tdiv t239 t253)))) (IntKind.u64.wrap (Int.tdiv (IntKind.u64.wrap (a1_1)) t239))).bind fun bt256 => (if bt256.1 > 0 then (some (0, 0, 3)) else ((yJ.f kj62 x13_30 bt254.1 bt256.2).bind fun bt258 => (some (bt258.1, bt258.2.1, bt258.2.2)))))))) = some (r1, r2, r3) := by rw [if_neg (show ¬ (false = true) by decide)] at H; exact H
       clear H
       have H := H1
       clear H1
       replace H := Option.bind_eq_some_iff.mp H
       obtain ⟨⟨t254, t255⟩, A700, H⟩ := H
       try dsimp only at H
       have A70 := aq A700
       clear A700
       by_cases c71 : t254 = 0
       case pos =>
        rw [if_pos c71] at H
        have c71b0 : (t254 == 0) = true := beq_iff_eq.mpr c71
        have c71b1 : (t254 != 0) = false := bne_eq_false_iff_eq.mpr c71
        clear c71
        simp only [Option.some.injEq, Prod.mk.injEq] at H
        obtain ⟨rfl, rfl, rfl⟩ := H
        go_wp2_with (first | (go_at_call 125; (with_reducible refine (zU.calls kj62 x9_30 x10_30 t253 t254 t255 _ A70.out).mono ?_); rintro e w72 ⟨rfl, hb⟩; replace BK234 := bk BK234 hb; replace BK235 := bk BK235 hb; replace BK236 := bk BK236 hb; replace HB := aq (bt_ (by repeat (first | (with_reducible first | exact HB.out | apply zY | apply bdN | apply zQ | refine bs_ ?_ GE234.out | refine bs_ ?_ GE235.out | refine bs_ ?_ GE236.out) | exact HB.out)) hb); (try clear hb); (try clear hb2); (try clear hk); (try clear hi); have hnb73 := NB236_234.out; have hnc73 := NB234_236.out; have hnb74 := NB236_235.out; have hnc74 := NB235_236.out; have hcz75_0 := bT BK236.out 0 (.int .i64 0); have hcz75_1 := bT BK236.out 1 (.int .i64 0); have hfz75_0 := bf_ BK236.out 0; have hfz75_1 := bf_ BK236.out 1))
        refine bodyPost_ret (zB rfl _ _ gb236 30 #[.int .i64 0, .int .i64 1] (0, 0) _ rfl (by refine ub ?_; refine yV (cs := #[.int .i64 0, .int .i64 0]) ?_ 1 _ rfl; refine ub ?_; refine yV (cs := #[.int .i64 0, .int .i64 0]) ?_ 0 _ rfl; refine ub ?_; exact BK236.out) Try.underlying30 rfl (by kernel_rfl)) rfl ?_
        exact ⟨by first | rfl | (simp [eN_, eS_] <;> rfl) | (simp [*, eN_, eS_] <;> rfl), by repeat (first | (with_reducible first | exact HB.out | apply zY | apply bdN | apply zQ | refine bs_ ?_ GE234.out | refine bs_ ?_ GE235.out | refine bs_ ?_ GE236.out) | exact HB.out)⟩
       rw [if_neg c71] at H
       have c71b0 : (t254 == 0) = false := beq_eq_false_iff_ne.mpr c71
       have c71b1 : (t254 != 0) = true := bne_iff_ne.mpr c71
       by_cases c76 : t253 = 0
       case pos => rw [if_pos c76] at H; exact absurd H (by simp)
       rw [if_neg c76] at H
       have c76b0 : (t253 == 0) = false := beq_eq_false_iff_ne.mpr c76
       have c76b1 : (t253 != 0) = true := bne_iff_ne.mpr c76
       replace H := Option.bind_eq_some_iff.mp H
       obtain ⟨⟨t256, t257⟩, A770, H⟩ := H
       try dsimp only at H
       have A77 := aq A770
       clear A770
       by_cases c78 : t256 > 0
       case pos =>
        rw [if_pos c78] at H
        have c78b0 : decide (0 < t256) = true := decide_eq_true c78
        clear c78
        simp only [Option.some.injEq, Prod.mk.injEq] at H
        obtain ⟨rfl, rfl, rfl⟩ := H
        go_wp2_with (first | (go_at_call 125; (with_reducible refine (zU.calls kj62 x9_30 x10_30 t253 t254 t255 _ A70.out).mono ?_); rintro e w79 ⟨rfl, hb⟩; replace BK234 := bk BK234 hb; replace BK235 := bk BK235 hb; replace BK236 := bk BK236 hb; replace HB := aq (bt_ (by repeat (first | (with_reducible first | exact HB.out | apply zY | apply bdN | apply zQ | refine bs_ ?_ GE234.out | refine bs_ ?_ GE235.out | refine bs_ ?_ GE236.out) | exact HB.out)) hb); (try clear hb); (try clear hb2); (try clear hk); (try clear hi)) | (go_at_call 121; (with_reducible refine (bits_Mul64.calls (IntKind.u64.wrap ((IntKind.u64.wrap (Int.tdiv (IntKind.u64.wrap (a0_1)) t239)) * (IntKind.u64.wrap (Int.tdiv t239 t253)))) (IntKind.u64.wrap (Int.tdiv (IntKind.u64.wrap (a1_1)) t239)) t256 t257 _ A77.out).mono ?_); rintro e w' ⟨rfl, ⟨nd, rfl⟩⟩; (try first | exact dA | exact dB); have hnb80 := NB236_234.out; have hnc80 := NB234_236.out; have hnb81 := NB236_235.out; have hnc81 := NB235_236.out; have hcz82_0 := bT BK236.out 0 (.int .i64 0); have hcz82_1 := bT BK236.out 1 (.int .i64 0); have hfz82_0 := bf_ BK236.out 0; have hfz82_1 := bf_ BK236.out 1))
        refine bodyPost_ret (zB rfl _ _ gb236 30 #[.int .i64 0, .int .i64 0] (0, 0) _ rfl (by refine ub ?_; refine yV (cs := #[.int .i64 0, .int .i64 0]) ?_ 1 _ rfl; refine ub ?_; refine yV (cs := #[.int .i64 0, .int .i64 0]) ?_ 0 _ rfl; refine ub ?_; exact BK236.out) Try.underlying30 rfl (by kernel_rfl)) rfl ?_
        exact ⟨by first | rfl | (simp [eN_, eS_] <;> rfl) | (simp [*, eN_, eS_] <;> rfl), by repeat (first | (with_reducible first | exact HB.out | apply zY | apply bdN | apply zQ | refine bs_ ?_ GE234.out | refine bs_ ?_ GE235.out | refine bs_ ?_ GE236.out) | exact HB.out)⟩
       rw [if_neg c78] at H
       have c78b0 : decide (0 < t256) = false := decide_eq_false c78
       clear c78
       replace H := Option.bind_eq_some_iff.mp H
       obtain ⟨⟨t258, t259, t260⟩, A830, H⟩ := H
       try dsimp only at H
       have A83 := aq A830
       clear A830
       simp only [Option.some.injEq, Prod.mk.injEq] at H
       obtain ⟨rfl, rfl, rfl⟩ := H
       go_wp2_with (first | (go_at_call 125; (with_reducible refine (zU.calls kj62 x9_30 x10_30 t253 t254 t255 _ A70.out).mono ?_); rintro e w84 ⟨rfl, hb⟩; replace BK234 := bk BK234 hb; replace BK235 := bk BK235 hb; replace BK236 := bk BK236 hb; replace HB := aq (bt_ (by repeat (first | (with_reducible first | exact HB.out | apply zY | apply bdN | apply zQ | refine bs_ ?_ GE234.out | refine bs_ ?_ GE235.out | refine bs_ ?_ GE236.out) | exact HB.out)) hb); (try clear hb); (try clear hb2); (try clear hk); (try clear hi)) | (go_at_call 121; (with_reducible refine (bits_Mul64.calls (IntKind.u64.wrap ((IntKind.u64.wrap (Int.tdiv (IntKind.u64.wrap (a0_1)) t239)) * (IntKind.u64.wrap (Int.tdiv t239 t253)))) (IntKind.u64.wrap (Int.tdiv (IntKind.u64.wrap (a1_1)) t239)) t256 t257 _ A77.out).mono ?_); rintro e w' ⟨rfl, ⟨nd, rfl⟩⟩; (try first | exact dA | exact dB)) | (go_at_call 126; (with_reducible refine (yJ.calls kj62 x13_30 t254 t257 t258 t259 t260 _ A83.out).mono ?_); rintro e w85 ⟨rfl, hb⟩; replace BK234 := bk BK234 hb; replace BK235 := bk BK235 hb; replace BK236 := bk BK236 hb; replace HB := aq (bt_ (by repeat (first | (with_reducible first | exact HB.out | apply zY | apply bdN | apply zQ | refine bs_ ?_ GE234.out | refine bs_ ?_ GE235.out | refine bs_ ?_ GE236.out) | exact HB.out)) hb); (try clear hb); (try clear hb2); (try clear hk); (try clear hi); have hnb86 := NB236_234.out; have hnc86 := NB234_236.out; have hnb87 := NB236_235.out; have hnc87 := NB235_236.out; have hcz88_0 := bT BK236.out 0 (.int .i64 0); have hcz88_1 := bT BK236.out 1 (.int .i64 0); have hfz88_0 := bf_ BK236.out 0; have hfz88_1 := bf_ BK236.out 1))
       refine bodyPost_ret (zB rfl _ _ gb236 30 #[.int .i64 t258, .int .i64 t259] (0, 0) _ rfl (by refine ub ?_; refine yV (cs := #[.int .i64 t258, .int .i64 0]) ?_ 1 _ rfl; refine ub ?_; refine yV (cs := #[.int .i64 0, .int .i64 0]) ?_ 0 _ rfl; refine ub ?_; exact BK236.out) Try.underlying30 rfl (by kernel_rfl)) rfl ?_
       exact ⟨by first | rfl | (simp [eN_, eS_] <;> rfl) | (simp [*, eN_, eS_] <;> rfl), by repeat (first | (with_reducible first | exact HB.out | apply zY | apply bdN | apply zQ | refine bs_ ?_ GE234.out | refine bs_ ?_ GE235.out | refine bs_ ?_ GE236.out) | exact HB.out)⟩
def rat_Sub.f (k : Nat) (a0_0 : Int) (a0_1 : Int) (a1_0 : Int) (a1_1 : Int) : Option (Int × Int × Int) := (zO.f k a1_0 a1_1).bind fun t346 => (if t346 = true then ((zP.f k a0_0 a0_1 (wrap64 (-a1_0)) a1_1).bind fun bt347 => (some (bt347.1, bt347.2.1, bt347.2.2))) else (some (0, 0, 1)))
theorem rat_Sub.calls (k : Nat) (a0_0 : Int) (a0_1 : Int) (a1_0 : Int) (a1_1 : Int) (r1 : Int) (r2 : Int) (r3 : Int) (w : World) (h : rat_Sub.f k a0_0 a0_1 a1_0 a1_1 = some (r1, r2, r3)) :
    Calls Try.prog 104 #[.agg #[.int .i64 a0_0, .int .i64 a0_1], .agg #[.int .i64 a1_0, .int .i64 a1_1]] w fun e w' => e = .returned (.tuple #[.agg #[.int .i64 r1, .int .i64 r2], .int .i64 r3]) ∧ Below w.heap.size w w' := by
 have hu30 := Try.underlying30
 have HB := aq (Below.refl w.heap.size w)
 have H := h
 unfold rat_Sub.f at H
 clear h
 replace H := Option.bind_eq_some_iff.mp H
 obtain ⟨t346, A30, H⟩ := H
 try dsimp only at H
 have A3 := aq A30
 clear A30
 by_cases c4 : t346 = true
 case neg =>
  replace c4 := Bool.eq_false_iff.mpr c4
  subst c4
  have H1 : (some (0, 0, 1)) = some (r1, r2, r3) := by rw [if_neg (show ¬ (false = true) by decide)] at H; exact H
  clear H
  have H := H1
  clear H1
  simp only [Option.some.injEq, Prod.mk.injEq] at H
  obtain ⟨rfl, rfl, rfl⟩ := H
  go_enter Try.func104, Try.ntmps104
  go_wp2_with (first | ((with_reducible refine gD (N := 2) rfl ?_); refine bE ?hg (N := 2) ?hd (cs := #[.int .i64 a0_0, .int .i64 a0_1]) (t := 30) ?hr ?_; (case hd => rfl); (case hg => rfl); (case hr => first | (go_simp; done) | (go_simp; rfl)); intro gb343 hg w18 hbox hb; have n0_ := aq (bt_ (by exact ul HB.out) hb); have n1_ := aq (hbox); have n2_ := aq ((by rw [hg]; exact (bz_ (by exact ul HB.out)) : w.heap.size ≤ gb343)); have n3_ := aq ((by rw [hg]; exact (bz_ (by exact ul HB.out)) : w.heap.size ≤ gb343)); clear HB; have HB := n0_; have BK343 := n1_; have GW343 := n2_; have GE343 := n3_; clear n0_ n1_ n2_ n3_; clear hb hbox hg) | ((with_reducible refine gD (N := 3) rfl ?_); refine bE ?hg (N := 3) ?hd (cs := #[.int .i64 a1_0, .int .i64 a1_1]) (t := 30) ?hr ?_; (case hd => rfl); (case hg => rfl); (case hr => first | (go_simp; done) | (go_simp; rfl)); intro gb344 hg w19 hbox hb; have n0_ := bk BK343 hb; have n1_ := aq (bt_ (by repeat first | exact HB.out | refine bs_ ?_ GE343.out | refine ul ?_) hb); have n2_ := aq (hbox); have n3_ := aq ((by rw [hg]; exact (bz_ (by repeat first | exact HB.out | refine bs_ ?_ GE343.out | refine ul ?_)) : w.heap.size ≤ gb344)); have n4_ := aq ((by rw [hg]; exact (bz_ (by repeat first | exact HB.out | refine bs_ ?_ GE343.out | refine ul ?_)) : w.heap.size ≤ gb344)); have n5_ := aq ((by rw [hg]; exact Nat.ne_of_lt (zN (g := gb343) (o := .cells #[.int .i64 a0_0, .int .i64 a0_1] 30 (0, 0)) (by exact ub BK343.out)) : gb343 ≠ gb344)); have n6_ := aq ((by rw [hg]; exact Nat.ne_of_gt (zN (g := gb343) (o := .cells #[.int .i64 a0_0, .int .i64 a0_1] 30 (0, 0)) (by exact ub BK343.out)) : gb344 ≠ gb343)); clear BK343; clear HB; have BK343 := n0_; have HB := n1_; have BK344 := n2_; have GW344 := n3_; have GE344 := n4_; have NB343_344 := n5_; have NB344_343 := n6_; clear n0_ n1_ n2_ n3_ n4_ n5_ n6_; clear hb hbox hg) | ((with_reducible refine gD (N := 4) rfl ?_); refine bE ?hg (N := 4) ?hd (cs := #[.int .i64 0, .int .i64 0]) (t := 30) ?hr ?_; (case hd => rfl); (case hg => rfl); (case hr => first | (go_simp; done) | (go_simp; rfl)); intro gb345 hg w20 hbox hb; have n0_ := bk BK343 hb; have n1_ := bk BK344 hb; have n2_ := aq (bt_ (by repeat first | exact HB.out | refine bs_ ?_ GE343.out | refine bs_ ?_ GE344.out | refine ul ?_) hb); have n3_ := aq (hbox); have n4_ := aq ((by rw [hg]; exact (bz_ (by repeat first | exact HB.out | refine bs_ ?_ GE343.out | refine bs_ ?_ GE344.out | refine ul ?_)) : w.heap.size ≤ gb345)); have n5_ := aq ((by rw [hg]; exact (bz_ (by repeat first | exact HB.out | refine bs_ ?_ GE343.out | refine bs_ ?_ GE344.out | refine ul ?_)) : w.heap.size ≤ gb345)); have n6_ := aq ((by rw [hg]; exact Nat.ne_of_lt (zN (g := gb343) (o := .cells #[.int .i64 a0_0, .int .i64 a0_1] 30 (0, 0)) (by exact ub BK343.out)) : gb343 ≠ gb345)); have n7_ := aq ((by rw [hg]; exact Nat.ne_of_gt (zN (g := gb343) (o := .cells #[.int .i64 a0_0, .int .i64 a0_1] 30 (0, 0)) (by exact ub BK343.out)) : gb345 ≠ gb343)); have n8_ := aq ((by rw [hg]; exact Nat.ne_of_lt (zN (g := gb344) (o := .cells #[.int .i64 a1_0, .int .i64 a1_1] 30 (0, 0)) (by exact ub BK344.out)) : gb344 ≠ gb345)); have n9_ := aq ((by rw [hg]; exact Nat.ne_of_gt (zN (g := gb344) (o := .cells #[.int .i64 a1_0, .int .i64 a1_1] 30 (0, 0)) (by exact ub BK344.out)) : gb345 ≠ gb344)); clear BK343; clear BK344; clear HB; have BK343 := n0_; have BK344 := n1_; have HB := n2_; have BK345 := n3_; have GW345 := n4_; have GE345 := n5_; have NB343_345 := n6_; have NB345_343 := n7_; have NB344_345 := n8_; have NB345_344 := n9_; clear n0_ n1_ n2_ n3_ n4_ n5_ n6_ n7_ n8_ n9_; clear hb hbox hg; have hnb21 := NB344_343.out; have hnc21 := NB343_344.out; have hnb22 := NB344_345.out; have hnc22 := NB345_344.out; have hcz23_0 := bT BK344.out 0 (.int .i64 a1_0); have hcz23_1 := bT BK344.out 1 (.int .i64 a1_1); have hfz23_0 := bf_ BK344.out 0; have hfz23_1 := bf_ BK344.out 1) | ((with_reducible refine xL (f := 59) rfl ?_); refine tS (some 7) rfl rfl Try.func59 (by kernel_rfl) rfl #[.agg #[.int .i64 a1_0, .int .i64 a1_1]] rfl (by simp only [List.map_toArray, List.map_cons, List.map_nil] <;> rfl) ?_; (with_reducible refine (zO.calls k a1_0 a1_1 false _ A3.out).mono ?_); rintro e w24 ⟨rfl, hb⟩; refine ⟨_, rfl, ?_⟩; have n0_ := bk BK343 hb; have n1_ := bk BK344 hb; have n2_ := bk BK345 hb; have n3_ := aq (bt_ (by repeat first | exact HB.out | refine bs_ ?_ GE343.out | refine bs_ ?_ GE344.out | refine bs_ ?_ GE345.out | refine ul ?_) hb); clear BK343; clear BK344; clear BK345; clear HB; have BK343 := n0_; have BK344 := n1_; have BK345 := n2_; have HB := n3_; clear n0_ n1_ n2_ n3_; have hnb25 := NB345_343.out; have hnc25 := NB343_345.out; have hcz26_0 := bT BK345.out 0 (.int .i64 0); have hcz26_1 := bT BK345.out 1 (.int .i64 0); have hfz26_0 := bf_ BK345.out 0; have hfz26_1 := bf_ BK345.out 1))
  refine bodyPost_ret (zB rfl _ _ gb345 30 #[.int .i64 0, .int .i64 0] (0, 0) _ rfl (by refine ub ?_; refine yV (cs := #[.int .i64 0, .int .i64 0]) ?_ 1 _ rfl; refine ub ?_; refine yV (cs := #[.int .i64 0, .int .i64 0]) ?_ 0 _ rfl; refine ub ?_; exact BK345.out) Try.underlying30 rfl (by kernel_rfl)) rfl ?_
  exact ⟨by first | rfl | (simp [eN_, eS_] <;> rfl) | (simp [*, eN_, eS_] <;> rfl), by repeat first | exact HB.out | refine bs_ ?_ GE343.out | refine bs_ ?_ GE344.out | refine bs_ ?_ GE345.out | refine ul ?_⟩
 subst c4
 have H1 : ((zP.f k a0_0 a0_1 (wrap64 (-a1_0)) a1_1).bind fun bt347 => (some (bt347.1, bt347.2.1, bt347.2.2))) = some (r1, r2, r3) := by rw [if_pos rfl] at H; exact H
 clear H
 have H := H1
 clear H1
 replace H := Option.bind_eq_some_iff.mp H
 obtain ⟨⟨t347, t348, t349⟩, A50, H⟩ := H
 try dsimp only at H
 have A5 := aq A50
 clear A50
 simp only [Option.some.injEq, Prod.mk.injEq] at H
 obtain ⟨rfl, rfl, rfl⟩ := H
 go_enter Try.func104, Try.ntmps104
 go_wp2_with (first | ((with_reducible refine gD (N := 2) rfl ?_); refine bE ?hg (N := 2) ?hd (cs := #[.int .i64 a0_0, .int .i64 a0_1]) (t := 30) ?hr ?_; (case hd => rfl); (case hg => rfl); (case hr => first | (go_simp; done) | (go_simp; rfl)); intro gb343 hg w6 hbox hb; have n0_ := aq (bt_ (by exact ul HB.out) hb); have n1_ := aq (hbox); have n2_ := aq ((by rw [hg]; exact (bz_ (by exact ul HB.out)) : w.heap.size ≤ gb343)); have n3_ := aq ((by rw [hg]; exact (bz_ (by exact ul HB.out)) : w.heap.size ≤ gb343)); clear HB; have HB := n0_; have BK343 := n1_; have GW343 := n2_; have GE343 := n3_; clear n0_ n1_ n2_ n3_; clear hb hbox hg) | ((with_reducible refine gD (N := 3) rfl ?_); refine bE ?hg (N := 3) ?hd (cs := #[.int .i64 a1_0, .int .i64 a1_1]) (t := 30) ?hr ?_; (case hd => rfl); (case hg => rfl); (case hr => first | (go_simp; done) | (go_simp; rfl)); intro gb344 hg w7 hbox hb; have n0_ := bk BK343 hb; have n1_ := aq (bt_ (by repeat first | exact HB.out | refine bs_ ?_ GE343.out | refine ul ?_) hb); have n2_ := aq (hbox); have n3_ := aq ((by rw [hg]; exact (bz_ (by repeat first | exact HB.out | refine bs_ ?_ GE343.out | refine ul ?_)) : w.heap.size ≤ gb344)); have n4_ := aq ((by rw [hg]; exact (bz_ (by repeat first | exact HB.out | refine bs_ ?_ GE343.out | refine ul ?_)) : w.heap.size ≤ gb344)); have n5_ := aq ((by rw [hg]; exact Nat.ne_of_lt (zN (g := gb343) (o := .cells #[.int .i64 a0_0, .int .i64 a0_1] 30 (0, 0)) (by exact ub BK343.out)) : gb343 ≠ gb344)); have n6_ := aq ((by rw [hg]; exact Nat.ne_of_gt (zN (g := gb343) (o := .cells #[.int .i64 a0_0, .int .i64 a0_1] 30 (0, 0)) (by exact ub BK343.out)) : gb344 ≠ gb343)); clear BK343; clear HB; have BK343 := n0_; have HB := n1_; have BK344 := n2_; have GW344 := n3_; have GE344 := n4_; have NB343_344 := n5_; have NB344_343 := n6_; clear n0_ n1_ n2_ n3_ n4_ n5_ n6_; clear hb hbox hg) | ((with_reducible refine gD (N := 4) rfl ?_); refine bE ?hg (N := 4) ?hd (cs := #[.int .i64 0, .int .i64 0]) (t := 30) ?hr ?_; (case hd => rfl); (case hg => rfl); (case hr => first | (go_simp; done) | (go_simp; rfl)); intro gb345 hg w8 hbox hb; have n0_ := bk BK343 hb; have n1_ := bk BK344 hb; have n2_ := aq (bt_ (by repeat first | exact HB.out | refine bs_ ?_ GE343.out | refine bs_ ?_ GE344.out | refine ul ?_) hb); have n3_ := aq (hbox); have n4_ := aq ((by rw [hg]; exact (bz_ (by repeat first | exact HB.out | refine bs_ ?_ GE343.out | refine bs_ ?_ GE344.out | refine ul ?_)) : w.heap.size ≤ gb345)); have n5_ := aq ((by rw [hg]; exact (bz_ (by repeat first | exact HB.out | refine bs_ ?_ GE343.out | refine bs_ ?_ GE344.out | refine ul ?_)) : w.heap.size ≤ gb345)); have n6_ := aq ((by rw [hg]; exact Nat.ne_of_lt (zN (g := gb343) (o := .cells #[.int .i64 a0_0, .int .i64 a0_1] 30 (0, 0)) (by exact ub BK343.out)) : gb343 ≠ gb345)); have n7_ := aq ((by rw [hg]; exact Nat.ne_of_gt (zN (g := gb343) (o := .cells #[.int .i64 a0_0, .int .i64 a0_1] 30 (0, 0)) (by exact ub BK343.out)) : gb345 ≠ gb343)); have n8_ := aq ((by rw [hg]; exact Nat.ne_of_lt (zN (g := gb344) (o := .cells #[.int .i64 a1_0, .int .i64 a1_1] 30 (0, 0)) (by exact ub BK344.out)) : gb344 ≠ gb345)); have n9_ := aq ((by rw [hg]; exact Nat.ne_of_gt (zN (g := gb344) (o := .cells #[.int .i64 a1_0, .int .i64 a1_1] 30 (0, 0)) (by exact ub BK344.out)) : gb345 ≠ gb344)); clear BK343; clear BK344; clear HB; have BK343 := n0_; have BK344 := n1_; have HB := n2_; have BK345 := n3_; have GW345 := n4_; have GE345 := n5_; have NB343_345 := n6_; have NB345_343 := n7_; have NB344_345 := n8_; have NB345_344 := n9_; clear n0_ n1_ n2_ n3_ n4_ n5_ n6_ n7_ n8_ n9_; clear hb hbox hg; have hnb9 := NB344_343.out; have hnc9 := NB343_344.out; have hnb10 := NB344_345.out; have hnc10 := NB345_344.out; have hcz11_0 := bT BK344.out 0 (.int .i64 a1_0); have hcz11_1 := bT BK344.out 1 (.int .i64 a1_1); have hfz11_0 := bf_ BK344.out 0; have hfz11_1 := bf_ BK344.out 1) | ((with_reducible refine xL (f := 59) rfl ?_); refine tS (some 7) rfl rfl Try.func59 (by kernel_rfl) rfl #[.agg #[.int .i64 a1_0, .int .i64 a1_1]] rfl (by simp only [List.map_toArray, List.map_cons, List.map_nil] <;> rfl) ?_; (with_reducible refine (zO.calls k a1_0 a1_1 true _ A3.out).mono ?_); rintro e w12 ⟨rfl, hb⟩; refine ⟨_, rfl, ?_⟩; have n0_ := bk BK343 hb; have n1_ := bk BK344 hb; have n2_ := bk BK345 hb; have n3_ := aq (bt_ (by repeat first | exact HB.out | refine bs_ ?_ GE343.out | refine bs_ ?_ GE344.out | refine bs_ ?_ GE345.out | refine ul ?_) hb); clear BK343; clear BK344; clear BK345; clear HB; have BK343 := n0_; have BK344 := n1_; have BK345 := n2_; have HB := n3_; clear n0_ n1_ n2_ n3_; have hnb13 := NB343_345.out; have hnc13 := NB345_343.out; have hcz14_0 := bT BK343.out 0 (.int .i64 a0_0); have hcz14_1 := bT BK343.out 1 (.int .i64 a0_1); have hfz14_0 := bf_ BK343.out 0; have hfz14_1 := bf_ BK343.out 1; have hcz15_0 := bT BK344.out 0 (.int .i64 a1_0); have hcz15_1 := bT BK344.out 1 (.int .i64 a1_1); have hfz15_0 := bf_ BK344.out 0; have hfz15_1 := bf_ BK344.out 1) | ((with_reducible refine xL (f := 103) rfl ?_); refine tS (some 17) rfl rfl Try.func103 (by kernel_rfl) rfl #[.agg #[.int .i64 a0_0, .int .i64 a0_1], .agg #[.int .i64 (wrap64 (-a1_0)), .int .i64 a1_1]] rfl (by simp only [List.map_toArray, List.map_cons, List.map_nil] <;> rfl) ?_; (with_reducible refine (zP.calls k a0_0 a0_1 (wrap64 (-a1_0)) a1_1 t347 t348 t349 _ A5.out).mono ?_); rintro e w16 ⟨rfl, hb⟩; refine ⟨_, rfl, ?_⟩; have n0_ := bk BK343 hb; have n1_ := bk BK344 hb; have n2_ := bk BK345 hb; have n3_ := aq (bt_ (by repeat first | exact HB.out | refine bs_ ?_ GE343.out | refine bs_ ?_ GE344.out | refine bs_ ?_ GE345.out | refine ul ?_) hb); clear BK343; clear BK344; clear BK345; clear HB; have BK343 := n0_; have BK344 := n1_; have BK345 := n2_; have HB := n3_; clear n0_ n1_ n2_ n3_; have hcz17_0 := bT BK345.out 0 (.int .i64 0); have hcz17_1 := bT BK345.out 1 (.int .i64 0); have hfz17_0 := bf_ BK345.out 0; have hfz17_1 := bf_ BK345.out 1))
 refine bodyPost_ret (zB rfl _ _ gb345 30 #[.int .i64 t347, .int .i64 t348] (0, 0) _ rfl (by refine ub ?_; refine yV (cs := #[.int .i64 t347, .int .i64 0]) ?_ 1 _ rfl; refine ub ?_; refine yV (cs := #[.int .i64 0, .int .i64 0]) ?_ 0 _ rfl; refine ub ?_; exact BK345.out) Try.underlying30 rfl (by kernel_rfl)) rfl ?_
 exact ⟨by first | rfl | (simp [eN_, eS_] <;> rfl) | (simp [*, eN_, eS_] <;> rfl), by repeat first | exact HB.out | refine bs_ ?_ GE343.out | refine bs_ ?_ GE344.out | refine bs_ ?_ GE345.out | refine ul ?_⟩
end Go.Proofs.Ytoonahobmlnflaa.PC
