/- The contract of alive: ulp.Next(1) is more than 1. -/
import Derived.Test.YtamloclgignfgaaGa
import Derived.WalkLawsBesides
import Derived.Laws.Cover2
namespace Go.Proofs.Ytamloclgignfgaa.PA
open Go.RowKit Go.Proofs.YtamloclgignfgaaW.PrintWords Go.Proofs.YtamloclgignfgaaW.PrintLast Go.Proofs.YtamloclgignfgaaW.PrintMore
set_option linter.unusedVariables false
set_option linter.unusedSimpArgs false

theorem run39 (n : Int) (w : World) : (callFunc 39 #[.int .u64 n]).run Try.prog w = .ok (.value (.float .f64 n.toNat)) w :=
  (run_callFunc_extern (e := Extern.MathFloatBits.float64frombits) Try.func39 (by kernel_rfl) (by kernel_rfl) (by kernel_rfl) (by kernel_rfl) _ w).trans rfl
theorem run40 (b : Nat) (w : World) : (callFunc 40 #[.float .f64 b]).run Try.prog w = .ok (.value (.int .u64 b)) w :=
  (run_callFunc_extern (e := Extern.MathFloatBits.float64bits) Try.func40 (by kernel_rfl) (by kernel_rfl) (by kernel_rfl) (by kernel_rfl) _ w).trans rfl
theorem o11 : FloatKind.f64.format.order 4607182418800017408 4607182418800017408 = some .eq := by kernel_rfl
theorem o1i : FloatKind.f64.format.order 4607182418800017408 9218868437227405312 = some .lt := by kernel_rfl
theorem o10 : FloatKind.f64.format.order 4607182418800017408 0 = some .gt := by kernel_rfl
theorem o21 : FloatKind.f64.format.order 4607182418800017409 4607182418800017408 = some .gt := by kernel_rfl

attribute [local go_sem] run39 run40
set_option maxHeartbeats 1000000 in
set_option maxRecDepth 100000 in
theorem nan37 (w : World) : Calls Try.prog 37 #[.float .f64 4607182418800017408] w fun e w' => e = .returned (.bool false) ∧ Below w.heap.size w w' := by
  have hb := Aside0.mk (Below.refl w.heap.size w)
  go_enter Try.func37, Try.ntmps37
  go_wp2
  go_ret
  exact ⟨by rw [o11]; rfl, hb.out⟩
set_option maxHeartbeats 1000000 in
set_option maxRecDepth 100000 in
theorem inf38 (w : World) : Calls Try.prog 38 #[.int .i64 1] w fun e w' => e = .returned (.float .f64 9218868437227405312) ∧ Below w.heap.size w w' := by
  have hb := Aside0.mk (Below.refl w.heap.size w)
  go_enter Try.func38, Try.ntmps38
  go_wp2
  go_ret
  exact ⟨rfl, hb.out⟩
set_option maxHeartbeats 2000000 in
set_option maxRecDepth 100000 in
theorem next33 (w : World) : Calls Try.prog 33 #[.float .f64 4607182418800017408] w fun e w' => e = .returned (.float .f64 4607182418800017409) ∧ Below w.heap.size w w' := by
  have h1 := Aside0.mk (nan37 w)
  have h2 := Aside0.mk inf38
  have q1 : (FloatKind.f64.format.order 4607182418800017408 9218868437227405312 == some Ordering.eq) = false := by rw [o1i]; rfl
  have q2 : (FloatKind.f64.format.order 4607182418800017408 0 == some Ordering.eq) = false := by rw [o10]; rfl
  have q3 : (FloatKind.f64.format.order 4607182418800017408 0 == some Ordering.gt) = true := by rw [o10]; rfl
  go_enter Try.func33, Try.ntmps33
  go_wp2_with (first | (go_at_call 37; refine h1.out.mono ?_; rintro e w5 ⟨rfl, hb⟩; have HB := Aside0.mk hb; clear hb) | (go_at_call 38; refine (h2.out _).mono ?_; rintro e w6 ⟨rfl, hb⟩; have HB2 := Aside0.mk hb; clear hb))
  go_ret
  exact ⟨rfl, by repeat (first | (with_reducible first | exact HB.out | exact HB2.out | apply below_alloc | apply pw_below_drewN | apply below_drew1) | exact below_step HB.out HB2.out)⟩
/-- What it tells. -/
def orrerylaw20_alive.f : Option Bool := some true
set_option maxHeartbeats 1000000 in
set_option maxRecDepth 100000 in
theorem orrerylaw20_alive.calls (r : Bool) (w : World) (h : orrerylaw20_alive.f = some r) : Calls Try.prog 27 #[] w fun e w' => e = .returned (.bool r) ∧ Below w.heap.size w w' := by
  have hr : true = r := Option.some.inj h
  subst hr
  clear h
  have h1 := Aside0.mk (next33 w)
  have q1 : (FloatKind.f64.format.order 4607182418800017409 4607182418800017408 == some Ordering.gt) = true := by rw [o21]; rfl
  go_enter Try.func27, Try.ntmps27
  go_wp2_with (go_at_call 33; refine h1.out.mono ?_; rintro e w5 ⟨rfl, hb⟩; have HB := Aside0.mk hb; clear hb)
  go_ret
  exact ⟨rfl, HB.out⟩
end Go.Proofs.Ytamloclgignfgaa.PA
