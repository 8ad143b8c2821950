import Derived.Test.YtamloclgignfgaaGa
namespace Go.Proofs.Ytamloclgignfgaa.PA
open Go.RowKit Go.Proofs.YtamloclgignfgaaW.PrintWords Go.Proofs.YtamloclgignfgaaW.PrintLast Go.Proofs.YtamloclgignfgaaW.PrintMore
set_option linter.unusedVariables false
set_option linter.unusedSimpArgs false

set_option maxHeartbeats 4000000 in
set_option maxRecDepth 100000 in
theorem cont34 (g : Nat) (cap : Array Value) (p : S40 → Bool) (eg : ∀ args w, (callFunc g args).run Try.prog w = .ok (.enter g args) w) (A : Option Addr) (c : Nat) (l : List S40) (w : World)
    (hr : Kd.C k40 w A l.length l) (hc : l.length ≤ c) (hp : PredE g cap p w) :
    Calls Try.prog 34 #[.slice A l.length c, .func (.func g) #[] cap] w fun e w' => e = .returned (.bool (l.any p)) ∧ Below w.heap.size w w' := by
  have h42 := idx42 g cap p eg A c l w hr hc hp
  have hge := idxE_ge p l 0 (by omega)
  have H42 := Aside0.mk h42
  have HG := Aside0.mk hge
  clear h42 hge hr hc hp
  go_enter Try.func34, Try.ntmps34
  generalize hi : idxE p l 0 = ii at H42 HG
  have HI := Aside0.mk hi
  clear hi
  go_wp2_with (go_at_call 42; refine H42.out.mono ?_; rintro e w' ⟨rfl, hb'⟩)
  go_ret
  exact ⟨by rw [HG.out]; rfl, hb'⟩

/-- May edges be? As the program asks. -/
def rightB (a b : Int) (l : List S40) : Bool :=
  if a < 0 then false else if b < 0 then false else if a > 64 then false else if b > 64 then false else if l.length > 4096 then false else !(l.any (badE a b))
def match_right.f (a0 a1 : Int) (l2 : List S40) : Option Bool := some (rightB a0 a1 l2)

set_option maxHeartbeats 4000000 in
set_option maxRecDepth 100000 in
theorem match_right.calls (a0 : Int) (a1 : Int) (A2 : Option Addr) (c2 : Nat) (l2 : List S40) (r : Bool) (w : World) (hr2 : Kd.C k40 w A2 l2.length l2) (hc2 : l2.length ≤ c2) (h : match_right.f a0 a1 l2 = some r) :
    Calls Try.prog 28 #[.int .i64 a0, .int .i64 a1, .slice A2 l2.length c2] w fun e w' => e = .returned (.bool r) ∧ Below w.heap.size w w' := by
  have e35 : ∀ args w, (callFunc 35 args).run Try.prog w = .ok (.enter 35 args) w := enters_of Try.func35 (by kernel_rfl) rfl
  have hr0 : rightB a0 a1 l2 = r := Option.some.inj h
  clear h
  unfold rightB at hr0
  have H := Aside0.mk hr0
  clear hr0
  have hb : ∀ o o', Below w.heap.size w ((w.alloc o).alloc o') := fun o o' => below_alloc (below_alloc (Below.refl _ _) o) o'
  have HB := Aside0.mk hb
  clear hb
  have hcl : Calls Try.prog 34 #[.slice A2 l2.length c2, .func (.func 35) #[] #[.pointer (some ⟨w.heap.size, 0, none⟩), .pointer (some ⟨w.heap.size + 1, 0, none⟩)]] ((w.alloc (.cells #[.int .i64 a0] 3)).alloc (.cells #[.int .i64 a1] 3)) fun e w' => e = .returned (.bool (l2.any (badE a0 a1))) ∧ Below w.heap.size w w' := by
    refine (cont34 35 _ (badE a0 a1) e35 A2 c2 l2 _ (Kd.C_below hr2 (HB.out _ _)) hc2 ?_).mono (fun e w' h => ⟨h.1, below_step (HB.out _ _) h.2⟩)
    intro W x hb
    exact clo35 a0 a1 x _ _ W ((hb.cell (p := ⟨w.heap.size, 0, none⟩) (by simp; omega)).trans (by simp)) ((hb.cell (p := ⟨w.heap.size + 1, 0, none⟩) (by simp)).trans (by simp))
  have HCL := Aside0.mk hcl
  clear hcl hr2 hc2
  generalize hq : l2.any (badE a0 a1) = q at H HCL
  clear hq
  go_enter Try.func28, Try.ntmps28
  by_cases c1 : a0 < 0
  · have d0 : decide (a0 < 0) = true := decide_eq_true c1
    have hr : false = r := by have := H.out; rw [if_pos c1] at this; exact this
    subst hr; clear c1 H HCL
    go_wp2
    go_ret
    exact ⟨rfl, HB.out _ _⟩
  have d0 : decide (a0 < 0) = false := decide_eq_false c1
  replace H := Aside0.mk (by have := H.out; rw [if_neg c1] at this; exact this)
  clear c1
  by_cases c1 : a1 < 0
  · have d1 : decide (a1 < 0) = true := decide_eq_true c1
    have hr : false = r := by have := H.out; rw [if_pos c1] at this; exact this
    subst hr; clear c1 H HCL
    go_wp2
    go_ret
    exact ⟨rfl, HB.out _ _⟩
  have d1 : decide (a1 < 0) = false := decide_eq_false c1
  replace H := Aside0.mk (by have := H.out; rw [if_neg c1] at this; exact this)
  clear c1
  by_cases c1 : a0 > 64
  · have d2 : decide (64 < a0) = true := decide_eq_true c1
    have hr : false = r := by have := H.out; rw [if_pos c1] at this; exact this
    subst hr; clear c1 H HCL
    go_wp2
    go_ret
    exact ⟨rfl, HB.out _ _⟩
  have d2 : decide (64 < a0) = false := decide_eq_false c1
  replace H := Aside0.mk (by have := H.out; rw [if_neg c1] at this; exact this)
  clear c1
  by_cases c1 : a1 > 64
  · have d3 : decide (64 < a1) = true := decide_eq_true c1
    have hr : false = r := by have := H.out; rw [if_pos c1] at this; exact this
    subst hr; clear c1 H HCL
    go_wp2
    go_ret
    exact ⟨rfl, HB.out _ _⟩
  have d3 : decide (64 < a1) = false := decide_eq_false c1
  replace H := Aside0.mk (by have := H.out; rw [if_neg c1] at this; exact this)
  clear c1
  by_cases c1 : l2.length > 4096
  · have d5 : decide (4096 < (l2.length : Int)) = true := decide_eq_true (by omega)
    have d5' : decide (4096 < l2.length) = true := decide_eq_true (by omega)
    have hr : false = r := by have := H.out; rw [if_pos c1] at this; exact this
    subst hr; clear c1 H HCL
    go_wp2
    go_ret
    exact ⟨rfl, HB.out _ _⟩
  have d5 : decide (4096 < (l2.length : Int)) = false := decide_eq_false (by omega)
  have d5' : decide (4096 < l2.length) = false := decide_eq_false (by omega)
  replace H := Aside0.mk (by have := H.out; rw [if_neg c1] at this; exact this)
  clear c1
  have hr : (!q) = r := H.out
  clear H
  subst hr
  go_wp2_with (go_at_call 34; refine HCL.out.mono ?_; rintro e w' ⟨rfl, hb'⟩)
  go_ret
  exact ⟨rfl, hb'⟩
end Go.Proofs.Ytamloclgignfgaa.PA
