/- Several texts of this claim, one behind the other. -/
import Derived.Test.YtlaneafplmbcnaaGe
import Derived.WalkLawsBesides
import Derived.Laws.Cover2
import Derived.Test.YtlaneafplmbcnaaHh
import Derived.Test.YtlaneafplmbcnaaHf
import Derived.Test.YtlaneafplmbcnaaSq
import Derived.Test.YtlaneafplmbcnaaGg
namespace Go.Proofs.Ytlaneafplmbcnaa.PO
open Go.RowKit Go.Proofs.YtlaneafplmbcnaaW.PrintWords Go.Proofs.YtlaneafplmbcnaaW.PrintLast Go.Proofs.YtlaneafplmbcnaaW.PrintMore
set_option linter.unusedVariables false
set_option linter.unusedSimpArgs false

theorem run39 (n : Int) (w : World) : (callFunc 45 #[.int .u64 n]).run Try.prog w = .ok (.value (.float .f64 n.toNat)) w :=
  (run_callFunc_extern (e := Extern.MathFloatBits.float64frombits) Try.func45 (by kernel_rfl) (by kernel_rfl) (by kernel_rfl) (by kernel_rfl) _ w).trans rfl
theorem run40 (b : Nat) (w : World) : (callFunc 46 #[.float .f64 b]).run Try.prog w = .ok (.value (.int .u64 b)) w :=
  (run_callFunc_extern (e := Extern.MathFloatBits.float64bits) Try.func46 (by kernel_rfl) (by kernel_rfl) (by kernel_rfl) (by kernel_rfl) _ w).trans rfl
theorem o11 : FloatKind.f64.format.order 4607182418800017408 4607182418800017408 = some .eq := by kernel_rfl
theorem o1i : FloatKind.f64.format.order 4607182418800017408 9218868437227405312 = some .lt := by kernel_rfl
theorem o10 : FloatKind.f64.format.order 4607182418800017408 0 = some .gt := by kernel_rfl
theorem o21 : FloatKind.f64.format.order 4607182418800017409 4607182418800017408 = some .gt := by kernel_rfl

attribute [local go_sem] run39 run40
set_option maxHeartbeats 1000000 in
set_option maxRecDepth 100000 in
theorem nan37 (w : World) : Calls Try.prog 43 #[.float .f64 4607182418800017408] w fun e w' => e = .returned (.bool false) ∧ Below w.heap.size w w' := by
  have hb := Aside0.mk (Below.refl w.heap.size w)
  go_enter Try.func43, Try.ntmps43
  go_wp2
  go_ret
  exact ⟨by rw [o11]; rfl, hb.out⟩
set_option maxHeartbeats 1000000 in
set_option maxRecDepth 100000 in
theorem inf38 (w : World) : Calls Try.prog 44 #[.int .i64 1] w fun e w' => e = .returned (.float .f64 9218868437227405312) ∧ Below w.heap.size w w' := by
  have hb := Aside0.mk (Below.refl w.heap.size w)
  go_enter Try.func44, Try.ntmps44
  go_wp2
  go_ret
  exact ⟨rfl, hb.out⟩
set_option maxHeartbeats 2000000 in
set_option maxRecDepth 100000 in
theorem next33 (w : World) : Calls Try.prog 23 #[.float .f64 4607182418800017408] w fun e w' => e = .returned (.float .f64 4607182418800017409) ∧ Below w.heap.size w w' := by
  have h1 := Aside0.mk (nan37 w)
  have h2 := Aside0.mk inf38
  have q1 : (FloatKind.f64.format.order 4607182418800017408 9218868437227405312 == some Ordering.eq) = false := by rw [o1i]; rfl
  have q2 : (FloatKind.f64.format.order 4607182418800017408 0 == some Ordering.eq) = false := by rw [o10]; rfl
  have q3 : (FloatKind.f64.format.order 4607182418800017408 0 == some Ordering.gt) = true := by rw [o10]; rfl
  go_enter Try.func23, Try.ntmps23
  go_wp2_with (first | (go_at_call 43; refine h1.out.mono ?_; rintro e w5 ⟨rfl, hb⟩; have HB := Aside0.mk hb; clear hb) | (go_at_call 44; refine (h2.out _).mono ?_; rintro e w6 ⟨rfl, hb⟩; have HB2 := Aside0.mk hb; clear hb))
  go_ret
  exact ⟨rfl, by repeat (first | (with_reducible first | exact HB.out | exact HB2.out | apply below_alloc | apply pw_below_drewN | apply below_drew1) | exact below_step HB.out HB2.out)⟩
/-- What it tells. -/
def orrerylaw21_alive.f : Option Bool := some true
set_option maxHeartbeats 1000000 in
set_option maxRecDepth 100000 in
theorem orrerylaw21_alive.calls (r : Bool) (w : World) (h : orrerylaw21_alive.f = some r) : Calls Try.prog 13 #[] w fun e w' => e = .returned (.bool r) ∧ Below w.heap.size w w' := by
  have hr : true = r := Option.some.inj h
  subst hr
  clear h
  have h1 := Aside0.mk (next33 w)
  have q1 : (FloatKind.f64.format.order 4607182418800017409 4607182418800017408 == some Ordering.gt) = true := by rw [o21]; rfl
  go_enter Try.func13, Try.ntmps13
  go_wp2_with (go_at_call 23; refine h1.out.mono ?_; rintro e w5 ⟨rfl, hb⟩; have HB := Aside0.mk hb; clear hb)
  go_ret
  exact ⟨rfl, HB.out⟩
end Go.Proofs.Ytlaneafplmbcnaa.PO

namespace Go.Proofs.Ytlaneafplmbcnaa.PO
open Go.RowKit Go.Proofs.YtlaneafplmbcnaaW.PrintWords Go.Proofs.YtlaneafplmbcnaaW.PrintLast Go.Proofs.YtlaneafplmbcnaaW.PrintMore
set_option linter.unusedVariables false
set_option linter.unusedSimpArgs false
set_option maxHeartbeats 2000000 in
set_option maxRecDepth 100000 in
theorem ord17z (told : List Int) (N : List (List Int)) (A1 : Option Addr) (c1 : Nat) (A2 : Option Addr) (c2 : Nat) (v : Value) (n : Nat) (wt w : World) (hn : n = N.length) (h64 : n ≤ 64) (hb : Below wt.heap.size wt w)
    (hB : Kd.S (Kd.slice 3 (Kd.int .i64)) 23 w wt.heap.size (fun _ => True) v []) :
    Calls Try.prog 17 #[.slice A1 told.length c1, .slice A2 N.length c2, v] w fun e w' => ∃ v', e = .returned v' ∧ Kd.S k30 30 w' wt.heap.size (fun _ => True) v' [] ∧ Below wt.heap.size wt w' := by
  obtain ⟨A3, c3, rfl⟩ := Kd.S_slice hB
  have HB := Aside0.mk hb
  clear hB hb
  rw [← hn]
  clear hn
  go_enter Try.func17, Try.ntmps17
  go_wp2_with (first | ((with_reducible refine gate_dst (N := 15) rfl ?_); refine Kd.R_make Kd.bool _ 4 rfl (N := 15) rfl 52 _ _ rfl (n : Int) rfl rfl Try.underlying52 (.bool false) 1 info4b rfl (by decide) (by omega) false (ok := fun _ => True) (okp := fun _ => True) rfl (fun _ hk => hk) trivial (by omega) (by omega) (Below.refl _ _) (Nat.le_refl _) ?_; intro vS w6 ho_ hb6 hg_ hnew_; obtain ⟨gT, hob, hge⟩ := hnew_; obtain ⟨cT, rfl, hRB⟩ := made_formB ho_ hob; have HB6 := Aside0.mk hb6; clear ho_ hob hb6 hg_ hge hRB) | (go_at_call 30; refine (Try.slices_SortFunc_none A3 c3 _ _).mono ?_; rintro e w7 ⟨rfl, rfl⟩))
  have HZ := Aside0.mk (below_step (below_step (below_step HB.out (below_alloc (Below.refl _ _) (.cells #[.slice A2 n c2] 37))) HB6.out) (below_alloc (Below.refl _ _) (.cells #[.slice (some ⟨gT, 0, none⟩) n cT] 52)))
  generalize (w6.alloc (.cells #[.slice (some ⟨gT, 0, none⟩) n cT] 52)) = w8 at HZ ⊢
  go_loopg [2, 8] 1 (fun gg v2 v8 W' => v2 = .slice A3 0 c3 ∧ v8 = .slice none 0 0 ∧ Aside0 (Below wt.heap.size wt W'))
  case atStart => exact ⟨rfl, rfl, HZ⟩
  case round =>
    clear HZ
    obtain ⟨rfl, rfl, HZ⟩ := hrel
    go_wp2
    go_ret
    exact ⟨_, rfl, Kd.S_nil _ _ _ _ _, HZ.out⟩
theorem ord17 (told : List Int) (N cs : List (List Int)) (A1 : Option Addr) (c1 : Nat) (A2 : Option Addr) (c2 : Nat) (v : Value) (n : Nat) (wt w : World) (hn : n = N.length) (h64 : n ≤ 64) (htl : told.length = n) (hb : Below wt.heap.size wt w)
    (hT : Kd.C (Kd.int .i64) wt A1 told.length told) (hc1 : told.length ≤ c1) (hNC : Kd.C (Kd.slice 3 (Kd.int .i64)) wt A2 N.length N) (hc2 : N.length ≤ c2) (hNr : ∀ j, ∀ k ∈ rd_L3 N j, 0 ≤ k ∧ k < (n : Int)) (hS : Sccs N n cs)
    (hB : Kd.S (Kd.slice 3 (Kd.int .i64)) 23 w wt.heap.size (fun _ => True) v cs) :
    Calls Try.prog 17 #[.slice A1 told.length c1, .slice A2 N.length c2, v] w fun e w' => ∃ v', e = .returned v' ∧ Kd.S k30 30 w' wt.heap.size (fun _ => True) v' (ordL told N cs.length (List.replicate n false) (cs.mergeSort hdLe)) ∧ Below wt.heap.size wt w' := by
  by_cases h0 : 0 < cs.length
  · exact ord17p told N cs A1 c1 A2 c2 v n wt w hn h64 htl hb hT hc1 hNC hc2 hNr hS hB h0
  · have e : cs = [] := List.length_eq_zero_iff.1 (by omega)
    subst e
    exact ord17z told N A1 c1 A2 c2 v n wt w hn h64 hb hB
end Go.Proofs.Ytlaneafplmbcnaa.PO

namespace Go.Proofs.Ytlaneafplmbcnaa.PO
open Go.RowKit Go.Proofs.YtlaneafplmbcnaaW.PrintWords Go.Proofs.YtlaneafplmbcnaaW.PrintLast Go.Proofs.YtlaneafplmbcnaaW.PrintMore
set_option linter.unusedVariables false
set_option linter.unusedSimpArgs false

/-- Are all needs equations? -/
def inRb (N : List (List Int)) : Bool := N.all fun r => r.all fun k => decide (0 ≤ k) && decide (k < (N.length : Int))
theorem inRb_iff {N : List (List Int)} : inRb N = true ↔ ∀ j, ∀ k ∈ rd_L3 N j, 0 ≤ k ∧ k < (N.length : Int) := by
  unfold inRb
  simp only [List.all_eq_true, Bool.and_eq_true, decide_eq_true_eq]
  constructor
  · intro h j k hk
    unfold rd_L3 at hk
    rw [List.getD_eq_getElem?_getD] at hk
    cases hr : N[j.toNat]? with
    | none => rw [hr] at hk; cases hk
    | some r => rw [hr] at hk; exact h r (List.mem_of_getElem? hr) k hk
  · intro h r hr k hk
    obtain ⟨i, hi, rfl⟩ := List.mem_iff_getElem.1 hr
    refine h (i : Int) k ?_
    unfold rd_L3
    rw [Int.toNat_natCast, List.getD_eq_getElem?_getD, List.getElem?_eq_getElem hi]
    exact hk
def order_together.f (N : List (List Int)) : Option (List (List Int)) := if N.length ≤ 64 ∧ inRb N = true then some (tarjan N) else none
def order_ordered.f (told : List Int) (N cs : List (List Int)) : Option (List S30) := if told.length = N.length ∧ N.length ≤ 64 ∧ inRb N = true ∧ cs = tarjan N then some (ordL told N cs.length (List.replicate N.length false) (cs.mergeSort hdLe)) else none
/-- What is known between the two calls. -/
def Pk (w : World) (A1 : Option Addr) (told : List Int) (A2 : Option Addr) (N : List (List Int)) (w' : World) (v : Value) (cs : List (List Int)) : Prop :=
  ∃ Wt, Below w.heap.size w Wt ∧ Kd.C (Kd.int .i64) Wt A1 told.length told ∧ Kd.C (Kd.slice 3 (Kd.int .i64)) Wt A2 N.length N ∧ Kd.S (Kd.slice 3 (Kd.int .i64)) 23 w' Wt.heap.size (fun _ => True) v cs ∧ Below Wt.heap.size Wt w'
section
variable {w w' W1 : World} {A1 A2 : Option Addr} {told : List Int} {N cs : List (List Int)} {v : Value}
theorem Pk.grown (h : Pk w A1 told A2 N w' v cs) (hb : Below w'.heap.size w' W1) : Pk w A1 told A2 N W1 v cs := by
  obtain ⟨Wt, h1, h2, h3, h4, h5⟩ := h
  exact ⟨Wt, h1, h2, h3, Kd.S_below h4 hb, below_step h5 hb⟩
theorem Pk.drew (h : Pk w A1 told A2 N w' v cs) : Pk w A1 told A2 N w'.drew v cs := h.grown (below_drew1 (Below.refl _ _))
theorem Pk.drewN (h : Pk w A1 told A2 N w' v cs) (m : Nat) : Pk w A1 told A2 N (w'.drewN m) v cs := h.grown (pw_below_drewN (Below.refl _ _) m)
theorem Pk.slice (h : Pk w A1 told A2 N w' v cs) : ∃ A c, v = .slice A cs.length c := by
  obtain ⟨Wt, h1, h2, h3, h4, h5⟩ := h
  exact Kd.S_slice h4
end
theorem order_together.calls (w : World) (A1 : Option Addr) (told : List Int) (A : Option Addr) (c : Nat) (N r : List (List Int)) (W : World) (hr : Kd.C (Kd.slice 3 (Kd.int .i64)) W A N.length N) (hc : N.length ≤ c) (ht : Kd.C (Kd.int .i64) W A1 told.length told) (hb : Below w.heap.size w W) (h : order_together.f N = some r) :
    Calls Try.prog 18 #[.slice A N.length c] W fun e w' => ∃ v, e = .returned v ∧ Pk w A1 told A N w' v r := by
  unfold order_together.f at h
  split at h
  · rename_i hh
    injection h with h
    subst h
    exact (tog18 N A c hh.1 W hr hc (inRb_iff.1 hh.2)).mono fun e w' ⟨v, he, hS, hB⟩ => ⟨v, he, W, hb, ht, hr, hS, hB⟩
  · cases h
theorem order_ordered.calls (w : World) (told : List Int) (A1 : Option Addr) (c1 : Nat) (A2 : Option Addr) (c2 : Nat) (N cs : List (List Int)) (v : Value) (r : List S30) (W : World) (hc1 : told.length ≤ c1) (hc2 : N.length ≤ c2) (hp : Pk w A1 told A2 N W v cs) (h : order_ordered.f told N cs = some r) :
    Calls Try.prog 17 #[.slice A1 told.length c1, .slice A2 N.length c2, v] W fun e w' => ∃ v', e = .returned v' ∧ Kd.S k30 30 w' w.heap.size (fun _ => True) v' r ∧ Below w.heap.size w w' := by
  unfold order_ordered.f at h
  split at h
  · rename_i hh
    injection h with h
    subst h
    obtain ⟨Wt, h1, h2, h3, h4, h5⟩ := hp
    obtain ⟨e1, e2, e3, e4⟩ := hh
    have hN := inRb_iff.1 e3
    have hS : Sccs N N.length cs := by rw [e4]; exact tarjan_sccs hN rfl
    exact (ord17 told N cs A1 c1 A2 c2 v N.length Wt W rfl e2 e1 h5 h2 hc1 h3 hc2 hN hS h4).mono fun e w' ⟨v', he, hS', hB⟩ => ⟨v', he, Kd.S_lower hS' h1.size, below_step h1 hB⟩
  · cases h
end Go.Proofs.Ytlaneafplmbcnaa.PO

