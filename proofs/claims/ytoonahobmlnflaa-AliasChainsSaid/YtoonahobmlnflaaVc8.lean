/- Texts of this claim, one behind the other. -/
import Derived.RangeFuncNested
import Derived.RangeFuncBound
import Derived.RangeFuncCalls
import Derived.RangeFuncLeaves
import Derived.Shelf.Abstract
import Derived.Shelf.RegionOpen
import Derived.OwnWalkIn
import Derived.TacticsInMore
import Derived.LoopNIn
import Derived.LoopIn
import Derived.Deep.WholeRow
import Derived.Test.YtoonahobmlnflaaVc4
set_option linter.unusedVariables false
set_option linter.unusedSimpArgs false
set_option maxRecDepth 100000
set_option maxHeartbeats 16000000
namespace Go.Proofs.Ytoonahobmlnflaa.PC
open Go.RowKit Go.Shelf A B C
section
variable {F : Fence} {n : Nat} {P : Program} {ops : Array Oper} {Q : Exit → Act → World → Prop} {rest : List Oper} {a : Act} {w : World} {d : Option Tmp} {t ty : TypeId} {p : Operand} {pos : String} {after : Array Edge}
theorem oD {ad : Addr} {cs : List Value} (hp : a.eval p = .pointer (some ad)) (hag : (isAgg t).run P w = .ok true w) (hsz : (sizeOf t).run P w = .ok cs.length w) (hc : ∀ (j : Nat) v, cs[j]? = some v → w.cell? (ad.add j) = some v) :
    (execOp a.eval ⟨d, .load t p, ty, pos, after, none⟩).run P w = .ok (.value (.agg cs.toArray)) w := by
  have h1 := run_loadCells_list (P := P) (w := w) ad cs hc
  have h2 : (loadVar t ad).run P w = .ok (.agg cs.toArray) w := by
    simp only [loadVar, Sem.run_bind, hag, hsz, h1, Result.andThen, Sem.run_pure, if_true]
  simp only [execOp, Instr.loadAt, Instr.sureAddr, hp, Sem.run_bind, Sem.run_pure, Result.andThen, h2]
theorem in_load {ad : Addr} {cs : List Value} (hp : a.eval p = .pointer (some ad)) (hag : (isAgg t).run P w = .ok true w) (hsz : (sizeOf t).run P w = .ok cs.length w) (hc : ∀ (j : Nat) v, cs[j]? = some v → w.cell? (ad.add j) = some v) (h : wpListIn F n P ops Q rest (a.put d (.agg cs.toArray)) w) :
    wpListIn F n P ops Q (⟨d, .load t p, ty, pos, after, none⟩ :: rest) a w :=
  wpListIn_plain rfl fun K hK => ⟨fun f hf => (by simp [Oper.about] at hf), by
    rw [Oper.semAt_eq _ _ _ (by intro c; simp), oD hp hag hsz hc]
    exact hK _ _ h⟩
theorem exec_store {v : Operand} {c c' : Array Value} (hp : a.eval p = .pointer (some ⟨w.heap.size, 0, none⟩)) (hv : a.eval v = .agg c') (hi : (P.info? t).map (·.size) = some c'.size) (ho : c.size = c'.size) (h1 : c'.all (·.oneCell') = true) :
    (execOp a.eval ⟨d, .store t p v, ty, pos, after, none⟩).run P (w.alloc (.cells c t)) = .ok .skip (w.alloc (.cells c' t)) := by
  have h2 := run_storeAt_new (P := P) w t c c' hi ho h1
  simp only [execOp, hp, hv, Sem.run_bind, h2, Result.andThen, Sem.run_pure]
theorem in_store {v : Operand} {c c' : Array Value} (hp : a.eval p = .pointer (some ⟨w.heap.size, 0, none⟩)) (hv : a.eval v = .agg c') (hi : (P.info? t).map (·.size) = some c'.size) (ho : c.size = c'.size) (h1 : c'.all (·.oneCell') = true)
    (h : wpListIn F n P ops Q rest (a.put d undef) (w.alloc (.cells c' t))) :
    wpListIn F n P ops Q (⟨d, .store t p v, ty, pos, after, none⟩ :: rest) a (w.alloc (.cells c t)) :=
  wpListIn_plain rfl fun K hK => ⟨fun f hf => (by simp [Oper.about] at hf), by
    rw [Oper.semAt_eq _ _ _ (by intro c; simp), exec_store hp hv hi ho h1]
    exact hK _ _ h⟩
theorem in_ev {v : Operand} {w1 : World} (hr : (execOp a.eval ⟨d, .store t p v, ty, pos, after, none⟩).run P w = .ok .skip w1) (h : wpListIn F n P ops Q rest (a.put d undef) w1) :
    wpListIn F n P ops Q (⟨d, .store t p v, ty, pos, after, none⟩ :: rest) a w :=
  wpListIn_plain rfl fun K hK => ⟨fun f hf => (by simp [Oper.about] at hf), by
    rw [Oper.semAt_eq _ _ _ (by intro c; simp), hr]
    exact hK _ _ h⟩
end
end Go.Proofs.Ytoonahobmlnflaa.PC
namespace Go.Proofs.Ytoonahobmlnflaa.PC
open Go.RowKit Go.Shelf A B C
attribute [local go_sem] Oper.semAt_some
abbrev uI (x : S37) : Value := .agg #[.int .i64 x.f0, .int .i64 x.f1, .int .i64 x.f2, .int .i64 x.f3, .int .i64 x.f4.f0, .int .i64 x.f4.f1, .int .i64 x.f5.f0, .int .i64 x.f5.f1, .int .i64 x.f6.f0.f0.f0, .int .i64 x.f6.f0.f0.f1, .int .i64 x.f6.f0.f1.f0, .int .i64 x.f6.f0.f1.f1, .int .i64 x.f6.f0.f2.f0, .int .i64 x.f6.f0.f2.f1, .int .i64 x.f6.f0.f3.f0, .int .i64 x.f6.f0.f3.f1, .int .i64 x.f6.f0.f4.f0, .int .i64 x.f6.f0.f4.f1, .int .i64 x.f6.f0.f5.f0, .int .i64 x.f6.f0.f5.f1, .int .i64 x.f6.f0.f6.f0, .int .i64 x.f6.f0.f6.f1]
def dn (len m : Nat) : List Nat := (List.range (len - m)).map (fun t => len - 1 - t)
theorem dn_all (len : Nat) : dn len len = [] := by simp [dn]
theorem dn_succ {len m : Nat} (h : m < len) : dn len m = dn len (m + 1) ++ [m] := by
  unfold dn
  have e : len - m = (len - (m + 1)) + 1 := by omega
  rw [e, List.range_succ, List.map_append]
  simp
  omega
theorem dn_len {len m : Nat} : (dn len m).length = len - m := by simp [dn]
def KpB (n₀ Bs : Nat) (W W' : World) : Prop := Below n₀ W W' ∧ W'.heap[Bs]? = W.heap[Bs]?
theorem KpB.t {n₀ Bs : Nat} {A B C : World} (h : KpB n₀ Bs A B) (k : KpB n₀ Bs B C) : KpB n₀ Bs A C := ⟨h.1.trans k.1, k.2.trans h.2⟩
theorem back1_in (F : Fence) (n : Nat) (h73 : F.fn 73) (hro : F.round = none) (hn : 1 ≤ n) (l Bs : Nat) (A : Option Addr) (cap : Nat) (nodes : List S37) (w : World) (hC : Kd.C k37 w A nodes.length nodes) (J Jx : List Nat → World → Prop)
    (hY : ∀ (pre : List Nat) (x : Nat) (W : World), x < nodes.length → J pre W → pre.length < nodes.length → YieldAt F (n - 1) Try.prog l #[.int .i64 (x : Int), uI (rT nodes (x : Int))] W fun e W' =>
      (e = .returned (.bool true) ∧ J (pre ++ [x]) W' ∧ KpB w.heap.size Bs W W') ∨ (e = .returned (.bool false) ∧ Jx (pre ++ [x]) W'))
    (W : World) (hW : Below w.heap.size w W) (hBs : W.cell? ⟨Bs, 0, none⟩ = some (.slice A nodes.length cap)) (h0 : J [] W) :
    CallsIn F n Try.prog 73 #[.func (.yield l) #[] #[], .pointer (some ⟨Bs, 0, none⟩)] W fun e W' => (∃ v, e = .returned v) ∧
      ((∃ ys, ys = dn nodes.length 0 ∧ J ys W') ∨ (∃ pre, True ∧ Jx pre W')) := by
  have hlm := Kd.C_max hC
  refine callsIn_of_wp Try.func73 rfl h73 ?_ hro
  simp only [Try.ntmps73, List.size_toArray, List.length_cons, List.length_nil, Nat.reduceAdd, Nat.reduceSub, Array.replicate_succ, Array.replicate_zero, List.push_toArray, List.append_toArray, List.nil_append, List.cons_append]
  gi_wp2
  gi_loopw [3] (fun i wr => ∃ (m : Nat) (j : Int), m ≤ nodes.length ∧ i = .int .i64 j ∧ j = (m : Int) - 1 ∧ J (dn nodes.length m) wr ∧ KpB w.heap.size Bs W wr)
    (fun i _ => (intOf i + 1).toNat)
  case atStart => exact ⟨nodes.length, _, Nat.le_refl _, rfl, by first | rfl | (rw [IntWalk.i64_in _ (by omega)]), by rw [dn_all]; exact h0, Below.refl _ _, rfl⟩
  case round =>
    obtain ⟨m, j, hm, rfl, hj, hJs, hk⟩ := hrel
    have hBs' : wr.cell? ⟨Bs, 0, none⟩ = some (.slice A nodes.length cap) := by rw [← hBs]; simp only [World.cell?, hk.2]
    cases m with
    | zero =>
      obtain rfl : j = -1 := by omega
      clear hj
      gi_wp2
      go_end0
      exact ⟨⟨_, rfl⟩, .inl ⟨_, rfl, hJs⟩⟩
    | succ m =>
      have hj' : j = (m : Int) := by omega
      have p0 : 0 ≤ j := by omega
      have q0 : j < (nodes.length : Int) := by omega
      have hK1 := hW.trans hk.1
      obtain ⟨ad, c, ead, _, hKc, hcc⟩ := Kd.C_get hC z37 j p0 q0
      obtain rfl := k37_open hKc
      subst ead
      have hld : ∀ (jj : Nat) v, ([.int .i64 (rT nodes j).f0, .int .i64 (rT nodes j).f1, .int .i64 (rT nodes j).f2, .int .i64 (rT nodes j).f3, .int .i64 (rT nodes j).f4.f0, .int .i64 (rT nodes j).f4.f1, .int .i64 (rT nodes j).f5.f0, .int .i64 (rT nodes j).f5.f1, .int .i64 (rT nodes j).f6.f0.f0.f0, .int .i64 (rT nodes j).f6.f0.f0.f1, .int .i64 (rT nodes j).f6.f0.f1.f0, .int .i64 (rT nodes j).f6.f0.f1.f1, .int .i64 (rT nodes j).f6.f0.f2.f0, .int .i64 (rT nodes j).f6.f0.f2.f1, .int .i64 (rT nodes j).f6.f0.f3.f0, .int .i64 (rT nodes j).f6.f0.f3.f1, .int .i64 (rT nodes j).f6.f0.f4.f0, .int .i64 (rT nodes j).f6.f0.f4.f1, .int .i64 (rT nodes j).f6.f0.f5.f0, .int .i64 (rT nodes j).f6.f0.f5.f1, .int .i64 (rT nodes j).f6.f0.f6.f0, .int .i64 (rT nodes j).f6.f0.f6.f1] : List Value)[jj]? = some v → wr.cell? ((ad.add (j.toNat * 22)).add jj) = some v := fun jj v hv => by
        rw [Addr.add_add]
        exact (hK1.cell (World.block_lt_of_cell? w _ (hcc jj v hv))).trans (hcc jj v hv)
      have HLD := aq hld
      clear hld hcc hKc hC
      obtain ⟨fn, tmps, assign, body, hy, hR⟩ := hY _ m wr (by omega) hJs (by rw [dn_len]; omega)
      rw [← hj'] at hy
      have HJ := aq hj'
      have HM := aq hm
      clear hj hj' hm
      replace p0 := eq_true p0
      replace q0 := eq_true q0
      gi_wp2_with (refine in_load (t := 37) (ad := ad.add (j.toNat * 22)) (cs := [.int .i64 (rT nodes j).f0, .int .i64 (rT nodes j).f1, .int .i64 (rT nodes j).f2, .int .i64 (rT nodes j).f3, .int .i64 (rT nodes j).f4.f0, .int .i64 (rT nodes j).f4.f1, .int .i64 (rT nodes j).f5.f0, .int .i64 (rT nodes j).f5.f1, .int .i64 (rT nodes j).f6.f0.f0.f0, .int .i64 (rT nodes j).f6.f0.f0.f1, .int .i64 (rT nodes j).f6.f0.f1.f0, .int .i64 (rT nodes j).f6.f0.f1.f1, .int .i64 (rT nodes j).f6.f0.f2.f0, .int .i64 (rT nodes j).f6.f0.f2.f1, .int .i64 (rT nodes j).f6.f0.f3.f0, .int .i64 (rT nodes j).f6.f0.f3.f1, .int .i64 (rT nodes j).f6.f0.f4.f0, .int .i64 (rT nodes j).f6.f0.f4.f1, .int .i64 (rT nodes j).f6.f0.f5.f0, .int .i64 (rT nodes j).f6.f0.f5.f1, .int .i64 (rT nodes j).f6.f0.f6.f0, .int .i64 (rT nodes j).f6.f0.f6.f1]) rfl (Try.isAgg37 _) (Try.sizeOf37 _) HLD.out ?_)
      have HW := aq (show wrap64 (j - 1) = j - 1 by have := HJ.out; have := HM.out; unfold wrap64; omega)
      refine hR.mono ?_
      rintro e W3 (⟨rfl, hJ3, hk3⟩ | ⟨rfl, hJx3⟩)
      · gi_wp2
        go_roundw
        case rel => exact ⟨m, wrap64 (j - 1), by have := HM.out; omega, rfl, by have := HJ.out; have := HW.out; omega, by rw [dn_succ (by have := HM.out; omega)]; exact hJ3, hk.t hk3⟩
        case measure => have := HJ.out; have := HM.out; have := HW.out; simp [intOf]; omega
      · gi_wp2
        refine bodyPost_ret (results_none rfl _ _ _) rfl ?_
        exact ⟨⟨_, rfl⟩, .inr ⟨_, trivial, hJx3⟩⟩
theorem back_in (F : Fence) (n : Nat) (h49 : F.fn 49) (hro : F.round = none) (a : Option Addr) (len cap : Nat) (w : World) :
    CallsIn F n Try.prog 49 #[.slice a len cap] w fun e w' => e = .returned (.func (.func 73) #[] #[.pointer (some ⟨w.heap.size, 0, none⟩)]) ∧ w' = w.alloc (.cells #[.slice a len cap] 22) := by
  refine callsIn_of_wp Try.func49 rfl h49 ?_ hro
  simp only [Try.ntmps49, List.size_toArray, List.length_cons, List.length_nil, Nat.reduceAdd, Nat.reduceSub, Array.replicate_succ, Array.replicate_zero, List.push_toArray, List.append_toArray, List.nil_append, List.cons_append]
  gi_wp2
  go_ret
  exact ⟨rfl, rfl⟩
theorem back_stops (F : Fence) (n : Nat) (h73 : F.fn 73) (hro : F.round = none) (hn : 1 ≤ n) (Bs : Nat) (A : Option Addr) (cap : Nat) (nodes : List S37) (w w0 : World) (hC : Kd.C k37 w A nodes.length nodes) (hw : Below w.heap.size w w0) (hBs : w0.heap[Bs]? = some (.cells #[.slice A nodes.length cap] 22 (0, 0))) :
    SeqStopsK F n Try.prog 73 #[.pointer (some ⟨Bs, 0, none⟩)] (fun x : Fin nodes.length => #[Value.int .i64 (x.1 : Int), uI (rT nodes (x.1 : Int))]) (KpB w.heap.size Bs) (fun ys => ys.map (fun x => x.1) = dn nodes.length 0) (fun _ => True) nodes.length w0 := fun l J Jx W hW _ _ hY h0 => by
  have hlt := (Array.getElem?_eq_some_iff.1 hBs).1
  have hB : W.heap[Bs]? = some (.cells #[.slice A nodes.length cap] 22 (0, 0)) := (hW.block Bs hlt).trans hBs
  have hc : W.cell? ⟨Bs, 0, none⟩ = some (.slice A nodes.length cap) := bq hB 0
  refine (back1_in F n h73 hro hn l Bs A cap nodes w hC (fun ys W => ∃ zs : List (Fin nodes.length), zs.map (fun x => x.1) = ys ∧ J zs W) (fun ys W => ∃ zs : List (Fin nodes.length), Jx zs W) (fun pre x W1 hx ⟨zs, hz, hJ⟩ hl => ?_) W (bt_ hw hW) hc ⟨[], rfl, h0⟩).mono ?_
  · have hl' : zs.length < nodes.length := by rw [← hz, List.length_map] at hl; exact hl
    obtain ⟨fn, tmps, assign, body, hy, hR⟩ := hY zs ⟨x, hx⟩ W1 hJ hl'
    refine ⟨fn, tmps, assign, body, hy, hR.mono ?_⟩
    rintro e W' (⟨rfl, hj, hk⟩ | ⟨rfl, hj⟩)
    · exact .inl ⟨rfl, ⟨zs ++ [⟨x, hx⟩], by rw [List.map_append, hz]; rfl, hj⟩, hk⟩
    · exact .inr ⟨rfl, _, hj⟩
  · rintro e W' ⟨he, ⟨ys, rfl, zs, hz, hj⟩ | ⟨pre, _, zs, hj⟩⟩
    · exact ⟨he, .inl ⟨zs, hz, hj⟩⟩
    · exact ⟨he, .inr ⟨zs, trivial, hj⟩⟩
def zI (k : Int) : Int := if k = 1 ∨ k = 2 ∨ k = 15 then 0 else if 3 ≤ k ∧ k ≤ 6 then 2 else if 7 ≤ k ∧ k ≤ 14 then 1 else -1
def vE (s : List Bool) (i : Int) : List Bool := s.set i.toNat true
def wN (nodes : List S37) (s : List Bool) (i : Nat) : List Bool :=
  if zJ false s (i : Int) = true ∧ 0 < zI (rT nodes (i : Int)).f0 then (if 1 < zI (rT nodes (i : Int)).f0 then vE (vE s (rT nodes (i : Int)).f1) (rT nodes (i : Int)).f2 else vE s (rT nodes (i : Int)).f1) else s
def yH (nodes : List S37) (roots : List Int) : List Bool := (dn nodes.length 0).foldl (wN nodes) (roots.foldl vE (List.replicate nodes.length false))
def OpsOK (nodes : List S37) : Prop := ∀ i : Int, 0 ≤ i → i < (nodes.length : Int) → (0 < zI (rT nodes i).f0 → 0 ≤ (rT nodes i).f1 ∧ (rT nodes i).f1 < (nodes.length : Int)) ∧ (1 < zI (rT nodes i).f0 → 0 ≤ (rT nodes i).f2 ∧ (rT nodes i).f2 < (nodes.length : Int))
theorem setB_len (s : List Bool) (i : Int) : (vE s i).length = s.length := by simp [vE]
theorem uM (l : List Int) : ∀ s : List Bool, (l.foldl vE s).length = s.length := by
  induction l with
  | nil => intro s; rfl
  | cons a l ih => intro s; rw [List.foldl_cons, ih, setB_len]
theorem needS_len (nodes : List S37) (s : List Bool) (i : Nat) : (wN nodes s i).length = s.length := by
  unfold wN
  split
  · split <;> simp [setB_len]
  · rfl
theorem qP (nodes : List S37) (l : List Nat) : ∀ s : List Bool, (l.foldl (wN nodes) s).length = s.length := by
  induction l with
  | nil => intro s; rfl
  | cons a l ih => intro s; rw [List.foldl_cons, ih, needS_len]
theorem tF (k : Int) : zD.f 9 k = some (zI k) := by
  unfold zD.f zI
  simp only [zD.j0, zD.j1, beq_iff_eq, decide_eq_true_eq, Bool.false_eq_true, if_false]
  repeat' split
  all_goals first | rfl | (exfalso; omega) | (congr 1; omega)
structure NF (w W : World) (B0 gB Bs Bx go len cv : Nat) (X1 X2 X3 : Array Value) (s : List Bool) (V : World) : Prop where
  R : Kd.R Kd.bool 4 V w.heap.size (fun k_ => k_ < B0) (.slice (some ⟨go, 0, none⟩) len cv) s
  gb : V.heap[gB]? = some (.cells X1 55 (0, 0))
  bs : V.heap[Bs]? = some (.cells X2 22 (0, 0))
  bx : V.heap[Bx]? = some (.cells X3 37 (0, 0))
  bw : Below w.heap.size w V
  bW : Below w.heap.size W V
  kf : KeepsFrom B0 W V
  sz : V.heap.size = W.heap.size
section
variable {w W V : World} {B0 gB Bs Bx go len cv : Nat} {X1 X2 X3 : Array Value} {s : List Bool}
theorem NF.drew (h : NF w W B0 gB Bs Bx go len cv X1 X2 X3 s V) {V' : World} (hd : yW V V') : NF w W B0 gB Bs Bx go len cv X1 X2 X3 s V' := by
  obtain ⟨n, rfl⟩ := hd.out
  exact ⟨Kd.R_drewN h.R n, h.gb, h.bs, h.bx, bdN h.bw n, bdN h.bW n, ⟨h.kf.size, h.kf.same⟩, h.sz⟩
theorem NF.put (h : NF w W B0 gB Bs Bx go len cv X1 X2 X3 s V) (e : Int) : NF w W B0 gB Bs Bx go len cv X1 X2 X3 (vE s e) (V.setCell ⟨go, e.toNat, none⟩ (.bool true)) := by
  obtain ⟨cells, ht⟩ := Kd.tW h.R go rfl
  have ne : ∀ {k : Nat} {X : Array Value} {t : TypeId}, t ≠ 4 → V.heap[k]? = some (.cells X t (0, 0)) → k ≠ go := fun hne hk e => by
    rw [e, ht] at hk
    injection hk with hk
    injection hk with _ h2
    exact hne h2.symm
  have vI : ∀ {k : Nat}, k ≠ go → (V.setCell ⟨go, e.toNat, none⟩ (.bool true)).heap[k]? = V.heap[k]? := fun hk => Below.heap_setCell V ⟨go, e.toNat, none⟩ (.bool true) _ hk
  have hb := Kd.oO h.R go rfl
  have HP := Kd.R_putg h.R e true
  refine ⟨HP.1, (vI (ne (by decide) h.gb)).trans h.gb, (vI (ne (by decide) h.bs)).trans h.bs, (vI (ne (by decide) h.bx)).trans h.bx, bs_ h.bw hb, h.bW.setCell (p := ⟨go, e.toNat, none⟩) hb _, h.kf.trans ((KeepsOthers.setCell _ _ _).from _), by simpa [World.setCell] using h.sz⟩
end
theorem needed25 (nodes : List S37) (roots : List Int) (A : Option Addr) (c : Nat) (A1 : Option Addr) (c1 : Nat) (w : World) (hC : Kd.C k37 w A nodes.length nodes) (hc : nodes.length ≤ c) (hR : Kd.C (Kd.int .i64) w A1 roots.length roots) (hc1 : roots.length ≤ c1)
    (hroots : ∀ r ∈ roots, 0 ≤ r ∧ r < (nodes.length : Int)) (hok : OpsOK nodes) (hlen : nodes.length ≤ 281474976710656) :
    Calls Try.prog 25 #[.slice A nodes.length c, .slice A1 roots.length c1] w fun e w' => ∃ v, e = .returned v ∧ Kd.R Kd.bool 4 w' w.heap.size (fun _ => True) v (yH nodes roots) ∧ Below w.heap.size w w' := by
  have hRm := Kd.C_max hR
  have HC := aq hC
  have HR := aq hR
  have HROOTS := aq hroots
  have HOK := aq hok
  clear hC hR hroots hok
  refine callsIn_wide.1 (callsIn_of_wp_marks (n := 9) Try.func25 rfl trivial ?_ rfl)
  simp only [Try.ntmps25, List.size_toArray, List.length_cons, List.length_nil, Nat.reduceAdd, Nat.reduceSub, Array.replicate_succ, Array.replicate_zero, List.push_toArray, List.append_toArray, List.nil_append, List.cons_append]
  refine wpIn_wide.2 ?_
  go_wp2_with (first | ((with_reducible refine gD (N := 13) rfl ?_); refine Kd.R_make Kd.bool _ 4 rfl (N := 13) rfl 55 _ _ rfl (nodes.length : Int) rfl rfl Try.underlying55 (.bool false) 1 info4 rfl (by decide) (by omega) false (ok := fun _ => True) (okp := fun _ => True) rfl (fun _ hk => hk) trivial (by omega) (by rw [Int.toNat_natCast, Nat.mul_one]; exact hlen) (Below.refl _ _) (Nat.le_refl _) ?_; intro v5 w5 ho6 hb hg_ hnew_; clear hg_ hnew_; rw [Int.toNat_natCast] at ho6; obtain ⟨Av, cv, ev⟩ := Kd.yT ho6; subst ev; have HO := aq ho6; have HB := aq hb; clear ho6 hb))
  have hbox : (w5.alloc (.cells #[.slice Av nodes.length cv] 55)).heap[w5.heap.size]? = some (.cells #[.slice Av nodes.length cv] 55 (0, 0)) := heap_alloc_last _ _
  have hO1 := Kd.tV HO.out (.cells #[.slice Av nodes.length cv] 55)
  have hB1 : Below w.heap.size w (w5.alloc (.cells #[.slice Av nodes.length cv] 55)) := zY HB.out _
  have hg1 : w.heap.size ≤ w5.heap.size := HB.out.size
  clear HO HB
  rw [List.length_replicate] at hO1
  generalize w5.alloc (.cells #[.slice Av nodes.length cv] 55) = W1 at hbox hO1 hB1 ⊢
  generalize w5.heap.size = gB at hbox hg1 ⊢
  have HBOX := aq hbox
  have HO1 := aq hO1
  have HB1 := aq hB1
  have HG1 := aq hg1
  clear hbox hO1 hB1 hg1
  go_loopw [16] (fun i wr => ∃ (j : Int), 0 ≤ j ∧ j ≤ (roots.length : Int) ∧ i = .int .i64 j ∧ zT (Kd.R Kd.bool 4 wr w.heap.size (fun _ => True) (.slice Av nodes.length cv) ((roots.take j.toNat).foldl vE (List.replicate nodes.length false))) ∧ zT (wr.heap[gB]? = some (.cells #[.slice Av nodes.length cv] 55 (0, 0))) ∧ zT (Below w.heap.size w wr)) (fun i _ => roots.length - (intOf i).toNat)
  case atStart => exact ⟨0, Int.le_refl _, by omega, rfl, HO1, HBOX, HB1⟩
  case round =>
    obtain ⟨j, j0, j1, rfl, HO, HX, HB⟩ := hrel
    clear HO1 HBOX HB1
    by_cases hlt : j < (roots.length : Int)
    · obtain ⟨ad, ead, hx⟩ := Kd.at_int HR.out j j0 hlt
      cases ead
      replace hx := (HB.out.cell (World.block_lt_of_cell? w _ hx)).trans hx
      have hm : rd roots j ∈ roots := by
        obtain ⟨k, rfl⟩ := Int.eq_ofNat_of_zero_le j0
        rw [show rd roots (k : Int) = roots[k]'(by omega) by simp [rd, List.getD_eq_getElem?_getD, List.getElem?_eq_getElem (show k < roots.length by omega)]]
        exact List.getElem_mem _
      have he := HROOTS.out _ hm
      have hpos : 0 < (((roots.take j.toNat).foldl vE (List.replicate nodes.length false))).length := by rw [uM, List.length_replicate]; omega
      obtain ⟨go, co, eo, gb, gl, cl, HG⟩ := Kd.uK HO.out hpos
      injection eo with ea en ec
      subst ea
      have hne : go ≠ gB := fun e => by rw [e, HX.out] at HG; cases HG
      obtain ⟨hx1, hf1⟩ := Kd.yZ false HO.out (rd roots j) he.1 he.2
      have HP := Kd.R_putg HO.out (rd roots j) true
      have hb1 := bq HX.out 0
      have HNE := aq hne
      have HPA := aq HP
      have HGB := aq gb
      have HW := aq (show wrap64 (j + 1) = j + 1 by unfold wrap64; omega)
      have HLT := aq hlt
      have HJ := aq j0
      have e0 := eq_true he.1
      have e1 := eq_true he.2
      clear hm hpos HP hne gb gl HG en ec he
      replace j0 := eq_true j0
      replace hlt := eq_true hlt
      go_wp2
      refine ⟨⟨wrap64 (j + 1), by have := HW.out; have := HJ.out; omega, by have := HW.out; have := HLT.out; omega, rfl, ⟨?_⟩, ⟨?_⟩, ⟨bs_ HB.out HGB.out⟩⟩, ?_⟩
      · have e : (wrap64 (j + 1)).toNat = j.toNat + 1 := by have := HW.out; have := HJ.out; omega
        have e2 : roots.take (j.toNat + 1) = roots.take j.toNat ++ [rd roots j] := by
          have hl : j.toNat < roots.length := by have := HLT.out; have := HJ.out; omega
          rw [List.take_succ_eq_append_getElem hl]
          simp [rd, List.getD_eq_getElem?_getD, List.getElem?_eq_getElem hl]
        rw [e, e2, List.foldl_append]
        exact HPA.out.1
      · exact (Below.heap_setCell wr ⟨go, (rd roots j).toNat, none⟩ _ gB (fun e => HNE.out e.symm)).trans HX.out
      · have := HW.out; have := HJ.out; have := HLT.out; simp [intOf]; omega
    · obtain rfl : j = (roots.length : Int) := by omega
      rw [Int.toNat_natCast, List.take_length] at HO
      clear j0 j1 hlt
      go_wp2_with (go_at_call 49; refine (callsIn_wide.1 (back_in Fence.wide 9 trivial rfl A nodes.length c _)).mono ?_; rintro e w' ⟨rfl, rfl⟩)
      have hbs : (wr.alloc (.cells #[.slice A nodes.length c] 22)).heap[wr.heap.size]? = some (.cells #[.slice A nodes.length c] 22 (0, 0)) := heap_alloc_last _ _
      have hO2 := Kd.tV HO.out (.cells #[.slice A nodes.length c] 22)
      have hX2 : (wr.alloc (.cells #[.slice A nodes.length c] 22)).heap[gB]? = some (.cells #[.slice Av nodes.length cv] 55 (0, 0)) := (Below.heap_alloc _ _ _ (Array.getElem?_eq_some_iff.1 HX.out).1).trans HX.out
      have hB2 : Below w.heap.size w (wr.alloc (.cells #[.slice A nodes.length c] 22)) := zY HB.out _
      have hs2 : wr.heap.size < (wr.alloc (.cells #[.slice A nodes.length c] 22)).heap.size := by simp
      have hgb2 : gB < wr.heap.size := (Array.getElem?_eq_some_iff.1 HX.out).1
      have hbw : w.heap.size ≤ wr.heap.size := HB.out.size
      clear HO HX HB
      generalize wr.alloc (.cells #[.slice A nodes.length c] 22) = W0 at hbs hO2 hX2 hB2 hs2 ⊢
      generalize wr.heap.size = Bs at hbs hs2 hgb2 hbw ⊢
      refine (wpIn_wide (n := 9)).1 ?_
      refine wpIn_rangeFunc_ownH (α := Fin nodes.length) rfl (by omega) (gf := 73) (lb := #[.pointer (some ⟨Bs, 0, none⟩)]) rfl trivial (enters_of Try.func73 (by kernel_rfl) rfl)
        (back_stops Fence.wide 8 trivial rfl (by omega) Bs A c nodes w W0 HC.out hB2 hbs) KpB.t
        (fun W l o o' hl h ho hw => ⟨belowK_b hB2.size W l o o' hl h ho hw, World.putObj_heap_other (by omega)⟩) (Below.refl _ _) (fun _ => rfl)
        (fun pre W => (Kd.R Kd.bool 4 W w.heap.size (fun k_ => k_ < W0.heap.size) (.slice Av nodes.length cv) ((pre.map (fun x => x.1)).foldl (wN nodes) (roots.foldl vE (List.replicate nodes.length false))) ∧ W.heap[gB]? = some (.cells #[.slice Av nodes.length cv] 55 (0, 0)) ∧ W.heap[Bs]? = some (.cells #[.slice A nodes.length c] 22 (0, 0))) ∧ Below w.heap.size w W ∧ W0.heap.size ≤ W.heap.size)
        (fun _ _ _ => False)
        (fun s X Y row hs hg hr => ⟨⟨Kd.pD hs.1.1 (fun k ho hk => hg.block k hk (fun e => by have := (hr k e.symm).1; omega)), (hg.block gB (Array.getElem?_eq_some_iff.1 hs.1.2.1).1 (fun e => by have := (hr gB e.symm).1; omega)).trans hs.1.2.1, (hg.block Bs (Array.getElem?_eq_some_iff.1 hs.1.2.2).1 (fun e => by have := (hr Bs e.symm).1; omega)).trans hs.1.2.2⟩, hs.2.1.grown hg (by have := hs.2.1.size; have := hB2.size; omega) (fun k e => by have := (hr k e).1; have := hB2.size; omega), Nat.le_trans hs.2.2 hg.size⟩)
        (fun _ _ _ _ _ hs _ _ => hs)
        ⟨⟨Kd.xF (Kd.uP hO2) (fun k hk => hk.2.2.1), hX2, hbs⟩, hB2, Nat.le_refl _⟩
        (fun x a' W => ∃ Bx : Nat, W0.heap.size ≤ Bx ∧ W.heap[Bx]? = some (.cells #[.int .i64 (rT nodes (x.1 : Int)).f0, .int .i64 (rT nodes (x.1 : Int)).f1, .int .i64 (rT nodes (x.1 : Int)).f2, .int .i64 (rT nodes (x.1 : Int)).f3, .int .i64 (rT nodes (x.1 : Int)).f4.f0, .int .i64 (rT nodes (x.1 : Int)).f4.f1, .int .i64 (rT nodes (x.1 : Int)).f5.f0, .int .i64 (rT nodes (x.1 : Int)).f5.f1, .int .i64 (rT nodes (x.1 : Int)).f6.f0.f0.f0, .int .i64 (rT nodes (x.1 : Int)).f6.f0.f0.f1, .int .i64 (rT nodes (x.1 : Int)).f6.f0.f1.f0, .int .i64 (rT nodes (x.1 : Int)).f6.f0.f1.f1, .int .i64 (rT nodes (x.1 : Int)).f6.f0.f2.f0, .int .i64 (rT nodes (x.1 : Int)).f6.f0.f2.f1, .int .i64 (rT nodes (x.1 : Int)).f6.f0.f3.f0, .int .i64 (rT nodes (x.1 : Int)).f6.f0.f3.f1, .int .i64 (rT nodes (x.1 : Int)).f6.f0.f4.f0, .int .i64 (rT nodes (x.1 : Int)).f6.f0.f4.f1, .int .i64 (rT nodes (x.1 : Int)).f6.f0.f5.f0, .int .i64 (rT nodes (x.1 : Int)).f6.f0.f5.f1, .int .i64 (rT nodes (x.1 : Int)).f6.f0.f6.f0, .int .i64 (rT nodes (x.1 : Int)).f6.f0.f6.f1] 37 (0, 0)) ∧ a' = { tmps := #[.slice A nodes.length c, .slice A1 roots.length c1, undef, undef, .slice none 0 0, .pointer (some ⟨gB, 0, none⟩), undef, u7, .int .i64 (x.1 : Int), .pointer (some ⟨Bx, 0, none⟩), undef, .slice A nodes.length c, .int .i64 (nodes.length : Int), .slice Av nodes.length cv, .slice A1 roots.length c1, .int .i64 (roots.length : Int), .int .i64 (roots.length : Int), .bool false, u18, u19, u20, u21, u22, u23, .slice A nodes.length c, .func (.func 73) #[] #[.pointer (some ⟨Bs, 0, none⟩)], .int .i64 (x.1 : Int), uI (rT nodes (x.1 : Int)), undef, undef, undef, undef, undef, undef, undef, undef, undef, undef, undef, undef, undef, undef, undef, undef, undef, undef, undef, undef, undef, undef], defers := [] })
        (fun x a' s X Y row hs hg hr => by
          obtain ⟨Bx, h1, h2, h3⟩ := hs
          exact ⟨Bx, h1, (hg.block Bx (Array.getElem?_eq_some_iff.1 h2).1 (fun e => by obtain ⟨_, o, ho, hc⟩ := hr Bx e.symm; rw [h2] at ho; cases ho; cases hc)).trans h2, h3⟩) ?assign ?body ?done ?stop
      case assign =>
        rintro l pre x W K ⟨⟨hi1, hi2, hi5⟩, hi3, hi4⟩ hK
        have HI1 := aq hi1
        have HI2 := aq hi2
        have HI3 := aq hi3
        have HI5 := aq hi5
        have HKK := aq hK
        clear hi1 hi2 hi3 hi5 hK
        gi_wp2_with (refine in_store (t := 37) (c := #[.int .i64 0, .int .i64 0, .int .i64 0, .int .i64 0, .int .i64 0, .int .i64 0, .int .i64 0, .int .i64 0, .int .i64 0, .int .i64 0, .int .i64 0, .int .i64 0, .int .i64 0, .int .i64 0, .int .i64 0, .int .i64 0, .int .i64 0, .int .i64 0, .int .i64 0, .int .i64 0, .int .i64 0, .int .i64 0]) (c' := #[.int .i64 (rT nodes (x.1 : Int)).f0, .int .i64 (rT nodes (x.1 : Int)).f1, .int .i64 (rT nodes (x.1 : Int)).f2, .int .i64 (rT nodes (x.1 : Int)).f3, .int .i64 (rT nodes (x.1 : Int)).f4.f0, .int .i64 (rT nodes (x.1 : Int)).f4.f1, .int .i64 (rT nodes (x.1 : Int)).f5.f0, .int .i64 (rT nodes (x.1 : Int)).f5.f1, .int .i64 (rT nodes (x.1 : Int)).f6.f0.f0.f0, .int .i64 (rT nodes (x.1 : Int)).f6.f0.f0.f1, .int .i64 (rT nodes (x.1 : Int)).f6.f0.f1.f0, .int .i64 (rT nodes (x.1 : Int)).f6.f0.f1.f1, .int .i64 (rT nodes (x.1 : Int)).f6.f0.f2.f0, .int .i64 (rT nodes (x.1 : Int)).f6.f0.f2.f1, .int .i64 (rT nodes (x.1 : Int)).f6.f0.f3.f0, .int .i64 (rT nodes (x.1 : Int)).f6.f0.f3.f1, .int .i64 (rT nodes (x.1 : Int)).f6.f0.f4.f0, .int .i64 (rT nodes (x.1 : Int)).f6.f0.f4.f1, .int .i64 (rT nodes (x.1 : Int)).f6.f0.f5.f0, .int .i64 (rT nodes (x.1 : Int)).f6.f0.f5.f1, .int .i64 (rT nodes (x.1 : Int)).f6.f0.f6.f0, .int .i64 (rT nodes (x.1 : Int)).f6.f0.f6.f1]) rfl rfl (by kernel_rfl) rfl (by kernel_rfl) ?_)
        refine HKK.out _ _ ((KeepsOthers.alloc _ _).from _) ⟨(Below.refl _ W).alloc HI3.out.size _, Below.heap_alloc _ _ _ (by omega)⟩ ⟨⟨Kd.tV HI1.out _, (Below.heap_alloc _ _ _ (Array.getElem?_eq_some_iff.1 HI2.out).1).trans HI2.out, (Below.heap_alloc _ _ _ (Array.getElem?_eq_some_iff.1 HI5.out).1).trans HI5.out⟩, zY HI3.out _, by rw [World.size_alloc]; omega⟩ ⟨W.heap.size, hi4, heap_alloc_last _ _, rfl⟩
      case body =>
        rintro l pre x a' W hl ⟨r, hr⟩ ⟨⟨hi1, hi2, hi5⟩, hi3, hi4⟩ ⟨Bx, hBx, hbx, rfl⟩ hlt
        obtain ⟨x, hx⟩ := x
        have hjl : (x : Int) < (nodes.length : Int) := by omega
        have hj0 : (0 : Int) ≤ (x : Int) := Int.natCast_nonneg x
        have hops := HOK.out (x : Int) hj0 hjl
        have hsl : ((pre.map (fun x => x.1)).foldl (wN nodes) (roots.foldl vE (List.replicate nodes.length false))).length = nodes.length := by rw [qP, uM, List.length_replicate]
        have hfold : ((pre ++ [(⟨x, hx⟩ : Fin nodes.length)]).map (fun x => x.1)).foldl (wN nodes) (roots.foldl vE (List.replicate nodes.length false)) = wN nodes ((pre.map (fun x => x.1)).foldl (wN nodes) (roots.foldl vE (List.replicate nodes.length false))) x := by simp
        have hneed : ∀ s, wN nodes s x = if zJ false s (x : Int) = true ∧ 0 < zI (rT nodes (x : Int)).f0 then (if 1 < zI (rT nodes (x : Int)).f0 then vE (vE s (rT nodes (x : Int)).f1) (rT nodes (x : Int)).f2 else vE s (rT nodes (x : Int)).f1) else s := fun s => rfl
        generalize ((pre.map (fun x => x.1)).foldl (wN nodes) (roots.foldl vE (List.replicate nodes.length false))) = s at hi1 hsl hfold
        replace hneed := hneed s
        have hpos : 0 < s.length := by rw [hsl]; omega
        obtain ⟨go, co, eo, gb, gl, cl, HG⟩ := Kd.uK hi1 hpos
        injection eo with ea en ec
        subst ea
        have harg := tF (rT nodes (x : Int)).f0
        generalize hk : zI (rT nodes (x : Int)).f0 = kN at hops hneed harg
        have F0 : NF w W W0.heap.size gB Bs Bx go nodes.length cv _ _ _ s W := ⟨hi1, hi2, hi5, hbx, hi3, Below.refl _ _, KeepsFrom.refl _ _, rfl⟩
        have HF0 := aq F0
        have HARG := aq harg
        have HOPS := aq hops
        have HNEED := aq hneed
        have HFOLD := aq hfold
        have HREC := aq hr
        have HLEN := aq hsl
        have hc0 := bq hbx 0
        clear harg hops hneed hfold hi1 hi2 hi5 hi3 hbx hr hk gb gl HG en ec hsl hpos F0
        have fin : ∀ {s' : List Bool} {V : World}, NF w W W0.heap.size gB Bs Bx go nodes.length cv #[.slice (some ⟨go, 0, none⟩) nodes.length cv] #[.slice A nodes.length c] (#[.int .i64 (rT nodes (x : Int)).f0, .int .i64 (rT nodes (x : Int)).f1, .int .i64 (rT nodes (x : Int)).f2, .int .i64 (rT nodes (x : Int)).f3, .int .i64 (rT nodes (x : Int)).f4.f0, .int .i64 (rT nodes (x : Int)).f4.f1, .int .i64 (rT nodes (x : Int)).f5.f0, .int .i64 (rT nodes (x : Int)).f5.f1, .int .i64 (rT nodes (x : Int)).f6.f0.f0.f0, .int .i64 (rT nodes (x : Int)).f6.f0.f0.f1, .int .i64 (rT nodes (x : Int)).f6.f0.f1.f0, .int .i64 (rT nodes (x : Int)).f6.f0.f1.f1, .int .i64 (rT nodes (x : Int)).f6.f0.f2.f0, .int .i64 (rT nodes (x : Int)).f6.f0.f2.f1, .int .i64 (rT nodes (x : Int)).f6.f0.f3.f0, .int .i64 (rT nodes (x : Int)).f6.f0.f3.f1, .int .i64 (rT nodes (x : Int)).f6.f0.f4.f0, .int .i64 (rT nodes (x : Int)).f6.f0.f4.f1, .int .i64 (rT nodes (x : Int)).f6.f0.f5.f0, .int .i64 (rT nodes (x : Int)).f6.f0.f5.f1, .int .i64 (rT nodes (x : Int)).f6.f0.f6.f0, .int .i64 (rT nodes (x : Int)).f6.f0.f6.f1]) s' V → wN nodes s x = s' → ∀ a2 : Act, ownPostG W0.heap.size (KpB w.heap.size Bs) (fun pre W => (Kd.R Kd.bool 4 W w.heap.size (fun k_ => k_ < W0.heap.size) (.slice (some ⟨go, 0, none⟩) nodes.length cv) ((pre.map (fun x => x.1)).foldl (wN nodes) (roots.foldl vE (List.replicate nodes.length false))) ∧ W.heap[gB]? = some (.cells #[.slice (some ⟨go, 0, none⟩) nodes.length cv] 55 (0, 0)) ∧ W.heap[Bs]? = some (.cells #[.slice A nodes.length c] 22 (0, 0))) ∧ Below w.heap.size w W ∧ W0.heap.size ≤ W.heap.size) (fun _ _ _ => False) (pre ++ [⟨x, hx⟩]) W Exit.normal a2 V := fun {s' V} h e a2 =>
          ⟨h.kf, ⟨h.bW, h.bs.trans HF0.out.bs.symm⟩, ⟨by rw [HFOLD.out, e]; exact h.R, h.gb, h.bs⟩, h.bw, by rw [h.sz]; exact hi4⟩
        have HFIN := aq @fin
        clear fin
        by_cases hb : zJ false s (x : Int) = true
        · by_cases k0 : 0 < kN
          · have kd0 : decide (0 < kN) = true := decide_eq_true k0
            have hA := (HOPS.out.1 k0)
            by_cases k1 : 1 < kN
            · have kd1 : decide (1 < kN) = true := decide_eq_true k1
              have hB := (HOPS.out.2 k1)
              have hA0 := eq_true hA.1
              have hA1 := eq_true hA.2
              have hB0 := eq_true hB.1
              have hB1 := eq_true hB.2
              have HA := aq hA
              have HBB := aq hB
              clear hA hB
              gi_wp2_with (first | (refine ⟨trivial, ?_⟩; gi_at_call 44; refine (CallsIn.inRound l (callsIn_wide.2 (zD.calls 9 _ kN _ HARG.out))).mono ?_; rintro e w7 ⟨rfl, hd⟩; have F7 := aq (HF0.out.drew hd); clear hd; have hb7 := bq F7.out.gb 0; have hx1 := bq F7.out.bx 1; obtain ⟨hr7, hf7⟩ := Kd.yZ false F7.out.R (x : Int) hj0 hjl; rw [hb, Int.toNat_natCast] at hr7; rw [Int.toNat_natCast] at hf7; obtain ⟨hrA, hfA⟩ := Kd.yZ false F7.out.R (rT nodes (x : Int)).f1 HA.out.1 HA.out.2) | (refine in_ev (d := none) (t := 4) (p := .tmp 42) (w1 := w7.setCell ⟨go, (rT nodes (x : Int)).f1.toNat, none⟩ (.bool true)) ?hr ?_; (case hr => go_simp); obtain ⟨w8, hw8⟩ : ∃ w8, w8 = w7.setCell ⟨go, (rT nodes (x : Int)).f1.toNat, none⟩ (.bool true) := ⟨_, rfl⟩; rw [← hw8]; have F8 := aq (F7.out.put (rT nodes (x : Int)).f1); rw [← hw8] at F8; clear hw8; have hb8 := bq F8.out.gb 0; have hx2 := bq F8.out.bx 2; obtain ⟨hrB, hfB⟩ := Kd.yZ false F8.out.R (rT nodes (x : Int)).f2 HBB.out.1 HBB.out.2) | (refine in_ev (d := none) (t := 4) (p := .tmp 48) (w1 := w8.setCell ⟨go, (rT nodes (x : Int)).f2.toNat, none⟩ (.bool true)) ?hr ?_; (case hr => go_simp); obtain ⟨w9, hw9⟩ : ∃ w9, w9 = w8.setCell ⟨go, (rT nodes (x : Int)).f2.toNat, none⟩ (.bool true) := ⟨_, rfl⟩; rw [← hw9]; have F9 := aq (F8.out.put (rT nodes (x : Int)).f2); rw [← hw9] at F9; clear hw9))
              exact HFIN.out F9.out (by rw [HNEED.out, if_pos ⟨hb, k0⟩, if_pos k1]) _
            · have kd1 : decide (1 < kN) = false := decide_eq_false k1
              have hA0 := eq_true hA.1
              have hA1 := eq_true hA.2
              have HA := aq hA
              clear hA
              gi_wp2_with (first | (refine ⟨trivial, ?_⟩; gi_at_call 44; refine (CallsIn.inRound l (callsIn_wide.2 (zD.calls 9 _ kN _ HARG.out))).mono ?_; rintro e w7 ⟨rfl, hd⟩; have F7 := aq (HF0.out.drew hd); clear hd; have hb7 := bq F7.out.gb 0; have hx1 := bq F7.out.bx 1; obtain ⟨hr7, hf7⟩ := Kd.yZ false F7.out.R (x : Int) hj0 hjl; rw [hb, Int.toNat_natCast] at hr7; rw [Int.toNat_natCast] at hf7; obtain ⟨hrA, hfA⟩ := Kd.yZ false F7.out.R (rT nodes (x : Int)).f1 HA.out.1 HA.out.2) | (refine in_ev (d := none) (t := 4) (p := .tmp 42) (w1 := w7.setCell ⟨go, (rT nodes (x : Int)).f1.toNat, none⟩ (.bool true)) ?hr ?_; (case hr => go_simp); obtain ⟨w8, hw8⟩ : ∃ w8, w8 = w7.setCell ⟨go, (rT nodes (x : Int)).f1.toNat, none⟩ (.bool true) := ⟨_, rfl⟩; rw [← hw8]; have F8 := aq (F7.out.put (rT nodes (x : Int)).f1); rw [← hw8] at F8; clear hw8; have hb8 := bq F8.out.gb 0; have hx2 := bq F8.out.bx 2))
              exact HFIN.out F8.out (by rw [HNEED.out, if_pos ⟨hb, k0⟩, if_neg (by omega)]) _
          · have kd0 : decide (0 < kN) = false := decide_eq_false k0
            gi_wp2_with (refine ⟨trivial, ?_⟩; gi_at_call 44; refine (CallsIn.inRound l (callsIn_wide.2 (zD.calls 9 _ kN _ HARG.out))).mono ?_; rintro e w7 ⟨rfl, hd⟩; have F7 := aq (HF0.out.drew hd); clear hd; have hb7 := bq F7.out.gb 0; have hx1 := bq F7.out.bx 1; obtain ⟨hr7, hf7⟩ := Kd.yZ false F7.out.R (x : Int) hj0 hjl; rw [hb, Int.toNat_natCast] at hr7; rw [Int.toNat_natCast] at hf7)
            exact HFIN.out F7.out (by rw [HNEED.out, if_neg (fun h => by have := h.2; omega)]) _
        · have hb' : zJ false s (x : Int) = false := by simpa using hb
          gi_wp2_with (refine ⟨trivial, ?_⟩; gi_at_call 44; refine (CallsIn.inRound l (callsIn_wide.2 (zD.calls 9 _ kN _ HARG.out))).mono ?_; rintro e w7 ⟨rfl, hd⟩; have F7 := aq (HF0.out.drew hd); clear hd; have hb7 := bq F7.out.gb 0; have hx1 := bq F7.out.bx 1; obtain ⟨hr7, hf7⟩ := Kd.yZ false F7.out.R (x : Int) hj0 hjl; rw [hb', Int.toNat_natCast] at hr7; rw [Int.toNat_natCast] at hf7)
          exact HFIN.out F7.out (by rw [HNEED.out, if_neg (fun h => hb h.1)]) _
      case done =>
        rintro D ys W hD hys ⟨⟨hi1, hi2, hi5⟩, hi3, hi4⟩ hK
        have HI1 := aq hi1
        have HI3 := aq hi3
        have HYS := aq hys
        have hb7 := bq hi2 0
        clear hi1 hi2 hi5 hi3 hys
        gi_wp2
        go_wp2
        refine ⟨by simp, .inl ⟨_, _, rfl, run_takeDeferred hK, ?_⟩⟩
        refine ⟨_, results_tmp rfl _ _ _, _, rfl, ?_, ?_⟩
        · have e : yH nodes roots = (ys.map (fun x => x.1)).foldl (wN nodes) (roots.foldl vE (List.replicate nodes.length false)) := by unfold yH; rw [HYS.out]
          rw [e]
          exact Kd.xF (Kd.pD HI1.out (fun k ho _ => World.putObj_heap_other (by omega))) (fun _ _ => trivial)
        · exact HI3.out.trans (belowK_b (w := W0) hB2.size W D _ _ hD hK rfl rfl)
      case stop =>
        rintro D cc pre W _ _ h _
        exact h.elim
theorem uargs_eq (k : Int) : yI.f 9 k = some (zI k) := by
  unfold yI.f zI
  simp only [yI.j0, yI.j1, beq_iff_eq, decide_eq_true_eq, Bool.false_eq_true, if_false]
  repeat' split
  all_goals first | rfl | (exfalso; omega) | (congr 1; omega)
theorem needed66 (nodes : List S37) (roots : List Int) (A : Option Addr) (c : Nat) (A1 : Option Addr) (c1 : Nat) (w : World) (hC : Kd.C k37 w A nodes.length nodes) (hc : nodes.length ≤ c) (hR : Kd.C (Kd.int .i64) w A1 roots.length roots) (hc1 : roots.length ≤ c1)
    (hroots : ∀ r ∈ roots, 0 ≤ r ∧ r < (nodes.length : Int)) (hok : OpsOK nodes) (hlen : nodes.length ≤ 281474976710656) :
    Calls Try.prog 66 #[.slice A nodes.length c, .slice A1 roots.length c1] w fun e w' => ∃ v, e = .returned v ∧ Kd.R Kd.bool 4 w' w.heap.size (fun _ => True) v (yH nodes roots) ∧ Below w.heap.size w w' := by
  have hRm := Kd.C_max hR
  have HC := aq hC
  have HR := aq hR
  have HROOTS := aq hroots
  have HOK := aq hok
  clear hC hR hroots hok
  refine callsIn_wide.1 (callsIn_of_wp_marks (n := 9) Try.func66 rfl trivial ?_ rfl)
  simp only [Try.ntmps66, List.size_toArray, List.length_cons, List.length_nil, Nat.reduceAdd, Nat.reduceSub, Array.replicate_succ, Array.replicate_zero, List.push_toArray, List.append_toArray, List.nil_append, List.cons_append]
  refine wpIn_wide.2 ?_
  go_wp2_with (first | ((with_reducible refine gD (N := 13) rfl ?_); refine Kd.R_make Kd.bool _ 4 rfl (N := 13) rfl 55 _ _ rfl (nodes.length : Int) rfl rfl Try.underlying55 (.bool false) 1 info4 rfl (by decide) (by omega) false (ok := fun _ => True) (okp := fun _ => True) rfl (fun _ hk => hk) trivial (by omega) (by rw [Int.toNat_natCast, Nat.mul_one]; exact hlen) (Below.refl _ _) (Nat.le_refl _) ?_; intro v5 w5 ho6 hb hg_ hnew_; clear hg_ hnew_; rw [Int.toNat_natCast] at ho6; obtain ⟨Av, cv, ev⟩ := Kd.yT ho6; subst ev; have HO := aq ho6; have HB := aq hb; clear ho6 hb))
  have hbox : (w5.alloc (.cells #[.slice Av nodes.length cv] 55)).heap[w5.heap.size]? = some (.cells #[.slice Av nodes.length cv] 55 (0, 0)) := heap_alloc_last _ _
  have hO1 := Kd.tV HO.out (.cells #[.slice Av nodes.length cv] 55)
  have hB1 : Below w.heap.size w (w5.alloc (.cells #[.slice Av nodes.length cv] 55)) := zY HB.out _
  have hg1 : w.heap.size ≤ w5.heap.size := HB.out.size
  clear HO HB
  rw [List.length_replicate] at hO1
  generalize w5.alloc (.cells #[.slice Av nodes.length cv] 55) = W1 at hbox hO1 hB1 ⊢
  generalize w5.heap.size = gB at hbox hg1 ⊢
  have HBOX := aq hbox
  have HO1 := aq hO1
  have HB1 := aq hB1
  have HG1 := aq hg1
  clear hbox hO1 hB1 hg1
  go_loopw [16] (fun i wr => ∃ (j : Int), 0 ≤ j ∧ j ≤ (roots.length : Int) ∧ i = .int .i64 j ∧ zT (Kd.R Kd.bool 4 wr w.heap.size (fun _ => True) (.slice Av nodes.length cv) ((roots.take j.toNat).foldl vE (List.replicate nodes.length false))) ∧ zT (wr.heap[gB]? = some (.cells #[.slice Av nodes.length cv] 55 (0, 0))) ∧ zT (Below w.heap.size w wr)) (fun i _ => roots.length - (intOf i).toNat)
  case atStart => exact ⟨0, Int.le_refl _, by omega, rfl, HO1, HBOX, HB1⟩
  case round =>
    obtain ⟨j, j0, j1, rfl, HO, HX, HB⟩ := hrel
    clear HO1 HBOX HB1
    by_cases hlt : j < (roots.length : Int)
    · obtain ⟨ad, ead, hx⟩ := Kd.at_int HR.out j j0 hlt
      cases ead
      replace hx := (HB.out.cell (World.block_lt_of_cell? w _ hx)).trans hx
      have hm : rd roots j ∈ roots := by
        obtain ⟨k, rfl⟩ := Int.eq_ofNat_of_zero_le j0
        rw [show rd roots (k : Int) = roots[k]'(by omega) by simp [rd, List.getD_eq_getElem?_getD, List.getElem?_eq_getElem (show k < roots.length by omega)]]
        exact List.getElem_mem _
      have he := HROOTS.out _ hm
      have hpos : 0 < (((roots.take j.toNat).foldl vE (List.replicate nodes.length false))).length := by rw [uM, List.length_replicate]; omega
      obtain ⟨go, co, eo, gb, gl, cl, HG⟩ := Kd.uK HO.out hpos
      injection eo with ea en ec
      subst ea
      have hne : go ≠ gB := fun e => by rw [e, HX.out] at HG; cases HG
      obtain ⟨hx1, hf1⟩ := Kd.yZ false HO.out (rd roots j) he.1 he.2
      have HP := Kd.R_putg HO.out (rd roots j) true
      have hb1 := bq HX.out 0
      have HNE := aq hne
      have HPA := aq HP
      have HGB := aq gb
      have HW := aq (show wrap64 (j + 1) = j + 1 by unfold wrap64; omega)
      have HLT := aq hlt
      have HJ := aq j0
      have e0 := eq_true he.1
      have e1 := eq_true he.2
      clear hm hpos HP hne gb gl HG en ec he
      replace j0 := eq_true j0
      replace hlt := eq_true hlt
      go_wp2
      refine ⟨⟨wrap64 (j + 1), by have := HW.out; have := HJ.out; omega, by have := HW.out; have := HLT.out; omega, rfl, ⟨?_⟩, ⟨?_⟩, ⟨bs_ HB.out HGB.out⟩⟩, ?_⟩
      · have e : (wrap64 (j + 1)).toNat = j.toNat + 1 := by have := HW.out; have := HJ.out; omega
        have e2 : roots.take (j.toNat + 1) = roots.take j.toNat ++ [rd roots j] := by
          have hl : j.toNat < roots.length := by have := HLT.out; have := HJ.out; omega
          rw [List.take_succ_eq_append_getElem hl]
          simp [rd, List.getD_eq_getElem?_getD, List.getElem?_eq_getElem hl]
        rw [e, e2, List.foldl_append]
        exact HPA.out.1
      · exact (Below.heap_setCell wr ⟨go, (rd roots j).toNat, none⟩ _ gB (fun e => HNE.out e.symm)).trans HX.out
      · have := HW.out; have := HJ.out; have := HLT.out; simp [intOf]; omega
    · obtain rfl : j = (roots.length : Int) := by omega
      rw [Int.toNat_natCast, List.take_length] at HO
      clear j0 j1 hlt
      go_wp2_with (go_at_call 49; refine (callsIn_wide.1 (back_in Fence.wide 9 trivial rfl A nodes.length c _)).mono ?_; rintro e w' ⟨rfl, rfl⟩)
      have hbs : (wr.alloc (.cells #[.slice A nodes.length c] 22)).heap[wr.heap.size]? = some (.cells #[.slice A nodes.length c] 22 (0, 0)) := heap_alloc_last _ _
      have hO2 := Kd.tV HO.out (.cells #[.slice A nodes.length c] 22)
      have hX2 : (wr.alloc (.cells #[.slice A nodes.length c] 22)).heap[gB]? = some (.cells #[.slice Av nodes.length cv] 55 (0, 0)) := (Below.heap_alloc _ _ _ (Array.getElem?_eq_some_iff.1 HX.out).1).trans HX.out
      have hB2 : Below w.heap.size w (wr.alloc (.cells #[.slice A nodes.length c] 22)) := zY HB.out _
      have hs2 : wr.heap.size < (wr.alloc (.cells #[.slice A nodes.length c] 22)).heap.size := by simp
      have hgb2 : gB < wr.heap.size := (Array.getElem?_eq_some_iff.1 HX.out).1
      have hbw : w.heap.size ≤ wr.heap.size := HB.out.size
      clear HO HX HB
      generalize wr.alloc (.cells #[.slice A nodes.length c] 22) = W0 at hbs hO2 hX2 hB2 hs2 ⊢
      generalize wr.heap.size = Bs at hbs hs2 hgb2 hbw ⊢
      refine (wpIn_wide (n := 9)).1 ?_
      refine wpIn_rangeFunc_ownH (α := Fin nodes.length) rfl (by omega) (gf := 73) (lb := #[.pointer (some ⟨Bs, 0, none⟩)]) rfl trivial (enters_of Try.func73 (by kernel_rfl) rfl)
        (back_stops Fence.wide 8 trivial rfl (by omega) Bs A c nodes w W0 HC.out hB2 hbs) KpB.t
        (fun W l o o' hl h ho hw => ⟨belowK_b hB2.size W l o o' hl h ho hw, World.putObj_heap_other (by omega)⟩) (Below.refl _ _) (fun _ => rfl)
        (fun pre W => (Kd.R Kd.bool 4 W w.heap.size (fun k_ => k_ < W0.heap.size) (.slice Av nodes.length cv) ((pre.map (fun x => x.1)).foldl (wN nodes) (roots.foldl vE (List.replicate nodes.length false))) ∧ W.heap[gB]? = some (.cells #[.slice Av nodes.length cv] 55 (0, 0)) ∧ W.heap[Bs]? = some (.cells #[.slice A nodes.length c] 22 (0, 0))) ∧ Below w.heap.size w W ∧ W0.heap.size ≤ W.heap.size)
        (fun _ _ _ => False)
        (fun s X Y row hs hg hr => ⟨⟨Kd.pD hs.1.1 (fun k ho hk => hg.block k hk (fun e => by have := (hr k e.symm).1; omega)), (hg.block gB (Array.getElem?_eq_some_iff.1 hs.1.2.1).1 (fun e => by have := (hr gB e.symm).1; omega)).trans hs.1.2.1, (hg.block Bs (Array.getElem?_eq_some_iff.1 hs.1.2.2).1 (fun e => by have := (hr Bs e.symm).1; omega)).trans hs.1.2.2⟩, hs.2.1.grown hg (by have := hs.2.1.size; have := hB2.size; omega) (fun k e => by have := (hr k e).1; have := hB2.size; omega), Nat.le_trans hs.2.2 hg.size⟩)
        (fun _ _ _ _ _ hs _ _ => hs)
        ⟨⟨Kd.xF (Kd.uP hO2) (fun k hk => hk.2.2.1), hX2, hbs⟩, hB2, Nat.le_refl _⟩
        (fun x a' W => ∃ Bx : Nat, W0.heap.size ≤ Bx ∧ W.heap[Bx]? = some (.cells #[.int .i64 (rT nodes (x.1 : Int)).f0, .int .i64 (rT nodes (x.1 : Int)).f1, .int .i64 (rT nodes (x.1 : Int)).f2, .int .i64 (rT nodes (x.1 : Int)).f3, .int .i64 (rT nodes (x.1 : Int)).f4.f0, .int .i64 (rT nodes (x.1 : Int)).f4.f1, .int .i64 (rT nodes (x.1 : Int)).f5.f0, .int .i64 (rT nodes (x.1 : Int)).f5.f1, .int .i64 (rT nodes (x.1 : Int)).f6.f0.f0.f0, .int .i64 (rT nodes (x.1 : Int)).f6.f0.f0.f1, .int .i64 (rT nodes (x.1 : Int)).f6.f0.f1.f0, .int .i64 (rT nodes (x.1 : Int)).f6.f0.f1.f1, .int .i64 (rT nodes (x.1 : Int)).f6.f0.f2.f0, .int .i64 (rT nodes (x.1 : Int)).f6.f0.f2.f1, .int .i64 (rT nodes (x.1 : Int)).f6.f0.f3.f0, .int .i64 (rT nodes (x.1 : Int)).f6.f0.f3.f1, .int .i64 (rT nodes (x.1 : Int)).f6.f0.f4.f0, .int .i64 (rT nodes (x.1 : Int)).f6.f0.f4.f1, .int .i64 (rT nodes (x.1 : Int)).f6.f0.f5.f0, .int .i64 (rT nodes (x.1 : Int)).f6.f0.f5.f1, .int .i64 (rT nodes (x.1 : Int)).f6.f0.f6.f0, .int .i64 (rT nodes (x.1 : Int)).f6.f0.f6.f1] 37 (0, 0)) ∧ a' = { tmps := #[.slice A nodes.length c, .slice A1 roots.length c1, undef, undef, .slice none 0 0, .pointer (some ⟨gB, 0, none⟩), undef, u7, .int .i64 (x.1 : Int), .pointer (some ⟨Bx, 0, none⟩), undef, .slice A nodes.length c, .int .i64 (nodes.length : Int), .slice Av nodes.length cv, .slice A1 roots.length c1, .int .i64 (roots.length : Int), .int .i64 (roots.length : Int), .bool false, u18, u19, u20, u21, u22, u23, .slice A nodes.length c, .func (.func 73) #[] #[.pointer (some ⟨Bs, 0, none⟩)], .int .i64 (x.1 : Int), uI (rT nodes (x.1 : Int)), undef, undef, undef, undef, undef, undef, undef, undef, undef, undef, undef, undef, undef, undef, undef, undef, undef, undef, undef, undef, undef, undef], defers := [] })
        (fun x a' s X Y row hs hg hr => by
          obtain ⟨Bx, h1, h2, h3⟩ := hs
          exact ⟨Bx, h1, (hg.block Bx (Array.getElem?_eq_some_iff.1 h2).1 (fun e => by obtain ⟨_, o, ho, hc⟩ := hr Bx e.symm; rw [h2] at ho; cases ho; cases hc)).trans h2, h3⟩) ?assign ?body ?done ?stop
      case assign =>
        rintro l pre x W K ⟨⟨hi1, hi2, hi5⟩, hi3, hi4⟩ hK
        have HI1 := aq hi1
        have HI2 := aq hi2
        have HI3 := aq hi3
        have HI5 := aq hi5
        have HKK := aq hK
        clear hi1 hi2 hi3 hi5 hK
        gi_wp2_with (refine in_store (t := 37) (c := #[.int .i64 0, .int .i64 0, .int .i64 0, .int .i64 0, .int .i64 0, .int .i64 0, .int .i64 0, .int .i64 0, .int .i64 0, .int .i64 0, .int .i64 0, .int .i64 0, .int .i64 0, .int .i64 0, .int .i64 0, .int .i64 0, .int .i64 0, .int .i64 0, .int .i64 0, .int .i64 0, .int .i64 0, .int .i64 0]) (c' := #[.int .i64 (rT nodes (x.1 : Int)).f0, .int .i64 (rT nodes (x.1 : Int)).f1, .int .i64 (rT nodes (x.1 : Int)).f2, .int .i64 (rT nodes (x.1 : Int)).f3, .int .i64 (rT nodes (x.1 : Int)).f4.f0, .int .i64 (rT nodes (x.1 : Int)).f4.f1, .int .i64 (rT nodes (x.1 : Int)).f5.f0, .int .i64 (rT nodes (x.1 : Int)).f5.f1, .int .i64 (rT nodes (x.1 : Int)).f6.f0.f0.f0, .int .i64 (rT nodes (x.1 : Int)).f6.f0.f0.f1, .int .i64 (rT nodes (x.1 : Int)).f6.f0.f1.f0, .int .i64 (rT nodes (x.1 : Int)).f6.f0.f1.f1, .int .i64 (rT nodes (x.1 : Int)).f6.f0.f2.f0, .int .i64 (rT nodes (x.1 : Int)).f6.f0.f2.f1, .int .i64 (rT nodes (x.1 : Int)).f6.f0.f3.f0, .int .i64 (rT nodes (x.1 : Int)).f6.f0.f3.f1, .int .i64 (rT nodes (x.1 : Int)).f6.f0.f4.f0, .int .i64 (rT nodes (x.1 : Int)).f6.f0.f4.f1, .int .i64 (rT nodes (x.1 : Int)).f6.f0.f5.f0, .int .i64 (rT nodes (x.1 : Int)).f6.f0.f5.f1, .int .i64 (rT nodes (x.1 : Int)).f6.f0.f6.f0, .int .i64 (rT nodes (x.1 : Int)).f6.f0.f6.f1]) rfl rfl (by kernel_rfl) rfl (by kernel_rfl) ?_)
        refine HKK.out _ _ ((KeepsOthers.alloc _ _).from _) ⟨(Below.refl _ W).alloc HI3.out.size _, Below.heap_alloc _ _ _ (by omega)⟩ ⟨⟨Kd.tV HI1.out _, (Below.heap_alloc _ _ _ (Array.getElem?_eq_some_iff.1 HI2.out).1).trans HI2.out, (Below.heap_alloc _ _ _ (Array.getElem?_eq_some_iff.1 HI5.out).1).trans HI5.out⟩, zY HI3.out _, by rw [World.size_alloc]; omega⟩ ⟨W.heap.size, hi4, heap_alloc_last _ _, rfl⟩
      case body =>
        rintro l pre x a' W hl ⟨r, hr⟩ ⟨⟨hi1, hi2, hi5⟩, hi3, hi4⟩ ⟨Bx, hBx, hbx, rfl⟩ hlt
        obtain ⟨x, hx⟩ := x
        have hjl : (x : Int) < (nodes.length : Int) := by omega
        have hj0 : (0 : Int) ≤ (x : Int) := Int.natCast_nonneg x
        have hops := HOK.out (x : Int) hj0 hjl
        have hsl : ((pre.map (fun x => x.1)).foldl (wN nodes) (roots.foldl vE (List.replicate nodes.length false))).length = nodes.length := by rw [qP, uM, List.length_replicate]
        have hfold : ((pre ++ [(⟨x, hx⟩ : Fin nodes.length)]).map (fun x => x.1)).foldl (wN nodes) (roots.foldl vE (List.replicate nodes.length false)) = wN nodes ((pre.map (fun x => x.1)).foldl (wN nodes) (roots.foldl vE (List.replicate nodes.length false))) x := by simp
        have hneed : ∀ s, wN nodes s x = if zJ false s (x : Int) = true ∧ 0 < zI (rT nodes (x : Int)).f0 then (if 1 < zI (rT nodes (x : Int)).f0 then vE (vE s (rT nodes (x : Int)).f1) (rT nodes (x : Int)).f2 else vE s (rT nodes (x : Int)).f1) else s := fun s => rfl
        generalize ((pre.map (fun x => x.1)).foldl (wN nodes) (roots.foldl vE (List.replicate nodes.length false))) = s at hi1 hsl hfold
        replace hneed := hneed s
        have hpos : 0 < s.length := by rw [hsl]; omega
        obtain ⟨go, co, eo, gb, gl, cl, HG⟩ := Kd.uK hi1 hpos
        injection eo with ea en ec
        subst ea
        have harg := uargs_eq (rT nodes (x : Int)).f0
        generalize hk : zI (rT nodes (x : Int)).f0 = kN at hops hneed harg
        have F0 : NF w W W0.heap.size gB Bs Bx go nodes.length cv _ _ _ s W := ⟨hi1, hi2, hi5, hbx, hi3, Below.refl _ _, KeepsFrom.refl _ _, rfl⟩
        have HF0 := aq F0
        have HARG := aq harg
        have HOPS := aq hops
        have HNEED := aq hneed
        have HFOLD := aq hfold
        have HREC := aq hr
        have HLEN := aq hsl
        have hc0 := bq hbx 0
        clear harg hops hneed hfold hi1 hi2 hi5 hi3 hbx hr hk gb gl HG en ec hsl hpos F0
        have fin : ∀ {s' : List Bool} {V : World}, NF w W W0.heap.size gB Bs Bx go nodes.length cv #[.slice (some ⟨go, 0, none⟩) nodes.length cv] #[.slice A nodes.length c] (#[.int .i64 (rT nodes (x : Int)).f0, .int .i64 (rT nodes (x : Int)).f1, .int .i64 (rT nodes (x : Int)).f2, .int .i64 (rT nodes (x : Int)).f3, .int .i64 (rT nodes (x : Int)).f4.f0, .int .i64 (rT nodes (x : Int)).f4.f1, .int .i64 (rT nodes (x : Int)).f5.f0, .int .i64 (rT nodes (x : Int)).f5.f1, .int .i64 (rT nodes (x : Int)).f6.f0.f0.f0, .int .i64 (rT nodes (x : Int)).f6.f0.f0.f1, .int .i64 (rT nodes (x : Int)).f6.f0.f1.f0, .int .i64 (rT nodes (x : Int)).f6.f0.f1.f1, .int .i64 (rT nodes (x : Int)).f6.f0.f2.f0, .int .i64 (rT nodes (x : Int)).f6.f0.f2.f1, .int .i64 (rT nodes (x : Int)).f6.f0.f3.f0, .int .i64 (rT nodes (x : Int)).f6.f0.f3.f1, .int .i64 (rT nodes (x : Int)).f6.f0.f4.f0, .int .i64 (rT nodes (x : Int)).f6.f0.f4.f1, .int .i64 (rT nodes (x : Int)).f6.f0.f5.f0, .int .i64 (rT nodes (x : Int)).f6.f0.f5.f1, .int .i64 (rT nodes (x : Int)).f6.f0.f6.f0, .int .i64 (rT nodes (x : Int)).f6.f0.f6.f1]) s' V → wN nodes s x = s' → ∀ a2 : Act, ownPostG W0.heap.size (KpB w.heap.size Bs) (fun pre W => (Kd.R Kd.bool 4 W w.heap.size (fun k_ => k_ < W0.heap.size) (.slice (some ⟨go, 0, none⟩) nodes.length cv) ((pre.map (fun x => x.1)).foldl (wN nodes) (roots.foldl vE (List.replicate nodes.length false))) ∧ W.heap[gB]? = some (.cells #[.slice (some ⟨go, 0, none⟩) nodes.length cv] 55 (0, 0)) ∧ W.heap[Bs]? = some (.cells #[.slice A nodes.length c] 22 (0, 0))) ∧ Below w.heap.size w W ∧ W0.heap.size ≤ W.heap.size) (fun _ _ _ => False) (pre ++ [⟨x, hx⟩]) W Exit.normal a2 V := fun {s' V} h e a2 =>
          ⟨h.kf, ⟨h.bW, h.bs.trans HF0.out.bs.symm⟩, ⟨by rw [HFOLD.out, e]; exact h.R, h.gb, h.bs⟩, h.bw, by rw [h.sz]; exact hi4⟩
        have HFIN := aq @fin
        clear fin
        by_cases hb : zJ false s (x : Int) = true
        · by_cases k0 : 0 < kN
          · have kd0 : decide (0 < kN) = true := decide_eq_true k0
            have hA := (HOPS.out.1 k0)
            by_cases k1 : 1 < kN
            · have kd1 : decide (1 < kN) = true := decide_eq_true k1
              have hB := (HOPS.out.2 k1)
              have hA0 := eq_true hA.1
              have hA1 := eq_true hA.2
              have hB0 := eq_true hB.1
              have hB1 := eq_true hB.2
              have HA := aq hA
              have HBB := aq hB
              clear hA hB
              gi_wp2_with (first | (refine ⟨trivial, ?_⟩; gi_at_call 93; refine (CallsIn.inRound l (callsIn_wide.2 (yI.calls 9 _ kN _ HARG.out))).mono ?_; rintro e w7 ⟨rfl, hd⟩; have F7 := aq (HF0.out.drew hd); clear hd; have hb7 := bq F7.out.gb 0; have hx1 := bq F7.out.bx 1; obtain ⟨hr7, hf7⟩ := Kd.yZ false F7.out.R (x : Int) hj0 hjl; rw [hb, Int.toNat_natCast] at hr7; rw [Int.toNat_natCast] at hf7; obtain ⟨hrA, hfA⟩ := Kd.yZ false F7.out.R (rT nodes (x : Int)).f1 HA.out.1 HA.out.2) | (refine in_ev (d := none) (t := 4) (p := .tmp 42) (w1 := w7.setCell ⟨go, (rT nodes (x : Int)).f1.toNat, none⟩ (.bool true)) ?hr ?_; (case hr => go_simp); obtain ⟨w8, hw8⟩ : ∃ w8, w8 = w7.setCell ⟨go, (rT nodes (x : Int)).f1.toNat, none⟩ (.bool true) := ⟨_, rfl⟩; rw [← hw8]; have F8 := aq (F7.out.put (rT nodes (x : Int)).f1); rw [← hw8] at F8; clear hw8; have hb8 := bq F8.out.gb 0; have hx2 := bq F8.out.bx 2; obtain ⟨hrB, hfB⟩ := Kd.yZ false F8.out.R (rT nodes (x : Int)).f2 HBB.out.1 HBB.out.2) | (refine in_ev (d := none) (t := 4) (p := .tmp 48) (w1 := w8.setCell ⟨go, (rT nodes (x : Int)).f2.toNat, none⟩ (.bool true)) ?hr ?_; (case hr => go_simp); obtain ⟨w9, hw9⟩ : ∃ w9, w9 = w8.setCell ⟨go, (rT nodes (x : Int)).f2.toNat, none⟩ (.bool true) := ⟨_, rfl⟩; rw [← hw9]; have F9 := aq (F8.out.put (rT nodes (x : Int)).f2); rw [← hw9] at F9; clear hw9))
              exact HFIN.out F9.out (by rw [HNEED.out, if_pos ⟨hb, k0⟩, if_pos k1]) _
            · have kd1 : decide (1 < kN) = false := decide_eq_false k1
              have hA0 := eq_true hA.1
              have hA1 := eq_true hA.2
              have HA := aq hA
              clear hA
              gi_wp2_with (first | (refine ⟨trivial, ?_⟩; gi_at_call 93; refine (CallsIn.inRound l (callsIn_wide.2 (yI.calls 9 _ kN _ HARG.out))).mono ?_; rintro e w7 ⟨rfl, hd⟩; have F7 := aq (HF0.out.drew hd); clear hd; have hb7 := bq F7.out.gb 0; have hx1 := bq F7.out.bx 1; obtain ⟨hr7, hf7⟩ := Kd.yZ false F7.out.R (x : Int) hj0 hjl; rw [hb, Int.toNat_natCast] at hr7; rw [Int.toNat_natCast] at hf7; obtain ⟨hrA, hfA⟩ := Kd.yZ false F7.out.R (rT nodes (x : Int)).f1 HA.out.1 HA.out.2) | (refine in_ev (d := none) (t := 4) (p := .tmp 42) (w1 := w7.setCell ⟨go, (rT nodes (x : Int)).f1.toNat, none⟩ (.bool true)) ?hr ?_; (case hr => go_simp); obtain ⟨w8, hw8⟩ : ∃ w8, w8 = w7.setCell ⟨go, (rT nodes (x : Int)).f1.toNat, none⟩ (.bool true) := ⟨_, rfl⟩; rw [← hw8]; have F8 := aq (F7.out.put (rT nodes (x : Int)).f1); rw [← hw8] at F8; clear hw8; have hb8 := bq F8.out.gb 0; have hx2 := bq F8.out.bx 2))
              exact HFIN.out F8.out (by rw [HNEED.out, if_pos ⟨hb, k0⟩, if_neg (by omega)]) _
          · have kd0 : decide (0 < kN) = false := decide_eq_false k0
            gi_wp2_with (refine ⟨trivial, ?_⟩; gi_at_call 93; refine (CallsIn.inRound l (callsIn_wide.2 (yI.calls 9 _ kN _ HARG.out))).mono ?_; rintro e w7 ⟨rfl, hd⟩; have F7 := aq (HF0.out.drew hd); clear hd; have hb7 := bq F7.out.gb 0; have hx1 := bq F7.out.bx 1; obtain ⟨hr7, hf7⟩ := Kd.yZ false F7.out.R (x : Int) hj0 hjl; rw [hb, Int.toNat_natCast] at hr7; rw [Int.toNat_natCast] at hf7)
            exact HFIN.out F7.out (by rw [HNEED.out, if_neg (fun h => by have := h.2; omega)]) _
        · have hb' : zJ false s (x : Int) = false := by simpa using hb
          gi_wp2_with (refine ⟨trivial, ?_⟩; gi_at_call 93; refine (CallsIn.inRound l (callsIn_wide.2 (yI.calls 9 _ kN _ HARG.out))).mono ?_; rintro e w7 ⟨rfl, hd⟩; have F7 := aq (HF0.out.drew hd); clear hd; have hb7 := bq F7.out.gb 0; have hx1 := bq F7.out.bx 1; obtain ⟨hr7, hf7⟩ := Kd.yZ false F7.out.R (x : Int) hj0 hjl; rw [hb', Int.toNat_natCast] at hr7; rw [Int.toNat_natCast] at hf7)
          exact HFIN.out F7.out (by rw [HNEED.out, if_neg (fun h => hb h.1)]) _
      case done =>
        rintro D ys W hD hys ⟨⟨hi1, hi2, hi5⟩, hi3, hi4⟩ hK
        have HI1 := aq hi1
        have HI3 := aq hi3
        have HYS := aq hys
        have hb7 := bq hi2 0
        clear hi1 hi2 hi5 hi3 hys
        gi_wp2
        go_wp2
        refine ⟨by simp, .inl ⟨_, _, rfl, run_takeDeferred hK, ?_⟩⟩
        refine ⟨_, results_tmp rfl _ _ _, _, rfl, ?_, ?_⟩
        · have e : yH nodes roots = (ys.map (fun x => x.1)).foldl (wN nodes) (roots.foldl vE (List.replicate nodes.length false)) := by unfold yH; rw [HYS.out]
          rw [e]
          exact Kd.xF (Kd.pD HI1.out (fun k ho _ => World.putObj_heap_other (by omega))) (fun _ _ => trivial)
        · exact HI3.out.trans (belowK_b (w := W0) hB2.size W D _ _ hD hK rfl rfl)
      case stop =>
        rintro D cc pre W _ _ h _
        exact h.elim
end Go.Proofs.Ytoonahobmlnflaa.PC
namespace Go.Proofs.Ytoonahobmlnflaa.PC
open Go.RowKit Go.Shelf A B C
theorem tP {n d : Int} (hn : I64 n) (hd : I64 d) (w : World) : Calls Try.prog 59 #[.agg #[.int .i64 n, .int .i64 d]] w fun e w' => e = .returned (.bool (yU n d)) ∧ Below w.heap.size w w' := by
  obtain ⟨k, hk⟩ := (vN hn hd).rounds
  exact zO.calls k n d _ w hk
theorem xI {B : Nat} {w W : World} (h : Below B w W) (hb : B < W.heap.size) (o : Obj) : Below B w (W.alloc o) := h.alloc (by omega) o
theorem tB {W : World} {g : Nat} {o : Obj} (h : W.heap[g]? = some o) (o' : Obj) : (W.alloc o').heap[g]? = some o := (Below.heap_alloc _ _ _ (Array.getElem?_eq_some_iff.1 h).1).trans h
instance (n : Int) : Decidable (I64 n) := by unfold I64; infer_instance
theorem run_idx33_0 (x0 x1 x2 x3 x4 x5 x6 x7 x8 x9 x10 x11 x12 x13 : Value) (w : World) : (Instr.index 33 (.agg #[x0, x1, x2, x3, x4, x5, x6, x7, x8, x9, x10, x11, x12, x13]) (.int .i64 0)).run Try.prog w = .ok (.agg #[x0, x1]) w := by kernel_rfl
theorem run_idx33_1 (x0 x1 x2 x3 x4 x5 x6 x7 x8 x9 x10 x11 x12 x13 : Value) (w : World) : (Instr.index 33 (.agg #[x0, x1, x2, x3, x4, x5, x6, x7, x8, x9, x10, x11, x12, x13]) (.int .i64 1)).run Try.prog w = .ok (.agg #[x2, x3]) w := by kernel_rfl
theorem run_idx33_2 (x0 x1 x2 x3 x4 x5 x6 x7 x8 x9 x10 x11 x12 x13 : Value) (w : World) : (Instr.index 33 (.agg #[x0, x1, x2, x3, x4, x5, x6, x7, x8, x9, x10, x11, x12, x13]) (.int .i64 2)).run Try.prog w = .ok (.agg #[x4, x5]) w := by kernel_rfl
theorem run_idx33_3 (x0 x1 x2 x3 x4 x5 x6 x7 x8 x9 x10 x11 x12 x13 : Value) (w : World) : (Instr.index 33 (.agg #[x0, x1, x2, x3, x4, x5, x6, x7, x8, x9, x10, x11, x12, x13]) (.int .i64 3)).run Try.prog w = .ok (.agg #[x6, x7]) w := by kernel_rfl
theorem run_idx33_4 (x0 x1 x2 x3 x4 x5 x6 x7 x8 x9 x10 x11 x12 x13 : Value) (w : World) : (Instr.index 33 (.agg #[x0, x1, x2, x3, x4, x5, x6, x7, x8, x9, x10, x11, x12, x13]) (.int .i64 4)).run Try.prog w = .ok (.agg #[x8, x9]) w := by kernel_rfl
theorem run_idx33_5 (x0 x1 x2 x3 x4 x5 x6 x7 x8 x9 x10 x11 x12 x13 : Value) (w : World) : (Instr.index 33 (.agg #[x0, x1, x2, x3, x4, x5, x6, x7, x8, x9, x10, x11, x12, x13]) (.int .i64 5)).run Try.prog w = .ok (.agg #[x10, x11]) w := by kernel_rfl
theorem run_idx33_6 (x0 x1 x2 x3 x4 x5 x6 x7 x8 x9 x10 x11 x12 x13 : Value) (w : World) : (Instr.index 33 (.agg #[x0, x1, x2, x3, x4, x5, x6, x7, x8, x9, x10, x11, x12, x13]) (.int .i64 6)).run Try.prog w = .ok (.agg #[x12, x13]) w := by kernel_rfl
attribute [local go_sem] run_idx33_0 run_idx33_1 run_idx33_2 run_idx33_3 run_idx33_4 run_idx33_5 run_idx33_6
def seven (a0 a1 a2 a3 a4 a5 a6 a7 a8 a9 a10 a11 a12 a13 : Int) : Option Bool :=
  if I64 a0 ∧ I64 a1 ∧ I64 a2 ∧ I64 a3 ∧ I64 a4 ∧ I64 a5 ∧ I64 a6 ∧ I64 a7 ∧ I64 a8 ∧ I64 a9 ∧ I64 a10 ∧ I64 a11 ∧ I64 a12 ∧ I64 a13 then
    some (yU a0 a1 && yU a2 a3 && yU a4 a5 && yU a6 a7 && yU a8 a9 && yU a10 a11 && yU a12 a13) else none
def qV.f := seven
theorem qV.calls (a0 a1 a2 a3 a4 a5 a6 a7 a8 a9 a10 a11 a12 a13 : Int) (r : Bool) (w : World) (h : qV.f a0 a1 a2 a3 a4 a5 a6 a7 a8 a9 a10 a11 a12 a13 = some r) :
    Calls Try.prog 91 #[.agg #[.int .i64 a0, .int .i64 a1, .int .i64 a2, .int .i64 a3, .int .i64 a4, .int .i64 a5, .int .i64 a6, .int .i64 a7, .int .i64 a8, .int .i64 a9, .int .i64 a10, .int .i64 a11, .int .i64 a12, .int .i64 a13]] w fun e w' => e = .returned (.bool r) ∧ Below w.heap.size w w' := by
  unfold qV.f seven at h
  split at h
  case isFalse => cases h
  rename_i hI
  obtain rfl := Option.some.inj h
  clear h
  obtain ⟨i0, i1, i2, i3, i4, i5, i6, i7, i8, i9, i10, i11, i12, i13⟩ := hI
  have HB := aq (zY (Below.refl w.heap.size w) (.cells #[.int .i64 a0, .int .i64 a1, .int .i64 a2, .int .i64 a3, .int .i64 a4, .int .i64 a5, .int .i64 a6, .int .i64 a7, .int .i64 a8, .int .i64 a9, .int .i64 a10, .int .i64 a11, .int .i64 a12, .int .i64 a13] 35))
  have HX := aq (heap_alloc_last w (.cells #[.int .i64 a0, .int .i64 a1, .int .i64 a2, .int .i64 a3, .int .i64 a4, .int .i64 a5, .int .i64 a6, .int .i64 a7, .int .i64 a8, .int .i64 a9, .int .i64 a10, .int .i64 a11, .int .i64 a12, .int .i64 a13] 35))
  have HS := aq (show w.heap.size < (w.alloc (.cells #[.int .i64 a0, .int .i64 a1, .int .i64 a2, .int .i64 a3, .int .i64 a4, .int .i64 a5, .int .i64 a6, .int .i64 a7, .int .i64 a8, .int .i64 a9, .int .i64 a10, .int .i64 a11, .int .i64 a12, .int .i64 a13] 35)).heap.size by simp)
  have c0 := fun V => tP i0 i1 V
  have c1 := fun V => tP i2 i3 V
  have c2 := fun V => tP i4 i5 V
  have c3 := fun V => tP i6 i7 V
  have c4 := fun V => tP i8 i9 V
  have c5 := fun V => tP i10 i11 V
  have c6 := fun V => tP i12 i13 V
  clear i0 i1 i2 i3 i4 i5 i6 i7 i8 i9 i10 i11 i12 i13
  generalize yU a0 a1 = q0 at *
  generalize yU a2 a3 = q1 at *
  generalize yU a4 a5 = q2 at *
  generalize yU a6 a7 = q3 at *
  generalize yU a8 a9 = q4 at *
  generalize yU a10 a11 = q5 at *
  generalize yU a12 a13 = q6 at *
  have C0 := aq c0
  have C1 := aq c1
  have C2 := aq c2
  have C3 := aq c3
  have C4 := aq c4
  have C5 := aq c5
  have C6 := aq c6
  clear c0 c1 c2 c3 c4 c5 c6
  have hu33 := Try.underlying33
  have hu30 := Try.underlying30
  go_enter Try.func91, Try.ntmps91
  go_wp2
  generalize w.alloc (.cells #[.int .i64 a0, .int .i64 a1, .int .i64 a2, .int .i64 a3, .int .i64 a4, .int .i64 a5, .int .i64 a6, .int .i64 a7, .int .i64 a8, .int .i64 a9, .int .i64 a10, .int .i64 a11, .int .i64 a12, .int .i64 a13] 35) = W1 at HB HX HS ⊢
  generalize hgB : w.heap.size = gB at HB HX HS ⊢
  go_loopw [7] (fun i wr => ∃ j : Nat, i = .int .i64 (j : Int) ∧ zT (([q0, q1, q2, q3, q4, q5, q6].take j).all id = true) ∧ zT (j ≤ 7) ∧ zT (Below gB w wr) ∧ zT (wr.heap[gB]? = some (.cells #[.int .i64 a0, .int .i64 a1, .int .i64 a2, .int .i64 a3, .int .i64 a4, .int .i64 a5, .int .i64 a6, .int .i64 a7, .int .i64 a8, .int .i64 a9, .int .i64 a10, .int .i64 a11, .int .i64 a12, .int .i64 a13] 35 (0, 0))) ∧ zT (gB < wr.heap.size)) (fun i _ => 7 - (intOf i).toNat)
  case atStart => exact ⟨0, rfl, ⟨rfl⟩, ⟨by omega⟩, HB, HX, HS⟩
  case round =>
    obtain ⟨j, rfl, HT, HJ, HB', HX', HS'⟩ := hrel
    clear HB HX HS
    rcases (show j = 0 ∨ j = 1 ∨ j = 2 ∨ j = 3 ∨ j = 4 ∨ j = 5 ∨ j = 6 ∨ j = 7 by have := HJ.out; omega) with rfl | rfl | rfl | rfl | rfl | rfl | rfl | rfl
    · have hT : ([q0, q1, q2, q3, q4, q5, q6].take 0).all id = true := HT.out
      clear HT HJ
      have hb0 := bq HX'.out 0
      have hb1 := bq HX'.out 1
      have hT2 : q0 = true → ([q0, q1, q2, q3, q4, q5, q6].take 1).all id = true := fun e => by simp at hT ⊢; simp [hT, e]
      have hT3 : q0 = false → (q0 && q1 && q2 && q3 && q4 && q5 && q6) = false := fun e => by simp [e]
      have HT2 := aq hT2
      have HT3 := aq hT3
      clear hT hT2 hT3
      go_wp2_with (go_at_call 59; refine (C0.out _).mono ?_; rintro e w7 ⟨rfl, hd⟩; have HD := aq hd; clear hd)
      case roundEnd =>
        rename_i hq
        have hT := HT2.out (by simpa using hq)
        have hB2 := xG (xI HB'.out HS'.out (.cells #[.int .i64 a0, .int .i64 a1] 30)) (by have := HS'.out; (try simp); omega) HD.out
        have hX2 := (HD.out.block gB (by have := HS'.out; (try simp); omega)).trans (tB HX'.out (.cells #[.int .i64 a0, .int .i64 a1] 30))
        refine ⟨⟨1, rfl, ⟨hT⟩, ⟨by omega⟩, ⟨hB2⟩, ⟨hX2⟩, ⟨?_⟩⟩, by simp [intOf]⟩
        have hs1 := HD.out.size
        rw [World.size_alloc] at hs1
        have := HS'.out
        omega
      rename_i hq
      have hT := HT3.out (by simpa using hq)
      go_ret
      subst hgB
      exact ⟨by rw [hT]; rfl, xG (xI HB'.out HS'.out (.cells #[.int .i64 a0, .int .i64 a1] 30)) (by have := HS'.out; (try simp); omega) HD.out⟩
    · have hT : ([q0, q1, q2, q3, q4, q5, q6].take 1).all id = true := HT.out
      clear HT HJ
      have hb0 := bq HX'.out 2
      have hb1 := bq HX'.out 3
      have hT2 : q1 = true → ([q0, q1, q2, q3, q4, q5, q6].take 2).all id = true := fun e => by simp at hT ⊢; simp [hT, e]
      have hT3 : q1 = false → (q0 && q1 && q2 && q3 && q4 && q5 && q6) = false := fun e => by simp [e]
      have HT2 := aq hT2
      have HT3 := aq hT3
      clear hT hT2 hT3
      go_wp2_with (go_at_call 59; refine (C1.out _).mono ?_; rintro e w7 ⟨rfl, hd⟩; have HD := aq hd; clear hd)
      case roundEnd =>
        rename_i hq
        have hT := HT2.out (by simpa using hq)
        have hB2 := xG (xI HB'.out HS'.out (.cells #[.int .i64 a2, .int .i64 a3] 30)) (by have := HS'.out; (try simp); omega) HD.out
        have hX2 := (HD.out.block gB (by have := HS'.out; (try simp); omega)).trans (tB HX'.out (.cells #[.int .i64 a2, .int .i64 a3] 30))
        refine ⟨⟨2, rfl, ⟨hT⟩, ⟨by omega⟩, ⟨hB2⟩, ⟨hX2⟩, ⟨?_⟩⟩, by simp [intOf]⟩
        have hs1 := HD.out.size
        rw [World.size_alloc] at hs1
        have := HS'.out
        omega
      rename_i hq
      have hT := HT3.out (by simpa using hq)
      go_ret
      subst hgB
      exact ⟨by rw [hT]; rfl, xG (xI HB'.out HS'.out (.cells #[.int .i64 a2, .int .i64 a3] 30)) (by have := HS'.out; (try simp); omega) HD.out⟩
    · have hT : ([q0, q1, q2, q3, q4, q5, q6].take 2).all id = true := HT.out
      clear HT HJ
      have hb0 := bq HX'.out 4
      have hb1 := bq HX'.out 5
      have hT2 : q2 = true → ([q0, q1, q2, q3, q4, q5, q6].take 3).all id = true := fun e => by simp at hT ⊢; simp [hT, e]
      have hT3 : q2 = false → (q0 && q1 && q2 && q3 && q4 && q5 && q6) = false := fun e => by simp [e]
      have HT2 := aq hT2
      have HT3 := aq hT3
      clear hT hT2 hT3
      go_wp2_with (go_at_call 59; refine (C2.out _).mono ?_; rintro e w7 ⟨rfl, hd⟩; have HD := aq hd; clear hd)
      case roundEnd =>
        rename_i hq
        have hT := HT2.out (by simpa using hq)
        have hB2 := xG (xI HB'.out HS'.out (.cells #[.int .i64 a4, .int .i64 a5] 30)) (by have := HS'.out; (try simp); omega) HD.out
        have hX2 := (HD.out.block gB (by have := HS'.out; (try simp); omega)).trans (tB HX'.out (.cells #[.int .i64 a4, .int .i64 a5] 30))
        refine ⟨⟨3, rfl, ⟨hT⟩, ⟨by omega⟩, ⟨hB2⟩, ⟨hX2⟩, ⟨?_⟩⟩, by simp [intOf]⟩
        have hs1 := HD.out.size
        rw [World.size_alloc] at hs1
        have := HS'.out
        omega
      rename_i hq
      have hT := HT3.out (by simpa using hq)
      go_ret
      subst hgB
      exact ⟨by rw [hT]; rfl, xG (xI HB'.out HS'.out (.cells #[.int .i64 a4, .int .i64 a5] 30)) (by have := HS'.out; (try simp); omega) HD.out⟩
    · have hT : ([q0, q1, q2, q3, q4, q5, q6].take 3).all id = true := HT.out
      clear HT HJ
      have hb0 := bq HX'.out 6
      have hb1 := bq HX'.out 7
      have hT2 : q3 = true → ([q0, q1, q2, q3, q4, q5, q6].take 4).all id = true := fun e => by simp at hT ⊢; simp [hT, e]
      have hT3 : q3 = false → (q0 && q1 && q2 && q3 && q4 && q5 && q6) = false := fun e => by simp [e]
      have HT2 := aq hT2
      have HT3 := aq hT3
      clear hT hT2 hT3
      go_wp2_with (go_at_call 59; refine (C3.out _).mono ?_; rintro e w7 ⟨rfl, hd⟩; have HD := aq hd; clear hd)
      case roundEnd =>
        rename_i hq
        have hT := HT2.out (by simpa using hq)
        have hB2 := xG (xI HB'.out HS'.out (.cells #[.int .i64 a6, .int .i64 a7] 30)) (by have := HS'.out; (try simp); omega) HD.out
        have hX2 := (HD.out.block gB (by have := HS'.out; (try simp); omega)).trans (tB HX'.out (.cells #[.int .i64 a6, .int .i64 a7] 30))
        refine ⟨⟨4, rfl, ⟨hT⟩, ⟨by omega⟩, ⟨hB2⟩, ⟨hX2⟩, ⟨?_⟩⟩, by simp [intOf]⟩
        have hs1 := HD.out.size
        rw [World.size_alloc] at hs1
        have := HS'.out
        omega
      rename_i hq
      have hT := HT3.out (by simpa using hq)
      go_ret
      subst hgB
      exact ⟨by rw [hT]; rfl, xG (xI HB'.out HS'.out (.cells #[.int .i64 a6, .int .i64 a7] 30)) (by have := HS'.out; (try simp); omega) HD.out⟩
    · have hT : ([q0, q1, q2, q3, q4, q5, q6].take 4).all id = true := HT.out
      clear HT HJ
      have hb0 := bq HX'.out 8
      have hb1 := bq HX'.out 9
      have hT2 : q4 = true → ([q0, q1, q2, q3, q4, q5, q6].take 5).all id = true := fun e => by simp at hT ⊢; simp [hT, e]
      have hT3 : q4 = false → (q0 && q1 && q2 && q3 && q4 && q5 && q6) = false := fun e => by simp [e]
      have HT2 := aq hT2
      have HT3 := aq hT3
      clear hT hT2 hT3
      go_wp2_with (go_at_call 59; refine (C4.out _).mono ?_; rintro e w7 ⟨rfl, hd⟩; have HD := aq hd; clear hd)
      case roundEnd =>
        rename_i hq
        have hT := HT2.out (by simpa using hq)
        have hB2 := xG (xI HB'.out HS'.out (.cells #[.int .i64 a8, .int .i64 a9] 30)) (by have := HS'.out; (try simp); omega) HD.out
        have hX2 := (HD.out.block gB (by have := HS'.out; (try simp); omega)).trans (tB HX'.out (.cells #[.int .i64 a8, .int .i64 a9] 30))
        refine ⟨⟨5, rfl, ⟨hT⟩, ⟨by omega⟩, ⟨hB2⟩, ⟨hX2⟩, ⟨?_⟩⟩, by simp [intOf]⟩
        have hs1 := HD.out.size
        rw [World.size_alloc] at hs1
        have := HS'.out
        omega
      rename_i hq
      have hT := HT3.out (by simpa using hq)
      go_ret
      subst hgB
      exact ⟨by rw [hT]; rfl, xG (xI HB'.out HS'.out (.cells #[.int .i64 a8, .int .i64 a9] 30)) (by have := HS'.out; (try simp); omega) HD.out⟩
    · have hT : ([q0, q1, q2, q3, q4, q5, q6].take 5).all id = true := HT.out
      clear HT HJ
      have hb0 := bq HX'.out 10
      have hb1 := bq HX'.out 11
      have hT2 : q5 = true → ([q0, q1, q2, q3, q4, q5, q6].take 6).all id = true := fun e => by simp at hT ⊢; simp [hT, e]
      have hT3 : q5 = false → (q0 && q1 && q2 && q3 && q4 && q5 && q6) = false := fun e => by simp [e]
      have HT2 := aq hT2
      have HT3 := aq hT3
      clear hT hT2 hT3
      go_wp2_with (go_at_call 59; refine (C5.out _).mono ?_; rintro e w7 ⟨rfl, hd⟩; have HD := aq hd; clear hd)
      case roundEnd =>
        rename_i hq
        have hT := HT2.out (by simpa using hq)
        have hB2 := xG (xI HB'.out HS'.out (.cells #[.int .i64 a10, .int .i64 a11] 30)) (by have := HS'.out; (try simp); omega) HD.out
        have hX2 := (HD.out.block gB (by have := HS'.out; (try simp); omega)).trans (tB HX'.out (.cells #[.int .i64 a10, .int .i64 a11] 30))
        refine ⟨⟨6, rfl, ⟨hT⟩, ⟨by omega⟩, ⟨hB2⟩, ⟨hX2⟩, ⟨?_⟩⟩, by simp [intOf]⟩
        have hs1 := HD.out.size
        rw [World.size_alloc] at hs1
        have := HS'.out
        omega
      rename_i hq
      have hT := HT3.out (by simpa using hq)
      go_ret
      subst hgB
      exact ⟨by rw [hT]; rfl, xG (xI HB'.out HS'.out (.cells #[.int .i64 a10, .int .i64 a11] 30)) (by have := HS'.out; (try simp); omega) HD.out⟩
    · have hT : ([q0, q1, q2, q3, q4, q5, q6].take 6).all id = true := HT.out
      clear HT HJ
      have hb0 := bq HX'.out 12
      have hb1 := bq HX'.out 13
      have hT2 : q6 = true → ([q0, q1, q2, q3, q4, q5, q6].take 7).all id = true := fun e => by simp at hT ⊢; simp [hT, e]
      have hT3 : q6 = false → (q0 && q1 && q2 && q3 && q4 && q5 && q6) = false := fun e => by simp [e]
      have HT2 := aq hT2
      have HT3 := aq hT3
      clear hT hT2 hT3
      go_wp2_with (go_at_call 59; refine (C6.out _).mono ?_; rintro e w7 ⟨rfl, hd⟩; have HD := aq hd; clear hd)
      case roundEnd =>
        rename_i hq
        have hT := HT2.out (by simpa using hq)
        have hB2 := xG (xI HB'.out HS'.out (.cells #[.int .i64 a12, .int .i64 a13] 30)) (by have := HS'.out; (try simp); omega) HD.out
        have hX2 := (HD.out.block gB (by have := HS'.out; (try simp); omega)).trans (tB HX'.out (.cells #[.int .i64 a12, .int .i64 a13] 30))
        refine ⟨⟨7, rfl, ⟨hT⟩, ⟨by omega⟩, ⟨hB2⟩, ⟨hX2⟩, ⟨?_⟩⟩, by simp [intOf]⟩
        have hs1 := HD.out.size
        rw [World.size_alloc] at hs1
        have := HS'.out
        omega
      rename_i hq
      have hT := HT3.out (by simpa using hq)
      go_ret
      subst hgB
      exact ⟨by rw [hT]; rfl, xG (xI HB'.out HS'.out (.cells #[.int .i64 a12, .int .i64 a13] 30)) (by have := HS'.out; (try simp); omega) HD.out⟩
    · have hT : ([q0, q1, q2, q3, q4, q5, q6].take 7).all id = true := HT.out
      go_wp2
      go_ret
      subst hgB
      exact ⟨by simp at hT; simp [hT], HB'.out⟩
end Go.Proofs.Ytoonahobmlnflaa.PC
