/- Several texts of this claim, one behind the other. -/
import Derived.Test.YtlaneafplmbcnaaHe
import Derived.StillTailTactics
import Derived.BigRegion
import Derived.Laws.EntriesVeiled
namespace Go.Proofs.Ytlaneafplmbcnaa.PO
open Go.RowKit Go.Proofs.YtlaneafplmbcnaaW.PrintWords Go.Proofs.YtlaneafplmbcnaaW.PrintLast Go.Proofs.YtlaneafplmbcnaaW.PrintMore
set_option linter.unusedVariables false
set_option linter.unusedSimpArgs false
attribute [local go_sem] max2_int min2_int max_two min_two max_three min_three max_four min_four

theorem relax_a {t : TS} {i x : Int} (h : rd t.low i ≤ x) : { t with low := t.low.set i.toNat (rd t.low i) } = t.relax i x := by unfold TS.relax; rw [if_pos h]
theorem relax_b {t : TS} {i x : Int} (h : x ≤ rd t.low i) : { t with low := t.low.set i.toNat x } = t.relax i x := by
  unfold TS.relax
  by_cases e : rd t.low i ≤ x
  · rw [if_pos e, show rd t.low i = x by omega]
  · rw [if_neg e]
section
variable {W0 W : World} {X : Bx} {A : Option Addr} {c n : Nat} {vs vo : Value} {t : TS}
theorem Tw.box_st (h : Tw W0 W X A c n vs vo t) {w1 : World} (hg : W.grownBy w1 vs.ownBlock) : w1.heap[X.st]? = some (.cells #[vs] 23 (0, 0)) :=
  (hg.block _ (Array.getElem?_eq_some_iff.1 h.bst).1 (fun e => Kd.R_ne h.rS h.bst (by decide) e)).trans h.bst
theorem Tw.fresh (h : Tw W0 W X A c n vs vo t) (hp : 0 < t.no.length) (hp' : 0 < t.low.length) (k : Nat) (hk : W.heap.size ≤ k) : k ≠ X.c ∧ k ≠ X.gN ∧ k ≠ X.gL := by
  obtain ⟨_, _, h1⟩ := h.tyN hp
  obtain ⟨_, _, h2⟩ := h.tyL hp'
  have l0 := (Array.getElem?_eq_some_iff.1 h.bc).1
  have l1 := (Array.getElem?_eq_some_iff.1 h1).1
  have l2 := (Array.getElem?_eq_some_iff.1 h2).1
  exact ⟨by omega, by omega, by omega⟩
/-- The stack has grown, and the new one is stored. -/
theorem Tw.push (h : Tw W0 W X A c n vs vo t) {w1 : World} {v1 : Value} {s' : List Int} (hR : Kd.R (Kd.int .i64) 3 w1 W0.heap.size (fun k => k ≠ X.c ∧ k ≠ X.gN ∧ k ≠ X.gL) v1 s') (hb : Below W0.heap.size W0 w1) (hg : W.grownBy w1 vs.ownBlock)
    (hat : v1.ownBlock = vs.ownBlock ∨ ∃ b, v1.ownBlock = some b ∧ W.heap.size ≤ b) : Tw W0 (w1.setCell ⟨X.st, 0, none⟩ v1) X A c n v1 vo { t with st := s' } := by
  have o := h.ok
  have lt : ∀ {b : Nat} {o : Obj}, W.heap[b]? = some o → b < W.heap.size := fun hb' => (Array.getElem?_eq_some_iff.1 hb').1
  have k0 : ∀ {b : Nat} {cs : Array Value} {T : Nat}, W.heap[b]? = some (.cells cs T (0, 0)) → T ≠ 3 → w1.heap[b]? = some (.cells cs T (0, 0)) := fun hb' hT => (hg.block _ (lt hb') (fun e => Kd.R_ne h.rS hb' (fun e => hT e.symm) e)).trans hb'
  have kc : w1.heap[X.c]? = some (.cells #[.int .i64 t.cnt] 3 (0, 0)) := (hg.block _ (lt h.bc) (fun e => (h.rS.1 X.c e.symm).1 rfl)).trans h.bc
  have hbst := k0 h.bst (by decide)
  have kk : ∀ {b : Nat} {o : Obj}, w1.heap[b]? = some o → b ≠ X.st → (w1.setCell ⟨X.st, 0, none⟩ v1).heap[b]? = some o := fun hb' hne => (hv_other w1 _ _ _ hne).trans hb'
  have rN1 := Kd.R_grown h.rN hg (fun k hk e => (h.rS.1 k e.symm).2.1 hk)
  have rL1 := Kd.R_grown h.rL hg (fun k hk e => (h.rS.1 k e.symm).2.2 hk)
  have rO1 : Kd.R Kd.bool 4 w1 W0.heap.size (fun k => k = X.gO) (.slice (some ⟨X.gO, 0, none⟩) n X.cO) t.on := Kd.R_mono (Kd.R_grown (Kd.R_apart' h.rO (Kd.R_typed h.rS) (by decide)) hg (fun k hk => hk.2)) (fun _ hk => hk.1)
  have rU1 : Kd.S (Kd.slice 3 (Kd.int .i64)) 23 w1 W0.heap.size (fun k => (k ≠ X.c ∧ k ≠ X.gN ∧ k ≠ X.gL ∧ k ≠ X.no ∧ k ≠ X.lo ∧ k ≠ X.st) ∧ some k ≠ v1.ownBlock) vo t.out :=
    Kd.S_after (Kd.S_mono h.rU (fun k hk => ⟨⟨hk.1, hk.2.1, hk.2.2.1, hk.2.2.2.1, hk.2.2.2.2.1, hk.2.2.2.2.2.1⟩, hk.2.2.2.2.2.2⟩)) hg hat
  refine ⟨o, below_set hb o.bst, kk kc (ty_ne kc hbst (by decide)), kk (k0 h.bno (by decide)) o.ns, kk (k0 h.blo (by decide)) o.ls, kk (k0 h.bon (by decide)) (ty_ne (k0 h.bon (by decide)) hbst (by decide)),
    blk_put (cs := #[vs]) hbst 0 _ rfl, kk (k0 h.bnd (by decide)) (ty_ne (k0 h.bnd (by decide)) hbst (by decide)), kk (k0 h.bwk (by decide)) (ty_ne (k0 h.bwk (by decide)) hbst (by decide)), kk (k0 h.bou (by decide)) (ty_ne (k0 h.bou (by decide)) hbst (by decide)),
    Kd.R_set rN1 hbst (by decide) 0 _, Kd.R_set rL1 hbst (by decide) 0 _, Kd.R_set rO1 hbst (by decide) 0 _, Kd.R_set hR hbst (by decide) 0 _, ?_⟩
  exact Kd.S_mono (Kd.S_far (p := ⟨X.st, 0, none⟩) rU1 (fun k hk => hk.1.2.2.2.2.2) _) (fun k hk => ⟨hk.1.1, hk.1.2.1, hk.1.2.2.1, hk.1.2.2.2.1, hk.1.2.2.2.2.1, hk.1.2.2.2.2.2, hk.2⟩)
end

theorem idxP_idx (i : Int) : ∀ (l : List Int) (j : Int), i ∈ l → idxP (fun y => decide (i = y)) l j = j + (l.idxOf i : Int) := by
  intro l
  induction l with
  | nil => intro j h; cases h
  | cons a l ih =>
    intro j h
    by_cases e : i = a
    · subst e
      simp [idxP]
    · have h' : i ∈ l := (List.mem_cons.1 h).resolve_left e
      simp only [idxP, decide_eq_true_eq]
      rw [if_neg e, ih (j + 1) h', List.idxOf_cons, show (a == i) = false from by simpa using fun h => e h.symm]
      simp only [cond_false]
      omega
section
variable {W0 U W : World} {X : Bx} {A : Option Addr} {c n : Nat} {vs vo : Value} {t : TS}
/-- The stack is cut. -/
theorem Tw.pop {g cap m : Nat} (h : Tw W0 U X A c n (.slice (some ⟨g, 0, none⟩) t.st.length cap) vo t) (hm : m ≤ t.st.length) :
    Tw W0 (U.setCell ⟨X.st, 0, none⟩ (.slice (some ⟨g, 0, none⟩) m cap)) X A c n (.slice (some ⟨g, 0, none⟩) m cap) vo { t with st := t.st.take m } := by
  have o := h.ok
  have kk : ∀ {b : Nat} {o : Obj}, U.heap[b]? = some o → b ≠ X.st → (U.setCell ⟨X.st, 0, none⟩ (.slice (some ⟨g, 0, none⟩) m cap)).heap[b]? = some o := fun hb' hne => (hv_other U _ _ _ hne).trans hb'
  refine ⟨o, below_set h.below o.bst, kk h.bc (ty_ne h.bc h.bst (by decide)), kk h.bno o.ns, kk h.blo o.ls, kk h.bon (ty_ne h.bon h.bst (by decide)), blk_put (cs := #[.slice (some ⟨g, 0, none⟩) t.st.length cap]) h.bst 0 _ rfl,
    kk h.bnd (ty_ne h.bnd h.bst (by decide)), kk h.bwk (ty_ne h.bwk h.bst (by decide)), kk h.bou (ty_ne h.bou h.bst (by decide)), Kd.R_set h.rN h.bst (by decide) 0 _, Kd.R_set h.rL h.bst (by decide) 0 _, Kd.R_set h.rO h.bst (by decide) 0 _,
    Kd.R_set (Kd.R_take h.rS hm) h.bst (by decide) 0 _, Kd.S_far h.rU (fun k hk => hk.2.2.2.2.2.1) _⟩
/-- The same store in a world that holds more. -/
theorem below_both (h : Below U.heap.size U W) (g j : Nat) (hp : g < U.heap.size) (x : Value) : Below (U.setCell ⟨g, j, none⟩ x).heap.size (U.setCell ⟨g, j, none⟩ x) (W.setCell ⟨g, j, none⟩ x) := by
  have s1 : (U.setCell ⟨g, j, none⟩ x).heap.size = U.heap.size := by simp
  have s2 : (W.setCell ⟨g, j, none⟩ x).heap.size = W.heap.size := by simp
  refine ⟨h.os, h.tape, h.output, by rw [s1, s2]; exact h.size, fun k hk => ?_⟩
  rw [s1] at hk
  by_cases e : k = g
  · have h1 := h.block _ hk
    have key : ∀ w : World, (w.setCell ⟨g, j, none⟩ x).heap[k]? = (w.heap[k]?).map (fun o => match o with | .cells c t fr => .cells (c.setIfInBounds j x) t fr | o => o) := fun w => by
      subst e
      unfold World.setCell
      simp only [Array.getElem?_modify, if_true]
      cases w.heap[k]? with
      | none => rfl
      | some o => cases o <;> rfl
    rw [key, key, h1]
  · rw [hv_other W ⟨g, j, none⟩ x k e, hv_other U ⟨g, j, none⟩ x k e]
    exact h.block k hk
/-- What was put out, in a world that holds more. -/
theorem Tw.outS (h : Tw W0 U X A c n vs vo t) (hb : Below U.heap.size U W) : Kd.S (Kd.slice 3 (Kd.int .i64)) 23 W W0.heap.size (fun k => (k ≠ X.c ∧ k ≠ X.gN ∧ k ≠ X.gL ∧ k ≠ X.no ∧ k ≠ X.lo ∧ k ≠ X.st ∧ some k ≠ vs.ownBlock) ∧ k < U.heap.size) vo t.out :=
  Kd.S_below (Kd.S_mono (Kd.S_bound h.rU) (fun k hk => ⟨hk.1, hk.2.2.1⟩)) hb
theorem Tw.box_ou (h : Tw W0 W X A c n vs vo t) {w1 : World} (hg : W.grownBy w1 vo.ownBlock) : w1.heap[X.ou]? = some (.cells #[vo] 37 (0, 0)) :=
  (hg.block _ (Array.getElem?_eq_some_iff.1 h.bou).1 (fun e => Kd.S_ne h.rU h.bou (by decide) e)).trans h.bou
theorem Tw.lts (h : Tw W0 W X A c n vs vo t) (hp : 0 < t.no.length) (hp' : 0 < t.low.length) (k : Nat) (hk : W.heap.size ≤ k) : (k ≠ X.c ∧ k ≠ X.gN ∧ k ≠ X.gL ∧ k ≠ X.no ∧ k ≠ X.lo ∧ k ≠ X.st ∧ some k ≠ vs.ownBlock) ∧ some k ≠ vo.ownBlock := by
  obtain ⟨a, b, c'⟩ := h.fresh hp hp' k hk
  have l0 := (Array.getElem?_eq_some_iff.1 h.bno).1
  have l1 := (Array.getElem?_eq_some_iff.1 h.blo).1
  have l2 := (Array.getElem?_eq_some_iff.1 h.bst).1
  exact ⟨⟨a, b, c', by omega, by omega, by omega, fun e => by have := Kd.R_lt h.rS k e.symm; omega⟩, fun e => by have := Kd.S_lt h.rU k e.symm; omega⟩
theorem below_grown (h : Below U.heap.size U W) {w1 : World} {row : Option Nat} (hg : W.grownBy w1 row) (hr : ∀ k, row = some k → U.heap.size ≤ k) : Below U.heap.size U w1 :=
  ⟨hg.os.trans h.os, hg.tape.trans h.tape, hg.output.trans h.output, Nat.le_trans h.size hg.size, fun k hk => (hg.block k (Nat.lt_of_lt_of_le hk h.size) (fun e => by have := hr k e.symm; omega)).trans (h.block k hk)⟩
theorem offs_snoc (b : List Int) (x : Int) (s : List Bool) : offs s (b ++ [x]) = (offs s b).set x.toNat false := by unfold offs; rw [List.foldl_append]; rfl
/-- One more is put out, and that is stored. -/
theorem Tw.pushU (h : Tw W0 W X A c n vs vo t) {w1 : World} {v1 : Value} {o' : List (List Int)} (hR : Kd.S (Kd.slice 3 (Kd.int .i64)) 23 w1 W0.heap.size (fun k => k ≠ X.c ∧ k ≠ X.gN ∧ k ≠ X.gL ∧ k ≠ X.no ∧ k ≠ X.lo ∧ k ≠ X.st ∧ some k ≠ vs.ownBlock) v1 o') (hb : Below W0.heap.size W0 w1) (hg : W.grownBy w1 vo.ownBlock) :
    Tw W0 (w1.setCell ⟨X.ou, 0, none⟩ v1) X A c n vs v1 { t with out := o' } := by
  have o := h.ok
  have lt : ∀ {b : Nat} {o : Obj}, W.heap[b]? = some o → b < W.heap.size := fun hb' => (Array.getElem?_eq_some_iff.1 hb').1
  have k0 : ∀ {b : Nat} {cs : Array Value} {T : Nat}, W.heap[b]? = some (.cells cs T (0, 0)) → T ≠ 23 → w1.heap[b]? = some (.cells cs T (0, 0)) := fun hb' hT => (hg.block _ (lt hb') (fun e => Kd.S_ne h.rU hb' (fun e => hT e.symm) e)).trans hb'
  have own := h.rU
  obtain ⟨f, hown, _⟩ := own
  have kno : w1.heap[X.no]? = some (.cells #[.slice (some ⟨X.gN, 0, none⟩) n X.cN] 23 (0, 0)) := (hg.block _ (lt h.bno) (fun e => (hown X.no e.symm).2.2.2.1 rfl)).trans h.bno
  have klo : w1.heap[X.lo]? = some (.cells #[.slice (some ⟨X.gL, 0, none⟩) n X.cL] 23 (0, 0)) := (hg.block _ (lt h.blo) (fun e => (hown X.lo e.symm).2.2.2.2.1 rfl)).trans h.blo
  have kst : w1.heap[X.st]? = some (.cells #[vs] 23 (0, 0)) := (hg.block _ (lt h.bst) (fun e => (hown X.st e.symm).2.2.2.2.2.1 rfl)).trans h.bst
  have hbou := k0 h.bou (by decide)
  have kk : ∀ {b : Nat} {o : Obj}, w1.heap[b]? = some o → b ≠ X.ou → (w1.setCell ⟨X.ou, 0, none⟩ v1).heap[b]? = some o := fun hb' hne => (hv_other w1 _ _ _ hne).trans hb'
  have rN1 := Kd.R_grown h.rN hg (fun k hk e => (hown k e.symm).2.1 hk)
  have rL1 := Kd.R_grown h.rL hg (fun k hk e => (hown k e.symm).2.2.1 hk)
  have rO1 : Kd.R Kd.bool 4 w1 W0.heap.size (fun k => k = X.gO) (.slice (some ⟨X.gO, 0, none⟩) n X.cO) t.on := Kd.R_mono (Kd.R_grown (Kd.R_apart' h.rO (Kd.S_typed h.rU) (by decide)) hg (fun k hk => hk.2)) (fun _ hk => hk.1)
  have rS1 : Kd.R (Kd.int .i64) 3 w1 W0.heap.size (fun k => k ≠ X.c ∧ k ≠ X.gN ∧ k ≠ X.gL) vs t.st := Kd.R_mono (Kd.R_grown (Kd.R_apart' h.rS (Kd.S_typed h.rU) (by decide)) hg (fun k hk => hk.2)) (fun _ hk => hk.1)
  refine ⟨o, below_set hb o.bou, kk (k0 h.bc (by decide)) (ty_ne (k0 h.bc (by decide)) hbou (by decide)), kk kno (ty_ne kno hbou (by decide)), kk klo (ty_ne klo hbou (by decide)), kk (k0 h.bon (by decide)) (ty_ne (k0 h.bon (by decide)) hbou (by decide)),
    kk kst (ty_ne kst hbou (by decide)), kk (k0 h.bnd (by decide)) o.no, kk (k0 h.bwk (by decide)) (ty_ne (k0 h.bwk (by decide)) hbou (by decide)), blk_put (cs := #[vo]) hbou 0 _ rfl,
    Kd.R_set rN1 hbou (by decide) 0 _, Kd.R_set rL1 hbou (by decide) 0 _, Kd.R_set rO1 hbou (by decide) 0 _, Kd.R_set rS1 hbou (by decide) 0 _, Kd.S_set hR hbou (by decide) 0 _⟩
end

set_option maxHeartbeats 4000000 in
set_option maxRecDepth 100000 in
theorem clo40 (W0 : World) (X : Bx) (A : Option Addr) (c n : Nat) (N : List (List Int)) (hn : n = N.length) (h64 : n ≤ 64) (hC : Kd.C (Kd.slice 3 (Kd.int .i64)) W0 A n N) (hN : ∀ j, ∀ k ∈ rd_L3 N j, 0 ≤ k ∧ k < (n : Int)) (d : Nat) :
    ∀ (G : Int → Prop) (i : Int) (b : TS) (W : World) (vs vo : Value), Wf N n G b → 0 ≤ i → i < (n : Int) → rd b.no i = 0 → (∀ g, G g → Rch N g i) → b.no.count 0 ≤ d → Tw W0 W X A c n vs vo b →
    Calls Try.prog 40 #[.int .i64 i, bx X.c, bx X.no, bx X.lo, bx X.on, bx X.st, bx X.nd, bx X.wk, bx X.ou] W fun e W' => e = .returned (.tuple #[]) ∧ ∃ vs' vo', Tw W0 W' X A c n vs' vo' (walkF N d i b) := by
  induction d with
  | zero =>
    intro G i b W vs vo hb i0 i1 hw _ hd
    exfalso
    have := tj_count_set b.no i 1 i0 (by rw [hb.ln]; exact i1) hw (by omega)
    omega
  | succ d ih =>
    intro G i b W vs vo hwf i0 i1 hw hg hd hT
    have hc0 := hwf.cnt0
    have IH := Aside0.mk ih
    have HT := Aside0.mk hT
    have HWF := Aside0.mk hwf
    have HI := Aside0.mk (show 0 ≤ i ∧ i < (n : Int) from ⟨i0, i1⟩)
    have hE := hwf.enter hN i0 i1 hw hg
    have HE := Aside0.mk hE
    have HW := Aside0.mk hw
    have HG := Aside0.mk hg
    have HD := Aside0.mk hd
    have HC := Aside0.mk hC
    have HNN := Aside0.mk hN
    have HLEN := Aside0.mk (show b.no.length = n ∧ b.low.length = n ∧ b.on.length = n from ⟨hwf.ln, hwf.ll, hwf.lo⟩)
    have hcc : W.cell? ⟨X.c, 0, none⟩ = some (.int .i64 b.cnt) := blk_cell hT.bc 0
    have hcf := blk_frozen hT.bc 0
    have w1 : IntKind.i64.wrap (b.cnt + 1) = b.cnt + 1 := by unfold IntKind.wrap IntKind.bits IntKind.signed; simp; omega
    clear ih hT hwf hE hw hg hd hC hN hn
    have p1 := eq_true i0
    have p2 := eq_true i1
    unfold bx
    go_enter Try.func40, Try.ntmps40
    go_wp2_with (fail)
    have hT1 := Tw.setC HT.out (b.cnt + 1)
    generalize W.setCell ⟨X.c, 0, none⟩ (.int .i64 (b.cnt + 1)) = W1 at hT1 ⊢
    clear hcc hcf HT
    have h1 : W1.cell? ⟨X.c, 0, none⟩ = some (.int .i64 (b.cnt + 1)) := blk_cell hT1.bc 0
    have h2 : W1.cell? ⟨X.no, 0, none⟩ = some (.slice (some ⟨X.gN, 0, none⟩) n X.cN) := blk_cell hT1.bno 0
    have h3 : W1.cell? ⟨X.lo, 0, none⟩ = some (.slice (some ⟨X.gL, 0, none⟩) n X.cL) := blk_cell hT1.blo 0
    have h4 : W1.cell? ⟨X.on, 0, none⟩ = some (.slice (some ⟨X.gO, 0, none⟩) n X.cO) := blk_cell hT1.bon 0
    obtain ⟨hN1, hN2⟩ := Kd.R_celln 0 hT1.rN i HI.out.1 HI.out.2
    obtain ⟨hL1, hL2⟩ := Kd.R_celln 0 hT1.rL i HI.out.1 HI.out.2
    obtain ⟨hO1, hO2⟩ := Kd.R_celln false hT1.rO i HI.out.1 HI.out.2
    obtain ⟨gb1, cs1, gt1⟩ := hT1.tyN (by have := HLEN.out; have := HI.out; simp only; omega)
    obtain ⟨gb2, cs2, gt2⟩ := hT1.tyL (by have := HLEN.out; have := HI.out; simp only; omega)
    obtain ⟨gb3, cs3, gt3⟩ := hT1.tyO (by have := HLEN.out; have := HI.out; simp only; omega)
    have n1 : X.gN ≠ X.gL := hT1.ok.NL
    have n2 : X.gN ≠ X.gO := ty_ne gt1 gt3 (by decide)
    have n3 : X.gL ≠ X.gO := ty_ne gt2 gt3 (by decide)
    have n4 : X.c ≠ X.gN := hT1.ok.cN
    have n5 : X.c ≠ X.gL := hT1.ok.cL
    have n6 : X.c ≠ X.gO := ty_ne hT1.bc gt3 (by decide)
    have n7 : X.no ≠ X.gN := ty_ne hT1.bno gt1 (by decide)
    have n8 : X.no ≠ X.gL := ty_ne hT1.bno gt2 (by decide)
    have n9 : X.no ≠ X.gO := ty_ne hT1.bno gt3 (by decide)
    have n10 : X.lo ≠ X.gN := ty_ne hT1.blo gt1 (by decide)
    have n11 : X.lo ≠ X.gL := ty_ne hT1.blo gt2 (by decide)
    have n12 : X.lo ≠ X.gO := ty_ne hT1.blo gt3 (by decide)
    have n13 : X.on ≠ X.gN := ty_ne hT1.bon gt1 (by decide)
    have n14 : X.on ≠ X.gL := ty_ne hT1.bon gt2 (by decide)
    have n15 : X.on ≠ X.gO := ty_ne hT1.bon gt3 (by decide)
    have HT1 := Aside0.mk hT1
    clear hT1 gb1 gb2 gb3 gt1 gt2 gt3
    go_region
    have hT2 := (((HT1.out.setN (by have := HLEN.out; have := HI.out; simp only; omega) i (b.cnt + 1)).setL (by have := HLEN.out; have := HI.out; simp only; omega) i (b.cnt + 1)).setO (by have := HLEN.out; have := HI.out; simp only; omega) i true).drew
    generalize (((W1.setCell ⟨X.gN, i.toNat, none⟩ (.int .i64 (b.cnt + 1))).setCell ⟨X.gL, i.toNat, none⟩ (.int .i64 (b.cnt + 1))).setCell ⟨X.gO, i.toNat, none⟩ (.bool true)).drew = W2 at hT2 ⊢
    clear h1 h2 h3 h4 hN1 hN2 hL1 hL2 hO1 hO2 n1 n2 n3 n4 n5 n6 n7 n8 n9 n10 n11 n12 n13 n14 n15 HT1
    have h5 : W2.cell? ⟨X.st, 0, none⟩ = some vs := blk_cell hT2.bst 0
    have HT2 := Aside0.mk hT2
    clear hT2
    have HROW := Aside0.mk (at_L3 HC.out i HI.out.1 HI.out.2)
    have HST := Aside0.mk (show b.st.length ≤ n by have := HWF.out.ol; have := HWF.out.cnt0; omega)
    go_wp2_with (first | ((with_reducible refine gate_builtin (b := .append) (xs := #[.tmp 29, .tmp 31]) rfl ?_); at_builtin; refine Kd.R_append (Kd.int .i64) (w0 := W0) W0.heap.size rfl (.tmp 29) (.tmp 31) 23 3 (.int .i64 0) 8 rfl Try.underlying23 info3 rfl (by decide) (by omega) vs b.st i [.int .i64 i] (fun k => k ≠ X.c ∧ k ≠ X.gN ∧ k ≠ X.gL) (fun _ => False) rfl rfl ?aP (fun _ hk => hk.elim) ?aF ?aO ?aB ?aS ?aL ?_; (case aP => exact rfl); (case aF => exact fun k hk => HT2.out.fresh (by have := HLEN.out; have := HI.out; simp; omega) (by have := HLEN.out; have := HI.out; simp; omega) k hk); (case aO => exact HT2.out.rS); (case aB => exact HT2.out.below); (case aS => exact below_size HT2.out.below); (case aL => have := HST.out; omega); intro v1 w1 ho hb hg hat; have hs1 : w1.cell? ⟨X.st, 0, none⟩ = some vs := blk_cell (HT2.out.box_st hg) 0; have hs2 := blk_frozen (HT2.out.box_st hg) 0; have HO_ := Aside0.mk ho; have HP_ := Aside0.mk (HT2.out.push ho hb hg hat); clear ho hb hg hat h5) | ((with_reducible refine gate_store (t := 23) (p := 5) rfl ?_); refine store_event (t := 23) (p := 5) (v := ?vo_) (w1 := (w1.setCell ⟨X.st, 0, none⟩ v1)) ?hg ?ho ?hn ?hr ?_; (case ho => rfl); (case hg => rfl); (case hn => rfl); (case hr => (obtain ⟨Ax_, cx_, ex_⟩ := Kd.R_slice HO_.out; subst ex_; first | (go_simp; done) | (go_simp; rfl))); intro w7 hw; have HT3 := Aside0.mk (show Tw W0 w7 X A c n v1 vo (b.enter i) by rw [hw]; exact HP_.out); clear hw hs1 hs2 HP_ HO_ HT2; obtain ⟨ad, A0, c0, eA, hx0, hl0, hC0⟩ := HROW.out; subst eA; have hx1 := (HT3.out.below.cell (World.block_lt_of_cell? W0 _ hx0)).trans hx0; have hnd : w7.cell? ⟨X.nd, 0, none⟩ = some (.slice (some ad) n c) := blk_cell HT3.out.bnd 0; have HC0 := Aside0.mk hC0; have HL0 := Aside0.mk hl0; clear hx0 hl0 hC0 HROW))
    have e40 : ∀ args w, (callFunc 40 args).run Try.prog w = .ok (.enter 40 args) w := enters_of Try.func40 (by kernel_rfl) rfl
    have HWF1 := Aside0.mk (show walkF N (d + 1) i b = walkEnd i (walkL (walkF N d) i (rd_L3 N i) (b.enter i)) by unfold walkF; rfl)
    have HMEM := Aside0.mk (show ∀ x ∈ rd_L3 N i, x ∈ rd_L3 N i from fun _ h => h)
    have HNR := Aside0.mk (HNN.out i)
    generalize hrow : rd_L3 N i = row at hx1 HC0 HL0 HE HWF1 HMEM HNR
    have HROWE := Aside0.mk hrow
    have hm : row.length ≤ 9223372036854775807 := HC0.out.2.1
    clear hrow
    go_loopg [38] row.length (fun gg v38 wr => ∃ (kk : Nat) (t1 : TS) (vs1 vo1 : Value), v38 = .int .i64 kk ∧ kk ≤ row.length ∧ row.length - kk ≤ gg ∧ Aside0 (walkF N (d + 1) i b = walkEnd i (walkL (walkF N d) i (row.drop kk) t1)) ∧ Aside0 (LInv N n G i b (row.drop kk) t1) ∧ Aside0 (Tw W0 wr X (some ad) c n vs1 vo1 t1))
    case atStart => exact ⟨0, b.enter i, v1, vo, rfl, Nat.zero_le _, by omega, ⟨HWF1.out⟩, HE, HT3⟩
    case round =>
      as_aux_lemma =>
        clear HT3 HE HWF1 hx1 hnd
        obtain ⟨kk, t1, vs1, vo1, rfl, hkk, hgk, HEQ, HLI, HT⟩ := hrel
        have HL := Aside0.mk (show t1.no.length = n ∧ t1.low.length = n ∧ t1.on.length = n from ⟨HLI.out.wf.ln, HLI.out.wf.ll, HLI.out.wf.lo⟩)
        have h2 : wr.cell? ⟨X.no, 0, none⟩ = some (.slice (some ⟨X.gN, 0, none⟩) n X.cN) := blk_cell HT.out.bno 0
        have h3 : wr.cell? ⟨X.lo, 0, none⟩ = some (.slice (some ⟨X.gL, 0, none⟩) n X.cL) := blk_cell HT.out.blo 0
        by_cases hlt : kk < row.length
        · as_aux_lemma =>
            have hltz : (kk : Int) < (row.length : Int) := by omega
            obtain ⟨aj, rfl, hxj⟩ := Kd.at_int HC0.out (kk : Int) (by omega) hltz
            rw [Int.toNat_natCast] at hxj
            have hd' : row.drop kk = row[kk] :: row.drop (kk + 1) := List.drop_eq_getElem_cons hlt
            have hj : rd row (kk : Int) = row[kk] := by simp [rd, List.getD_eq_getElem?_getD, List.getElem?_eq_getElem hlt]
            have hkr := HNR.out row[kk] (List.getElem_mem hlt)
            have hkm : row[kk] ∈ rd_L3 N i := by rw [HROWE.out]; exact List.getElem_mem hlt
            rw [← hj] at hd' hkr hkm
            generalize rd row (kk : Int) = k at hxj hd' hkr hkm
            clear hj
            replace hxj : wr.cell? (aj.add kk) = some (.int .i64 k) := (HT.out.below.cell (World.block_lt_of_cell? W0 _ hxj)).trans hxj
            have HKM := Aside0.mk (show k ∈ rd_L3 N i from hkm)
            obtain ⟨hk0, hk1⟩ := hkr
            have HK := Aside0.mk (show 0 ≤ k ∧ k < (n : Int) from ⟨hk0, hk1⟩)
            have HDR := Aside0.mk hd'
            obtain ⟨hN1, hN2⟩ := Kd.R_celln 0 HT.out.rN k hk0 hk1
            have e0 : rdOf 0 t1.no k = rd t1.no k := rfl
            rw [e0] at hN1
            clear e0 hN2 hd' hkm
            have q1 := eq_true hk0
            have q2 := eq_true hk1
            have e1 : row.drop kk = k :: row.drop (kk + 1) := HDR.out
            rw [e1] at HLI HEQ
            clear e1
            have HLOX := Aside0.mk (HT.out.tyL (by have := HL.out; have := HI.out; omega))
            by_cases hz : rd t1.no k = 0
            · as_aux_lemma =>
                have d1 : (rd t1.no k == 0) = true := by simpa using hz
                have hgg : ∀ g, (g = i ∨ G g) → Rch N g k := fun g hg => by
                  refine Rch.trans ?_ (.one HKM.out)
                  rcases hg with rfl | hg
                  · exact .refl _
                  · exact HG.out g hg
                have hcnt : t1.no.count 0 ≤ d := by
                  have h1 := HLI.out.whites HWF.out HI.out.1 HI.out.2 HW.out
                  have := HD.out
                  omega
                have hp := walkF_post HNN.out d (fun g => g = i ∨ G g) k t1 HLI.out.wf hk0 hk1 hz hgg hcnt
                have hc := IH.out (fun g => g = i ∨ G g) k t1 wr vs1 vo1 HLI.out.wf hk0 hk1 hz hgg hcnt HT.out
                have hnew := LInv.called HNN.out HWF.out HI.out.1 HI.out.2 HW.out HLI.out HKM.out hz hp
                have HZ := Aside0.mk hz
                generalize hw2 : walkF N d k t1 = t2 at hp hc hnew
                have HW2 := Aside0.mk hw2
                have HL2 := Aside0.mk (show t2.no.length = n ∧ t2.low.length = n ∧ t2.on.length = n from ⟨hp.wf.ln, hp.wf.ll, hp.wf.lo⟩)
                have hwk : wr.cell? ⟨X.wk, 0, none⟩ = some (.func (.func 40) #[] #[.pointer (some ⟨X.c, 0, none⟩), .pointer (some ⟨X.no, 0, none⟩), .pointer (some ⟨X.lo, 0, none⟩), .pointer (some ⟨X.on, 0, none⟩), .pointer (some ⟨X.st, 0, none⟩), .pointer (some ⟨X.nd, 0, none⟩), .pointer (some ⟨X.wk, 0, none⟩), .pointer (some ⟨X.ou, 0, none⟩)]) := blk_cell HT.out.bwk 0
                unfold bx at hc
                have HCALL := Aside0.mk hc
                have HNEW := Aside0.mk hnew
                clear hp hc hnew hw2 hz hgg hcnt HT HLI
                go_wp2_with (go_at_call 40; refine HCALL.out.mono ?_; rintro e W' ⟨rfl, vs2, vo2, hT2⟩; have HT2 := Aside0.mk hT2; clear hT2)
                clear hwk hxj h2 h3 hN1 d1
                have h3 : W'.cell? ⟨X.lo, 0, none⟩ = some (.slice (some ⟨X.gL, 0, none⟩) n X.cL) := blk_cell HT2.out.blo 0
                obtain ⟨hL1, hL2⟩ := Kd.R_celln 0 HT2.out.rL i HI.out.1 HI.out.2
                obtain ⟨hK1, hK2⟩ := Kd.R_celln 0 HT2.out.rL k HK.out.1 HK.out.2
                have e0 : rdOf 0 t2.low i = rd t2.low i := rfl
                have e2 : rdOf 0 t2.low k = rd t2.low k := rfl
                rw [e0] at hL1
                rw [e2] at hK1
                obtain ⟨gb2, cs2, gt2⟩ := HT2.out.tyL (by have := HL2.out; have := HI.out; omega)
                have n11 : X.lo ≠ X.gL := ty_ne HT2.out.blo gt2 (by decide)
                clear e0 e2 gt2 gb2
                go_region
                split
                · as_aux_lemma =>
                    have hT3 := (Tw.setL HT2.out (by have := HL2.out; have := HI.out; omega) i (rd t2.low k)).drew
                    rw [relax_b (by omega)] at hT3
                    clear h3 hL1 hL2 hK1 hK2 n11 HT2
                    generalize (W'.setCell ⟨X.gL, i.toNat, none⟩ (.int .i64 (rd t2.low k))).drew = W3 at hT3 ⊢
                    have HT3 := Aside0.mk hT3
                    clear hT3
                    go_wp2
                    go_roundg (row.length - (kk + 1))
                    case measure => omega
                    case rel =>
                      refine ⟨kk + 1, t2.relax i (rd t2.low k), vs2, vo2, by go_num, by omega, by omega, ⟨?_⟩, HNEW, HT3⟩
                      rw [HEQ.out]; conv => lhs; unfold walkL
                      rw [if_pos HZ.out, HW2.out]
                · as_aux_lemma =>
                    have hT3 := (Tw.setL HT2.out (by have := HL2.out; have := HI.out; omega) i (rd t2.low i)).drew
                    rw [relax_a (x := rd t2.low k) (by omega)] at hT3
                    clear h3 hL1 hL2 hK1 hK2 n11 HT2
                    generalize (W'.setCell ⟨X.gL, i.toNat, none⟩ (.int .i64 (rd t2.low i))).drew = W3 at hT3 ⊢
                    have HT3 := Aside0.mk hT3
                    clear hT3
                    go_wp2
                    go_roundg (row.length - (kk + 1))
                    case measure => omega
                    case rel =>
                      refine ⟨kk + 1, t2.relax i (rd t2.low k), vs2, vo2, by go_num, by omega, by omega, ⟨?_⟩, HNEW, HT3⟩
                      rw [HEQ.out]; conv => lhs; unfold walkL
                      rw [if_pos HZ.out, HW2.out]
            · as_aux_lemma =>
                have d1 : (rd t1.no k == 0) = false := by simpa using hz
                have h4 : wr.cell? ⟨X.on, 0, none⟩ = some (.slice (some ⟨X.gO, 0, none⟩) n X.cO) := blk_cell HT.out.bon 0
                obtain ⟨hO1, hO2⟩ := Kd.R_celln false HT.out.rO k hk0 hk1
                clear hO2
                have HZ := Aside0.mk hz
                clear hz
                by_cases ho : rdOf false t1.on k = true
                · as_aux_lemma =>
                    have hnew := LInv.held HNN.out HWF.out HI.out.1 HI.out.2 HW.out HLI.out HKM.out ((HLI.out.wf.onv k hk0 hk1).1 ho)
                    have HNEW := Aside0.mk hnew
                    rw [ho] at hO1
                    have HO := Aside0.mk ho
                    clear hnew ho HLI
                    go_wp2_with (fail)
                    clear hxj hO1 h4 d1
                    obtain ⟨hL1, hL2⟩ := Kd.R_celln 0 HT.out.rL i HI.out.1 HI.out.2
                    have e0 : rdOf 0 t1.low i = rd t1.low i := rfl
                    rw [e0] at hL1
                    obtain ⟨gb1, cs1, gt1⟩ := HT.out.tyN (by have := HL.out; have := HI.out; omega)
                    obtain ⟨gb2, cs2, gt2⟩ := HT.out.tyL (by have := HL.out; have := HI.out; omega)
                    have n1 : X.gN ≠ X.gL := HT.out.ok.NL
                    have n8 : X.no ≠ X.gL := ty_ne HT.out.bno gt2 (by decide)
                    have n11 : X.lo ≠ X.gL := ty_ne HT.out.blo gt2 (by decide)
                    clear e0 gt1 gt2 gb1 gb2
                    go_region
                    split
                    · as_aux_lemma =>
                        have hT3 := (Tw.setL HT.out (by have := HL.out; have := HI.out; omega) i (rd t1.no k)).drew
                        rw [relax_b (by omega)] at hT3
                        clear h3 h2 hN1 hL1 hL2 n1 n8 n11 HT
                        generalize (wr.setCell ⟨X.gL, i.toNat, none⟩ (.int .i64 (rd t1.no k))).drew = W3 at hT3 ⊢
                        have HT3 := Aside0.mk hT3
                        clear hT3
                        go_wp2
                        go_roundg (row.length - (kk + 1))
                        case measure => omega
                        case rel =>
                          refine ⟨kk + 1, t1.relax i (rd t1.no k), vs1, vo1, by go_num, by omega, by omega, ⟨?_⟩, HNEW, HT3⟩
                          rw [HEQ.out]; conv => lhs; unfold walkL
                          rw [if_neg HZ.out, if_pos HO.out]
                    · as_aux_lemma =>
                        have hT3 := (Tw.setL HT.out (by have := HL.out; have := HI.out; omega) i (rd t1.low i)).drew
                        rw [relax_a (x := rd t1.no k) (by omega)] at hT3
                        clear h3 h2 hN1 hL1 hL2 n1 n8 n11 HT
                        generalize (wr.setCell ⟨X.gL, i.toNat, none⟩ (.int .i64 (rd t1.low i))).drew = W3 at hT3 ⊢
                        have HT3 := Aside0.mk hT3
                        clear hT3
                        go_wp2
                        go_roundg (row.length - (kk + 1))
                        case measure => omega
                        case rel =>
                          refine ⟨kk + 1, t1.relax i (rd t1.no k), vs1, vo1, by go_num, by omega, by omega, ⟨?_⟩, HNEW, HT3⟩
                          rw [HEQ.out]; conv => lhs; unfold walkL
                          rw [if_neg HZ.out, if_pos HO.out]
                · as_aux_lemma =>
                    have hnew := LInv.seen HLI.out HZ.out (fun hk => ho ((HLI.out.wf.onv k hk0 hk1).2 hk))
                    have HNEW := Aside0.mk hnew
                    have ho' : rdOf false t1.on k = false := by simpa using ho
                    rw [ho'] at hO1
                    have HO := Aside0.mk ho
                    clear hnew ho ho' HLI
                    go_wp2
                    go_roundg (row.length - (kk + 1))
                    case measure => omega
                    case rel =>
                      refine ⟨kk + 1, t1, vs1, vo1, by go_num, by omega, by omega, ⟨?_⟩, HNEW, HT⟩
                      rw [HEQ.out]; conv => lhs; unfold walkL
                      rw [if_neg HZ.out, if_neg HO.out]
        · as_aux_lemma =>
            have hltz : ¬ (kk : Int) < (row.length : Int) := by omega
            have e1 : row.drop kk = [] := List.drop_eq_nil_of_le (by omega)
            rw [e1] at HLI HEQ
            clear e1
            obtain ⟨hN1, hN2⟩ := Kd.R_celln 0 HT.out.rN i HI.out.1 HI.out.2
            obtain ⟨hL1, hL2⟩ := Kd.R_celln 0 HT.out.rL i HI.out.1 HI.out.2
            have e0 : rdOf 0 t1.no i = rd t1.no i := rfl
            have e2 : rdOf 0 t1.low i = rd t1.low i := rfl
            rw [e0] at hN1
            rw [e2] at hL1
            clear e0 e2 hN2 hL2
            by_cases hq : rd t1.low i = rd t1.no i
            · as_aux_lemma =>
                have d1 : (rd t1.low i != rd t1.no i) = false := by simpa using hq
                have HQ := Aside0.mk hq
                clear hq
                have hTd := HT.out.drew
                have hit : i ∈ t1.st := by
                  obtain ⟨S, hS, _⟩ := HLI.out.stk
                  rw [hS]; simp
                have HEND := Aside0.mk (show walkF N (d + 1) i b = t1.close i by rw [HEQ.out]; show walkEnd i t1 = _; unfold walkEnd; rw [if_pos HQ.out])
                have hstv := HLI.out.wf.stv
                have hstl : t1.st.length ≤ 64 := by have := HLI.out.wf.ol; have := HLI.out.wf.cnt0; omega
                have houl : t1.out.length ≤ 64 := by have := HLI.out.wf.ol; have := HLI.out.wf.cnt0; omega
                obtain ⟨gS, cS, eS, hgS, hgS2, hgS3⟩ := Kd.R_form hTd.rS (List.length_pos_of_mem hit)
                subst eS
                have hat : t1.st.idxOf i < t1.st.length := List.idxOf_lt_length_iff.2 hit
                have hix := idxP_idx i t1.st 0 hit
                rw [Int.zero_add] at hix
                have hcS : t1.st.length ≤ cS := (Kd.R_reads' hTd.rS).2.1
                have hclose : t1.close i = { t1 with on := offs t1.on (t1.st.drop (t1.st.idxOf i)), st := t1.st.take (t1.st.idxOf i), out := t1.out ++ [sortI (t1.st.drop (t1.st.idxOf i))] } := rfl
                rw [hclose] at HEND
                have hbl : ∀ x ∈ t1.st.drop (t1.st.idxOf i), 0 ≤ x ∧ x < (n : Int) := fun x hx => by
                  have := hstv x (List.mem_of_mem_drop hx)
                  exact ⟨this.1, this.2.1⟩
                have hdl : (t1.st.drop (t1.st.idxOf i)).length = t1.st.length - t1.st.idxOf i := List.length_drop
                have h41 := fun (w : World) (hw : Kd.C (Kd.int .i64) w (some ⟨gS, 0, none⟩) t1.st.length t1.st) => index41 i (some ⟨gS, 0, none⟩) cS t1.st w hw
                rw [hix] at h41
                generalize t1.st.idxOf i = at' at hat HEND hbl hdl h41
                generalize hblk : t1.st.drop at' = blk at HEND hbl hdl
                have HBLK := Aside0.mk hblk
                have HBL := Aside0.mk hbl
                have H41 := Aside0.mk h41
                have HTD := Aside0.mk hTd
                have HN_ := Aside0.mk (show at' < t1.st.length ∧ t1.st.length ≤ 64 ∧ t1.out.length ≤ 64 ∧ t1.st.length ≤ cS ∧ blk.length = t1.st.length - at' ∧ W0.heap.size ≤ gS from ⟨hat, hstl, houl, hcS, hdl, hgS⟩)
                have hs5 : wr.cell? ⟨X.st, 0, none⟩ = some (.slice (some ⟨gS, 0, none⟩) t1.st.length cS) := blk_cell hTd.bst 0
                have r1 : ((at' : Int) ≤ (t1.st.length : Int)) = True := eq_true (by omega)
                have r2 : (at' ≤ t1.st.length) = True := eq_true (by omega)
                have r3 : (at' = cS) = False := eq_false (by omega)
                have r6 : (cS = at') = False := eq_false (by omega)
                have r4 : (at' ≤ cS) = True := eq_true (by omega)
                have r5 : ((at' : Int) ≤ (cS : Int)) = True := eq_true (by omega)
                clear hclose hblk hbl hdl h41 hix hat hcS hstv hit hTd hstl houl hgS hgS2 hgS3 HT HLI HEQ
                go_wp2_with (fail)
                go_region
                clear h2 h3
                go_wp2_with (first | (go_at_call 41; refine (H41.out _ (Kd.R_reads' HTD.out.rS).2.2).mono ?_; rintro e w2 ⟨rfl, hb2⟩; have HT2 := Aside0.mk (HTD.out.grown hb2); have hs6 : w2.cell? ⟨X.st, 0, none⟩ = some (.slice (some ⟨gS, 0, none⟩) t1.st.length cS) := blk_cell HT2.out.bst 0; clear hb2 hs5 HTD hN1 hL1) | (go_at_call 42; refine (clone42 at' HT2.out.rS (by have := HN_.out; omega)).mono ?_; rintro e w3 ⟨v3, rfl, hR3, hb3⟩; have HB3 := Aside0.mk hb3; have HR3 := Aside0.mk (show Kd.R (Kd.int .i64) 3 w3 w2.heap.size (fun k => w2.heap.size ≤ k) v3 blk by rw [← HBLK.out]; exact hR3); have hs7 : w3.cell? ⟨X.st, 0, none⟩ = some (.slice (some ⟨gS, 0, none⟩) t1.st.length cS) := blk_cell (HT2.out.grown hb3).bst 0; have hs8 := blk_frozen (HT2.out.grown hb3).bst 0; clear hR3 hb3 hs6; obtain ⟨A3, c3, eV⟩ := Kd.R_slice HR3.out; subst eV))
                have HU := Aside0.mk (Tw.pop HT2.out (m := at') (by have := HN_.out; omega))
                generalize hw : w3.setCell ⟨X.st, 0, none⟩ (.slice (some ⟨gS, 0, none⟩) at' cS) = w4
                have HBU := Aside0.mk (show Below (w2.setCell ⟨X.st, 0, none⟩ (.slice (some ⟨gS, 0, none⟩) at' cS)).heap.size (w2.setCell ⟨X.st, 0, none⟩ (.slice (some ⟨gS, 0, none⟩) at' cS)) w4 by rw [← hw]; exact below_both HB3.out X.st 0 (Array.getElem?_eq_some_iff.1 HT2.out.bst).1 _)
                have HR4 := Aside0.mk (show Kd.R (Kd.int .i64) 3 w4 w2.heap.size (fun k => w2.heap.size ≤ k) (.slice A3 blk.length c3) blk by rw [← hw]; exact Kd.R_far (p := ⟨X.st, 0, none⟩) HR3.out (fun k hk => by have := (Array.getElem?_eq_some_iff.1 HT2.out.bst).1; show k ≠ X.st; omega) _)
                clear hw hs7 hs8 HR3 HB3
                obtain ⟨U0, hU0⟩ : ∃ U0 : World, U0 = w2.setCell ⟨X.st, 0, none⟩ (.slice (some ⟨gS, 0, none⟩) at' cS) := ⟨_, rfl⟩
                have HSZ := Aside0.mk (show U0.heap.size = w2.heap.size by rw [hU0]; simp)
                rw [← hU0] at HU HBU
                clear hU0 HT2 r1 r2 r3 r4 r5 r6 HBLK H41
                generalize w2.heap.size = S2 at HSZ HR4
                have hmb : blk.length ≤ 9223372036854775807 := (Kd.R_reads' HR4.out).2.2.2.1
                go_loopg [100] blk.length (fun gg v100 wr' => ∃ (kk : Nat) (U : World), v100 = .int .i64 kk ∧ kk ≤ blk.length ∧ blk.length - kk ≤ gg ∧ Aside0 (U.heap.size = S2) ∧ Aside0 (Tw W0 U X (some ad) c n (.slice (some ⟨gS, 0, none⟩) at' cS) vo1 { t1 with on := offs t1.on (blk.take kk), st := t1.st.take at' }) ∧ Aside0 (Below U.heap.size U wr') ∧ Aside0 (Kd.R (Kd.int .i64) 3 wr' S2 (fun k => S2 ≤ k) (.slice A3 blk.length c3) blk))
                case atStart => exact ⟨0, U0, rfl, Nat.zero_le _, by omega, HSZ, HU, HBU, HR4⟩
                case round =>
                  as_aux_lemma =>
                    clear HU HBU HR4 HSZ
                    obtain ⟨kb, U, rfl, hkb, hgb, HSZ, HU, HBU, HR4⟩ := hrel
                    by_cases hltb : kb < blk.length
                    · as_aux_lemma =>
                        have hltz : (kb : Int) < (blk.length : Int) := by omega
                        obtain ⟨ab, eab, hxb⟩ := Kd.at_int (Kd.R_reads' HR4.out).2.2 (kb : Int) (by omega) hltz
                        subst eab
                        rw [Int.toNat_natCast] at hxb
                        have hj : rd blk (kb : Int) = blk[kb] := by simp [rd, List.getD_eq_getElem?_getD, List.getElem?_eq_getElem hltb]
                        have hkr := HBL.out blk[kb] (List.getElem_mem hltb)
                        have hts := List.take_succ_eq_append_getElem hltb
                        rw [← hj] at hkr hts
                        generalize rd blk (kb : Int) = x at hxb hkr hts
                        clear hj
                        have HTS := Aside0.mk hts
                        obtain ⟨hx0, hx1⟩ := hkr
                        have h4 : wr.cell? ⟨X.on, 0, none⟩ = some (.slice (some ⟨X.gO, 0, none⟩) n X.cO) := (HBU.out.cell (p := ⟨X.on, 0, none⟩) (Array.getElem?_eq_some_iff.1 HU.out.bon).1).trans (blk_cell HU.out.bon 0)
                        have hol : (offs t1.on (blk.take kb)).length = n := by rw [offs_len]; exact HL.out.2.2
                        obtain ⟨gb3, cs3, gt3⟩ := HU.out.tyO (by simp only; omega)
                        have hgl := (Array.getElem?_eq_some_iff.1 gt3).1
                        obtain ⟨hO1, hO2⟩ := Kd.R_celln false HU.out.rO x hx0 hx1
                        replace hO1 := (HBU.out.cell (p := ⟨X.gO, x.toNat, none⟩) hgl).trans hO1
                        replace hO2 := (HBU.out.frozen (p := ⟨X.gO, x.toNat, none⟩) hgl).trans hO2
                        have HOL := Aside0.mk hol
                        have HGL := Aside0.mk hgl
                        have HGT := Aside0.mk gt3
                        have q1 := eq_true hx0
                        have q2 := eq_true hx1
                        clear hts hol gb3 gt3 hgl
                        go_wp2
                        go_roundg (blk.length - (kb + 1))
                        case measure => omega
                        case rel =>
                          refine ⟨kb + 1, U.setCell ⟨X.gO, x.toNat, none⟩ (.bool false), by go_num, by omega, by omega, ⟨by rw [World.size_setCell]; exact HSZ.out⟩, ⟨?_⟩, ⟨below_both HBU.out X.gO x.toNat HGL.out _⟩, ⟨Kd.R_far (p := ⟨X.gO, x.toNat, none⟩) HR4.out (fun k hk => by have := HGL.out; have := HSZ.out; show k ≠ X.gO; omega) _⟩⟩
                          rw [HTS.out, offs_snoc]
                          exact HU.out.setO (by simp only; have := HOL.out; omega) x false
                    · as_aux_lemma =>
                        have hltz : ¬ (kb : Int) < (blk.length : Int) := by omega
                        have htk : blk.take kb = blk := List.take_of_length_le (by omega)
                        rw [htk] at HU
                        clear htk
                        have HOWN := Aside0.mk (show ∀ k, (Value.slice A3 blk.length c3).ownBlock = some k → S2 ≤ k from fun k hk => HR4.out.1 k hk)
                        have HLP := Aside0.mk (show 0 < t1.no.length ∧ 0 < t1.low.length by have := HL.out; have := HI.out; omega)
                        go_wp2_with (first | (go_at_call 38; refine (sort38 HR4.out (by have := HN_.out; omega)).mono ?_; rintro e w6 ⟨rfl, hR6, hg6⟩; have HB6 := Aside0.mk (below_grown HBU.out hg6 (fun k hk => by rw [HSZ.out]; exact HOWN.out k hk)); have HR6 := Aside0.mk hR6; have hvo : w6.cell? ⟨X.ou, 0, none⟩ = some vo1 := (HB6.out.cell (p := ⟨X.ou, 0, none⟩) (Array.getElem?_eq_some_iff.1 HU.out.bou).1).trans (blk_cell HU.out.bou 0); clear hR6 hg6) | ((with_reducible refine gate_builtin (b := .append) (xs := #[.tmp 110, .tmp 112]) rfl ?_); at_builtin; refine Kd.S_append (Kd.slice 3 (Kd.int .i64)) (w0 := W0) W0.heap.size rfl (.tmp 110) (.tmp 112) 37 23 (.slice none 0 0) 24 rfl Try.underlying37 info23 rfl (by decide) (by omega) vo1 t1.out (sortI blk) [.slice A3 blk.length c3] (fun k => k ≠ X.c ∧ k ≠ X.gN ∧ k ≠ X.gL ∧ k ≠ X.no ∧ k ≠ X.lo ∧ k ≠ X.st ∧ some k ≠ (Value.slice (some ⟨gS, 0, none⟩) at' cS).ownBlock) (fun k => some k = (Value.slice A3 blk.length c3).ownBlock) rfl rfl ?aP (fun k hk => HU.out.lts HLP.out.1 HLP.out.2 k (by rw [HSZ.out]; exact HOWN.out k hk.symm)) ?aF ?aO ?aB ?aS ?aL ?_; (case aP => exact ⟨_, rfl, Kd.R_lower (Kd.R_tight rfl HR6.out) (by rw [← HSZ.out]; exact below_size HU.out.below)⟩); (case aF => exact fun k hk => (HU.out.lts HLP.out.1 HLP.out.2 k (Nat.le_trans HB6.out.size hk)).1); (case aO => exact Kd.S_mono (HU.out.outS HB6.out) (fun k hk => ⟨hk.1, fun e => by have := HOWN.out k e.symm; have := HSZ.out; have := hk.2; omega⟩)); (case aB => exact (HU.out.grown HB6.out).below); (case aS => exact below_size (HU.out.grown HB6.out).below); (case aL => have := HN_.out; omega); intro v7 w7 ho hb hg hat; have HP7 := Aside0.mk ((HU.out.grown HB6.out).pushU ho hb hg); have hs1 : w7.cell? ⟨X.ou, 0, none⟩ = some vo1 := blk_cell ((HU.out.grown HB6.out).box_ou hg) 0; have hs2 := blk_frozen ((HU.out.grown HB6.out).box_ou hg) 0; obtain ⟨A7, c7, e7⟩ := Kd.S_slice ho; subst e7; clear ho hb hg hat hvo))
                        go_end0
                        have hp := HP7.out
                        rw [show (t1.out ++ [sortI blk]).length = t1.out.length + 1 by simp] at hp
                        rw [HEND.out]
                        first | exact ⟨rfl, _, _, hp⟩ | exact ⟨rfl, _, _, hp.drew⟩
            · as_aux_lemma =>
                have d1 : (rd t1.low i != rd t1.no i) = true := by simpa using hq
                have HQ := Aside0.mk hq
                clear hq
                go_wp2_with (fail)
                go_region
                go_wp2
                (try simp only [Exit.inBlock, Exit.then]); refine bodyPost_ret (results_none rfl _ _ _) rfl ?_
                refine ⟨rfl, vs1, vo1, ?_⟩
                rw [HEQ.out]
                show Tw _ _ _ _ _ _ _ _ (walkEnd i t1)
                unfold walkEnd
                rw [if_neg HQ.out]
                exact HT.out.drew
end Go.Proofs.Ytlaneafplmbcnaa.PO

namespace Go.Proofs.Ytlaneafplmbcnaa.PO
open Go.RowKit Go.Proofs.YtlaneafplmbcnaaW.PrintWords Go.Proofs.YtlaneafplmbcnaaW.PrintLast Go.Proofs.YtlaneafplmbcnaaW.PrintMore
set_option linter.unusedVariables false
set_option linter.unusedSimpArgs false
section
variable {P : Program} {ops : Array Oper} {Q : Exit → Act → World → Prop} {md : Region.Mode}
/-- A region that draws its order, by what every step keeps. -/
theorem wpAny_keeps {Inv : Array Bool → Act → World → Prop} (he : ∀ l a w, Inv l a w → Region.ready md ops l = [] → Q .normal a w)
    (hs : ∀ l a w, Inv l a w → ∀ i ∈ Region.ready md ops l, wpOp P ops Q i (Inv (l.setIfInBounds i true)) a w) :
    ∀ (fuel : Nat) (l : Array Bool) (a : Act) (w : World), Inv l a w → l.toList.count false ≤ fuel → wpAny P md ops Q fuel l a w := by
  have key : ∀ (l : Array Bool) (i : Nat), i ∈ Region.ready md ops l → l.toList.count false = (l.setIfInBounds i true).toList.count false + 1 := by
    intro l i hi
    obtain ⟨h1, _⟩ := mem_ready.1 hi
    by_cases hlt : i < l.size
    · have hlt' : i < l.toList.length := by simpa using hlt
      have h2 : l.toList[i] = false := by simpa [Array.getD, hlt] using h1
      rw [Array.toList_setIfInBounds]
      have hc := List.count_set (l := l.toList) (a := true) (b := false) hlt'
      rw [h2] at hc
      have : 0 < l.toList.count false := List.count_pos_iff.2 (h2 ▸ List.getElem_mem hlt')
      rw [if_pos (by rfl), if_neg (by decide)] at hc
      omega
    · simp [Array.getD, hlt] at h1
  intro fuel
  induction fuel with
  | zero =>
    intro l a w h hc
    have hr : Region.ready md ops l = [] := List.eq_nil_iff_forall_not_mem.2 fun i hi => by have := key l i hi; omega
    exact ⟨hr, he l a w h hr⟩
  | succ fuel ih =>
    intro l a w h hc
    refine ⟨fun hr => he l a w h hr, fun i hi => wpOp_mono (fun a' w' h' => ih _ a' w' h' ?_) (hs l a w h i hi)⟩
    have := key l i hi
    omega
theorem wpOp_of {i : Nat} {K : Act → World → Prop} {a : Act} {w : World} {o : Oper} (ho : ops[i]? = some o) (hg : o.guard = none) (h : Oper.wp P o a w K Q) : wpOp P ops Q i K a w := by
  unfold wpOp
  rw [ho]
  simp only
  rw [if_pos (by unfold Region.wanted; rw [hg])]
  exact Or.inl h
theorem wpOp_if {i : Nat} {K : Act → World → Prop} {a : Act} {w : World} {o : Oper} (ho : ops[i]? = some o) (h : if Region.wanted o (yielded ops a.tmps) = true then Oper.wp P o a w K Q else K (a.put o.dst undef) w) : wpOp P ops Q i K a w := by
  unfold wpOp
  rw [ho]
  simp only
  split
  · rw [if_pos (by assumption)] at h; exact Or.inl h
  · rw [if_neg (by assumption)] at h; exact h
theorem ready_lt {l : Array Bool} {i : Nat} (hi : i ∈ Region.ready md ops l) : i < ops.size := by
  obtain ⟨_, o, ho, _⟩ := mem_ready.1 hi
  exact (Array.getElem?_eq_some_iff.1 ho).1
theorem ready_dep {l : Array Bool} {i : Nat} (j : Nat) (hi : i ∈ Region.ready md ops l) (h : ((ops[i]?).map fun o => o.after.toList.any fun e => Region.binds md e && e.on == j) = some true) : l.getD j false = true := by
  obtain ⟨_, o, ho, hall⟩ := mem_ready.1 hi
  rw [ho] at h
  simp only [Option.map_some, Option.some.injEq, List.any_eq_true, Bool.and_eq_true, beq_iff_eq] at h
  obtain ⟨e, he, hb, rfl⟩ := h
  exact hall e (Array.mem_def.2 he) hb
theorem ready_all {l : Array Bool} (hr : Region.ready md ops l = []) (hsz : l.size = ops.size) (hb : ((List.range ops.size).all fun j => (ops[j]?).all fun o => o.after.toList.all fun e => decide (e.on < j)) = true) : ∀ j, j < ops.size → l.getD j false = true := by
  intro j
  induction j using Nat.strongRecOn with
  | _ j ih =>
    intro hj
    have h1 := List.all_eq_true.1 hb j (List.mem_range.2 hj)
    rw [Array.getElem?_eq_getElem hj, Option.all_some] at h1
    by_cases hl : l.getD j false = true
    · exact hl
    · exfalso
      have : j ∈ Region.ready md ops l := by
        refine mem_ready.2 ⟨?_, ops[j], Array.getElem?_eq_getElem hj, fun e he _ => ?_⟩
        · have hlt : j < l.size := by omega
          simp [Array.getD, hlt] at hl ⊢
          exact hl
        · have := List.all_eq_true.1 h1 e (Array.mem_def.1 he)
          have hlt := of_decide_eq_true this
          exact ih _ hlt (by omega)
      rw [hr] at this
      cases this
theorem set_old {l : Array Bool} {i j : Nat} (h : (l.setIfInBounds i true).getD j false = true) (hne : i ≠ j) : l.getD j false = true := by
  rwa [getD_set_ne false hne] at h
end

theorem info4b : (Try.prog.info? 4).map (fun i => (i.zero, i.size, i.bytes)) = some (some (.bool false), 1, 1) := by kernel_rfl
/-- The frame while the two rows are made. -/
def fr2 (n : Nat) (S B v4 v5 v14 v15 v16 v17 : Value) : Act :=
  { tmps := #[S, B, .slice none 0 0, .int .i64 n, v4, v5, undef, undef, undef, undef, undef, undef, S, .int .i64 n, v14, v15, v16, v17, undef, undef, undef, undef, undef, undef, undef, undef, undef, undef, undef, undef, undef, undef, undef, undef, undef], defers := [] }
def Row2 (n base : Nat) (w : World) (g c : Nat) : Prop := base ≤ g ∧ Kd.R (Kd.int .i64) 3 w base (fun k => k = g) (.slice (some ⟨g, 0, none⟩) n c) (List.replicate n 0) ∧ ∃ cs, w.heap[g]? = some (.cells cs 3 (0, 0))
def Box2 (base : Nat) (w : World) (b : Nat) (v : Value) : Prop := base ≤ b ∧ w.heap[b]? = some (.cells #[v] 23 (0, 0))
section
variable {n base g c b : Nat} {W W1 : World} {v : Value}
theorem alloc_old {o : Obj} {k : Nat} (h : k < W.heap.size) : (W.alloc o).heap[k]? = W.heap[k]? := by
  unfold World.alloc
  simp only [Array.getElem?_push]
  rw [if_neg (Nat.ne_of_lt h)]
theorem alloc_new {o : Obj} : (W.alloc o).heap[W.heap.size]? = some o := by
  unfold World.alloc
  simp
theorem Row2.lt (h : Row2 n base W g c) : g < W.heap.size := by obtain ⟨_, _, _, h⟩ := h; exact (Array.getElem?_eq_some_iff.1 h).1
theorem Box2.lt (h : Box2 base W b v) : b < W.heap.size := (Array.getElem?_eq_some_iff.1 h.2).1
theorem Row2.ne (h : Row2 n base W g c) (h' : Box2 base W b v) : g ≠ b := by
  obtain ⟨_, _, cs, h3⟩ := h
  exact ty_ne h3 h'.2 (by decide)
theorem Row2.keep (h : Row2 n base W g c) (hk : W1.heap[g]? = W.heap[g]?) : Row2 n base W1 g c := by
  obtain ⟨h1, h2, cs, h3⟩ := h
  exact ⟨h1, Kd.R_step h2 (fun k e _ => by rw [e]; exact hk), cs, hk.trans h3⟩
theorem Box2.keep (h : Box2 base W b v) (hk : W1.heap[b]? = W.heap[b]?) : Box2 base W1 b v := ⟨h.1, hk.trans h.2⟩
theorem made_form {ok : Nat → Prop} (ho : Kd.R (Kd.int .i64) 3 W base ok v (List.replicate (n : Int).toNat 0)) (hb : v.ownBlock = some g) : ∃ c, v = .slice (some ⟨g, 0, none⟩) n c ∧ Row2 n base W g c := by
  rw [Int.toNat_natCast] at ho
  have h := Kd.own_of_R ho
  rw [List.length_replicate] at h
  rcases h.2 with ⟨rfl, _⟩ | ⟨g', cap, cur, rfl, hg, hh, _⟩
  · simp [Value.ownBlock] at hb
  · simp only [Value.ownBlock, Option.some.injEq] at hb
    subst hb
    exact ⟨cap, rfl, hg, Kd.R_mono (Kd.R_tight rfl ho) (fun k hk => by simpa [Value.ownBlock] using hk), cur, hh⟩
def RowB (n base : Nat) (w : World) (g c : Nat) : Prop := base ≤ g ∧ Kd.R Kd.bool 4 w base (fun k => k = g) (.slice (some ⟨g, 0, none⟩) n c) (List.replicate n false) ∧ ∃ cs, w.heap[g]? = some (.cells cs 4 (0, 0))
theorem RowB.lt (h : RowB n base W g c) : g < W.heap.size := by obtain ⟨_, _, _, h⟩ := h; exact (Array.getElem?_eq_some_iff.1 h).1
theorem RowB.keep (h : RowB n base W g c) (hk : W1.heap[g]? = W.heap[g]?) : RowB n base W1 g c := by
  obtain ⟨h1, h2, cs, h3⟩ := h
  exact ⟨h1, Kd.R_step h2 (fun k e _ => by rw [e]; exact hk), cs, hk.trans h3⟩
theorem made_formB {ok : Nat → Prop} (ho : Kd.R Kd.bool 4 W base ok v (List.replicate (n : Int).toNat false)) (hb : v.ownBlock = some g) : ∃ c, v = .slice (some ⟨g, 0, none⟩) n c ∧ RowB n base W g c := by
  rw [Int.toNat_natCast] at ho
  have h := Kd.own_of_R ho
  rw [List.length_replicate] at h
  rcases h.2 with ⟨rfl, _⟩ | ⟨g', cap, cur, rfl, hg, hh, _⟩
  · simp [Value.ownBlock] at hb
  · simp only [Value.ownBlock, Option.some.injEq] at hb
    subst hb
    exact ⟨cap, rfl, hg, Kd.R_mono (Kd.R_tight rfl ho) (fun k hk => by simpa [Value.ownBlock] using hk), cur, hh⟩
end
section
variable {ops : Array Oper} {md : Region.Mode} {l : Array Bool} {i : Nat}
theorem ready_not (hi : i ∈ Region.ready md ops l) (h : l.getD i false = true) : False := by
  obtain ⟨h1, _⟩ := mem_ready.1 hi
  by_cases hlt : i < l.size
  · simp [Array.getD, hlt] at h h1
    rw [h1] at h
    cases h
  · simp [Array.getD, hlt] at h1
def D2 (l : Array Bool) : Prop := (l.getD 6 false = true → l.getD 1 false = true ∧ l.getD 4 false = true) ∧ (l.getD 7 false = true → l.getD 3 false = true ∧ l.getD 5 false = true)
theorem D2.step (h : D2 l) (h6 : i = 6 → l.getD 1 false = true ∧ l.getD 4 false = true) (h7 : i = 7 → l.getD 3 false = true ∧ l.getD 5 false = true) : D2 (l.setIfInBounds i true) := by
  constructor
  · intro hh
    by_cases e : i = 6
    · exact ⟨getD_set_true (h6 e).1, getD_set_true (h6 e).2⟩
    · have := h.1 (set_old hh e)
      exact ⟨getD_set_true this.1, getD_set_true this.2⟩
  · intro hh
    by_cases e : i = 7
    · exact ⟨getD_set_true (h7 e).1, getD_set_true (h7 e).2⟩
    · have := h.2 (set_old hh e)
      exact ⟨getD_set_true this.1, getD_set_true this.2⟩
end
theorem run_alloc23 (ρ : Operand → Value) (o : Oper) (h : o.op = .alloc 23) (W : World) : (execOp ρ o).run Try.prog W = .ok (.value (.pointer (some ⟨W.heap.size, 0, none⟩))) (W.alloc (.cells #[.slice none 0 0] 23)) := by
  unfold execOp
  rw [h]
  go_simp
theorem run_store23 (ρ : Operand → Value) (o : Oper) (p x : Operand) (h : o.op = .store 23 p x) (W : World) {b g n c : Nat} {v : Value} (hp : ρ p = .pointer (some ⟨b, 0, none⟩)) (hx : ρ x = .slice (some ⟨g, 0, none⟩) n c) (hb : W.heap[b]? = some (.cells #[v] 23 (0, 0))) : (execOp ρ o).run Try.prog W = .ok .skip (W.setCell ⟨b, 0, none⟩ (.slice (some ⟨g, 0, none⟩) n c)) := by
  have hs1 : W.cell? ⟨b, 0, none⟩ = some v := blk_cell hb 0
  have hs2 := blk_frozen hb 0
  unfold execOp
  rw [h]
  simp only [hp, hx]
  go_simp
section
variable {w6 : World} {o1 o2 o3 o4 o5 : Obj}
theorem five (w6 : World) (o1 o2 o3 o4 o5 : Obj) : (∀ k, k < w6.heap.size → (((((w6.alloc o1).alloc o2).alloc o3).alloc o4).alloc o5).heap[k]? = w6.heap[k]?) ∧
    (((((w6.alloc o1).alloc o2).alloc o3).alloc o4).alloc o5).heap[w6.heap.size]? = some o1 ∧ (((((w6.alloc o1).alloc o2).alloc o3).alloc o4).alloc o5).heap[w6.heap.size + 1]? = some o2 ∧
    (((((w6.alloc o1).alloc o2).alloc o3).alloc o4).alloc o5).heap[w6.heap.size + 1 + 1]? = some o3 ∧ (((((w6.alloc o1).alloc o2).alloc o3).alloc o4).alloc o5).heap[w6.heap.size + 1 + 1 + 1]? = some o4 ∧
    (((((w6.alloc o1).alloc o2).alloc o3).alloc o4).alloc o5).heap[w6.heap.size + 1 + 1 + 1 + 1]? = some o5 ∧ Below w6.heap.size w6 (((((w6.alloc o1).alloc o2).alloc o3).alloc o4).alloc o5) := by
  have s : ∀ (W : World) (o : Obj), (W.alloc o).heap.size = W.heap.size + 1 := fun W o => Array.size_push ..
  have s1 := s w6 o1
  have s2 := s (w6.alloc o1) o2
  have s3 := s ((w6.alloc o1).alloc o2) o3
  have s4 := s (((w6.alloc o1).alloc o2).alloc o3) o4
  have b := below_alloc (below_alloc (below_alloc (below_alloc (below_alloc (Below.refl w6.heap.size w6) o1) o2) o3) o4) o5
  refine ⟨fun k hk => b.block k hk, ?_, ?_, ?_, ?_, ?_, b⟩
  · rw [alloc_old (by omega), alloc_old (by omega), alloc_old (by omega), alloc_old (by omega)]; exact alloc_new
  · rw [alloc_old (by omega), alloc_old (by omega), alloc_old (by omega), ← s1]; exact alloc_new
  · rw [alloc_old (by omega), alloc_old (by omega), ← s1, ← s2]; exact alloc_new
  · rw [alloc_old (by omega), ← s1, ← s2, ← s3]; exact alloc_new
  · rw [← s1, ← s2, ← s3, ← s4]; exact alloc_new
end
section
variable (ρ : Operand → Value) (o : Oper) (W : World)
theorem run_field1 (p : Operand) (h : o.op = .fieldAddr 30 p 1) {b : Nat} (hp : ρ p = .pointer (some ⟨b, 0, none⟩)) : (execOp ρ o).run Try.prog W = .ok (.value (.pointer (some ⟨b, 1, none⟩))) W := by
  unfold execOp
  rw [h]
  simp only [hp]
  go_simp
theorem run_load23 (p : Operand) (h : o.op = .load 23 p) {q : Addr} {A : Option Addr} {n c : Nat} (hp : ρ p = .pointer (some q)) (hc : W.cell? q = some (.slice A n c)) : (execOp ρ o).run Try.prog W = .ok (.value (.slice A n c)) W := by
  unfold execOp
  rw [h]
  simp only [hp]
  go_simp
theorem run_load3 (p : Operand) (h : o.op = .load 3 p) {q : Addr} {y : Int} (hp : ρ p = .pointer (some q)) (hc : W.cell? q = some (.int .i64 y)) : (execOp ρ o).run Try.prog W = .ok (.value (.int .i64 y)) W := by
  unfold execOp
  rw [h]
  simp only [hp]
  go_simp
theorem run_index23 (s i : Operand) (h : o.op = .indexAddr 23 s i) {q : Addr} {n c : Nat} {x : Int} (hs : ρ s = .slice (some q) n c) (hi : ρ i = .int .i64 x) (h0 : 0 ≤ x) (h1 : x < (n : Int)) : (execOp ρ o).run Try.prog W = .ok (.value (.pointer (some (q.add x.toNat)))) W := by
  have q1 := eq_true h0
  have q2 := eq_true h1
  unfold execOp
  rw [h]
  simp only [hs, hi]
  go_simp
theorem run_build23 (p : Operand) (h : o.op = .buildSlice 23 1 #[(0, p)]) {y : Int} (hp : ρ p = .int .i64 y) : (execOp ρ o).run Try.prog W = .ok (.value (.slice (some ⟨W.heap.size, 0, none⟩) 1 1)) (W.alloc (.cells #[.int .i64 y] 3)) := by
  unfold execOp
  rw [h]
  simp only [hp]
  go_simp
theorem run_store23' (p x : Operand) (h : o.op = .store 23 p x) {b k n c : Nat} {v : Value} (hp : ρ p = .pointer (some ⟨b, k, none⟩)) {A : Option Addr} (hx : ρ x = .slice A n c) (hs1 : W.cell? ⟨b, k, none⟩ = some v) (hs2 : W.frozen? ⟨b, k, none⟩ = false) : (execOp ρ o).run Try.prog W = .ok .skip (W.setCell ⟨b, k, none⟩ (.slice A n c)) := by
  unfold execOp
  rw [h]
  simp only [hp, hx]
  go_simp
end
end Go.Proofs.Ytlaneafplmbcnaa.PO

namespace Go.Proofs.Ytlaneafplmbcnaa.PO
open Go.RowKit Go.Proofs.YtlaneafplmbcnaaW.PrintWords Go.Proofs.YtlaneafplmbcnaaW.PrintLast Go.Proofs.YtlaneafplmbcnaaW.PrintMore
set_option linter.unusedVariables false
set_option linter.unusedSimpArgs false
/-- What every step of that region keeps. -/
structure In2 (n : Nat) (S B : Value) (w0 : World) (l : Array Bool) (a : Act) (w : World) : Prop where
  below : Below w0.heap.size w0 w
  dep : D2 l
  size : l.size = 8
  ex : ∃ v4 v5 v14 v15 v16 v17, a = fr2 n S B v4 v5 v14 v15 v16 v17 ∧ (l.getD 0 false = true → v14 = .int .i64 n) ∧ (l.getD 2 false = true → v16 = .int .i64 n) ∧
    (l.getD 1 false = true → ∃ g c, v15 = .slice (some ⟨g, 0, none⟩) n c ∧ Row2 n w0.heap.size w g c) ∧ (l.getD 3 false = true → ∃ g c, v17 = .slice (some ⟨g, 0, none⟩) n c ∧ Row2 n w0.heap.size w g c) ∧
    (l.getD 1 false = true → l.getD 3 false = true → v15.ownBlock ≠ v17.ownBlock) ∧
    (l.getD 4 false = true → ∃ b v, v4 = .pointer (some ⟨b, 0, none⟩) ∧ Box2 w0.heap.size w b v ∧ (l.getD 6 false = true → v = v15)) ∧
    (l.getD 5 false = true → ∃ b v, v5 = .pointer (some ⟨b, 0, none⟩) ∧ Box2 w0.heap.size w b v ∧ (l.getD 7 false = true → v = v17)) ∧
    (l.getD 4 false = true → l.getD 5 false = true → v4 ≠ v5)
set_option maxHeartbeats 2000000 in
set_option maxRecDepth 100000 in
theorem tog18 (N : List (List Int)) (A : Option Addr) (c : Nat) (hl : N.length ≤ 64) (w : World) (hC : Kd.C (Kd.slice 3 (Kd.int .i64)) w A N.length N) (hc : N.length ≤ c) (hN : ∀ j, ∀ k ∈ rd_L3 N j, 0 ≤ k ∧ k < (N.length : Int)) :
    Calls Try.prog 18 #[.slice A N.length c] w fun e w' => ∃ v, e = .returned v ∧ Kd.S (Kd.slice 3 (Kd.int .i64)) 23 w' w.heap.size (fun _ => True) v (tarjan N) ∧ Below w.heap.size w w' := by
  have HC := Aside0.mk hC
  have HNN := Aside0.mk hN
  clear hC hN
  obtain ⟨n, hn⟩ : ∃ n, n = N.length := ⟨_, rfl⟩
  rw [← hn] at hl hc HC HNN ⊢
  have HN := Aside0.mk hn
  clear hn
  go_enter Try.func18, Try.ntmps18
  go_wp2_with (fail)
  rename_i K_ hK_
  obtain ⟨W0, hW0⟩ : ∃ W0, W0 = w.alloc (.cells #[.slice A n c] 37) := ⟨_, rfl⟩
  rw [← hW0]
  refine wp_region_any rfl (wpAny_keeps (Inv := In2 n (.slice A n c) (.pointer (some ⟨w.heap.size, 0, none⟩)) W0) ?he ?hs _ _ _ _ ?h0 (by decide))
  case h0 =>
    have L : ∀ (m j : Nat), (Array.replicate m false).getD j false = true → False := fun m j h => by
      by_cases hj : j < m <;> simp [Array.getD, hj] at h
    exact ⟨below_drew (Below.refl _ _), ⟨fun h => (L _ _ h).elim, fun h => (L _ _ h).elim⟩, by rw [Array.size_replicate]; rfl, undef, undef, undef, undef, undef, undef, rfl, fun h => (L _ _ h).elim, fun h => (L _ _ h).elim, fun h => (L _ _ h).elim, fun h => (L _ _ h).elim, fun h => (L _ _ h).elim, fun h => (L _ _ h).elim, fun h => (L _ _ h).elim, fun h => (L _ _ h).elim⟩
  case he =>
    intro l a W ⟨hb, hd, hsz, v4, v5, v14, v15, v16, v17, ha, h14, h16, h15, h17, h57, h4, h5, h45⟩ hr
    subst ha
    have hall := ready_all hr hsz rfl
    obtain rfl := h14 (hall 0 (by decide))
    obtain rfl := h16 (hall 2 (by decide))
    obtain ⟨gN, cN, rfl, hRN⟩ := h15 (hall 1 (by decide))
    obtain ⟨gL, cL, rfl, hRL⟩ := h17 (hall 3 (by decide))
    obtain ⟨bN, _, rfl, hBN, e6⟩ := h4 (hall 4 (by decide))
    obtain ⟨bL, _, rfl, hBL, e7⟩ := h5 (hall 5 (by decide))
    obtain rfl := e6 (hall 6 (by decide))
    obtain rfl := e7 (hall 7 (by decide))
    have hNL : gN ≠ gL := fun e => h57 (hall 1 (by decide)) (hall 3 (by decide)) (by rw [e]; rfl)
    have hnl : bN ≠ bL := fun e => h45 (hall 4 (by decide)) (hall 5 (by decide)) (by rw [e])
    clear h57 h45 h14 h16 h15 h17 h4 h5 e6 e7 hall hr hsz hd
    have HRN := Aside0.mk hRN
    have HRL := Aside0.mk hRL
    have HBN := Aside0.mk hBN
    have HBL := Aside0.mk hBL
    have HB := Aside0.mk hb
    have HNL := Aside0.mk (And.intro hNL hnl)
    clear hRN hRL hBN hBL hb hNL hnl
    unfold fr2
    refine hK_ _ _ ?_
    go_wp2_with (first | ((with_reducible refine gate_dst (N := 19) rfl ?_); refine Kd.R_make Kd.bool _ 4 rfl (N := 19) rfl 52 _ _ rfl (n : Int) rfl rfl Try.underlying52 (.bool false) 1 info4b rfl (by decide) (by omega) false (ok := fun _ => True) (okp := fun _ => True) rfl (fun _ hk => hk) trivial (by omega) (by omega) (Below.refl _ _) (Nat.le_refl _) ?_; intro vS w6 ho_ hb6 hg_ hnew_; obtain ⟨gO, hob, hge⟩ := hnew_; obtain ⟨cO, rfl, hRO⟩ := made_formB ho_ hob; have HRO := Aside0.mk hRO; have HB6 := Aside0.mk hb6; have HGE := Aside0.mk hge; clear ho_ hob hRO hb6 hg_ hge))
    obtain ⟨WF, hWF⟩ : ∃ WF, WF = (((((w6.alloc (.cells #[.slice (some ⟨gO, 0, none⟩) n cO] 52)).alloc (.cells #[.slice none 0 0] 23)).alloc (.cells #[.slice none 0 0] 37)).alloc (.cells #[.int .i64 0] 3)).alloc
      (.cells #[.func (.func 40) #[] #[.pointer (some ⟨w6.heap.size + 1 + 1 + 1, 0, none⟩), .pointer (some ⟨bN, 0, none⟩), .pointer (some ⟨bL, 0, none⟩), .pointer (some ⟨w6.heap.size, 0, none⟩), .pointer (some ⟨w6.heap.size + 1, 0, none⟩), .pointer (some ⟨w.heap.size, 0, none⟩), .pointer (some ⟨w6.heap.size + 1 + 1 + 1 + 1, 0, none⟩), .pointer (some ⟨w6.heap.size + 1 + 1, 0, none⟩)]] 64)) := ⟨_, rfl⟩
    rw [← hWF]
    obtain ⟨f0, f1, f2, f3, f4, f5, fb⟩ := five w6 (.cells #[.slice (some ⟨gO, 0, none⟩) n cO] 52) (.cells #[.slice none 0 0] 23) (.cells #[.slice none 0 0] 37) (.cells #[.int .i64 0] 3) (.cells #[.func (.func 40) #[] #[.pointer (some ⟨w6.heap.size + 1 + 1 + 1, 0, none⟩), .pointer (some ⟨bN, 0, none⟩), .pointer (some ⟨bL, 0, none⟩), .pointer (some ⟨w6.heap.size, 0, none⟩), .pointer (some ⟨w6.heap.size + 1, 0, none⟩), .pointer (some ⟨w.heap.size, 0, none⟩), .pointer (some ⟨w6.heap.size + 1 + 1 + 1 + 1, 0, none⟩), .pointer (some ⟨w6.heap.size + 1 + 1, 0, none⟩)]] 64)
    rw [← hWF] at f0 f1 f2 f3 f4 f5 fb
    obtain ⟨X, hX⟩ : ∃ X : Bx, X = ⟨w6.heap.size + 1 + 1 + 1, bN, bL, w6.heap.size, w6.heap.size + 1, w.heap.size, w6.heap.size + 1 + 1 + 1 + 1, w6.heap.size + 1 + 1, gN, gL, gO, cN, cL, cO⟩ := ⟨_, rfl⟩
    have hT : Tw w WF X A c n (.slice none 0 0) (.slice none 0 0) (ts0 n) := by
      have hs0 : W0.heap.size = w.heap.size + 1 := by rw [hW0]; exact Array.size_push ..
      have hb0 : Below w.heap.size w W0 := by rw [hW0]; exact below_alloc (Below.refl _ _) _
      have z1 := HB.out.size
      have z2 := HB6.out.size
      have n1 := HRN.out.lt
      have n2 := HRL.out.lt
      have n3 := HBN.out.lt
      have n4 := HBL.out.lt
      have n5 := HRN.out.1
      have n6 := HRL.out.1
      have n7 := HBN.out.1
      have n8 := HBL.out.1
      have kp : ∀ k, k < W.heap.size → WF.heap[k]? = W.heap[k]? := fun k hk => (f0 k (by omega)).trans (HB6.out.block k hk)
      have hO : RowB n W.heap.size WF gO cO := HRO.out.keep (f0 gO HRO.out.lt)
      subst hX
      refine ⟨⟨by show _ ≤ _ + 1 + 1 + 1; omega, by show _ ≤ bN; omega, by show _ ≤ bL; omega, by show _ ≤ w6.heap.size; omega, by show _ ≤ w6.heap.size + 1; omega, Nat.le_refl _, by show _ ≤ _ + 1 + 1 + 1 + 1; omega, by show _ ≤ _ + 1 + 1; omega, by show w6.heap.size + 1 + 1 + 1 ≠ gN; omega, by show w6.heap.size + 1 + 1 + 1 ≠ gL; omega, HNL.out.1, HNL.out.2, by show bN ≠ w6.heap.size + 1; omega, by show bL ≠ w6.heap.size + 1; omega, by show w.heap.size ≠ w6.heap.size + 1 + 1; omega⟩,
        below_step (below_step (below_step hb0 HB.out) HB6.out) fb, f4, (kp bN n3).trans HBN.out.2, (kp bL n4).trans HBL.out.2, f1, f2, ?_, f5, f3, ?_, ?_, ?_, Kd.R_nil _ _ _ _ _, Kd.S_nil _ _ _ _ _⟩
      · exact (kp _ (show w.heap.size < _ by omega)).trans ((HB.out.block _ (by omega)).trans (by rw [hW0]; exact alloc_new))
      · exact Kd.R_lower (HRN.out.keep (kp gN n1)).2.1 (by omega)
      · exact Kd.R_lower (HRL.out.keep (kp gL n2)).2.1 (by omega)
      · exact Kd.R_lower hO.2.1 (by omega)
    have x1 : w6.heap.size + 1 + 1 + 1 + 1 = X.wk := by rw [hX]
    have x2 : w6.heap.size + 1 + 1 + 1 = X.c := by rw [hX]
    have x3 : w6.heap.size + 1 + 1 = X.ou := by rw [hX]
    have x4 : w6.heap.size + 1 = X.st := by rw [hX]
    have x5 : w6.heap.size = X.on := by rw [hX]
    have x6 : bN = X.no := by rw [hX]
    have x7 : bL = X.lo := by rw [hX]
    have x8 : gN = X.gN := by rw [hX]
    have x9 : gL = X.gL := by rw [hX]
    have x10 : cN = X.cN := by rw [hX]
    rw [x1, x2, x3, x4, x5]
    clear x1 x2 x3 x4 x5
    subst x6 x7 x8 x9 x10
    clear f0 f1 f2 f3 f4 f5 fb hWF hX HRN HRL HBN HBL HB HNL HRO HB6 HGE hW0 hK_
    have HT := Aside0.mk hT
    have HA := Aside0.mk (show AInv N n 0 (ts0 n) from ⟨Wf.start N n, fun j j0 j1 => by omega⟩)
    have HTJ := Aside0.mk (show allF N n ((0 : Nat) : Int) (ts0 n) = allF N n ((0 : Nat) : Int) (ts0 n) from rfl)
    have e40 : ∀ args w, (callFunc 40 args).run Try.prog w = .ok (.enter 40 args) w := enters_of Try.func40 (by kernel_rfl) rfl
    clear hT
    go_loopg [22] n (fun gg v22 W' => ∃ (ii : Nat) (t : TS) (vs vo : Value), v22 = .int .i64 ii ∧ ii ≤ n ∧ n - ii ≤ gg ∧ Aside0 (AInv N n ii t) ∧ Aside0 (allF N (n - ii) (ii : Int) t = allF N n ((0 : Nat) : Int) (ts0 n)) ∧ Aside0 (Tw w W' X A c n vs vo t))
    case atStart => exact ⟨0, ts0 n, _, _, rfl, Nat.zero_le _, by omega, HA, HTJ, HT⟩
    case round =>
      clear HA HTJ HT
      obtain ⟨ii, t, vs, vo, rfl, hii, hgg, HA, HE, HT⟩ := hrel
      by_cases hlt : ii < n
      · have hltz : (ii : Int) < (n : Int) := by omega
        have hll := HA.out.wf.ln
        obtain ⟨hN1, hN2⟩ := Kd.R_celln 0 HT.out.rN (ii : Int) (by omega) (by omega)
        have e0 : rdOf 0 t.no (ii : Int) = rd t.no (ii : Int) := rfl
        rw [e0, Int.toNat_natCast] at hN1
        clear e0 hN2 hll
        have hs1 := blk_cell HT.out.bno 0
        have hs2 := blk_cell HT.out.bwk 0
        have e5 : n - ii = (n - (ii + 1)) + 1 := by omega
        have HE1 := HE.out
        rw [e5] at HE1
        conv at HE1 => lhs; unfold allF
        have HA1 := HA.out.step HNN.out HN.out hlt
        by_cases hz : rd t.no (ii : Int) = 0
        · have d1 : (rd t.no (ii : Int) == 0) = true := by simpa using hz
          rw [if_pos hz] at HE1 HA1
          have HE2 := Aside0.mk HE1
          have HA2 := Aside0.mk HA1
          have HCALL := Aside0.mk (clo40 w X A c n N HN.out hl HC.out HNN.out N.length (fun _ => False) (ii : Int) t wr vs vo HA.out.wf (by omega) hltz hz (fun g hg => hg.elim) (by have h1 : t.no.count 0 ≤ t.no.length := List.count_le_length; have := HA.out.wf.ln; have := HN.out; omega) HT.out)
          clear HE1 HA1 hz e5 HE HA HT
          unfold Bx.fn bx at hs2
          unfold bx at HCALL
          go_wp2_with (go_at_call 40; refine HCALL.out.mono ?_; rintro e W' ⟨rfl, vs2, vo2, hT2⟩; have HT2 := Aside0.mk hT2; clear hT2)
          go_roundg (n - (ii + 1))
          case measure => omega
          case rel =>
            refine ⟨ii + 1, _, vs2, vo2, by go_num, by omega, by omega, HA2, ⟨?_⟩, HT2⟩
            rw [show ((ii + 1 : Nat) : Int) = (ii : Int) + 1 by omega]
            exact HE2.out
        · have d1 : (rd t.no (ii : Int) == 0) = false := by simpa using hz
          rw [if_neg hz] at HE1 HA1
          have HE2 := Aside0.mk HE1
          have HA2 := Aside0.mk HA1
          clear HE1 HA1 hz e5 HE HA
          go_wp2
          go_roundg (n - (ii + 1))
          case measure => omega
          case rel =>
            refine ⟨ii + 1, t, vs, vo, by go_num, by omega, by omega, HA2, ⟨?_⟩, HT⟩
            rw [show ((ii + 1 : Nat) : Int) = (ii : Int) + 1 by omega]
            exact HE2.out
      · have hltz : ¬ (ii : Int) < (n : Int) := by omega
        have hs1 := blk_cell HT.out.bou 0
        have HOUT := Aside0.mk (show t.out = tarjan N by
          have h1 := HE.out
          rw [show n - ii = 0 by omega] at h1
          unfold tarjan
          rw [← HN.out]
          show (allF N 0 (ii : Int) t).out = _
          rw [h1]; rfl)
        obtain ⟨A9, c9, e9⟩ := Kd.S_slice HT.out.rU
        subst e9
        go_wp2
        go_ret
        refine ⟨_, rfl, ?_, HT.out.below⟩
        rw [← HOUT.out]
        exact Kd.S_mono HT.out.rU (fun _ _ => trivial)
  case hs =>
    clear hK_
    intro l a W ⟨hb, hd, hsz, v4, v5, v14, v15, v16, v17, ha, h14, h16, h15, h17, h57, h4, h5, h45⟩ i hi
    subst ha
    clear hW0 HC HNN HN
    have hlt : i < 8 := ready_lt hi
    rcases (by omega : i = 0 ∨ i = 1 ∨ i = 2 ∨ i = 3 ∨ i = 4 ∨ i = 5 ∨ i = 6 ∨ i = 7) with rfl | rfl | rfl | rfl | rfl | rfl | rfl | rfl
    · refine wpOp_of rfl rfl ?_
      unfold Oper.wp
      rw [BigFrame.run_move _ rfl]
      refine ⟨hb, hd.step (fun h => absurd h (by decide)) (fun h => absurd h (by decide)), (Array.size_setIfInBounds ..).trans hsz, v4, v5, _, v15, v16, v17, rfl, fun _ => rfl, fun h => h16 (set_old h (by decide)), fun h => h15 (set_old h (by decide)), fun h => h17 (set_old h (by decide)), fun h h' => h57 (set_old h (by decide)) (set_old h' (by decide)), fun h => ?_, fun h => ?_, fun h h' => h45 (set_old h (by decide)) (set_old h' (by decide))⟩
      · obtain ⟨b, v, e, hB, h6⟩ := h4 (set_old h (by decide))
        exact ⟨b, v, e, hB, fun h' => h6 (set_old h' (by decide))⟩
      · obtain ⟨b, v, e, hB, h6⟩ := h5 (set_old h (by decide))
        exact ⟨b, v, e, hB, fun h' => h6 (set_old h' (by decide))⟩
    · obtain rfl := h14 (ready_dep 0 hi rfl)
      refine wpOp_if rfl (Kd.R_make_step (Kd.int .i64) (w0 := W0) W0.heap.size 3 (by rfl) (N := 15) rfl 23 _ _ rfl (n : Int) rfl rfl Try.underlying23 (.int .i64 0) 8 info3 rfl (by decide) (by omega) 0 (ok := fun _ => True) (okp := fun _ => True) rfl (fun _ hk => hk) trivial (by omega) (by omega) hb hb.size ?_)
      intro v1 w1 ho hb1 hg hnew
      obtain ⟨g1, hob, hge⟩ := hnew
      obtain ⟨c1, rfl, hR1⟩ := made_form ho hob
      refine ⟨hb1, hd.step (fun h => absurd h (by decide)) (fun h => absurd h (by decide)), (Array.size_setIfInBounds ..).trans hsz, v4, v5, _, _, v16, v17, rfl, fun _ => rfl, fun h => h16 (set_old h (by decide)), fun h => ⟨g1, c1, rfl, hR1⟩, fun h => ?_, fun h h' => ?_, fun h => ?_, fun h => ?_, fun h h' => h45 (set_old h (by decide)) (set_old h' (by decide))⟩
      · obtain ⟨g, c, e, hR⟩ := h17 (set_old h (by decide))
        exact ⟨g, c, e, hR.keep (hg.block g hR.lt (by simp))⟩
      · obtain ⟨g, c, e, hR⟩ := h17 (set_old h' (by decide))
        subst e
        have := hR.lt
        intro e
        simp only [Value.ownBlock, Option.some.injEq] at e
        omega
      · obtain ⟨b, v, e, hB, h6⟩ := h4 (set_old h (by decide))
        exact ⟨b, v, e, hB.keep (hg.block b hB.lt (by simp)), fun h' => (ready_not hi (hd.1 (set_old h' (by decide))).1).elim⟩
      · obtain ⟨b, v, e, hB, h6⟩ := h5 (set_old h (by decide))
        exact ⟨b, v, e, hB.keep (hg.block b hB.lt (by simp)), fun h' => h6 (set_old h' (by decide))⟩
    · refine wpOp_of rfl rfl ?_
      unfold Oper.wp
      rw [BigFrame.run_move _ rfl]
      refine ⟨hb, hd.step (fun h => absurd h (by decide)) (fun h => absurd h (by decide)), (Array.size_setIfInBounds ..).trans hsz, v4, v5, v14, v15, _, v17, rfl, fun h => h14 (set_old h (by decide)), fun _ => rfl, fun h => h15 (set_old h (by decide)), fun h => h17 (set_old h (by decide)), fun h h' => h57 (set_old h (by decide)) (set_old h' (by decide)), fun h => ?_, fun h => ?_, fun h h' => h45 (set_old h (by decide)) (set_old h' (by decide))⟩
      · obtain ⟨b, v, e, hB, h6⟩ := h4 (set_old h (by decide))
        exact ⟨b, v, e, hB, fun h' => h6 (set_old h' (by decide))⟩
      · obtain ⟨b, v, e, hB, h6⟩ := h5 (set_old h (by decide))
        exact ⟨b, v, e, hB, fun h' => h6 (set_old h' (by decide))⟩
    · obtain rfl := h16 (ready_dep 2 hi rfl)
      refine wpOp_if rfl (Kd.R_make_step (Kd.int .i64) (w0 := W0) W0.heap.size 3 (by rfl) (N := 17) rfl 23 _ _ rfl (n : Int) rfl rfl Try.underlying23 (.int .i64 0) 8 info3 rfl (by decide) (by omega) 0 (ok := fun _ => True) (okp := fun _ => True) rfl (fun _ hk => hk) trivial (by omega) (by omega) hb hb.size ?_)
      intro v1 w1 ho hb1 hg hnew
      obtain ⟨g1, hob, hge⟩ := hnew
      obtain ⟨c1, rfl, hR1⟩ := made_form ho hob
      refine ⟨hb1, hd.step (fun h => absurd h (by decide)) (fun h => absurd h (by decide)), (Array.size_setIfInBounds ..).trans hsz, v4, v5, v14, v15, _, _, rfl, fun h => h14 (set_old h (by decide)), fun _ => rfl, fun h => ?_, fun h => ⟨g1, c1, rfl, hR1⟩, fun h h' => ?_, fun h => ?_, fun h => ?_, fun h h' => h45 (set_old h (by decide)) (set_old h' (by decide))⟩
      · obtain ⟨g, c, e, hR⟩ := h15 (set_old h (by decide))
        exact ⟨g, c, e, hR.keep (hg.block g hR.lt (by simp))⟩
      · obtain ⟨g, c, e, hR⟩ := h15 (set_old h (by decide))
        subst e
        have := hR.lt
        intro e
        simp only [Value.ownBlock, Option.some.injEq] at e
        omega
      · obtain ⟨b, v, e, hB, h6⟩ := h4 (set_old h (by decide))
        exact ⟨b, v, e, hB.keep (hg.block b hB.lt (by simp)), fun h' => h6 (set_old h' (by decide))⟩
      · obtain ⟨b, v, e, hB, h6⟩ := h5 (set_old h (by decide))
        exact ⟨b, v, e, hB.keep (hg.block b hB.lt (by simp)), fun h' => (ready_not hi (hd.2 (set_old h' (by decide))).1).elim⟩
    · refine wpOp_of rfl rfl ?_
      unfold Oper.wp
      rw [run_alloc23 _ _ rfl]
      have kp : ∀ k, k < W.heap.size → (W.alloc (.cells #[.slice none 0 0] 23)).heap[k]? = W.heap[k]? := fun k hk => alloc_old hk
      refine ⟨hb.alloc hb.size _, hd.step (fun h => absurd h (by decide)) (fun h => absurd h (by decide)), (Array.size_setIfInBounds ..).trans hsz, _, v5, v14, v15, v16, v17, rfl, fun h => h14 (set_old h (by decide)), fun h => h16 (set_old h (by decide)), fun h => ?_, fun h => ?_, fun h h' => h57 (set_old h (by decide)) (set_old h' (by decide)), fun h => ?_, fun h => ?_, fun h h' => ?_⟩
      · obtain ⟨g, c, e, hR⟩ := h15 (set_old h (by decide))
        exact ⟨g, c, e, hR.keep (kp g hR.lt)⟩
      · obtain ⟨g, c, e, hR⟩ := h17 (set_old h (by decide))
        exact ⟨g, c, e, hR.keep (kp g hR.lt)⟩
      · exact ⟨W.heap.size, .slice none 0 0, rfl, ⟨hb.size, alloc_new⟩, fun h' => (ready_not hi (hd.1 (set_old h' (by decide))).2).elim⟩
      · obtain ⟨b, v, e, hB, h6⟩ := h5 (set_old h (by decide))
        exact ⟨b, v, e, hB.keep (kp b hB.lt), fun h' => h6 (set_old h' (by decide))⟩
      · obtain ⟨b, v, e, hB, h6⟩ := h5 (set_old h' (by decide))
        have := hB.lt
        subst e
        intro e
        injection e with e; injection e with e; injection e with e
        omega
    · refine wpOp_of rfl rfl ?_
      unfold Oper.wp
      rw [run_alloc23 _ _ rfl]
      have kp : ∀ k, k < W.heap.size → (W.alloc (.cells #[.slice none 0 0] 23)).heap[k]? = W.heap[k]? := fun k hk => alloc_old hk
      refine ⟨hb.alloc hb.size _, hd.step (fun h => absurd h (by decide)) (fun h => absurd h (by decide)), (Array.size_setIfInBounds ..).trans hsz, v4, _, v14, v15, v16, v17, rfl, fun h => h14 (set_old h (by decide)), fun h => h16 (set_old h (by decide)), fun h => ?_, fun h => ?_, fun h h' => h57 (set_old h (by decide)) (set_old h' (by decide)), fun h => ?_, fun h => ?_, fun h h' => ?_⟩
      · obtain ⟨g, c, e, hR⟩ := h15 (set_old h (by decide))
        exact ⟨g, c, e, hR.keep (kp g hR.lt)⟩
      · obtain ⟨g, c, e, hR⟩ := h17 (set_old h (by decide))
        exact ⟨g, c, e, hR.keep (kp g hR.lt)⟩
      · obtain ⟨b, v, e, hB, h6⟩ := h4 (set_old h (by decide))
        exact ⟨b, v, e, hB.keep (kp b hB.lt), fun h' => h6 (set_old h' (by decide))⟩
      · exact ⟨W.heap.size, .slice none 0 0, rfl, ⟨hb.size, alloc_new⟩, fun h' => (ready_not hi (hd.2 (set_old h' (by decide))).2).elim⟩
      · obtain ⟨b, v, e, hB, h6⟩ := h4 (set_old h (by decide))
        have := hB.lt
        subst e
        intro e
        injection e with e; injection e with e; injection e with e
        omega
    · obtain ⟨b, v, rfl, hB, -⟩ := h4 (ready_dep 4 hi rfl)
      obtain ⟨g, c1, rfl, hR⟩ := h15 (ready_dep 1 hi rfl)
      refine wpOp_of rfl rfl ?_
      unfold Oper.wp
      rw [run_store23 _ _ _ _ rfl W rfl rfl hB.2]
      have kp : ∀ k, k ≠ b → (W.setCell ⟨b, 0, none⟩ (.slice (some ⟨g, 0, none⟩) n c1)).heap[k]? = W.heap[k]? := fun k hk => hv_other W ⟨b, 0, none⟩ _ k hk
      refine ⟨below_set hb hB.1, hd.step (fun _ => ⟨ready_dep 1 hi rfl, ready_dep 4 hi rfl⟩) (fun h => absurd h (by decide)), (Array.size_setIfInBounds ..).trans hsz, _, v5, v14, _, v16, v17, rfl, fun h => h14 (set_old h (by decide)), fun h => h16 (set_old h (by decide)), fun h => ⟨g, c1, rfl, hR.keep (kp g (hR.ne hB))⟩, fun h => ?_, fun h h' => h57 (set_old h (by decide)) (set_old h' (by decide)), fun h => ?_, fun h => ?_, fun h h' => h45 (set_old h (by decide)) (set_old h' (by decide))⟩
      · obtain ⟨g, c, e, hR⟩ := h17 (set_old h (by decide))
        exact ⟨g, c, e, hR.keep (kp g (hR.ne hB))⟩
      · exact ⟨b, _, rfl, ⟨hB.1, blk_put (cs := #[v]) hB.2 0 _ rfl⟩, fun _ => rfl⟩
      · obtain ⟨b', v', e, hB', h6⟩ := h5 (set_old h (by decide))
        have hne := h45 (ready_dep 4 hi rfl) (set_old h (by decide))
        subst e
        exact ⟨b', v', rfl, hB'.keep (kp b' (fun e => hne (by rw [e]))), fun h' => h6 (set_old h' (by decide))⟩
    · obtain ⟨b, v, rfl, hB, -⟩ := h5 (ready_dep 5 hi rfl)
      obtain ⟨g, c1, rfl, hR⟩ := h17 (ready_dep 3 hi rfl)
      refine wpOp_of rfl rfl ?_
      unfold Oper.wp
      rw [run_store23 _ _ _ _ rfl W rfl rfl hB.2]
      have kp : ∀ k, k ≠ b → (W.setCell ⟨b, 0, none⟩ (.slice (some ⟨g, 0, none⟩) n c1)).heap[k]? = W.heap[k]? := fun k hk => hv_other W ⟨b, 0, none⟩ _ k hk
      refine ⟨below_set hb hB.1, hd.step (fun h => absurd h (by decide)) (fun _ => ⟨ready_dep 3 hi rfl, ready_dep 5 hi rfl⟩), (Array.size_setIfInBounds ..).trans hsz, v4, _, v14, v15, v16, _, rfl, fun h => h14 (set_old h (by decide)), fun h => h16 (set_old h (by decide)), fun h => ?_, fun h => ⟨g, c1, rfl, hR.keep (kp g (hR.ne hB))⟩, fun h h' => h57 (set_old h (by decide)) (set_old h' (by decide)), fun h => ?_, fun h => ?_, fun h h' => h45 (set_old h (by decide)) (set_old h' (by decide))⟩
      · obtain ⟨g, c, e, hR⟩ := h15 (set_old h (by decide))
        exact ⟨g, c, e, hR.keep (kp g (hR.ne hB))⟩
      · obtain ⟨b', v', e, hB', h6⟩ := h4 (set_old h (by decide))
        have hne := h45 (set_old h (by decide)) (ready_dep 5 hi rfl)
        subst e
        exact ⟨b', v', rfl, hB'.keep (kp b' (fun e => hne (by rw [e]))), fun h' => h6 (set_old h' (by decide))⟩
      · exact ⟨b, _, rfl, ⟨hB.1, blk_put (cs := #[v]) hB.2 0 _ rfl⟩, fun _ => rfl⟩
end Go.Proofs.Ytlaneafplmbcnaa.PO
