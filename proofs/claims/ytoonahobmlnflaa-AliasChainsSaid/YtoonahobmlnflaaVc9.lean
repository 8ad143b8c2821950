/- Texts of this claim, one behind the other. -/
import Derived.Test.YtoonahobmlnflaaVc8
import Derived.ChangeKeysEq
import Derived.MapKept
import Derived.Laws.CopyRow
import Derived.StillTailTactics
import Derived.BigRegion
set_option linter.unusedVariables false
set_option linter.unusedSimpArgs false
set_option maxRecDepth 100000
set_option maxHeartbeats 16000000
namespace Go.Proofs.Ytoonahobmlnflaa.PC
open Go.RowKit Go.Shelf A B C
abbrev wY (x : S37) : List Value := [.int .i64 x.f0, .int .i64 x.f1, .int .i64 x.f2, .int .i64 x.f3, .int .i64 x.f4.f0, .int .i64 x.f4.f1, .int .i64 x.f5.f0, .int .i64 x.f5.f1, .int .i64 x.f6.f0.f0.f0, .int .i64 x.f6.f0.f0.f1, .int .i64 x.f6.f0.f1.f0, .int .i64 x.f6.f0.f1.f1, .int .i64 x.f6.f0.f2.f0, .int .i64 x.f6.f0.f2.f1, .int .i64 x.f6.f0.f3.f0, .int .i64 x.f6.f0.f3.f1, .int .i64 x.f6.f0.f4.f0, .int .i64 x.f6.f0.f4.f1, .int .i64 x.f6.f0.f5.f0, .int .i64 x.f6.f0.f5.f1, .int .i64 x.f6.f0.f6.f0, .int .i64 x.f6.f0.f6.f1]
section
variable {P : Program} {ops : Array Oper} {Q : Exit → Act → World → Prop} {rest : List Oper} {a : Act} {w : World} {d : Option Tmp} {t ty : TypeId} {p : Operand} {pos : String} {after : Array Edge}
theorem xC {ad : Addr} {cs : List Value} (hp : a.eval p = .pointer (some ad)) (hag : (isAgg t).run P w = .ok true w) (hsz : (sizeOf t).run P w = .ok cs.length w) (hc : ∀ (j : Nat) v, cs[j]? = some v → w.cell? (ad.add j) = some v) (h : wpList P ops Q rest (a.put d (.agg cs.toArray)) w) :
    wpList P ops Q (⟨d, .load t p, ty, pos, after, none⟩ :: rest) a w :=
  Kd.xW rfl (oD hp hag hsz hc) h
theorem ev_store {v : Tmp} {p : Tmp} {c c' : Array Value} (hp : a.eval (.tmp p) = .pointer (some ⟨w.heap.size, 0, none⟩)) (hv : a.eval (.tmp v) = .agg c') (hi : (P.info? t).map (·.size) = some c'.size) (ho : c.size = c'.size) (h1 : c'.all (·.oneCell') = true)
    (h : ∀ W1, W1.heap[w.heap.size]? = some (.cells c' t (0, 0)) → Below w.heap.size w W1 → w.heap.size < W1.heap.size → wpList P ops Q rest a W1) :
    wpList P ops Q (⟨none, .store t (.tmp p) (.tmp v), ty, pos, after, none⟩ :: rest) a (w.alloc (.cells c t)) :=
  oW rfl rfl rfl (exec_store hp hv hi ho h1) (fun w' e => by subst e; exact h _ (heap_alloc_last _ _) (zY (Below.refl _ _) _) (by simp))
theorem yY (t : TypeId) (h : wpList P ops Q (⟨d, .load t p, ty, pos, after, none⟩ :: rest) a w) : wpList P ops Q (⟨d, .load t p, ty, pos, after, none⟩ :: rest) a w := h
theorem tD (t : TypeId) {v : Operand} (h : wpList P ops Q (⟨d, .store t p v, ty, pos, after, none⟩ :: rest) a w) : wpList P ops Q (⟨d, .store t p v, ty, pos, after, none⟩ :: rest) a w := h
end
theorem add_off (g off j : Nat) : (⟨g, off, none⟩ : Addr).add j = ⟨g, off + j, none⟩ := by unfold Addr.add; split <;> simp_all
theorem vL {W : World} {g : Nat} {cs : Array Value} {t : TypeId} (h : W.heap[g]? = some (.cells cs t (0, 0))) (off : Nat) (l : List Value) (hl : l = (cs.toList.drop off).take l.length) : ∀ (j : Nat) v, l[j]? = some v → W.cell? ((⟨g, off, none⟩ : Addr).add j) = some v := fun j v hj => by
  have e : W.cell? (⟨g, off + j, none⟩ : Addr) = cs[off + j]? := bq h (off + j)
  rw [add_off]
  refine e.trans ?_
  rw [hl, List.getElem?_take] at hj
  split at hj
  · rw [List.getElem?_drop] at hj; rw [← hj, Array.getElem?_toList]
  · cases hj
theorem node_cells {nodes : List S37} {A : Option Addr} {w W : World} (hC : Kd.C k37 w A nodes.length nodes) (hB : Below w.heap.size w W) (j : Int) (p0 : 0 ≤ j) (q0 : j < (nodes.length : Int)) :
    ∃ ad, A = some ad ∧ ∀ (jj : Nat) v, (wY (rT nodes j))[jj]? = some v → W.cell? ((ad.add (j.toNat * 22)).add jj) = some v := by
  obtain ⟨ad, c, ead, _, hKc, hcc⟩ := Kd.C_get hC z37 j p0 q0
  obtain rfl := k37_open hKc
  refine ⟨ad, ead, fun jj v hv => ?_⟩
  rw [Addr.add_add]
  have h := hcc jj v hv
  exact (hB.cell (World.block_lt_of_cell? w _ h)).trans h
def wM (x : S37) : Prop := I64 x.f4.f0 ∧ I64 x.f4.f1 ∧ I64 x.f6.f0.f0.f0 ∧ I64 x.f6.f0.f0.f1 ∧ I64 x.f6.f0.f1.f0 ∧ I64 x.f6.f0.f1.f1 ∧ I64 x.f6.f0.f2.f0 ∧ I64 x.f6.f0.f2.f1 ∧ I64 x.f6.f0.f3.f0 ∧ I64 x.f6.f0.f3.f1 ∧ I64 x.f6.f0.f4.f0 ∧ I64 x.f6.f0.f4.f1 ∧ I64 x.f6.f0.f5.f0 ∧ I64 x.f6.f0.f5.f1 ∧ I64 x.f6.f0.f6.f0 ∧ I64 x.f6.f0.f6.f1
def dimQ (e0 e1 e2 e3 e4 e5 e6 e7 e8 e9 e10 e11 e12 e13 : Int) : Bool := yU e0 e1 && yU e2 e3 && yU e4 e5 && yU e6 e7 && yU e8 e9 && yU e10 e11 && yU e12 e13
def okN (i : Int) (x : S37) : Bool :=
  decide (0 ≤ zI x.f0) && (decide (zI x.f0 ≤ 0) || (decide (0 ≤ x.f1) && decide (x.f1 < i))) && (decide (zI x.f0 ≤ 1) || (decide (0 ≤ x.f2) && decide (x.f2 < i))) &&
  (x.f0 != 1 || (yU x.f4.f0 x.f4.f1 && dimQ x.f6.f0.f0.f0 x.f6.f0.f0.f1 x.f6.f0.f1.f0 x.f6.f0.f1.f1 x.f6.f0.f2.f0 x.f6.f0.f2.f1 x.f6.f0.f3.f0 x.f6.f0.f3.f1 x.f6.f0.f4.f0 x.f6.f0.f4.f1 x.f6.f0.f5.f0 x.f6.f0.f5.f1 x.f6.f0.f6.f0 x.f6.f0.f6.f1)) &&
  (x.f0 != 2 || (decide (0 ≤ x.f5.f0) && decide (0 ≤ x.f5.f1) && decide (x.f5.f1 ≤ 6))) && (x.f0 != 8 || (decide (-64 ≤ x.f3) && decide (x.f3 ≤ 64)))
def okTo (nodes : List S37) (j : Nat) : Bool := (List.range j).all (fun i => okN (i : Int) (rT nodes (i : Int)))
def wI (nodes : List S37) : Bool := okTo nodes nodes.length && decide (nodes.length ≤ 4000)
theorem okTo_succ (nodes : List S37) (j : Nat) : okTo nodes (j + 1) = (okTo nodes j && okN (j : Int) (rT nodes (j : Int))) := by
  unfold okTo; rw [List.range_succ, List.all_append]; simp
theorem okTo_no {nodes : List S37} {j : Nat} (hj : j < nodes.length) (h : okN (j : Int) (rT nodes (j : Int)) = false) : wI nodes = false := by
  unfold wI
  have : okTo nodes nodes.length = false := by
    unfold okTo
    rw [List.all_eq_false]
    exact ⟨j, List.mem_range.2 hj, by simp [h]⟩
  rw [this]; rfl
theorem sD (k : Int) : (zI k = 0 ∧ (k = 1 ∨ k = 2 ∨ k = 15)) ∨ (zI k = 2 ∧ 3 ≤ k ∧ k ≤ 6) ∨ (zI k = 1 ∧ 7 ≤ k ∧ k ≤ 14) ∨ (zI k = -1 ∧ k ≠ 1 ∧ k ≠ 2 ∧ k ≠ 8) := by
  unfold zI; repeat' split
  all_goals omega
theorem graph89 (nodes : List S37) (A : Option Addr) (c : Nat) (w : World) (hC : Kd.C k37 w A nodes.length nodes) (hc : nodes.length ≤ c) (hI : ∀ x ∈ nodes, wM x) :
    Calls Try.prog 89 #[.slice A nodes.length c] w fun e w' => e = .returned (.bool (wI nodes)) ∧ Below w.heap.size w w' := by
  have hu37 := Try.underlying37
  have hu30 := Try.underlying30
  have hu35 := Try.underlying35
  have hu32 := Try.underlying32
  have hm := Kd.C_max hC
  have HC := aq hC
  have HI := aq hI
  clear hC hI
  have HB := aq (Below.refl w.heap.size w)
  go_enter Try.func89, Try.ntmps89
  go_wp2
  go_loopw [8] (fun i wr => ∃ (j : Int), 0 ≤ j ∧ j ≤ (nodes.length : Int) ∧ i = .int .i64 j ∧ zT (okTo nodes j.toNat = true) ∧ zT (Below w.heap.size w wr)) (fun i _ => nodes.length - (intOf i).toNat)
  case atStart => exact ⟨0, Int.le_refl _, by omega, rfl, ⟨rfl⟩, HB⟩
  case round =>
    obtain ⟨j, j0, j1, rfl, HT, HB'⟩ := hrel
    clear HB
    by_cases hlt : j < (nodes.length : Int)
    case neg =>
      obtain rfl : j = (nodes.length : Int) := by omega
      have HT' := aq (show wI nodes = decide ((nodes.length : Int) ≤ 4000) by have := HT.out; rw [Int.toNat_natCast] at this; unfold wI; rw [this, Bool.true_and]; by_cases h : nodes.length ≤ 4000 <;> simp [h] <;> omega)
      clear HT j0 j1 hlt
      go_wp2
      go_ret
      exact ⟨by rw [HT'.out]; rfl, HB'.out⟩
    obtain ⟨ad, ead, hld⟩ := node_cells HC.out HB'.out j j0 hlt
    subst ead
    have hmem : rT nodes j ∈ nodes := by
      obtain ⟨k, rfl⟩ := Int.eq_ofNat_of_zero_le j0
      rw [show rT nodes (k : Int) = nodes[k]'(by omega) by simp [rT, List.getD_eq_getElem?_getD, List.getElem?_eq_getElem (show k < nodes.length by omega)]]
      exact List.getElem_mem _
    have hn := HI.out _ hmem
    have hsucc : okN j (rT nodes j) = true → okTo nodes (j + 1).toNat = true := fun h => by
      rw [show (j + 1).toNat = j.toNat + 1 by omega, okTo_succ, show ((j.toNat : Nat) : Int) = j by omega, h, HT.out]; rfl
    have hno : okN j (rT nodes j) = false → wI nodes = false := fun h => okTo_no (j := j.toNat) (by omega) (by rw [show ((j.toNat : Nat) : Int) = j by omega]; exact h)
    generalize rT nodes j = x at hld hn hsucc hno
    obtain ⟨K, a, b, n, ⟨p, q⟩, ⟨V, D⟩, ⟨⟨⟨e0, e1⟩, ⟨e2, e3⟩, ⟨e4, e5⟩, ⟨e6, e7⟩, ⟨e8, e9⟩, ⟨e10, e11⟩, ⟨e12, e13⟩⟩⟩⟩ := x
    obtain ⟨np, nq, n0, n1, n2, n3, n4, n5, n6, n7, n8, n9, n10, n11, n12, n13⟩ := hn
    have hq := fun U => tP np nq U
    have hd := fun (U : World) => qV.calls e0 e1 e2 e3 e4 e5 e6 e7 e8 e9 e10 e11 e12 e13 (dimQ e0 e1 e2 e3 e4 e5 e6 e7 e8 e9 e10 e11 e12 e13) U (by show seven .. = _; unfold seven; rw [if_pos ⟨n0, n1, n2, n3, n4, n5, n6, n7, n8, n9, n10, n11, n12, n13⟩]; rfl)
    clear np nq n0 n1 n2 n3 n4 n5 n6 n7 n8 n9 n10 n11 n12 n13 hmem
    simp only [okN] at hsucc hno
    generalize yU p q = rq at hq hsucc hno
    generalize dimQ e0 e1 e2 e3 e4 e5 e6 e7 e8 e9 e10 e11 e12 e13 = dq at hd hsucc hno
    have harg := uargs_eq K
    have hw64 : wrap64 (j + 1) = j + 1 := by unfold wrap64; omega
    have HW := aq hw64
    have HLT := aq hlt
    have HJ := aq j0
    dsimp only at hld hq hd hsucc hno harg
    have HLD := aq hld
    have HQ := aq hq
    have HDM := aq hd
    have HSB := aq HB'.out.size
    replace j0 := eq_true j0
    replace hlt := eq_true hlt
    clear hld hq hd HT j1 hw64
    have fin : ∀ W : World, Below wr.heap.size wr W → okTo nodes (j + 1).toNat = true → (∃ (j_1 : Int), 0 ≤ j_1 ∧ j_1 ≤ (nodes.length : Int) ∧ (Value.int .i64 (wrap64 (j + 1))) = .int .i64 j_1 ∧ zT (okTo nodes j_1.toNat = true) ∧ zT (Below w.heap.size w W)) ∧ nodes.length - (intOf (.int .i64 (wrap64 (j + 1)))).toNat < nodes.length - (intOf (.int .i64 j)).toNat := fun W hW ho => by
      have h1 := HW.out
      have h2 := HLT.out
      have h3 := HJ.out
      refine ⟨⟨j + 1, by omega, by omega, by rw [h1], ⟨ho⟩, ⟨xG HB'.out HSB.out hW⟩⟩, ?_⟩
      rw [h1]
      simp only [intOf]
      omega
    have fout : ∀ W : World, Below wr.heap.size wr W → wI nodes = false → (Ending.returned (.bool false) = .returned (.bool (wI nodes)) ∧ Below w.heap.size w W) := fun W hW h => ⟨by rw [h], xG HB'.out HSB.out hW⟩
    have FIN := aq fin
    have FOUT := aq fout
    clear fin fout
    rcases sD K with ⟨hk, rfl | rfl | rfl⟩ | ⟨hk, hk2, hk3⟩ | ⟨hk, hk2, hk3⟩ | ⟨hk, hk2, hk3, hk4⟩
    all_goals rw [hk] at harg hsucc hno
    cases rq
    rotate_left 1
    cases dq
    rotate_left 2
    refine if h1 : V < 0 then ?_ else if h2 : D < 0 then ?_ else if h3 : 6 < D then ?_ else ?_
    rotate_left 5
    refine if h1 : a < 0 then ?_ else if h2 : j ≤ a then ?_ else if h3 : b < 0 then ?_ else if h4 : j ≤ b then ?_ else ?_
    rotate_left 5
    refine if h1 : a < 0 then ?_ else if h2 : j ≤ a then ?_ else if h8 : K = 8 then (if h3 : n < -64 then ?_ else if h4 : 64 < n then ?_ else ?_) else ?_
    all_goals
      try subst h8
      try have k1n : K ≠ 1 := by omega
      try have k1 : (K == 1) = false := beq_eq_false_iff_ne.mpr (by omega)
      try have k2n : K ≠ 2 := by omega
      try have k2 : (K == 2) = false := beq_eq_false_iff_ne.mpr (by omega)
      try have k8n : K ≠ 8 := by omega
      try have k8 : (K == 8) = false := beq_eq_false_iff_ne.mpr (by omega)
      try have d_ : decide (V < 0) = true := decide_eq_true (by omega)
      try have d_ : decide (V < 0) = false := decide_eq_false (by omega)
      try have d_ : decide (0 ≤ V) = true := decide_eq_true (by omega)
      try have d_ : decide (0 ≤ V) = false := decide_eq_false (by omega)
      try have d_ : decide (D < 0) = true := decide_eq_true (by omega)
      try have d_ : decide (D < 0) = false := decide_eq_false (by omega)
      try have d_ : decide (0 ≤ D) = true := decide_eq_true (by omega)
      try have d_ : decide (0 ≤ D) = false := decide_eq_false (by omega)
      try have d_ : decide (6 < D) = true := decide_eq_true (by omega)
      try have d_ : decide (6 < D) = false := decide_eq_false (by omega)
      try have d_ : decide (D ≤ 6) = true := decide_eq_true (by omega)
      try have d_ : decide (D ≤ 6) = false := decide_eq_false (by omega)
      try have d_ : decide (a < 0) = true := decide_eq_true (by omega)
      try have d_ : decide (a < 0) = false := decide_eq_false (by omega)
      try have d_ : decide (0 ≤ a) = true := decide_eq_true (by omega)
      try have d_ : decide (0 ≤ a) = false := decide_eq_false (by omega)
      try have d_ : decide (j ≤ a) = true := decide_eq_true (by omega)
      try have d_ : decide (j ≤ a) = false := decide_eq_false (by omega)
      try have d_ : decide (a < j) = true := decide_eq_true (by omega)
      try have d_ : decide (a < j) = false := decide_eq_false (by omega)
      try have d_ : decide (b < 0) = true := decide_eq_true (by omega)
      try have d_ : decide (b < 0) = false := decide_eq_false (by omega)
      try have d_ : decide (0 ≤ b) = true := decide_eq_true (by omega)
      try have d_ : decide (0 ≤ b) = false := decide_eq_false (by omega)
      try have d_ : decide (j ≤ b) = true := decide_eq_true (by omega)
      try have d_ : decide (j ≤ b) = false := decide_eq_false (by omega)
      try have d_ : decide (b < j) = true := decide_eq_true (by omega)
      try have d_ : decide (b < j) = false := decide_eq_false (by omega)
      try have d_ : decide (n < -64) = true := decide_eq_true (by omega)
      try have d_ : decide (n < -64) = false := decide_eq_false (by omega)
      try have d_ : decide (-64 ≤ n) = true := decide_eq_true (by omega)
      try have d_ : decide (-64 ≤ n) = false := decide_eq_false (by omega)
      try have d_ : decide (64 < n) = true := decide_eq_true (by omega)
      try have d_ : decide (64 < n) = false := decide_eq_false (by omega)
      try have d_ : decide (n ≤ 64) = true := decide_eq_true (by omega)
      try have d_ : decide (n ≤ 64) = false := decide_eq_false (by omega)
      first | (have HY : zT (okTo nodes (j + 1).toNat = true) := by refine ⟨hsucc ?_⟩; simp [*] <;> fail) | (have HY : zT (wI nodes = false) := by refine ⟨hno ?_⟩; simp [*] <;> fail)
      clear hno hsucc
      have HARG := aq harg
      clear harg
      go_wp2_with (first | (with_reducible refine yY 37 ?_; refine xC (t := 37) (cs := [.int .i64 _, .int .i64 a, .int .i64 b, .int .i64 n, .int .i64 p, .int .i64 q, .int .i64 V, .int .i64 D, .int .i64 e0, .int .i64 e1, .int .i64 e2, .int .i64 e3, .int .i64 e4, .int .i64 e5, .int .i64 e6, .int .i64 e7, .int .i64 e8, .int .i64 e9, .int .i64 e10, .int .i64 e11, .int .i64 e12, .int .i64 e13]) rfl (by kernel_rfl) (by kernel_rfl) HLD.out ?_) | (with_reducible refine tD 37 ?_; refine ev_store (t := 37) (c' := #[.int .i64 _, .int .i64 a, .int .i64 b, .int .i64 n, .int .i64 p, .int .i64 q, .int .i64 V, .int .i64 D, .int .i64 e0, .int .i64 e1, .int .i64 e2, .int .i64 e3, .int .i64 e4, .int .i64 e5, .int .i64 e6, .int .i64 e7, .int .i64 e8, .int .i64 e9, .int .i64 e10, .int .i64 e11, .int .i64 e12, .int .i64 e13]) rfl rfl (by kernel_rfl) rfl (by kernel_rfl) ?_; intro W1 hx hb hs; have HX := aq hx; have HB1 := aq hb; have HS1 := aq hs; have z0 := (bq hx 0).trans (show _ = some (.int .i64 _) from rfl); have z1 := (bq hx 1).trans (show _ = some (.int .i64 a) from rfl); have z2 := (bq hx 2).trans (show _ = some (.int .i64 b) from rfl); have z3 := (bq hx 3).trans (show _ = some (.int .i64 n) from rfl); have z4 := (bq hx 4).trans (show _ = some (.int .i64 p) from rfl); have z5 := (bq hx 5).trans (show _ = some (.int .i64 q) from rfl); have z6 := (bq hx 6).trans (show _ = some (.int .i64 V) from rfl); have z7 := (bq hx 7).trans (show _ = some (.int .i64 D) from rfl); clear hx hb hs) | (go_at_call 93; refine (yI.calls 9 _ (_) _ HARG.out).mono ?_; rintro e w7 ⟨rfl, hd⟩; have HB7 := aq (bt_ HB1.out hd.below); have hx := (hd.below.block _ HS1.out).trans HX.out; have HX7 := aq hx; have HS7 := aq (Nat.lt_of_lt_of_le HS1.out hd.below.size); clear HB1 HX HS1; have z0 := (bq hx 0).trans (show _ = some (.int .i64 _) from rfl); have z1 := (bq hx 1).trans (show _ = some (.int .i64 a) from rfl); have z2 := (bq hx 2).trans (show _ = some (.int .i64 b) from rfl); have z3 := (bq hx 3).trans (show _ = some (.int .i64 n) from rfl); have z4 := (bq hx 4).trans (show _ = some (.int .i64 p) from rfl); have z5 := (bq hx 5).trans (show _ = some (.int .i64 q) from rfl); have z6 := (bq hx 6).trans (show _ = some (.int .i64 V) from rfl); have z7 := (bq hx 7).trans (show _ = some (.int .i64 D) from rfl); clear hx hd) | (with_reducible refine yY 30 ?_; refine xC (t := 30) (ad := ⟨wr.heap.size, 4, none⟩) (cs := [.int .i64 p, .int .i64 q]) rfl (by kernel_rfl) (by kernel_rfl) (vL HX7.out 4 _ rfl) ?_) | (go_at_call 59; refine (HQ.out _).mono ?_; rintro e w8 ⟨rfl, hd⟩; have HB8 := aq (bt_ HB7.out hd); have hx := (hd.block _ HS7.out).trans HX7.out; have HX8 := aq hx; have HS8 := aq (Nat.lt_of_lt_of_le HS7.out hd.size); clear HB7 HX7 HS7;  have z0 := (bq hx 0).trans (show _ = some (.int .i64 _) from rfl); have z8 := (bq hx 8).trans (show _ = some (.int .i64 e0) from rfl); have z9 := (bq hx 9).trans (show _ = some (.int .i64 e1) from rfl); have z10 := (bq hx 10).trans (show _ = some (.int .i64 e2) from rfl); have z11 := (bq hx 11).trans (show _ = some (.int .i64 e3) from rfl); have z12 := (bq hx 12).trans (show _ = some (.int .i64 e4) from rfl); have z13 := (bq hx 13).trans (show _ = some (.int .i64 e5) from rfl); have z14 := (bq hx 14).trans (show _ = some (.int .i64 e6) from rfl); have z15 := (bq hx 15).trans (show _ = some (.int .i64 e7) from rfl); have z16 := (bq hx 16).trans (show _ = some (.int .i64 e8) from rfl); have z17 := (bq hx 17).trans (show _ = some (.int .i64 e9) from rfl); have z18 := (bq hx 18).trans (show _ = some (.int .i64 e10) from rfl); have z19 := (bq hx 19).trans (show _ = some (.int .i64 e11) from rfl); have z20 := (bq hx 20).trans (show _ = some (.int .i64 e12) from rfl); have z21 := (bq hx 21).trans (show _ = some (.int .i64 e13) from rfl); clear hx hd) | (with_reducible refine yY 35 ?_; refine xC (t := 35) (ad := ⟨wr.heap.size, 8, none⟩) (cs := [.int .i64 e0, .int .i64 e1, .int .i64 e2, .int .i64 e3, .int .i64 e4, .int .i64 e5, .int .i64 e6, .int .i64 e7, .int .i64 e8, .int .i64 e9, .int .i64 e10, .int .i64 e11, .int .i64 e12, .int .i64 e13]) rfl (by kernel_rfl) (by kernel_rfl) (vL HX8.out 8 _ rfl) ?_) | (go_at_call 91; refine (HDM.out _).mono ?_; rintro e w9 ⟨rfl, hd⟩; have HB9 := aq (bt_ HB8.out hd); have z0 := (bq ((hd.block _ HS8.out).trans HX8.out) 0).trans (show _ = some (.int .i64 _) from rfl); clear HB8 hd))
      first | exact FIN.out _ (by first | exact HB9.out | exact HB8.out | exact HB7.out) HY.out | (go_ret; exact FOUT.out _ (by first | exact HB9.out | exact HB8.out | exact HB7.out) HY.out)
def eqR (x y : S30) : Bool := x.f0 == y.f0 && (x.f1 == y.f1)
def eqD (x y : S35) : Bool := eqR x.f0.f0 y.f0.f0 && (eqR x.f0.f1 y.f0.f1 && (eqR x.f0.f2 y.f0.f2 && (eqR x.f0.f3 y.f0.f3 && (eqR x.f0.f4 y.f0.f4 && (eqR x.f0.f5 y.f0.f5 && eqR x.f0.f6 y.f0.f6)))))
def eqN (x y : S37) : Bool := x.f0 == y.f0 && (x.f1 == y.f1 && (x.f2 == y.f2 && (x.f3 == y.f3 && (eqR x.f4 y.f4 && ((x.f5.f0 == y.f5.f0 && (x.f5.f1 == y.f5.f1)) && eqD x.f6 y.f6)))))
theorem eqR_iff {x y : S30} : eqR x y = true ↔ x = y := by
  obtain ⟨a, b⟩ := x
  obtain ⟨c, d⟩ := y
  simp [eqR]
theorem eqD_iff {x y : S35} : eqD x y = true ↔ x = y := by
  obtain ⟨⟨a0, a1, a2, a3, a4, a5, a6⟩⟩ := x
  obtain ⟨⟨b0, b1, b2, b3, b4, b5, b6⟩⟩ := y
  simp [eqD, eqR_iff]
theorem eqN_iff {x y : S37} : eqN x y = true ↔ x = y := by
  obtain ⟨a, b, c, d, e, ⟨f, g⟩, h⟩ := x
  obtain ⟨a', b', c', d', e', ⟨f', g'⟩, h'⟩ := y
  simp [eqN, eqR_iff, eqD_iff, and_assoc]
theorem eqA30 (d : Nat) (w : World) (x0 y0 : Int) (x1 y1 : Int) :
    (Op.equalIn (d + 2) 30 (.agg #[.int .i64 x0, .int .i64 x1]) (.agg #[.int .i64 y0, .int .i64 y1])).run Try.prog w = .ok (x0 == y0 && (x1 == y1)) w := by
 refine eqA_of Try.underlying30 (by kernel_rfl) ?_
 refine rL (by rfl) (by go_simp; rfl) (by go_simp; rfl) (by go_simp) ?_
 exact eqf_last (by rfl) (by go_simp; rfl) (by go_simp; rfl) (by go_simp)
theorem qO {P : Program} {w : World} {d c j : Nat} {e : TypeId} {xs ys : Array Value} {is : List Nat} {a b : Value} {r s : Bool} (ha : (part e xs (j * c)).run P w = .ok a w) (hb : (part e ys (j * c)).run P w = .ok b w) (he : (Op.equalIn d e a b).run P w = .ok r w) (hr : (Op.eqItems d e c xs ys is).run P w = .ok s w) :
    (Op.eqItems d e c xs ys (j :: is)).run P w = .ok (r && s) w := by
  simp only [Op.eqItems, Sem.run_bind, ha, hb, he, Result.andThen_ok]
  cases r
  · simp
  · simpa using hr
theorem eqA33 (d : Nat) (w : World) (x y : S35) :
    (Op.equalIn (d + 3) 33 (.agg #[.int .i64 x.f0.f0.f0, .int .i64 x.f0.f0.f1, .int .i64 x.f0.f1.f0, .int .i64 x.f0.f1.f1, .int .i64 x.f0.f2.f0, .int .i64 x.f0.f2.f1, .int .i64 x.f0.f3.f0, .int .i64 x.f0.f3.f1, .int .i64 x.f0.f4.f0, .int .i64 x.f0.f4.f1, .int .i64 x.f0.f5.f0, .int .i64 x.f0.f5.f1, .int .i64 x.f0.f6.f0, .int .i64 x.f0.f6.f1]) (.agg #[.int .i64 y.f0.f0.f0, .int .i64 y.f0.f0.f1, .int .i64 y.f0.f1.f0, .int .i64 y.f0.f1.f1, .int .i64 y.f0.f2.f0, .int .i64 y.f0.f2.f1, .int .i64 y.f0.f3.f0, .int .i64 y.f0.f3.f1, .int .i64 y.f0.f4.f0, .int .i64 y.f0.f4.f1, .int .i64 y.f0.f5.f0, .int .i64 y.f0.f5.f1, .int .i64 y.f0.f6.f0, .int .i64 y.f0.f6.f1])).run Try.prog w = .ok (eqD x y) w := by
  obtain ⟨i, hi⟩ := info_of_underlying Try.underlying30
  rw [run_equalIn_array w (d + 2) _ _ Try.underlying33 hi, show Try.prog.cellsOf 30 = 2 by kernel_rfl]
  have e : eqD x y = (eqR x.f0.f0 y.f0.f0 && (eqR x.f0.f1 y.f0.f1 && (eqR x.f0.f2 y.f0.f2 && (eqR x.f0.f3 y.f0.f3 && (eqR x.f0.f4 y.f0.f4 && (eqR x.f0.f5 y.f0.f5 && (eqR x.f0.f6 y.f0.f6 && true))))))) := by simp [eqD]
  rw [e]
  show (Op.eqItems (d + 2) 30 2 _ _ [0, 1, 2, 3, 4, 5, 6]).run Try.prog w = _
  refine qO (by kernel_rfl) (by kernel_rfl) (eqA30 d w _ _ _ _) ?_
  refine qO (by kernel_rfl) (by kernel_rfl) (eqA30 d w _ _ _ _) ?_
  refine qO (by kernel_rfl) (by kernel_rfl) (eqA30 d w _ _ _ _) ?_
  refine qO (by kernel_rfl) (by kernel_rfl) (eqA30 d w _ _ _ _) ?_
  refine qO (by kernel_rfl) (by kernel_rfl) (eqA30 d w _ _ _ _) ?_
  refine qO (by kernel_rfl) (by kernel_rfl) (eqA30 d w _ _ _ _) ?_
  refine qO (by kernel_rfl) (by kernel_rfl) (eqA30 d w _ _ _ _) ?_
  rfl
theorem eqA35 (d : Nat) (w : World) (x y : S35) :
    (Op.equalIn (d + 4) 35 (.agg #[.int .i64 x.f0.f0.f0, .int .i64 x.f0.f0.f1, .int .i64 x.f0.f1.f0, .int .i64 x.f0.f1.f1, .int .i64 x.f0.f2.f0, .int .i64 x.f0.f2.f1, .int .i64 x.f0.f3.f0, .int .i64 x.f0.f3.f1, .int .i64 x.f0.f4.f0, .int .i64 x.f0.f4.f1, .int .i64 x.f0.f5.f0, .int .i64 x.f0.f5.f1, .int .i64 x.f0.f6.f0, .int .i64 x.f0.f6.f1]) (.agg #[.int .i64 y.f0.f0.f0, .int .i64 y.f0.f0.f1, .int .i64 y.f0.f1.f0, .int .i64 y.f0.f1.f1, .int .i64 y.f0.f2.f0, .int .i64 y.f0.f2.f1, .int .i64 y.f0.f3.f0, .int .i64 y.f0.f3.f1, .int .i64 y.f0.f4.f0, .int .i64 y.f0.f4.f1, .int .i64 y.f0.f5.f0, .int .i64 y.f0.f5.f1, .int .i64 y.f0.f6.f0, .int .i64 y.f0.f6.f1])).run Try.prog w = .ok (eqD x y) w := by
  refine eqA_of Try.underlying35 (by kernel_rfl) ?_
  exact eqf_last (by rfl) (by kernel_rfl) (by kernel_rfl) (eqA33 d w x y)
theorem eqA37 (d : Nat) (w : World) (x y : S37) : (Op.equalIn (d + 5) 37 (uI x) (uI y)).run Try.prog w = .ok (eqN x y) w := by
  refine eqA_of Try.underlying37 (by kernel_rfl) ?_
  refine rL (by rfl) (by kernel_rfl) (by kernel_rfl) (run_equalIn_int w _ 3 .i64 .i64 x.f0 y.f0 Try.underlying3) ?_
  refine rL (by rfl) (by kernel_rfl) (by kernel_rfl) (run_equalIn_int w _ 3 .i64 .i64 x.f1 y.f1 Try.underlying3) ?_
  refine rL (by rfl) (by kernel_rfl) (by kernel_rfl) (run_equalIn_int w _ 3 .i64 .i64 x.f2 y.f2 Try.underlying3) ?_
  refine rL (by rfl) (by kernel_rfl) (by kernel_rfl) (run_equalIn_int w _ 3 .i64 .i64 x.f3 y.f3 Try.underlying3) ?_
  refine rL (by rfl) (by kernel_rfl) (by kernel_rfl) (eqA30 (d + 2) w x.f4.f0 y.f4.f0 x.f4.f1 y.f4.f1) ?_
  refine rL (by rfl) (by kernel_rfl) (by kernel_rfl) (eqA32 (d + 2) w x.f5.f0 y.f5.f0 x.f5.f1 y.f5.f1) ?_
  exact eqf_last (by rfl) (by kernel_rfl) (by kernel_rfl) (eqA35 d w x.f6 y.f6)
def idxN (L : List S37) (x : S37) : Option Nat := L.findIdx? (eqN x)
def rC (es : Array MapEntry) (L : List S37) : Prop := es.size = L.length ∧ ∀ (i : Nat) (y : S37), L[i]? = some y → ∃ b, es[i]? = some ⟨uI y, .int .i64 (i : Int), b⟩
theorem rC.push {es : Array MapEntry} {L : List S37} (h : rC es L) (x : S37) (b : Nat) : rC (es.push ⟨uI x, .int .i64 (L.length : Int), b⟩) (L ++ [x]) := by
  refine ⟨by simp [h.1], fun i y hi => ?_⟩
  rcases Nat.lt_or_ge i L.length with hl | hl
  · rw [List.getElem?_append_left hl] at hi
    obtain ⟨b', hb⟩ := h.2 i y hi
    refine ⟨b', ?_⟩
    rw [Array.getElem?_push, if_neg (by rw [h.1]; omega), hb]
  · rw [List.getElem?_append_right hl] at hi
    have hil : i = L.length := by
      have := (List.getElem?_eq_some_iff.1 hi).1
      simp at this
      omega
    subst hil
    obtain rfl : x = y := by simpa using hi
    exact ⟨b, by rw [← h.1]; simp⟩
theorem rC.nil : rC #[] [] := ⟨rfl, fun i y hi => by simp at hi⟩
theorem checkKey37 (b : Bool) (x : S37) (w : World) : (Instr.checkKey b 10000 37 (uI x)).run Try.prog w = .ok () w := by kernel_rfl
theorem find37 (x : S37) (w : World) : ∀ (es : List MapEntry) (L : List S37) (i : Nat), es.length = L.length → (∀ (j : Nat) (y : S37), L[j]? = some y → ∃ b, es[j]? = some ⟨uI y, .int .i64 ((i + j : Nat) : Int), b⟩) →
    (Instr.findAsking 37 (uI x) es i).run Try.prog w = .ok ((L.findIdx? (eqN x)).map fun j => (i + j, Value.int .i64 ((i + j : Nat) : Int))) w := by
  intro es
  induction es with
  | nil =>
    intro L i hl _
    obtain rfl : L = [] := List.eq_nil_of_length_eq_zero (by simpa using hl.symm)
    simp [Instr.findAsking]
  | cons e es ih =>
    intro L i hl h
    cases L with
    | nil => simp at hl
    | cons y L =>
      obtain ⟨b, hb⟩ := h 0 y rfl
      have he : e = ⟨uI y, .int .i64 ((i + 0 : Nat) : Int), b⟩ := by simpa using hb
      subst he
      have hq : (Op.equal 37 (uI x) (uI y)).run Try.prog w = .ok (eqN x y) w := eqA37 9995 w x y
      have hih := ih L (i + 1) (by simpa using hl) (fun j y' hj => by
        obtain ⟨b', hb'⟩ := h (j + 1) y' (by simpa using hj)
        exact ⟨b', by rw [show i + 1 + j = i + (j + 1) by omega]; simpa using hb'⟩)
      rw [Instr.findAsking, Sem.run_bind, hq, Result.andThen_ok]
      cases hxy : eqN x y with
      | true => simp [List.findIdx?_cons, hxy]
      | false =>
        simp only [Bool.false_eq_true, if_false]
        rw [hih, List.findIdx?_cons, hxy]
        simp only [Bool.false_eq_true, if_false, Option.map_map]
        congr 2
        funext j
        simp only [Function.comp]
        rw [show i + 1 + j = i + (j + 1) by omega]
theorem findKey37 (x : S37) (es : Array MapEntry) (L : List S37) (h : rC es L) (w : World) : (Instr.findKey 37 (uI x) es.toList).run Try.prog w = .ok ((idxN L x).map fun j => (j, Value.int .i64 (j : Int))) w := by
  have h1 := find37 x w es.toList L 0 (by simpa using h.1) (fun j y hj => by
    obtain ⟨b, hb⟩ := h.2 j y hj
    exact ⟨b, by simpa using hb⟩)
  simp only [Nat.zero_add] at h1
  unfold Instr.findKey
  rw [Sem.run_bind, run_underlying Try.underlying37, Result.andThen_ok]
  cases hl : es.toList with
  | nil =>
    have : L = [] := List.eq_nil_of_length_eq_zero (by rw [← h.1]; simp [← Array.length_toList, hl])
    subst this
    rfl
  | cons e l =>
    rw [hl] at h1
    have hz : L ≠ [] := fun e => by have := h.1; rw [e] at this; simp [← Array.length_toList, hl] at this
    obtain ⟨y, L', rfl⟩ := List.exists_cons_of_ne_nil hz
    obtain ⟨b, hb⟩ := h.2 0 y rfl
    have he : e = ⟨uI y, .int .i64 ((0 : Nat) : Int), b⟩ := by
      rw [← Array.getElem?_toList, hl] at hb
      simpa using hb
    subst he
    exact h1
theorem lookup69 (x : S37) (gM : Nat) (es : Array MapEntry) (cl : Nat) (L : List S37) (h : rC es L) (W : World) (hx : W.heap[gM]? = some (.map es cl)) :
    (Instr.lookup 69 (.map (some gM)) (uI x) true).run Try.prog W = .ok (.tuple #[.int .i64 (match idxN L x with | some j => (j : Int) | none => 0), .bool (idxN L x).isSome]) W := by
  unfold Instr.lookup
  simp only [Sem.run_bind, run_underlying Try.underlying69, Result.andThen_ok, Go.MapKept.run_getObj_map hx, Sem.run_pure, checkKey37, findKey37 x es L h W]
  cases idxN L x with
  | some j => rfl
  | none => rfl
theorem update69 (x : S37) (gM : Nat) (es : Array MapEntry) (cl : Nat) (L : List S37) (h : rC es L) (W : World) (v : Value) (hx : W.heap[gM]? = some (.map es cl)) (hn : idxN L x = none) :
    (Instr.mapUpdate 69 (.map (some gM)) (uI x) v).run Try.prog W = .ok () { W with heap := W.heap.setIfInBounds gM (.map (es.push ⟨uI x, v, cl⟩) (cl + 1)) } := by
  unfold Instr.mapUpdate
  simp only [Sem.run_bind, run_underlying Try.underlying69, Result.andThen_ok, Go.MapKept.run_getObj_map hx, Sem.run_pure, checkKey37, findKey37 x es L h W, hn, Option.map_none]
  exact Go.MapKept.run_setObj_map _ hx
structure rJ (g : Nat) (w W : World) : Prop where
  os : W.os = w.os
  tape : W.tape = w.tape
  output : W.output = w.output
  size : W.heap.size = w.heap.size
  other : ∀ k, k ≠ g → W.heap[k]? = w.heap[k]?
theorem rJ.below {g n : Nat} {w W : World} (h : rJ g w W) (hn : n ≤ g) : Below n w W := ⟨h.os, h.tape, h.output, by rw [h.size]; exact Nat.le_refl _, fun k hk => h.other k (by omega)⟩
theorem rJ.blk {g k : Nat} {w W : World} {o : Obj} (h : rJ g w W) (hx : w.heap[k]? = some o) (hk : k ≠ g) : W.heap[k]? = some o := (h.other k hk).trans hx
theorem rO (w : World) (g : Nat) (cs : Array Value) : rJ g w (w.setRow g cs) := ⟨rfl, rfl, rfl, setRow_size w g cs, fun k hk => setRow_other w g k cs hk⟩
theorem zR (w : World) (a : Addr) (v : Value) : rJ a.block w (w.setCell a v) := ⟨rfl, rfl, rfl, by simp, fun k hk => Below.heap_setCell w a v k hk⟩
section
variable {P : Program} {ops : Array Oper} {Q : Exit → Act → World → Prop} {rest : List Oper} {a : Act} {w : World} {d : Option Tmp} {t t0 ty : TypeId} {pos : String} {after : Array Edge}
theorem rW {p v : Operand} {g o : Nat} {cur c' : Array Value} (hp : a.eval p = .pointer (some ⟨g, o, none⟩)) (hv : a.eval v = .agg c') (hx : w.heap[g]? = some (.cells cur t0 (0, 0))) (hi : (P.info? t).map (·.size) = some c'.size) (ho : o + c'.size ≤ cur.size) (h1 : c'.all (·.oneCell') = true) :
    (execOp a.eval ⟨d, .store t p v, ty, pos, after, none⟩).run P w = .ok .skip (w.setRow g (cur.toList.take o ++ c'.toList ++ cur.toList.drop (o + c'.size)).toArray) := by
  have h2 := run_storeCells_at (P := P) g o t0 c'.toList 0 cur w hx (by simpa using ho) (fun v hv => (Array.all_eq_true_iff_forall_mem.1 h1) v (by simpa using hv))
  have h3 : (storeVar t ⟨g, o, none⟩ (.agg c')).run P w = .ok () (w.setRow g (cur.toList.take o ++ c'.toList ++ cur.toList.drop (o + c'.size)).toArray) := by
    cases hq : P.info? t with
    | none => simp [hq] at hi
    | some i =>
      have hs : c'.size = i.size := by simp [hq] at hi; omega
      have h2' := h2
      simp only [Nat.add_zero, Array.length_toList] at h2'
      simp [storeVar, sizeOf, typeInfo, hq, Value.cells, hs]
      simpa [hs] using h2'
  simp only [execOp, hp, hv, Instr.storeAt, Instr.sureAddr, Sem.run_bind, Sem.run_pure, Result.andThen, h3]
theorem uR {p v : Tmp} {g o : Nat} {cur c' cur' : Array Value} (hp : a.eval (.tmp p) = .pointer (some ⟨g, o, none⟩)) (hv : a.eval (.tmp v) = .agg c') (hx : w.heap[g]? = some (.cells cur t0 (0, 0))) (hi : (P.info? t).map (·.size) = some c'.size) (ho : o + c'.size ≤ cur.size) (h1 : c'.all (·.oneCell') = true)
    (hcur : (cur.toList.take o ++ c'.toList ++ cur.toList.drop (o + c'.size)).toArray = cur')
    (h : ∀ W1, W1.heap[g]? = some (.cells cur' t0 (0, 0)) → rJ g w W1 → wpList P ops Q rest a W1) :
    wpList P ops Q (⟨none, .store t (.tmp p) (.tmp v), ty, pos, after, none⟩ :: rest) a w :=
  oW rfl rfl rfl (rW hp hv hx hi ho h1) (fun w' e => by subst e; subst hcur; exact h _ (setRow_heap w g cur _ t0 (0, 0) hx) (rO w g _))
end
structure PG where
  L : List S37
  T : List Bool
  xD : Bool
def totN (x : S37) : Bool := (x.f0 != 6 && x.f0 != 9 && x.f0 != 11) && !(x.f0 == 8 && decide (x.f3 < 0))
def totB (x : S37) (T : List Bool) : Bool := totN x && (if 0 < zI x.f0 then zJ false T x.f1 && (if 1 < zI x.f0 then zJ false T x.f2 else true) else true)
def wJ (g : PG) (x : S37) : PG × Int :=
  match idxN g.L x with
  | some j => (g, (j : Int))
  | none => if 4000 ≤ g.L.length then (⟨g.L, g.T, true⟩, 0) else (⟨g.L ++ [x], g.T ++ [totB x g.T], g.xD⟩, (g.L.length : Int))
structure yB (ok : Nat → Prop) (w W : World) : Prop where
  os : W.os = w.os
  tape : W.tape = w.tape
  output : W.output = w.output
  size : w.heap.size ≤ W.heap.size
  other : ∀ k, k < w.heap.size → ¬ ok k → W.heap[k]? = w.heap[k]?
section
variable {ok : Nat → Prop} {A B C w W : World}
theorem yB.refl (ok : Nat → Prop) (w : World) : yB ok w w := ⟨rfl, rfl, rfl, Nat.le_refl _, fun _ _ _ => rfl⟩
theorem yB.trans (h : yB ok A B) (k : yB ok B C) : yB ok A C := ⟨k.os.trans h.os, k.tape.trans h.tape, k.output.trans h.output, Nat.le_trans h.size k.size, fun i hi ho => (k.other i (Nat.lt_of_lt_of_le hi h.size) ho).trans (h.other i hi ho)⟩
theorem yB.sP (h : Below w.heap.size w W) : yB ok w W := ⟨h.os, h.tape, h.output, h.size, fun i hi _ => h.block i hi⟩
theorem yB.of_one {g : Nat} (h : rJ g w W) (hg : ok g) : yB ok w W := ⟨h.os, h.tape, h.output, by rw [h.size]; exact Nat.le_refl _, fun i _ ho => h.other i (fun e => ho (e ▸ hg))⟩
theorem yB.of_grown {row : Option Nat} (h : w.grownBy W row) (hr : ∀ k, row = some k → ok k) : yB ok w W := ⟨h.os, h.tape, h.output, h.size, fun i hi ho => h.block i hi (fun e => ho (hr i e.symm))⟩
theorem yB.alloc (h : yB ok w W) (o : Obj) : yB ok w (W.alloc o) := h.trans (yB.sP (zY (Below.refl _ _) o))
theorem yB.drew (h : yB ok w W) : yB ok w W.drew := h.trans (yB.sP (yX (Below.refl _ _)))
theorem yB.step (h : yB ok w W) {W' : World} (hd : Below W.heap.size W W') : yB ok w W' := h.trans (yB.sP hd)
theorem yB.below {n : Nat} (h : yB ok w W) (hn : n ≤ w.heap.size) (ho : ∀ k, k < n → ¬ ok k) : Below n w W := ⟨h.os, h.tape, h.output, h.size, fun k hk => h.other k (by omega) (ho k hk)⟩
theorem yB.blk {g : Nat} {o : Obj} (h : yB ok w W) (hx : w.heap[g]? = some o) (hg : ¬ ok g) : W.heap[g]? = some o := (h.other g (zN hx) hg).trans hx
theorem yB.R {α : Type} {d : Kd α} {e base : Nat} {ok' : Nat → Prop} {v : Value} {xs : List α} (h : yB ok w W) (hr : d.R e w base ok' v xs) (hn : ∀ k, ok' k → ¬ ok k) : d.R e W base ok' v xs := Kd.pD hr (fun k hk hlt => h.other k hlt (hn k hk))
end
structure rH (base : Nat) (ok : Nat → Prop) (gG gM : Nat) (g : PG) (W : World) : Prop where
  blk : ∃ An cn At ct, W.heap[gG]? = some (.cells #[.slice An g.L.length cn, .slice At g.T.length ct, .map (some gM), .bool g.xD] 71 (0, 0)) ∧ Kd.R k37 37 W base ok (.slice An g.L.length cn) g.L ∧ Kd.R Kd.bool 4 W base ok (.slice At g.T.length ct) g.T
  map : ∃ es cl, W.heap[gM]? = some (.map es cl) ∧ rC es g.L
  len : g.T.length = g.L.length
  le : g.L.length ≤ 4000
  okG : ok gG
  okM : ok gM
  bG : base ≤ gG
  bM : base ≤ gM
theorem rH.step {base : Nat} {ok : Nat → Prop} {gG gM : Nat} {g : PG} {W W' : World} (h : rH base ok gG gM g W) (hd : Below W.heap.size W W') : rH base ok gG gM g W' := by
  obtain ⟨An, cn, At, ct, h1, h2, h3⟩ := h.blk
  obtain ⟨es, cl, h4, h5⟩ := h.map
  exact ⟨⟨An, cn, At, ct, bb_ h1 hd, Kd.zL h2 hd, Kd.zL h3 hd⟩, ⟨es, cl, bb_ h4 hd, h5⟩, h.len, h.le, h.okG, h.okM, h.bG, h.bM⟩
theorem map_set {W : World} {gM : Nat} {o o' : Obj} (hx : W.heap[gM]? = some o) : ({ W with heap := W.heap.setIfInBounds gM o' } : World).heap[gM]? = some o' ∧ ∀ k, k ≠ gM → ({ W with heap := W.heap.setIfInBounds gM o' } : World).heap[k]? = W.heap[k]? := Go.MapKept.heap_set hx
theorem map_one {W : World} {gM : Nat} {o o' : Obj} (hx : W.heap[gM]? = some o) : rJ gM W { W with heap := W.heap.setIfInBounds gM o' } := ⟨rfl, rfl, rfl, by simp, (map_set hx).2⟩
theorem idxN_none {L : List S37} {x : S37} : idxN L x = none ↔ x ∉ L := by
  unfold idxN
  rw [List.findIdx?_eq_none_iff]
  constructor
  · intro h hm
    have := h x hm
    rw [eqN_iff.2 rfl] at this
    cases this
  · intro h y hy
    cases he : eqN x y with
    | false => rfl
    | true => rw [eqN_iff.1 he] at h; exact absurd hy h
theorem idxN_some {L : List S37} {x : S37} {j : Nat} (h : idxN L x = some j) : L[j]? = some x ∧ j < L.length := by
  unfold idxN at h
  rw [List.findIdx?_eq_some_iff_getElem] at h
  obtain ⟨hj, he, _⟩ := h
  exact ⟨by rw [List.getElem?_eq_getElem hj, eqN_iff.1 he], hj⟩
def qC : Nat → Array Value
  | 0 => #[.int .i64 0, .int .i64 0, .int .i64 0, .int .i64 0, .int .i64 0, .int .i64 0, .int .i64 0, .int .i64 0, .int .i64 0, .int .i64 0, .int .i64 0, .int .i64 0, .int .i64 0, .int .i64 0]
  | 1 => #[.int .i64 0, .int .i64 1, .int .i64 0, .int .i64 0, .int .i64 0, .int .i64 0, .int .i64 0, .int .i64 0, .int .i64 0, .int .i64 0, .int .i64 0, .int .i64 0, .int .i64 0, .int .i64 0]
  | 2 => #[.int .i64 0, .int .i64 1, .int .i64 0, .int .i64 1, .int .i64 0, .int .i64 0, .int .i64 0, .int .i64 0, .int .i64 0, .int .i64 0, .int .i64 0, .int .i64 0, .int .i64 0, .int .i64 0]
  | 3 => #[.int .i64 0, .int .i64 1, .int .i64 0, .int .i64 1, .int .i64 0, .int .i64 1, .int .i64 0, .int .i64 0, .int .i64 0, .int .i64 0, .int .i64 0, .int .i64 0, .int .i64 0, .int .i64 0]
  | 4 => #[.int .i64 0, .int .i64 1, .int .i64 0, .int .i64 1, .int .i64 0, .int .i64 1, .int .i64 0, .int .i64 1, .int .i64 0, .int .i64 0, .int .i64 0, .int .i64 0, .int .i64 0, .int .i64 0]
  | 5 => #[.int .i64 0, .int .i64 1, .int .i64 0, .int .i64 1, .int .i64 0, .int .i64 1, .int .i64 0, .int .i64 1, .int .i64 0, .int .i64 1, .int .i64 0, .int .i64 0, .int .i64 0, .int .i64 0]
  | 6 => #[.int .i64 0, .int .i64 1, .int .i64 0, .int .i64 1, .int .i64 0, .int .i64 1, .int .i64 0, .int .i64 1, .int .i64 0, .int .i64 1, .int .i64 0, .int .i64 1, .int .i64 0, .int .i64 0]
  | _ => #[.int .i64 0, .int .i64 1, .int .i64 0, .int .i64 1, .int .i64 0, .int .i64 1, .int .i64 0, .int .i64 1, .int .i64 0, .int .i64 1, .int .i64 0, .int .i64 1, .int .i64 0, .int .i64 1]
theorem plain41 (w : World) : Calls Try.prog 41 #[] w fun e w' => e = .returned (.agg #[.int .i64 0, .int .i64 1, .int .i64 0, .int .i64 1, .int .i64 0, .int .i64 1, .int .i64 0, .int .i64 1, .int .i64 0, .int .i64 1, .int .i64 0, .int .i64 1, .int .i64 0, .int .i64 1]) ∧ Below w.heap.size w w' := by
  have hu33 := Try.underlying33
  have hu30 := Try.underlying30
  have hu35 := Try.underlying35
  have hx0 := heap_alloc_last w (.cells #[.int .i64 0, .int .i64 0, .int .i64 0, .int .i64 0, .int .i64 0, .int .i64 0, .int .i64 0, .int .i64 0, .int .i64 0, .int .i64 0, .int .i64 0, .int .i64 0, .int .i64 0, .int .i64 0] 35)
  have hx1 := heap_alloc_last (w.alloc (.cells #[.int .i64 0, .int .i64 0, .int .i64 0, .int .i64 0, .int .i64 0, .int .i64 0, .int .i64 0, .int .i64 0, .int .i64 0, .int .i64 0, .int .i64 0, .int .i64 0, .int .i64 0, .int .i64 0] 35)) (.cells #[.int .i64 0, .int .i64 0, .int .i64 0, .int .i64 0, .int .i64 0, .int .i64 0, .int .i64 0, .int .i64 0, .int .i64 0, .int .i64 0, .int .i64 0, .int .i64 0, .int .i64 0, .int .i64 0] 35)
  have hb := zY (zY (Below.refl w.heap.size w) (.cells #[.int .i64 0, .int .i64 0, .int .i64 0, .int .i64 0, .int .i64 0, .int .i64 0, .int .i64 0, .int .i64 0, .int .i64 0, .int .i64 0, .int .i64 0, .int .i64 0, .int .i64 0, .int .i64 0] 35)) (.cells #[.int .i64 0, .int .i64 0, .int .i64 0, .int .i64 0, .int .i64 0, .int .i64 0, .int .i64 0, .int .i64 0, .int .i64 0, .int .i64 0, .int .i64 0, .int .i64 0, .int .i64 0, .int .i64 0] 35)
  have hx0' := zM hx0 (.cells #[.int .i64 0, .int .i64 0, .int .i64 0, .int .i64 0, .int .i64 0, .int .i64 0, .int .i64 0, .int .i64 0, .int .i64 0, .int .i64 0, .int .i64 0, .int .i64 0, .int .i64 0, .int .i64 0] 35)
  clear hx0
  have HB := aq hb
  have HX0 := aq hx0'
  have HX1 := aq hx1
  clear hb hx0' hx1
  go_enter Try.func41, Try.ntmps41
  go_wp2
  have hg : (w.alloc (.cells #[.int .i64 0, .int .i64 0, .int .i64 0, .int .i64 0, .int .i64 0, .int .i64 0, .int .i64 0, .int .i64 0, .int .i64 0, .int .i64 0, .int .i64 0, .int .i64 0, .int .i64 0, .int .i64 0] 35)).heap.size = w.heap.size + 1 := by simp
  rw [hg] at HX1
  try rw [hg]
  generalize (w.alloc (.cells #[.int .i64 0, .int .i64 0, .int .i64 0, .int .i64 0, .int .i64 0, .int .i64 0, .int .i64 0, .int .i64 0, .int .i64 0, .int .i64 0, .int .i64 0, .int .i64 0, .int .i64 0, .int .i64 0] 35)).alloc (.cells #[.int .i64 0, .int .i64 0, .int .i64 0, .int .i64 0, .int .i64 0, .int .i64 0, .int .i64 0, .int .i64 0, .int .i64 0, .int .i64 0, .int .i64 0, .int .i64 0, .int .i64 0, .int .i64 0] 35) = W1 at HB HX0 HX1 ⊢
  go_loopw [3] (fun i wr => ∃ j : Nat, i = .int .i64 (j : Int) ∧ zT (j ≤ 7) ∧ zT (Below w.heap.size w wr) ∧ zT (wr.heap[w.heap.size]? = some (.cells #[.int .i64 0, .int .i64 0, .int .i64 0, .int .i64 0, .int .i64 0, .int .i64 0, .int .i64 0, .int .i64 0, .int .i64 0, .int .i64 0, .int .i64 0, .int .i64 0, .int .i64 0, .int .i64 0] 35 (0, 0))) ∧ zT (wr.heap[w.heap.size + 1]? = some (.cells (qC j) 35 (0, 0)))) (fun i _ => 7 - (intOf i).toNat)
  case atStart => exact ⟨0, rfl, ⟨by omega⟩, HB, HX0, HX1⟩
  case round =>
    obtain ⟨j, rfl, HJ, HB', HX0', HX1'⟩ := hrel
    clear HB HX0 HX1
    rcases (show j = 0 ∨ j = 1 ∨ j = 2 ∨ j = 3 ∨ j = 4 ∨ j = 5 ∨ j = 6 ∨ j = 7 by have := HJ.out; omega) with rfl | rfl | rfl | rfl | rfl | rfl | rfl | rfl
    · have hx : wr.heap[w.heap.size + 1]? = some (.cells #[.int .i64 0, .int .i64 0, .int .i64 0, .int .i64 0, .int .i64 0, .int .i64 0, .int .i64 0, .int .i64 0, .int .i64 0, .int .i64 0, .int .i64 0, .int .i64 0, .int .i64 0, .int .i64 0] 35 (0, 0)) := HX1'.out
      have hz := (bq hx 1).trans (show _ = some (.int .i64 0) from rfl)
      have hf := bf_ hx 1
      have hs : (wr.setCell ⟨w.heap.size + 1, 1, none⟩ (.int .i64 1)).heap[w.heap.size + 1]? = some (.cells (qC 1) 35 (0, 0)) := yP hx 1 (.int .i64 1)
      have hs0 := yQ (p := ⟨w.heap.size + 1, 1, none⟩) HX0'.out (by simp) (.int .i64 1)
      have hsb := bs_ (g := w.heap.size + 1) (j := 1) (v := .int .i64 1) HB'.out (by omega)
      have HS := aq hs
      have HS0 := aq hs0
      have HSB := aq hsb
      clear hs hs0 hsb hx HX1' HJ
      go_wp2
      exact ⟨⟨1, rfl, ⟨by omega⟩, HSB, HS0, HS⟩, by simp [intOf]⟩
    · have hx : wr.heap[w.heap.size + 1]? = some (.cells #[.int .i64 0, .int .i64 1, .int .i64 0, .int .i64 0, .int .i64 0, .int .i64 0, .int .i64 0, .int .i64 0, .int .i64 0, .int .i64 0, .int .i64 0, .int .i64 0, .int .i64 0, .int .i64 0] 35 (0, 0)) := HX1'.out
      have hz := (bq hx 3).trans (show _ = some (.int .i64 0) from rfl)
      have hf := bf_ hx 3
      have hs : (wr.setCell ⟨w.heap.size + 1, 3, none⟩ (.int .i64 1)).heap[w.heap.size + 1]? = some (.cells (qC 2) 35 (0, 0)) := yP hx 3 (.int .i64 1)
      have hs0 := yQ (p := ⟨w.heap.size + 1, 3, none⟩) HX0'.out (by simp) (.int .i64 1)
      have hsb := bs_ (g := w.heap.size + 1) (j := 3) (v := .int .i64 1) HB'.out (by omega)
      have HS := aq hs
      have HS0 := aq hs0
      have HSB := aq hsb
      clear hs hs0 hsb hx HX1' HJ
      go_wp2
      exact ⟨⟨2, rfl, ⟨by omega⟩, HSB, HS0, HS⟩, by simp [intOf]⟩
    · have hx : wr.heap[w.heap.size + 1]? = some (.cells #[.int .i64 0, .int .i64 1, .int .i64 0, .int .i64 1, .int .i64 0, .int .i64 0, .int .i64 0, .int .i64 0, .int .i64 0, .int .i64 0, .int .i64 0, .int .i64 0, .int .i64 0, .int .i64 0] 35 (0, 0)) := HX1'.out
      have hz := (bq hx 5).trans (show _ = some (.int .i64 0) from rfl)
      have hf := bf_ hx 5
      have hs : (wr.setCell ⟨w.heap.size + 1, 5, none⟩ (.int .i64 1)).heap[w.heap.size + 1]? = some (.cells (qC 3) 35 (0, 0)) := yP hx 5 (.int .i64 1)
      have hs0 := yQ (p := ⟨w.heap.size + 1, 5, none⟩) HX0'.out (by simp) (.int .i64 1)
      have hsb := bs_ (g := w.heap.size + 1) (j := 5) (v := .int .i64 1) HB'.out (by omega)
      have HS := aq hs
      have HS0 := aq hs0
      have HSB := aq hsb
      clear hs hs0 hsb hx HX1' HJ
      go_wp2
      exact ⟨⟨3, rfl, ⟨by omega⟩, HSB, HS0, HS⟩, by simp [intOf]⟩
    · have hx : wr.heap[w.heap.size + 1]? = some (.cells #[.int .i64 0, .int .i64 1, .int .i64 0, .int .i64 1, .int .i64 0, .int .i64 1, .int .i64 0, .int .i64 0, .int .i64 0, .int .i64 0, .int .i64 0, .int .i64 0, .int .i64 0, .int .i64 0] 35 (0, 0)) := HX1'.out
      have hz := (bq hx 7).trans (show _ = some (.int .i64 0) from rfl)
      have hf := bf_ hx 7
      have hs : (wr.setCell ⟨w.heap.size + 1, 7, none⟩ (.int .i64 1)).heap[w.heap.size + 1]? = some (.cells (qC 4) 35 (0, 0)) := yP hx 7 (.int .i64 1)
      have hs0 := yQ (p := ⟨w.heap.size + 1, 7, none⟩) HX0'.out (by simp) (.int .i64 1)
      have hsb := bs_ (g := w.heap.size + 1) (j := 7) (v := .int .i64 1) HB'.out (by omega)
      have HS := aq hs
      have HS0 := aq hs0
      have HSB := aq hsb
      clear hs hs0 hsb hx HX1' HJ
      go_wp2
      exact ⟨⟨4, rfl, ⟨by omega⟩, HSB, HS0, HS⟩, by simp [intOf]⟩
    · have hx : wr.heap[w.heap.size + 1]? = some (.cells #[.int .i64 0, .int .i64 1, .int .i64 0, .int .i64 1, .int .i64 0, .int .i64 1, .int .i64 0, .int .i64 1, .int .i64 0, .int .i64 0, .int .i64 0, .int .i64 0, .int .i64 0, .int .i64 0] 35 (0, 0)) := HX1'.out
      have hz := (bq hx 9).trans (show _ = some (.int .i64 0) from rfl)
      have hf := bf_ hx 9
      have hs : (wr.setCell ⟨w.heap.size + 1, 9, none⟩ (.int .i64 1)).heap[w.heap.size + 1]? = some (.cells (qC 5) 35 (0, 0)) := yP hx 9 (.int .i64 1)
      have hs0 := yQ (p := ⟨w.heap.size + 1, 9, none⟩) HX0'.out (by simp) (.int .i64 1)
      have hsb := bs_ (g := w.heap.size + 1) (j := 9) (v := .int .i64 1) HB'.out (by omega)
      have HS := aq hs
      have HS0 := aq hs0
      have HSB := aq hsb
      clear hs hs0 hsb hx HX1' HJ
      go_wp2
      exact ⟨⟨5, rfl, ⟨by omega⟩, HSB, HS0, HS⟩, by simp [intOf]⟩
    · have hx : wr.heap[w.heap.size + 1]? = some (.cells #[.int .i64 0, .int .i64 1, .int .i64 0, .int .i64 1, .int .i64 0, .int .i64 1, .int .i64 0, .int .i64 1, .int .i64 0, .int .i64 1, .int .i64 0, .int .i64 0, .int .i64 0, .int .i64 0] 35 (0, 0)) := HX1'.out
      have hz := (bq hx 11).trans (show _ = some (.int .i64 0) from rfl)
      have hf := bf_ hx 11
      have hs : (wr.setCell ⟨w.heap.size + 1, 11, none⟩ (.int .i64 1)).heap[w.heap.size + 1]? = some (.cells (qC 6) 35 (0, 0)) := yP hx 11 (.int .i64 1)
      have hs0 := yQ (p := ⟨w.heap.size + 1, 11, none⟩) HX0'.out (by simp) (.int .i64 1)
      have hsb := bs_ (g := w.heap.size + 1) (j := 11) (v := .int .i64 1) HB'.out (by omega)
      have HS := aq hs
      have HS0 := aq hs0
      have HSB := aq hsb
      clear hs hs0 hsb hx HX1' HJ
      go_wp2
      exact ⟨⟨6, rfl, ⟨by omega⟩, HSB, HS0, HS⟩, by simp [intOf]⟩
    · have hx : wr.heap[w.heap.size + 1]? = some (.cells #[.int .i64 0, .int .i64 1, .int .i64 0, .int .i64 1, .int .i64 0, .int .i64 1, .int .i64 0, .int .i64 1, .int .i64 0, .int .i64 1, .int .i64 0, .int .i64 1, .int .i64 0, .int .i64 0] 35 (0, 0)) := HX1'.out
      have hz := (bq hx 13).trans (show _ = some (.int .i64 0) from rfl)
      have hf := bf_ hx 13
      have hs : (wr.setCell ⟨w.heap.size + 1, 13, none⟩ (.int .i64 1)).heap[w.heap.size + 1]? = some (.cells (qC 7) 35 (0, 0)) := yP hx 13 (.int .i64 1)
      have hs0 := yQ (p := ⟨w.heap.size + 1, 13, none⟩) HX0'.out (by simp) (.int .i64 1)
      have hsb := bs_ (g := w.heap.size + 1) (j := 13) (v := .int .i64 1) HB'.out (by omega)
      have HS := aq hs
      have HS0 := aq hs0
      have HSB := aq hsb
      clear hs hs0 hsb hx HX1' HJ
      go_wp2
      exact ⟨⟨7, rfl, ⟨by omega⟩, HSB, HS0, HS⟩, by simp [intOf]⟩
    · have hx : wr.heap[w.heap.size + 1]? = some (.cells #[.int .i64 0, .int .i64 1, .int .i64 0, .int .i64 1, .int .i64 0, .int .i64 1, .int .i64 0, .int .i64 1, .int .i64 0, .int .i64 1, .int .i64 0, .int .i64 1, .int .i64 0, .int .i64 1] 35 (0, 0)) := HX1'.out
      have hx0 := HX0'.out
      have z0 := (bq hx 0).trans (show _ = some (.int .i64 0) from rfl)
      have z1 := (bq hx 1).trans (show _ = some (.int .i64 1) from rfl)
      have z2 := (bq hx 2).trans (show _ = some (.int .i64 0) from rfl)
      have z3 := (bq hx 3).trans (show _ = some (.int .i64 1) from rfl)
      have z4 := (bq hx 4).trans (show _ = some (.int .i64 0) from rfl)
      have z5 := (bq hx 5).trans (show _ = some (.int .i64 1) from rfl)
      have z6 := (bq hx 6).trans (show _ = some (.int .i64 0) from rfl)
      have z7 := (bq hx 7).trans (show _ = some (.int .i64 1) from rfl)
      have z8 := (bq hx 8).trans (show _ = some (.int .i64 0) from rfl)
      have z9 := (bq hx 9).trans (show _ = some (.int .i64 1) from rfl)
      have z10 := (bq hx 10).trans (show _ = some (.int .i64 0) from rfl)
      have z11 := (bq hx 11).trans (show _ = some (.int .i64 1) from rfl)
      have z12 := (bq hx 12).trans (show _ = some (.int .i64 0) from rfl)
      have z13 := (bq hx 13).trans (show _ = some (.int .i64 1) from rfl)
      go_wp2_with (with_reducible refine tD 35 ?_; refine uR (t := 35) (c' := #[.int .i64 0, .int .i64 1, .int .i64 0, .int .i64 1, .int .i64 0, .int .i64 1, .int .i64 0, .int .i64 1, .int .i64 0, .int .i64 1, .int .i64 0, .int .i64 1, .int .i64 0, .int .i64 1]) (cur' := #[.int .i64 0, .int .i64 1, .int .i64 0, .int .i64 1, .int .i64 0, .int .i64 1, .int .i64 0, .int .i64 1, .int .i64 0, .int .i64 1, .int .i64 0, .int .i64 1, .int .i64 0, .int .i64 1]) rfl rfl hx0 (by kernel_rfl) (by simp) (by kernel_rfl) rfl ?_; intro W2 hx2 h1; have HX2 := aq hx2; have H1 := aq h1; clear hx2 h1)
      exact bodyPost_ret (results_cell_row (p := 0) (ty := 35) rfl _ _ w.heap.size 35 _ (0, 0) _ rfl HX2.out hu35 rfl (by kernel_rfl)) rfl ⟨rfl, HB'.out.trans (H1.out.below (Nat.le_refl _))⟩
section
variable {P : Program} {ops : Array Oper} {Q : Exit → Act → World → Prop} {md : Region.Mode}
theorem wpAny_keeps {Inv : Array Bool → Act → World → Prop} (he : ∀ l a w, Inv l a w → Region.ready md ops l = [] → Q .normal a w)
    (hs : ∀ l a w, Inv l a w → ∀ i ∈ Region.ready md ops l, wpOp P ops Q i (Inv (l.setIfInBounds i true)) a w) :
    ∀ (fuel : Nat) (l : Array Bool) (a : Act) (w : World), Inv l a w → l.toList.count false ≤ fuel → wpAny P md ops Q fuel l a w := by
  have key : ∀ (l : Array Bool) (i : Nat), i ∈ Region.ready md ops l → l.toList.count false = (l.setIfInBounds i true).toList.count false + 1 := by
    intro l i hi
    obtain ⟨h1, _⟩ := mem_ready.1 hi
    by_cases hlt : i < l.size
    · have hlt' : i < l.toList.length := by simpa using hlt
      have h2 : l.toList[i] = false := by simpa [Array.getD, hlt] using h1
      rw [Array.toList_setIfInBounds]
      have hc := List.count_set (l := l.toList) (a := true) (b := false) hlt'
      rw [h2] at hc
      have : 0 < l.toList.count false := List.count_pos_iff.2 (h2 ▸ List.getElem_mem hlt')
      rw [if_pos (by rfl), if_neg (by decide)] at hc
      omega
    · simp [Array.getD, hlt] at h1
  intro fuel
  induction fuel with
  | zero =>
    intro l a w h hc
    have hr : Region.ready md ops l = [] := List.eq_nil_iff_forall_not_mem.2 fun i hi => by have := key l i hi; omega
    exact ⟨hr, he l a w h hr⟩
  | succ fuel ih =>
    intro l a w h hc
    refine ⟨fun hr => he l a w h hr, fun i hi => wpOp_mono (fun a' w' h' => ih _ a' w' h' ?_) (hs l a w h i hi)⟩
    have := key l i hi
    omega
theorem wpOp_of {i : Nat} {K : Act → World → Prop} {a : Act} {w : World} {o : Oper} (ho : ops[i]? = some o) (hg : o.guard = none) (h : Oper.wp P o a w K Q) : wpOp P ops Q i K a w := by
  unfold wpOp
  rw [ho]
  simp only
  rw [if_pos (by unfold Region.wanted; rw [hg])]
  exact Or.inl h
theorem wpOp_if {i : Nat} {K : Act → World → Prop} {a : Act} {w : World} {o : Oper} (ho : ops[i]? = some o) (h : if Region.wanted o (yielded ops a.tmps) = true then Oper.wp P o a w K Q else K (a.put o.dst undef) w) : wpOp P ops Q i K a w := by
  unfold wpOp
  rw [ho]
  simp only
  split
  · rw [if_pos (by assumption)] at h; exact Or.inl h
  · rw [if_neg (by assumption)] at h; exact h
theorem ready_lt {l : Array Bool} {i : Nat} (hi : i ∈ Region.ready md ops l) : i < ops.size := by
  obtain ⟨_, o, ho, _⟩ := mem_ready.1 hi
  exact (Array.getElem?_eq_some_iff.1 ho).1
theorem qY {l : Array Bool} {i : Nat} (j : Nat) (hi : i ∈ Region.ready md ops l) (h : ((ops[i]?).map fun o => o.after.toList.any fun e => Region.binds md e && e.on == j) = some true) : l.getD j false = true := by
  obtain ⟨_, o, ho, hall⟩ := mem_ready.1 hi
  rw [ho] at h
  simp only [Option.map_some, Option.some.injEq, List.any_eq_true, Bool.and_eq_true, beq_iff_eq] at h
  obtain ⟨e, he, hb, rfl⟩ := h
  exact hall e (Array.mem_def.2 he) hb
theorem ready_all {l : Array Bool} (hr : Region.ready md ops l = []) (hsz : l.size = ops.size) (hb : ((List.range ops.size).all fun j => (ops[j]?).all fun o => o.after.toList.all fun e => decide (e.on < j)) = true) : ∀ j, j < ops.size → l.getD j false = true := by
  intro j
  induction j using Nat.strongRecOn with
  | _ j ih =>
    intro hj
    have h1 := List.all_eq_true.1 hb j (List.mem_range.2 hj)
    rw [Array.getElem?_eq_getElem hj, Option.all_some] at h1
    by_cases hl : l.getD j false = true
    · exact hl
    · exfalso
      have : j ∈ Region.ready md ops l := by
        refine mem_ready.2 ⟨?_, ops[j], Array.getElem?_eq_getElem hj, fun e he _ => ?_⟩
        · have hlt : j < l.size := by omega
          simp [Array.getD, hlt] at hl ⊢
          exact hl
        · have := List.all_eq_true.1 h1 e (Array.mem_def.1 he)
          have hlt := of_decide_eq_true this
          exact ih _ hlt (by omega)
      rw [hr] at this
      cases this
theorem xM {l : Array Bool} {i j : Nat} (h : (l.setIfInBounds i true).getD j false = true) (hne : i ≠ j) : l.getD j false = true := by
  rwa [getD_set_ne false hne] at h
end
section
variable {ops : Array Oper} {md : Region.Mode} {l : Array Bool} {i : Nat}
theorem ready_not (hi : i ∈ Region.ready md ops l) (h : l.getD i false = true) : False := by
  obtain ⟨h1, _⟩ := mem_ready.1 hi
  by_cases hlt : i < l.size
  · simp [Array.getD, hlt] at h h1
    rw [h1] at h
    cases h
  · simp [Array.getD, hlt] at h1
end
def fr65 (n₀ : Nat) (v3 v5 v6 v7 v8 : Value) : Act := { tmps := #[.int .i64 0, undef, .pointer (some ⟨n₀, 0, none⟩), v3, undef, v5, v6, v7, v8, undef, undef, undef, undef, undef, undef, undef, undef, undef, undef, undef, undef, undef], defers := [] }
def In65 (w : World) (l : Array Bool) (a : Act) (W : World) : Prop :=
  l.size = 6 ∧ (l.getD 5 false = true → l.getD 4 false = true) ∧ ∃ v3 v5 v6 v7 v8, a = fr65 w.heap.size v3 v5 v6 v7 v8 ∧ Below w.heap.size w W ∧ W.heap[w.heap.size]? = some (.cells #[.slice none 0 0, .int .i64 0, .int .i64 0, .int .i64 0, .int .i64 0, .int .i64 0, .int .i64 0, .int .i64 0, .int .i64 0, .int .i64 0, .int .i64 0, .int .i64 0, .int .i64 0, .int .i64 0, .int .i64 0] 117 (0, 0)) ∧
    (l.getD 0 false = true → v5 = .int .i64 0) ∧ (l.getD 1 false = true → ∃ g : Nat, v6 = .slice (some ⟨g, 0, none⟩) 0 0) ∧ (l.getD 2 false = true → v7 = .agg #[.int .i64 0, .int .i64 1, .int .i64 0, .int .i64 1, .int .i64 0, .int .i64 1, .int .i64 0, .int .i64 1, .int .i64 0, .int .i64 1, .int .i64 0, .int .i64 1, .int .i64 0, .int .i64 1]) ∧
    (l.getD 3 false = true → ∃ g : Nat, v8 = .agg #[.slice (some ⟨g, 0, none⟩) 0 0, .int .i64 0, .int .i64 1, .int .i64 0, .int .i64 1, .int .i64 0, .int .i64 1, .int .i64 0, .int .i64 1, .int .i64 0, .int .i64 1, .int .i64 0, .int .i64 1, .int .i64 0, .int .i64 1]) ∧
    (l.getD 4 false = true → ∃ g3 : Nat, v3 = .pointer (some ⟨g3, 0, none⟩) ∧ w.heap.size < g3 ∧ ∃ cs : Array Value, cs.size = 15 ∧ W.heap[g3]? = some (.cells cs 117 (0, 0)) ∧ (l.getD 5 false = true → ∃ g : Nat, cs = #[.slice (some ⟨g, 0, none⟩) 0 0, .int .i64 0, .int .i64 1, .int .i64 0, .int .i64 1, .int .i64 0, .int .i64 1, .int .i64 0, .int .i64 1, .int .i64 0, .int .i64 1, .int .i64 0, .int .i64 1, .int .i64 0, .int .i64 1]))
section
variable {P : Program} {o : Oper} {a : Act} {W W1 : World} {v : Value} {K : Act → World → Prop} {Q : Exit → Act → World → Prop}
theorem wp_value (hr : (execOp a.eval o).run P W = .ok (.value v) W1) (h : K (a.put o.dst v) W1) : Oper.wp P o a W K Q := by unfold Oper.wp; rw [hr]; exact h
theorem wp_skip (hr : (execOp a.eval o).run P W = .ok .skip W1) (h : K (a.put o.dst undef) W1) : Oper.wp P o a W K Q := by unfold Oper.wp; rw [hr]; exact h
end
theorem form65 (w : World) : Calls Try.prog 65 #[.int .i64 0] w fun e w' => (∃ g : Nat, e = .returned (.agg #[.slice (some ⟨g, 0, none⟩) 0 0, .int .i64 0, .int .i64 1, .int .i64 0, .int .i64 1, .int .i64 0, .int .i64 1, .int .i64 0, .int .i64 1, .int .i64 0, .int .i64 1, .int .i64 0, .int .i64 1, .int .i64 0, .int .i64 1])) ∧ Below w.heap.size w w' := by
  have hu117 := Try.underlying117
  have hx0 := heap_alloc_last w (.cells #[.slice none 0 0, .int .i64 0, .int .i64 0, .int .i64 0, .int .i64 0, .int .i64 0, .int .i64 0, .int .i64 0, .int .i64 0, .int .i64 0, .int .i64 0, .int .i64 0, .int .i64 0, .int .i64 0, .int .i64 0] 117)
  have hb := zY (Below.refl w.heap.size w) (.cells #[.slice none 0 0, .int .i64 0, .int .i64 0, .int .i64 0, .int .i64 0, .int .i64 0, .int .i64 0, .int .i64 0, .int .i64 0, .int .i64 0, .int .i64 0, .int .i64 0, .int .i64 0, .int .i64 0, .int .i64 0] 117)
  have HX := aq hx0
  have HB := aq hb
  clear hx0 hb
  go_enter Try.func65, Try.ntmps65
  go_wp2
  rename_i hK_
  have LN : ∀ (m j : Nat), (Array.replicate m false).getD j false = true → False := fun m j h => by
    by_cases hj : j < m <;> simp [Array.getD, hj] at h
  refine wp_region_any rfl (wpAny_keeps (Inv := In65 w) ?he ?hs _ _ _ _ ?h0 (by decide))
  case h0 =>
    exact ⟨by rw [Array.size_replicate]; rfl, fun h => (LN _ _ h).elim, undef, undef, undef, undef, undef, rfl, zQ HB.out, xJ HX.out, fun h => (LN _ _ h).elim, fun h => (LN _ _ h).elim, fun h => (LN _ _ h).elim, fun h => (LN _ _ h).elim, fun h => (LN _ _ h).elim⟩
  case hs =>
    intro l a W ⟨hsz, hd5, v3, v5, v6, v7, v8, ha, hB, hX, h0, h1, h2, h3, h4⟩ i hi
    subst ha
    have hlt : i < 6 := ready_lt hi
    have h5no : i = 4 → l.getD 5 false = true → False := fun e h => by subst e; exact ready_not hi (hd5 h)
    rcases (by omega : i = 0 ∨ i = 1 ∨ i = 2 ∨ i = 3 ∨ i = 4 ∨ i = 5) with rfl | rfl | rfl | rfl | rfl | rfl
    · refine wpOp_of rfl rfl ?_
      unfold Oper.wp
      rw [BigFrame.run_move _ rfl]
      exact ⟨(Array.size_setIfInBounds ..).trans hsz, fun h => getD_set_true (hd5 (xM h (by decide))), v3, _, v6, v7, v8, rfl, hB, hX, fun _ => rfl, fun h => h1 (xM h (by decide)), fun h => h2 (xM h (by decide)), fun h => h3 (xM h (by decide)), fun h => by
        obtain ⟨g3, e, hg, cs, hc, hh, h5⟩ := h4 (xM h (by decide)); exact ⟨g3, e, hg, cs, hc, hh, fun h => h5 (xM h (by decide))⟩⟩
    · obtain rfl := h0 (qY 0 hi rfl)
      refine wpOp_of rfl rfl (wp_value (v := .slice (some ⟨W.heap.size, 0, none⟩) 0 0) (W1 := W.alloc (.cells #[] 30)) (by kernel_rfl) ?_)
      exact ⟨(Array.size_setIfInBounds ..).trans hsz, fun h => getD_set_true (hd5 (xM h (by decide))), v3, _, _, v7, v8, rfl, hB.alloc hB.size _, zM hX _, fun _ => rfl, fun _ => ⟨_, rfl⟩, fun h => h2 (xM h (by decide)), fun h => h3 (xM h (by decide)), fun h => by
        obtain ⟨g3, e, hg, cs, hc, hh, h5⟩ := h4 (xM h (by decide)); exact ⟨g3, e, hg, cs, hc, zM hh _, fun h => h5 (xM h (by decide))⟩⟩
    · refine wpOp_if rfl (uN Try.func41 (by kernel_rfl) rfl #[] (by rfl) rfl rfl (by (try simp only [List.map_toArray, List.map_nil]); first | done | rfl) ?_)
      refine (plain41 W).mono ?_
      rintro e W7 ⟨rfl, hd⟩
      refine ⟨_, rfl, ?_⟩
      exact ⟨(Array.size_setIfInBounds ..).trans hsz, fun h => getD_set_true (hd5 (xM h (by decide))), v3, v5, v6, _, v8, rfl, bt_ hB hd, bb_ hX hd, fun h => h0 (xM h (by decide)), fun h => h1 (xM h (by decide)), fun _ => rfl, fun h => h3 (xM h (by decide)), fun h => by
        obtain ⟨g3, e, hg, cs, hc, hh, h5⟩ := h4 (xM h (by decide)); exact ⟨g3, e, hg, cs, hc, bb_ hh hd, fun h => h5 (xM h (by decide))⟩⟩
    · obtain ⟨g, rfl⟩ := h1 (qY 1 hi rfl)
      obtain rfl := h2 (qY 2 hi rfl)
      refine wpOp_of rfl rfl (wp_value (v := .agg #[.slice (some ⟨g, 0, none⟩) 0 0, .int .i64 0, .int .i64 1, .int .i64 0, .int .i64 1, .int .i64 0, .int .i64 1, .int .i64 0, .int .i64 1, .int .i64 0, .int .i64 1, .int .i64 0, .int .i64 1, .int .i64 0, .int .i64 1]) (W1 := W) (by kernel_rfl) ?_)
      exact ⟨(Array.size_setIfInBounds ..).trans hsz, fun h => getD_set_true (hd5 (xM h (by decide))), v3, v5, _, _, _, rfl, hB, hX, fun h => h0 (xM h (by decide)), fun _ => ⟨g, rfl⟩, fun _ => rfl, fun _ => ⟨g, rfl⟩, fun h => by
        obtain ⟨g3, e, hg, cs, hc, hh, h5⟩ := h4 (xM h (by decide)); exact ⟨g3, e, hg, cs, hc, hh, fun h => h5 (xM h (by decide))⟩⟩
    · refine wpOp_of rfl rfl (wp_value (v := .pointer (some ⟨W.heap.size, 0, none⟩)) (W1 := W.alloc (.cells #[.slice none 0 0, .int .i64 0, .int .i64 0, .int .i64 0, .int .i64 0, .int .i64 0, .int .i64 0, .int .i64 0, .int .i64 0, .int .i64 0, .int .i64 0, .int .i64 0, .int .i64 0, .int .i64 0, .int .i64 0] 117)) (by kernel_rfl) ?_)
      exact ⟨(Array.size_setIfInBounds ..).trans hsz, fun h => getD_set_true (hd5 (xM h (by decide))), _, v5, v6, v7, v8, rfl, hB.alloc hB.size _, zM hX _, fun h => h0 (xM h (by decide)), fun h => h1 (xM h (by decide)), fun h => h2 (xM h (by decide)), fun h => h3 (xM h (by decide)), fun _ => ⟨W.heap.size, rfl, zN hX, _, rfl, heap_alloc_last _ _, fun h => by
        have h5 := xM h (by decide : (4 : Nat) ≠ 5)
        exact (h5no rfl h5).elim⟩⟩
    · obtain ⟨g, rfl⟩ := h3 (qY 3 hi rfl)
      obtain ⟨g3, rfl, hg, cs, hc, hh, _⟩ := h4 (qY 4 hi rfl)
      refine wpOp_of rfl rfl (wp_skip (rW (t := 117) (p := .tmp 3) (v := .tmp 8) (g := g3) (o := 0) (cur := cs) (c' := #[.slice (some ⟨g, 0, none⟩) 0 0, .int .i64 0, .int .i64 1, .int .i64 0, .int .i64 1, .int .i64 0, .int .i64 1, .int .i64 0, .int .i64 1, .int .i64 0, .int .i64 1, .int .i64 0, .int .i64 1, .int .i64 0, .int .i64 1]) rfl rfl hh (by kernel_rfl) (by simp [hc]) (by kernel_rfl)) ?_)
      refine ⟨(Array.size_setIfInBounds ..).trans hsz, fun _ => getD_set_true (qY 4 hi rfl), _, v5, v6, v7, _, rfl, ?_, ?_, fun h => h0 (xM h (by decide)), fun h => h1 (xM h (by decide)), fun h => h2 (xM h (by decide)), fun _ => ⟨g, rfl⟩, fun _ => ⟨g3, rfl, hg, _, ?_, setRow_heap W g3 cs _ 117 (0, 0) hh, fun _ => ⟨g, ?_⟩⟩⟩
      · exact hB.trans ((rO W g3 _).below (by omega))
      · exact (rO W g3 _).blk hX (by omega)
      · simp [hc]
      · simp [List.drop_eq_nil_of_le (show cs.toList.length ≤ 15 by simp [hc])]
  case he =>
    intro l a W ⟨hsz, hd5, v3, v5, v6, v7, v8, ha, hB, hX, h0, h1, h2, h3, h4⟩ hr
    subst ha
    have hall := ready_all hr hsz rfl
    obtain ⟨g3, rfl, hg, cs, hc, hh, h5⟩ := h4 (hall 4 (by decide))
    obtain ⟨g, rfl⟩ := h5 (hall 5 (by decide))
    clear hr hsz hd5 h0 h1 h2 h3 h4 h5 hall hc
    have zs := (bq hh 0).trans (show _ = some (.slice (some ⟨g, 0, none⟩) 0 0) from rfl)
    have HH := aq hh
    have HXX := aq hX
    have HBB := aq hB
    clear hh hX hB
    clear HX HB
    refine hK_ _ _ ?_
    unfold fr65
    go_wp2
    go_loopw [12] (fun i wr => i = .int .i64 0 ∧ wr = W) (fun i _ => 0)
    case atStart => exact ⟨rfl, rfl⟩
    case round =>
      obtain ⟨rfl, rfl⟩ := hrel
      go_wp2_with (first | (with_reducible refine yY 117 ?_; refine xC (t := 117) (ad := ⟨g3, 0, none⟩) (cs := [.slice (some ⟨g, 0, none⟩) 0 0, .int .i64 0, .int .i64 1, .int .i64 0, .int .i64 1, .int .i64 0, .int .i64 1, .int .i64 0, .int .i64 1, .int .i64 0, .int .i64 1, .int .i64 0, .int .i64 1, .int .i64 0, .int .i64 1]) rfl (by kernel_rfl) (by kernel_rfl) (vL HH.out 0 _ rfl) ?_) | (with_reducible refine tD 117 ?_; refine uR (t := 117) (c' := #[.slice (some ⟨g, 0, none⟩) 0 0, .int .i64 0, .int .i64 1, .int .i64 0, .int .i64 1, .int .i64 0, .int .i64 1, .int .i64 0, .int .i64 1, .int .i64 0, .int .i64 1, .int .i64 0, .int .i64 1, .int .i64 0, .int .i64 1]) (cur' := #[.slice (some ⟨g, 0, none⟩) 0 0, .int .i64 0, .int .i64 1, .int .i64 0, .int .i64 1, .int .i64 0, .int .i64 1, .int .i64 0, .int .i64 1, .int .i64 0, .int .i64 1, .int .i64 0, .int .i64 1, .int .i64 0, .int .i64 1]) rfl rfl HXX.out (by kernel_rfl) (by simp) (by kernel_rfl) rfl ?_; intro W2 hx2 h1; have HX2 := aq hx2; have H1 := aq h1; clear hx2 h1))
      exact bodyPost_ret (results_cell_row (p := 2) (ty := 117) rfl _ _ w.heap.size 117 _ (0, 0) _ rfl HX2.out hu117 rfl (by kernel_rfl)) rfl ⟨⟨g, rfl⟩, HBB.out.trans (H1.out.below (Nat.le_refl _))⟩
def zC (x : S37) : Array Value := (wY x).toArray
theorem xX (x : S37) : (zC x).size = 22 := rfl
section
variable {a : Act} {w W : World} {d : Option Tmp} {ty : TypeId} {pos : String} {after : Array Edge} {gd : Option (Nat × Bool)}
theorem exec_load37 {p : Operand} {g : Nat} {x : S37} (hp : a.eval p = .pointer (some ⟨g, 0, none⟩)) (hx : W.heap[g]? = some (.cells (zC x) 37 (0, 0))) :
    (execOp a.eval ⟨d, .load 37 p, ty, pos, after, none⟩).run Try.prog W = .ok (.value (.agg (zC x))) W :=
  oD (cs := wY x) hp (by kernel_rfl) (by kernel_rfl) (vL hx 0 (wY x) rfl)
theorem exec_lookup {m k : Operand} {gM cl : Nat} {es : Array MapEntry} {L : List S37} {x : S37} {r : Value} {b : Bool} (hm : a.eval m = .map (some gM)) (hk : a.eval k = .agg (zC x)) (h : rC es L) (hx : W.heap[gM]? = some (.map es cl))
    (hr : (match idxN L x with | some j => Value.int .i64 (j : Int) | none => .int .i64 0) = r) (hb : (idxN L x).isSome = b) :
    (execOp a.eval ⟨d, .lookup 69 m k true, ty, pos, after, none⟩).run Try.prog W = .ok (.value (.tuple #[r, .bool b])) W := by
  have h1 := lookup69 x gM es cl L h W hx
  unfold execOp
  simp only [hm, hk, Sem.run_bind]
  have h2 : (Instr.lookup 69 (.map (some gM)) (.agg (zC x)) true).run Try.prog W = .ok (.tuple #[r, .bool b]) W := by
    refine h1.trans ?_
    subst hr; subst hb
    cases idxN L x <;> rfl
  rw [h2]
  rfl
theorem exec_update {m k v : Operand} {gM cl : Nat} {es : Array MapEntry} {L : List S37} {x : S37} {u : Value} (hm : a.eval m = .map (some gM)) (hk : a.eval k = .agg (zC x)) (hv : a.eval v = u) (h : rC es L) (hx : W.heap[gM]? = some (.map es cl)) (hn : idxN L x = none) :
    (execOp a.eval ⟨d, .mapUpdate 69 m k v, ty, pos, after, none⟩).run Try.prog W = .ok .skip { W with heap := W.heap.setIfInBounds gM (.map (es.push ⟨uI x, u, cl⟩) (cl + 1)) } := by
  have h1 := update69 x gM es cl L h W u hx hn
  unfold execOp
  simp only [hm, hk, hv, Sem.run_bind]
  have h2 : (Instr.mapUpdate 69 (.map (some gM)) (.agg (zC x)) u).run Try.prog W = .ok () { W with heap := W.heap.setIfInBounds gM (.map (es.push ⟨uI x, u, cl⟩) (cl + 1)) } := h1
  rw [h2]
  rfl
theorem rV {o : Oper} {i : Op} (hop : o.op = i) : execOp a.eval o = execOp a.eval ⟨o.dst, i, o.type, o.pos, o.after, o.guard⟩ := by subst hop; cases o; rfl
theorem qZ {o : Oper} {p : Operand} {g : Nat} {x : S37} (hop : o.op = .load 37 p) (hg : o.guard = none) (hp : a.eval p = .pointer (some ⟨g, 0, none⟩)) (hx : W.heap[g]? = some (.cells (zC x) 37 (0, 0))) :
    (execOp a.eval o).run Try.prog W = .ok (.value (.agg (zC x))) W := by
  rw [rV hop, hg]; exact exec_load37 hp hx
theorem nM {o : Oper} {m k : Operand} {gM cl : Nat} {es : Array MapEntry} {L : List S37} {x : S37} {r : Value} {b : Bool} (hop : o.op = .lookup 69 m k true) (hg : o.guard = none) (hm : a.eval m = .map (some gM)) (hk : a.eval k = .agg (zC x)) (h : rC es L) (hx : W.heap[gM]? = some (.map es cl))
    (hr : (match idxN L x with | some j => Value.int .i64 (j : Int) | none => .int .i64 0) = r) (hb : (idxN L x).isSome = b) :
    (execOp a.eval o).run Try.prog W = .ok (.value (.tuple #[r, .bool b])) W := by
  rw [rV hop, hg]; exact exec_lookup hm hk h hx hr hb
theorem exec_updateo {o : Oper} {m k v : Operand} {gM cl : Nat} {es : Array MapEntry} {L : List S37} {x : S37} {u : Value} (hop : o.op = .mapUpdate 69 m k v) (hg : o.guard = none) (hm : a.eval m = .map (some gM)) (hk : a.eval k = .agg (zC x)) (hv : a.eval v = u) (h : rC es L) (hx : W.heap[gM]? = some (.map es cl)) (hn : idxN L x = none) :
    (execOp a.eval o).run Try.prog W = .ok .skip { W with heap := W.heap.setIfInBounds gM (.map (es.push ⟨uI x, u, cl⟩) (cl + 1)) } := by
  rw [rV hop, hg]; exact exec_update hm hk hv h hx hn
theorem run_build22 (x : S37) (W : World) : (Instr.buildSlice 22 1 #[(0, .agg (zC x))]).run Try.prog W = .ok (.slice (some ⟨W.heap.size, 0, none⟩) 1 1) (W.alloc (.cells (zC x) 37)) := by kernel_rfl
theorem vT {o : Operand} {x : S37} (ho : a.eval o = .agg (zC x)) : (execOp a.eval ⟨d, .buildSlice 22 1 #[(0, o)], ty, pos, after, none⟩).run Try.prog W = .ok (.value (.slice (some ⟨W.heap.size, 0, none⟩) 1 1)) (W.alloc (.cells (zC x) 37)) := by
  unfold execOp
  simp only [List.map_toArray, List.map_cons, List.map_nil, ho, Sem.run_bind]
  rw [run_build22]
  rfl
theorem run_build55 (b : Bool) (W : World) : (Instr.buildSlice 55 1 #[(0, .bool b)]).run Try.prog W = .ok (.slice (some ⟨W.heap.size, 0, none⟩) 1 1) (W.alloc (.cells #[.bool b] 4)) := by kernel_rfl
theorem exec_build55 {o : Operand} {b : Bool} (ho : a.eval o = .bool b) : (execOp a.eval ⟨d, .buildSlice 55 1 #[(0, o)], ty, pos, after, none⟩).run Try.prog W = .ok (.value (.slice (some ⟨W.heap.size, 0, none⟩) 1 1)) (W.alloc (.cells #[.bool b] 4)) := by
  unfold execOp
  simp only [List.map_toArray, List.map_cons, List.map_nil, ho, Sem.run_bind]
  rw [run_build55]
  rfl
theorem nT {o : Oper} {q : Operand} {x : S37} (hop : o.op = .buildSlice 22 1 #[(0, q)]) (hg : o.guard = none) (ho : a.eval q = .agg (zC x)) : (execOp a.eval o).run Try.prog W = .ok (.value (.slice (some ⟨W.heap.size, 0, none⟩) 1 1)) (W.alloc (.cells (zC x) 37)) := by
  rw [rV hop, hg]; exact vT ho
theorem pS {o : Oper} {q : Operand} {b : Bool} (hop : o.op = .buildSlice 55 1 #[(0, q)]) (hg : o.guard = none) (ho : a.eval q = .bool b) : (execOp a.eval o).run Try.prog W = .ok (.value (.slice (some ⟨W.heap.size, 0, none⟩) 1 1)) (W.alloc (.cells #[.bool b] 4)) := by
  rw [rV hop, hg]; exact exec_build55 ho
end
theorem wp_append_R {α : Type} {P : Program} (d : Kd α) {W : World} {o : Oper} {a : Act} {K : Act → World → Prop} {Q : Exit → Act → World → Prop} (s x : Operand) (t e : TypeId) (z : Value) (bytes : Nat)
    (ho : o.op = .call { callee := .builtin .append, args := #[s, x], argTypes := #[t, t] })
    (ht : P.underlying t = some (.slice e)) (hinfo : (P.info? e).map (fun i => (i.zero, i.size, i.bytes)) = some (some z, d.sz, bytes)) (hz : z.cells.size = d.sz) (hs0 : 0 < d.sz)
    (base : Nat) (v : Value) (xs : List α) (p : α) (cs : List Value) (ok : Nat → Prop) (ad : Addr) (hs : a.eval s = v) (hx : a.eval x = .slice (some ad) 1 1) (hcs : ∀ j u, cs[j]? = some u → W.cell? (ad.add j) = some u)
    (hp : d.M W base (fun _ => False) p cs) (hfresh : ∀ k, W.heap.size ≤ k → ok k) (HO : d.R e W base ok v xs) (hbase : base ≤ W.heap.size) (hl : (xs.length + 1) * bytes ≤ 140737488355328) (h63 : xs.length + 1 ≤ 9223372036854775807)
    (h : ∀ g cap w1, d.R e w1 base ok (.slice (some ⟨g, 0, none⟩) (xs.length + 1) cap) (xs ++ [p]) → W.grownBy w1 v.ownBlock → K (a.put o.dst (.slice (some ⟨g, 0, none⟩) (xs.length + 1) cap)) w1) : o.wp P a W K Q := by
  obtain ⟨h0, inner, hown, hr⟩ := HO
  obtain ⟨i, hi, hi2⟩ := Option.map_eq_some_iff.1 hinfo
  simp only [Prod.mk.injEq] at hi2
  refine wp_append_lies W s x t ho base e i z d.sz bytes ht hi hi2.1 hi2.2.1 hi2.2.2 hz hs0 v xs.length inner hs hown ad 1 1 cs hx (by rw [d.sI (d.vR hp)]; omega) hcs (d.rI (d.vR hp)) (by omega) (by unfold maxLen; omega) hl hbase W.heap.size rfl ?_
  intro g cap w' h2 h3 h4 h5
  refine h g cap w' (Kd.nO h0 hr hp (fun k hk => hk.elim) hfresh h2 h3 ?_) h3
  rcases h4 with h4 | h4
  · exact .inl (by rw [h4]; rfl)
  · exact .inr ⟨g, rfl, by omega⟩
theorem rH.mono {base : Nat} {ok ok' : Nat → Prop} {gG gM : Nat} {g : PG} {W : World} (h : rH base ok gG gM g W) (hk : ∀ k, ok k → ok' k) : rH base ok' gG gM g W := by
  obtain ⟨An, cn, At, ct, h1, h2, h3⟩ := h.blk
  exact ⟨⟨An, cn, At, ct, h1, Kd.xF h2 hk, Kd.xF h3 hk⟩, h.map, h.len, h.le, hk _ h.okG, hk _ h.okM, h.bG, h.bM⟩
theorem rH.avoid {base : Nat} {ok : Nat → Prop} {gG gM : Nat} {g : PG} {W : World} (h : rH base ok gG gM g W) {gb : Nat} (hgb : W.heap.size ≤ gb) : rH base (fun k => ok k ∧ k ≠ gb) gG gM g W := by
  obtain ⟨An, cn, At, ct, h1, h2, h3⟩ := h.blk
  obtain ⟨es, cl, h4, h5⟩ := h.map
  have e1 := zN h1
  have e2 := zN h4
  exact ⟨⟨An, cn, At, ct, h1, Kd.xF (Kd.uP h2) (fun k hk => ⟨hk.1, by have := hk.2.2.1; omega⟩), Kd.xF (Kd.uP h3) (fun k hk => ⟨hk.1, by have := hk.2.2.1; omega⟩)⟩, ⟨es, cl, h4, h5⟩, h.len, h.le, ⟨h.okG, by omega⟩, ⟨h.okM, by omega⟩, h.bG, h.bM⟩
theorem R_map {α : Type} {d : Kd α} {e base : Nat} {ok : Nat → Prop} {W W' : World} {v : Value} {xs : List α} (h : d.R e W base ok v xs) {gM cl : Nat} {es : Array MapEntry} (hm : W.heap[gM]? = some (.map es cl)) (ho : rJ gM W W') : d.R e W' base ok v xs :=
  Kd.xF (Kd.pD (Kd.uP h) (fun k hk hlt => ho.other k (fun he => by
    obtain ⟨_, _, _, q, _, cells, hc⟩ := hk
    rw [he, hm] at hc
    cases hc))) (fun k hk => hk.1)
structure PA (base : Nat) (ok : Nat → Prop) (gG gM gb : Nat) (x : S37) (c0 c1 : Value) (xD : Bool) (L : List S37) (VN : Value) (LN : List S37) (VT : Value) (LT : List Bool) (W0 V : World) : Prop where
  blk : V.heap[gG]? = some (.cells #[c0, c1, .map (some gM), .bool xD] 71 (0, 0))
  nodes : Kd.R k37 37 V base (fun k => ok k ∧ k ≠ gb) VN LN
  tots : Kd.R Kd.bool 4 V base (fun k => ok k ∧ k ≠ gb) VT LT
  box : V.heap[gb]? = some (.cells (zC x) 37 (0, 0))
  map : ∃ es cl, V.heap[gM]? = some (.map es cl) ∧ rC es L
  vI : yB ok W0 V
  okG : ok gG
  okM : ok gM
  bG : base ≤ gG
  bM : base ≤ gM
section
variable {base : Nat} {ok : Nat → Prop} {gG gM gb : Nat} {x : S37} {c0 c1 : Value} {xD : Bool} {L : List S37} {VN : Value} {LN : List S37} {VT : Value} {LT : List Bool} {W0 V V' : World}
theorem PA.step (h : PA base ok gG gM gb x c0 c1 xD L VN LN VT LT W0 V) (hd : Below V.heap.size V V') : PA base ok gG gM gb x c0 c1 xD L VN LN VT LT W0 V' := by
  obtain ⟨es, cl, h4, h5⟩ := h.map
  exact ⟨bb_ h.blk hd, Kd.zL h.nodes hd, Kd.zL h.tots hd, bb_ h.box hd, ⟨es, cl, bb_ h4 hd, h5⟩, h.vI.step hd, h.okG, h.okM, h.bG, h.bM⟩
theorem own_in {α : Type} {d : Kd α} {e : Nat} {ok : Nat → Prop} {v : Value} {xs : List α} (h : d.R e V base ok v xs) : ∀ k, v.ownBlock = some k → ok k ∧ ∃ cells, V.heap[k]? = some (.cells cells e (0, 0)) := fun k hk => by
  obtain ⟨h0, inner, ho, _⟩ := h
  exact ⟨h0 k hk, qX ho k hk⟩
theorem PA.nodes_grown {VN' : Value} {LN' : List S37} (h : PA base ok gG gM gb x c0 c1 xD L VN LN VT LT W0 V) (hr : Kd.R k37 37 V' base (fun k => ok k ∧ k ≠ gb) VN' LN') (hg : V.grownBy V' VN.ownBlock) : PA base ok gG gM gb x c0 c1 xD L VN' LN' VT LT W0 V' := by
  obtain ⟨es, cl, h4, h5⟩ := h.map
  have ho := own_in h.nodes
  exact ⟨zK h.blk hg (Kd.uX h.nodes h.blk (by decide)), hr, Kd.wC h.tots h.nodes (by decide) hg, zK h.box hg (fun e => (ho _ e.symm).1.2 rfl), ⟨es, cl, zK h4 hg (fun e => by obtain ⟨_, cells, hc⟩ := ho _ e.symm; rw [h4] at hc; cases hc), h5⟩, h.vI.trans (yB.of_grown hg (fun k hk => (ho k hk).1.1)), h.okG, h.okM, h.bG, h.bM⟩
theorem PA.tots_grown {VT' : Value} {LT' : List Bool} (h : PA base ok gG gM gb x c0 c1 xD L VN LN VT LT W0 V) (hr : Kd.R Kd.bool 4 V' base (fun k => ok k ∧ k ≠ gb) VT' LT') (hg : V.grownBy V' VT.ownBlock) : PA base ok gG gM gb x c0 c1 xD L VN LN VT' LT' W0 V' := by
  obtain ⟨es, cl, h4, h5⟩ := h.map
  have ho := own_in h.tots
  exact ⟨zK h.blk hg (Kd.uX h.tots h.blk (by decide)), Kd.wC h.nodes h.tots (by decide) hg, hr, zK h.box hg (fun e => by obtain ⟨_, cells, hc⟩ := ho _ e.symm; rw [h.box] at hc; cases hc), ⟨es, cl, zK h4 hg (fun e => by obtain ⟨_, cells, hc⟩ := ho _ e.symm; rw [h4] at hc; cases hc), h5⟩, h.vI.trans (yB.of_grown hg (fun k hk => (ho k hk).1.1)), h.okG, h.okM, h.bG, h.bM⟩
theorem PA.set0 (h : PA base ok gG gM gb x c0 c1 xD L VN LN VT LT W0 V) (u : Value) : PA base ok gG gM gb x u c1 xD L VN LN VT LT W0 (V.setCell ⟨gG, 0, none⟩ u) := by
  obtain ⟨es, cl, h4, h5⟩ := h.map
  exact ⟨yP h.blk 0 u, Kd.vW h.nodes h.blk (by decide) 0 u, Kd.vW h.tots h.blk (by decide) 0 u, yQ h.box (fun e => by have := h.box; rw [show gb = gG from e, h.blk] at this; cases this) u, ⟨es, cl, (Below.heap_setCell V ⟨gG, 0, none⟩ u gM (fun e => by rw [show gM = gG from e, h.blk] at h4; cases h4)).trans h4, h5⟩, h.vI.trans (yB.of_one (zR V ⟨gG, 0, none⟩ u) h.okG), h.okG, h.okM, h.bG, h.bM⟩
theorem PA.set1 (h : PA base ok gG gM gb x c0 c1 xD L VN LN VT LT W0 V) (u : Value) : PA base ok gG gM gb x c0 u xD L VN LN VT LT W0 (V.setCell ⟨gG, 1, none⟩ u) := by
  obtain ⟨es, cl, h4, h5⟩ := h.map
  exact ⟨yP h.blk 1 u, Kd.vW h.nodes h.blk (by decide) 1 u, Kd.vW h.tots h.blk (by decide) 1 u, yQ h.box (fun e => by have := h.box; rw [show gb = gG from e, h.blk] at this; cases this) u, ⟨es, cl, (Below.heap_setCell V ⟨gG, 1, none⟩ u gM (fun e => by rw [show gM = gG from e, h.blk] at h4; cases h4)).trans h4, h5⟩, h.vI.trans (yB.of_one (zR V ⟨gG, 1, none⟩ u) h.okG), h.okG, h.okM, h.bG, h.bM⟩
theorem PA.mapped (h : PA base ok gG gM gb x c0 c1 xD L VN LN VT LT W0 V) {es : Array MapEntry} {cl : Nat} {L' : List S37} (hx : V.heap[gM]? = some (.map es cl)) (es' : Array MapEntry) (cl' : Nat) (hs : rC es' L') : PA base ok gG gM gb x c0 c1 xD L' VN LN VT LT W0 { V with heap := V.heap.setIfInBounds gM (.map es' cl') } := by
  have ho := map_one (o' := .map es' cl') hx
  exact ⟨(ho.other gG (fun e => by have := h.blk; rw [e, hx] at this; cases this)).trans h.blk, R_map h.nodes hx ho, R_map h.tots hx ho, (ho.other gb (fun e => by have := h.box; rw [e, hx] at this; cases this)).trans h.box, ⟨es', cl', (map_set hx).1, hs⟩, h.vI.trans (yB.of_one ho h.okM), h.okG, h.okM, h.bG, h.bM⟩
end
section
variable {base : Nat} {ok : Nat → Prop} {gG gM gb : Nat} {x : S37} {c0 c1 : Value} {xD : Bool} {L : List S37} {VN : Value} {LN : List S37} {VT : Value} {LT : List Bool} {W0 V : World}
variable {ops : Array Oper} {oi : Oper} {N : Option Tmp} {a : Act} {K : Act → World → Prop} {Q : Exit → Act → World → Prop}
theorem PA.fresh (h : PA base ok gG gM gb x c0 c1 xD L VN LN VT LT W0 V) (hf : ∀ k, W0.heap.size ≤ k → ok k) : ∀ k, V.heap.size ≤ k → ok k ∧ k ≠ gb := fun k hk => ⟨hf k (Nat.le_trans h.vI.size hk), by have := zN h.box; omega⟩
theorem PA.pE (s q : Operand) (ho : oi.op = .call { callee := .builtin .append, args := #[s, q], argTypes := #[22, 22] }) (h : PA base ok gG gM gb x c0 c1 xD L VN LN VT LT W0 V) (gx : Nat) (hgx : V.heap[gx]? = some (.cells (zC x) 37 (0, 0)))
    (hf : ∀ k, W0.heap.size ≤ k → ok k) (hb : base ≤ W0.heap.size) (hl : LN.length < 4000) (hw : Region.wanted oi (yielded ops a.tmps) = true) (hN : oi.dst = N) (hs : a.eval s = VN) (hx : a.eval q = .slice (some ⟨gx, 0, none⟩) 1 1)
    (hk : ∀ g1 cap V', PA base ok gG gM gb x c0 c1 xD L (.slice (some ⟨g1, 0, none⟩) (LN.length + 1) cap) (LN ++ [x]) VT LT W0 V' → V.grownBy V' VN.ownBlock → K (a.put N (.slice (some ⟨g1, 0, none⟩) (LN.length + 1) cap)) V') :
    if Region.wanted oi (yielded ops a.tmps) = true then Oper.wp Try.prog oi a V K Q else K (a.put N undef) V := by
  rw [if_pos hw]
  subst hN
  refine wp_append_R k37 s q 22 37 _ 176 ho Try.underlying22 pF (by rfl) (by decide) base _ LN x (wY x) (fun k => ok k ∧ k ≠ gb) ⟨gx, 0, none⟩ hs hx (vL hgx 0 (wY x) rfl) (rB _ _ _ x) (h.fresh hf) h.nodes (Nat.le_trans hb h.vI.size) (by omega) (by omega) ?_
  intro g1 cap V' hr hg
  exact hk g1 cap V' (h.nodes_grown hr hg) hg
theorem PA.oQ (s q : Operand) (ho : oi.op = .call { callee := .builtin .append, args := #[s, q], argTypes := #[55, 55] }) (h : PA base ok gG gM gb x c0 c1 xD L VN LN VT LT W0 V) (gx : Nat) (b : Bool) (hgx : V.heap[gx]? = some (.cells #[.bool b] 4 (0, 0)))
    (hf : ∀ k, W0.heap.size ≤ k → ok k) (hb : base ≤ W0.heap.size) (hl : LT.length < 4000) (hw : Region.wanted oi (yielded ops a.tmps) = true) (hN : oi.dst = N) (hs : a.eval s = VT) (hx : a.eval q = .slice (some ⟨gx, 0, none⟩) 1 1)
    (hk : ∀ g1 cap V', PA base ok gG gM gb x c0 c1 xD L VN LN (.slice (some ⟨g1, 0, none⟩) (LT.length + 1) cap) (LT ++ [b]) W0 V' → V.grownBy V' VT.ownBlock → K (a.put N (.slice (some ⟨g1, 0, none⟩) (LT.length + 1) cap)) V') :
    if Region.wanted oi (yielded ops a.tmps) = true then Oper.wp Try.prog oi a V K Q else K (a.put N undef) V := by
  rw [if_pos hw]
  subst hN
  refine wp_append_R Kd.bool s q 55 4 _ 1 ho Try.underlying55 info4 (by rfl) (by decide) base _ LT b [.bool b] (fun k => ok k ∧ k ≠ gb) ⟨gx, 0, none⟩ hs hx (vL hgx 0 [.bool b] rfl) rfl (h.fresh hf) h.tots (Nat.le_trans hb h.vI.size) (by omega) (by omega) ?_
  intro g1 cap V' hr hg
  exact hk g1 cap V' (h.tots_grown hr hg) hg
theorem PA.done {g : PG} {tb : Bool} {g1 cap1 g2 cap2 : Nat} (h : PA base ok gG gM gb x (.slice (some ⟨g1, 0, none⟩) (g.L.length + 1) cap1) (.slice (some ⟨g2, 0, none⟩) (g.T.length + 1) cap2) g.xD (g.L ++ [x]) (.slice (some ⟨g1, 0, none⟩) (g.L.length + 1) cap1) (g.L ++ [x]) (.slice (some ⟨g2, 0, none⟩) (g.T.length + 1) cap2) (g.T ++ [tb]) W0 V)
    (hl : g.T.length = g.L.length) (h4 : g.L.length < 4000) : rH base ok gG gM ⟨g.L ++ [x], g.T ++ [tb], g.xD⟩ V := by
  have e1 : (g.L ++ [x]).length = g.L.length + 1 := by simp
  have e2 : (g.T ++ [tb]).length = g.T.length + 1 := by simp
  refine ⟨⟨some ⟨g1, 0, none⟩, cap1, some ⟨g2, 0, none⟩, cap2, ?_, ?_, ?_⟩, h.map, by rw [e1, e2, hl], by rw [e1]; omega, h.okG, h.okM, h.bG, h.bM⟩
  · rw [e1, e2]; exact h.blk
  · rw [e1]; exact Kd.xF h.nodes (fun _ hk => hk.1)
  · rw [e2]; exact Kd.xF h.tots (fun _ hk => hk.1)
end
end Go.Proofs.Ytoonahobmlnflaa.PC
