/- Texts of this claim, one behind the other. -/
import Derived.Test.YtoonahobmlnflaaVc13
import Derived.Laws.EntriesVeiled
import Derived.Recover
set_option linter.unusedVariables false
set_option linter.unusedSimpArgs false
set_option maxRecDepth 100000
set_option maxHeartbeats 16000000
namespace Go.Proofs.Ytoonahobmlnflaa.PC
open Go.RowKit Go.Shelf A B C
def pM (R : xH) (L : List S37) (T : List Bool) (i : Nat) (x : S37) : Prop :=
  (∃ q, x = vP q ∧ sO q) ∨ (∃ k : S32, x = xU k ∧ 0 ≤ k.f0 ∧ 0 ≤ k.f1 ∧ k.f1 ≤ 6) ∨ x = nodeT ∨
  ∃ kind a b n, x = wF kind a b n ∧ (zI kind = 1 ∨ zI kind = 2) ∧ (0 ≤ a ∧ a < (i : Int)) ∧ (0 ≤ b ∧ b < (i : Int)) ∧ (zI kind = 1 → b = a) ∧ (kind ≠ 8 → n = 0) ∧ -64 ≤ n ∧ n ≤ 64 ∧ Stab R kind n (rT L a) (rT L b) (zJ false T a) (zJ false T b) (a == b)
structure sJ (R : xH) (L : List S37) (T : List Bool) : Prop where
  nodup : L.Nodup
  len : T.length = L.length
  tot : ∀ i : Nat, i < L.length → zJ false T (i : Int) = totB (rT L (i : Int)) T
  ok : ∀ i : Nat, i < L.length → pM R L T i (rT L (i : Int))
theorem pM.ops {R : xH} {L : List S37} {T : List Bool} {i : Nat} {x : S37} (h : pM R L T i x) : (0 < zI x.f0 → 0 ≤ x.f1 ∧ x.f1 < (i : Int)) ∧ (1 < zI x.f0 → 0 ≤ x.f2 ∧ x.f2 < (i : Int)) := by
  rcases h with ⟨q, rfl, _⟩ | ⟨k, rfl, _⟩ | rfl | ⟨kind, a, b, n, rfl, hk, ha, hb, _⟩
  · exact ⟨fun h => absurd h (by show ¬ 0 < zI 1; decide), fun h => absurd h (by show ¬ 1 < zI 1; decide)⟩
  · exact ⟨fun h => absurd h (by show ¬ 0 < zI 2; decide), fun h => absurd h (by show ¬ 1 < zI 2; decide)⟩
  · exact ⟨fun h => absurd h (by show ¬ 0 < zI 15; decide), fun h => absurd h (by show ¬ 1 < zI 15; decide)⟩
  · refine ⟨fun _ => ha, fun h => ?_⟩
    rcases hk with hk | hk
    · have : (1 : Int) < zI kind := h
      omega
    · show 0 ≤ (if zI kind = 2 then b else 0) ∧ (if zI kind = 2 then b else 0) < (i : Int)
      rw [if_pos hk]; exact hb
theorem pM.num {R : xH} {L : List S37} {T : List Bool} {i : Nat} {x : S37} (h : pM R L T i x) (h1 : x.f0 = 1) : x = vP x.f4 ∧ sO x.f4 := by
  rcases h with ⟨q, rfl, hq⟩ | ⟨k, rfl, _⟩ | rfl | ⟨kind, a, b, n, rfl, hk, _⟩
  · exact ⟨rfl, hq⟩
  · exact absurd h1 (by show ¬ (2 : Int) = 1; decide)
  · exact absurd h1 (by show ¬ (15 : Int) = 1; decide)
  · have h2 : kind = 1 := h1
    subst h2
    exact absurd hk (by decide)
theorem Stab.of_eq {R : xH} {kind n : Int} {x y x' y' : S37} {tx ty tx' ty' e e' : Bool} (h : Stab R kind n x y tx ty e) (x0 : x'.f0 = x.f0) (x4 : x'.f4 = x.f4) (y0 : y'.f0 = y.f0) (y4 : y'.f4 = y.f4) (ht : tx' = tx) (hu : ty' = ty) (he : e' = e) : Stab R kind n x' y' tx' ty' e' := by
  subst ht; subst hu; subst he
  have ex : ∀ m, isC x' m = isC x m := fun m => by unfold isC; rw [x0, x4]
  have ey : ∀ m, isC y' m = isC y m := fun m => by unfold isC; rw [y0, y4]
  refine ⟨?_, fun k => ?_, fun k => ?_, fun k => ?_, fun k => ?_, fun k => ?_, h.k8⟩
  · rw [← h.fold]; unfold foldX; rw [x0, x4, y0, y4]
  · rw [ex, ey]; exact h.k3 k
  · rw [ex, ey]; exact h.k4 k
  · rw [ex, ey, ex, ey, ex, ey]; exact h.k5 k
  · rw [ey]; exact h.k6 k
  · rw [x0]; exact h.k7 k
theorem pM.app {R : xH} {L s : List S37} {T t : List Bool} {i : Nat} {x : S37} (h : pM R L T i x) (hi : i ≤ L.length) (hl : T.length = L.length) : pM R (L ++ s) (T ++ t) i x := by
  rcases h with h | h | h | ⟨kind, a, b, n, rfl, hk, ha, hb, h1, h2, h3, h4, hs⟩
  · exact .inl h
  · exact .inr (.inl h)
  · exact .inr (.inr (.inl h))
  · refine .inr (.inr (.inr ⟨kind, a, b, n, rfl, hk, ha, hb, h1, h2, h3, h4, ?_⟩))
    rw [tI ha.1 (by omega), tI hb.1 (by omega), rdO_app false ha.1 (by omega), rdO_app false hb.1 (by omega)]
    exact hs
theorem totB_app {x : S37} {T t : List Bool} (h : (0 < zI x.f0 → 0 ≤ x.f1 ∧ x.f1 < (T.length : Int)) ∧ (1 < zI x.f0 → 0 ≤ x.f2 ∧ x.f2 < (T.length : Int))) : totB x (T ++ t) = totB x T := by
  unfold totB
  congr 1
  by_cases h0 : 0 < zI x.f0
  · rw [if_pos h0, if_pos h0, rdO_app false (h.1 h0).1 (h.1 h0).2]
    congr 1
    by_cases h1 : 1 < zI x.f0
    · rw [if_pos h1, if_pos h1, rdO_app false (h.2 h1).1 (h.2 h1).2]
    · rw [if_neg h1, if_neg h1]
  · rw [if_neg h0, if_neg h0]
theorem sJ.nil (R : xH) : sJ R [] [] := ⟨List.nodup_nil, rfl, fun i hi => by simp at hi, fun i hi => by simp at hi⟩
theorem sJ.push {R : xH} {L : List S37} {T : List Bool} (h : sJ R L T) {x : S37} (hx : pM R L T L.length x) (hn : x ∉ L) : sJ R (L ++ [x]) (T ++ [totB x T]) := by
  refine ⟨?_, by simp [h.len], fun i hi => ?_, fun i hi => ?_⟩
  · rw [List.nodup_append]
    refine ⟨h.nodup, by simp, fun a ha b hb => ?_⟩
    rw [List.mem_singleton] at hb
    subst hb
    exact fun e => hn (e ▸ ha)
  · rcases Nat.lt_or_ge i L.length with hl | hl
    · rw [tI (by omega) (by omega), rdO_app false (by omega) (by rw [h.len]; omega), h.tot i hl, totB_app]
      have := (h.ok i hl).ops
      rw [h.len]
      exact ⟨fun k => ⟨(this.1 k).1, by have := (this.1 k).2; omega⟩, fun k => ⟨(this.2 k).1, by have := (this.2 k).2; omega⟩⟩
    · obtain rfl : i = L.length := by simp at hi; omega
      rw [qU, rdO_last false h.len, totB_app]
      rw [h.len]; exact hx.ops
  · rcases Nat.lt_or_ge i L.length with hl | hl
    · rw [tI (by omega) (by omega)]; exact (h.ok i hl).app (by omega) h.len
    · obtain rfl : i = L.length := by simp at hi; omega
      rw [qU]; exact hx.app (Nat.le_refl _) h.len
structure PutOK (R : xH) (g : PG) (x : S37) (r : PG × Int) : Prop where
  inv : sJ R r.1.L r.1.T
  xD : r.1.xD = false
  pos : 0 ≤ r.2
  lt : r.2 < (r.1.L.length : Int)
  ext : ∃ s t, r.1.L = g.L ++ s ∧ r.1.T = g.T ++ t
  le : r.1.L.length ≤ g.L.length + 1
  at_ : rT r.1.L r.2 = x
theorem qF {R : xH} {g : PG} (h : sJ R g.L g.T) (hl : g.xD = false) (h4 : g.L.length < 4000) {x : S37} (hx : pM R g.L g.T g.L.length x) : PutOK R g x (wJ g x) := by
  unfold wJ
  cases he : idxN g.L x with
  | some j =>
    obtain ⟨h1, h2⟩ := idxN_some he
    refine ⟨h, hl, Int.natCast_nonneg _, by show (j : Int) < (g.L.length : Int); omega, ⟨[], [], by simp, by simp⟩, Nat.le_succ _, ?_⟩
    show rT g.L (j : Int) = x
    rw [vD h2]
    rw [List.getElem?_eq_getElem h2] at h1
    exact Option.some.inj h1
  | none =>
    show PutOK R g x (if 4000 ≤ g.L.length then _ else _)
    rw [if_neg (by omega)]
    exact ⟨h.push hx (idxN_none.1 he), hl, Int.natCast_nonneg _, by show (g.L.length : Int) < ((g.L ++ [x]).length : Int); rw [List.length_append]; simp only [List.length_singleton]; omega, ⟨[x], [totB x g.T], rfl, rfl⟩, by simp, qU⟩
structure MadeOK (R : xH) (g : PG) (r : PG × Int) : Prop where
  inv : sJ R r.1.L r.1.T
  xD : r.1.xD = false
  pos : 0 ≤ r.2
  lt : r.2 < (r.1.L.length : Int)
  ext : ∃ s t, r.1.L = g.L ++ s ∧ r.1.T = g.T ++ t
  le : r.1.L.length ≤ g.L.length + 1
theorem PutOK.made {R : xH} {g : PG} {x : S37} {r : PG × Int} (h : PutOK R g x r) : MadeOK R g r := ⟨h.inv, h.xD, h.pos, h.lt, h.ext, h.le⟩
theorem sJ.at_ {R : xH} {L : List S37} {T : List Bool} (h : sJ R L T) {c : Int} (h0 : 0 ≤ c) (h1 : c < (L.length : Int)) : pM R L T c.toNat (rT L c) := by
  have := h.ok c.toNat (by omega)
  rwa [Int.toNat_of_nonneg h0] at this
theorem sJ.neg_at {R : xH} {L : List S37} {T : List Bool} (h : sJ R L T) {c : Int} (h0 : 0 ≤ c) (h1 : c < (L.length : Int)) (h7 : (rT L c).f0 = 7) : 0 ≤ (rT L c).f1 ∧ (rT L c).f1 < c := by
  have := (h.at_ h0 h1).ops.1 (by rw [h7]; decide)
  omega
theorem makeG_ok {R : xH} (hR : tR R) {g : PG} (h : sJ R g.L g.T) (hl : g.xD = false) (h4 : g.L.length < 4000) {kind a b n : Int} (hk : zI kind = 1 ∨ zI kind = 2) (ha0 : 0 ≤ a) (ha : a < (g.L.length : Int)) (hb0 : 0 ≤ b) (hb : b < (g.L.length : Int))
    (hab : zI kind = 1 → b = a) (hn : kind ≠ 8 → n = 0) (hn1 : -64 ≤ n) (hn2 : n ≤ 64) : MadeOK R g (tT R g kind a b n) := by
  have hc0 : ∀ c, c = a ∨ c = b → 0 ≤ c ∧ c < (g.L.length : Int) := fun c hc => by rcases hc with rfl | rfl <;> exact ⟨by assumption, by assumption⟩
  have hm := make_by (n := n) (kind := kind) hR hl ha0 hb0 (fun c hc h1 => ((h.at_ (hc0 c hc).1 (hc0 c hc).2).num h1).2) (fun c hc h1 => (h.neg_at (hc0 c hc).1 (hc0 c hc).2 h1).1)
  generalize tT R g kind a b n = r at hm
  cases hm with
  | num q hq => exact (qF h hl h4 (.inl ⟨q, rfl, hq⟩)).made
  | old c hc => exact ⟨h, hl, (hc0 c hc).1, (hc0 c hc).2, ⟨[], [], by simp, by simp⟩, Nat.le_succ _⟩
  | unneg c hc h7 =>
    have := h.neg_at (hc0 c hc).1 (hc0 c hc).2 h7
    exact ⟨h, hl, this.1, by show (rT g.L c).f1 < (g.L.length : Int); have := (hc0 c hc).2; omega, ⟨[], [], by simp, by simp⟩, Nat.le_succ _⟩
  | neg c hc hs => exact (qF h hl h4 (.inr (.inr (.inr ⟨7, c, c, 0, rfl, .inl (by decide), hc0 c hc, hc0 c hc, fun _ => rfl, fun _ => rfl, by omega, by omega, by rw [beq_self_eq_true]; exact hs⟩)))).made
  | node hs => exact (qF h hl h4 (.inr (.inr (.inr ⟨kind, a, b, n, rfl, hk, ⟨ha0, ha⟩, ⟨hb0, hb⟩, hab, hn, hn1, hn2, hs⟩)))).made
theorem uW {i : Int} {x : S37} (h : okN i x = true) : 0 ≤ zI x.f0 ∧ (0 < zI x.f0 → 0 ≤ x.f1 ∧ x.f1 < i) ∧ (1 < zI x.f0 → 0 ≤ x.f2 ∧ x.f2 < i) ∧ (x.f0 = 1 → yU x.f4.f0 x.f4.f1 = true) ∧ (x.f0 = 2 → 0 ≤ x.f5.f0 ∧ 0 ≤ x.f5.f1 ∧ x.f5.f1 ≤ 6) ∧ (x.f0 = 8 → -64 ≤ x.f3 ∧ x.f3 ≤ 64) := by
  unfold okN at h
  simp only [Bool.and_eq_true, Bool.or_eq_true, decide_eq_true_eq, bne_iff_ne, ne_eq] at h
  obtain ⟨⟨⟨⟨⟨h0, h1⟩, h2⟩, h3⟩, h4⟩, h5⟩ := h
  refine ⟨h0, fun k => ?_, fun k => ?_, fun k => ?_, fun k => ?_, fun k => ?_⟩
  · rcases h1 with h1 | h1
    · omega
    · exact h1
  · rcases h2 with h2 | h2
    · omega
    · exact h2
  · rcases h3 with h3 | h3
    · exact absurd k h3
    · exact h3.1
  · rcases h4 with h4 | h4
    · exact absurd k h4
    · exact ⟨h4.1.1, h4.1.2, h4.2⟩
  · rcases h5 with h5 | h5
    · exact absurd k h5
    · exact h5
theorem vO {L : List S37} (h : wI L = true) : L.length ≤ 4000 ∧ ∀ i : Nat, i < L.length → okN (i : Int) (rT L (i : Int)) = true := by
  unfold wI okTo at h
  simp only [Bool.and_eq_true, List.all_eq_true, List.mem_range, decide_eq_true_eq] at h
  exact ⟨h.2, h.1⟩
theorem graphB_mk {L : List S37} (h0 : L.length ≤ 4000) (h : ∀ i : Nat, i < L.length → okN (i : Int) (rT L (i : Int)) = true) : wI L = true := by
  unfold wI okTo
  simp only [Bool.and_eq_true, List.all_eq_true, List.mem_range, decide_eq_true_eq]
  exact ⟨h, h0⟩
theorem bNode_ok {R : xH} (hR : tR R) {g : PG} (h : sJ R g.L g.T) (hl : g.xD = false) (h4 : g.L.length < 4000) {tv : List Int} {x : S37} {i : Int} (hx : okN i x = true) (hI : x.f0 = 1 → I64 x.f4.f0 ∧ I64 x.f4.f1)
    (h1 : 0 < zI x.f0 → 0 ≤ rd tv x.f1 ∧ rd tv x.f1 < (g.L.length : Int)) (h2 : 1 < zI x.f0 → 0 ≤ rd tv x.f2 ∧ rd tv x.f2 < (g.L.length : Int)) : MadeOK R g (uQ R g tv x) := by
  obtain ⟨o0, _, _, o1, o2, o8⟩ := uW hx
  unfold uQ
  by_cases k1 : x.f0 = 1
  · rw [if_pos k1]
    exact (qF h hl h4 (.inl ⟨x.f4, rfl, o1 k1, hI k1⟩)).made
  rw [if_neg k1]
  by_cases k2 : x.f0 = 2
  · rw [if_pos k2]
    exact (qF h hl h4 (.inr (.inl ⟨x.f5, rfl, o2 k2⟩))).made
  rw [if_neg k2]
  by_cases k15 : x.f0 = 15
  · rw [if_pos k15]
    exact (qF h hl h4 (.inr (.inr (.inl rfl)))).made
  rw [if_neg k15]
  by_cases ka : zI x.f0 = 1
  · rw [if_pos ka]
    obtain ⟨p, q⟩ := h1 (by omega)
    refine makeG_ok hR h hl h4 (.inl ka) p q p q (fun _ => rfl) (fun h8 => if_neg h8) ?_ ?_
    · split
      · rename_i h8; exact (o8 h8).1
      · omega
    · split
      · rename_i h8; exact (o8 h8).2
      · omega
  · rw [if_neg ka]
    have k2' : zI x.f0 = 2 := by rcases sD x.f0 with h1 | h1 | h1 | h1 <;> omega
    obtain ⟨p, q⟩ := h1 (by omega)
    obtain ⟨p2, q2⟩ := h2 (by omega)
    exact makeG_ok hR h hl h4 (.inr k2') p q p2 q2 (fun e => by omega) (fun _ => rfl) (by omega) (by omega)
def Shut (L : List S37) (use : List Bool) : Prop := ∀ i : Nat, i < L.length → zJ false use (i : Int) = true → (0 < zI (rT L (i : Int)).f0 → zJ false use (rT L (i : Int)).f1 = true) ∧ (1 < zI (rT L (i : Int)).f0 → zJ false use (rT L (i : Int)).f2 = true)
structure BRunOK (R : xH) (nodes : List S37) (use : List Bool) (k : Nat) (r : PG × List Int) : Prop where
  inv : sJ R r.1.L r.1.T
  xD : r.1.xD = false
  le : r.1.L.length ≤ k
  len : r.2.length = nodes.length
  tv : ∀ i : Nat, i < k → zJ false use (i : Int) = true → 0 ≤ rd r.2 (i : Int) ∧ rd r.2 (i : Int) < (r.1.L.length : Int)
theorem oI {l : List Int} {i j : Nat} (h : i ≠ j) (v : Int) : rd (l.set i v) (j : Int) = rd l (j : Int) := by
  unfold rd
  rw [List.getD_eq_getElem?_getD, List.getD_eq_getElem?_getD, Int.toNat_natCast, List.getElem?_set_ne h]
theorem sG {l : List Int} {i : Nat} (h : i < l.length) (v : Int) : rd (l.set i v) (i : Int) = v := by
  unfold rd
  rw [List.getD_eq_getElem?_getD, Int.toNat_natCast, List.getElem?_set_self h]
  rfl
theorem bRun_ok {R : xH} (hR : tR R) {nodes : List S37} {use : List Bool} (hg : ∀ i : Nat, i < nodes.length → okN (i : Int) (rT nodes (i : Int)) = true) (hI : ∀ x ∈ nodes, wM x) (hs : Shut nodes use) : ∀ k, k ≤ nodes.length → k ≤ 4000 → BRunOK R nodes use k (xT R nodes use k) := by
  intro k
  induction k with
  | zero => intro _ _; exact ⟨sJ.nil R, rfl, Nat.le_refl _, by simp [xT], fun i hi => by omega⟩
  | succ k ih =>
    intro hk h4
    have h := ih (by omega) (by omega)
    unfold xT
    cases hu : zJ false use (k : Int) with
    | false =>
      rw [if_neg (by decide)]
      exact ⟨h.inv, h.xD, by have := h.le; omega, h.len, fun i hi hui => h.tv i (by
        rcases Nat.lt_or_ge i k with e | e
        · exact e
        · obtain rfl : i = k := by omega
          rw [hu] at hui; cases hui) hui⟩
    | true =>
      rw [if_pos rfl]
      have hx := hg k (by omega)
      obtain ⟨_, oa, ob, _⟩ := uW hx
      have hsk := hs k (by omega) hu
      have ops : ∀ c : Int, 0 ≤ c → c < (k : Int) → zJ false use c = true → 0 ≤ rd (xT R nodes use k).2 c ∧ rd (xT R nodes use k).2 c < ((xT R nodes use k).1.L.length : Int) := fun c c0 c1 cu => by
        obtain ⟨m, rfl⟩ := Int.eq_ofNat_of_zero_le c0
        exact h.tv m (by omega) cu
      have hmem : rT nodes (k : Int) ∈ nodes := by rw [vD (by omega)]; exact List.getElem_mem _
      have hm := bNode_ok hR h.inv h.xD (by have := h.le; omega) (tv := (xT R nodes use k).2) hx (fun _ => ⟨(hI _ hmem).1, (hI _ hmem).2.1⟩) (fun p => ops _ (oa p).1 (oa p).2 (hsk.1 p)) (fun p => ops _ (ob p).1 (ob p).2 (hsk.2 p))
      refine ⟨hm.inv, hm.xD, ?_, by simp [h.len], fun i hi hui => ?_⟩
      · exact Nat.le_trans hm.le (Nat.succ_le_succ h.le)
      · by_cases e : i = k
        · subst e
          show 0 ≤ rd (List.set _ i _) (i : Int) ∧ rd (List.set _ i _) (i : Int) < _
          rw [sG (by rw [h.len]; omega)]
          exact ⟨hm.pos, hm.lt⟩
        · show 0 ≤ rd (List.set _ k _) (i : Int) ∧ rd (List.set _ k _) (i : Int) < _
          rw [oI (fun e2 => e e2.symm)]
          have := h.tv i (by omega) hui
          obtain ⟨s, t, e1, _⟩ := hm.ext
          refine ⟨this.1, ?_⟩
          show _ < ((uQ R _ _ _).1.L.length : Int)
          rw [e1, List.length_append]
          omega
def uE (use : List Bool) (n : Nat) : List Nat := (List.range n).filter fun i => zJ false use (i : Int)
def posN (use : List Bool) (i : Nat) : Nat := (uE use i).length
def pI (use : List Bool) (c : Int) : Int := (posN use c.toNat : Int)
theorem usedL_succ (use : List Bool) (n : Nat) : uE use (n + 1) = if zJ false use (n : Int) = true then uE use n ++ [n] else uE use n := by
  unfold uE
  rw [List.range_succ, List.filter_append]
  cases h : zJ false use (n : Int) <;> simp [h]
theorem usedL_at {use : List Bool} {i : Nat} (hu : zJ false use (i : Int) = true) : ∀ n, i < n → ∃ s, uE use n = uE use i ++ i :: s := by
  intro n
  induction n with
  | zero => intro h; omega
  | succ n ih =>
    intro h
    rw [usedL_succ]
    by_cases e : i = n
    · subst e; rw [if_pos hu]; exact ⟨[], rfl⟩
    · obtain ⟨s, hs⟩ := ih (by omega)
      split
      · exact ⟨s ++ [n], by rw [hs]; simp⟩
      · exact ⟨s, hs⟩
theorem oM {use : List Bool} {i n : Nat} (hu : zJ false use (i : Int) = true) (h : i < n) : (uE use n)[posN use i]? = some i := by
  obtain ⟨s, hs⟩ := usedL_at hu n h
  rw [hs]
  unfold posN
  rw [List.getElem?_append_right (Nat.le_refl _)]
  simp
theorem posN_lt {use : List Bool} {i n : Nat} (hu : zJ false use (i : Int) = true) (h : i < n) : posN use i < posN use n := by
  have := oM hu h
  exact (List.getElem?_eq_some_iff.1 this).1
theorem oN {use : List Bool} {i n : Nat} : i ∈ uE use n ↔ i < n ∧ zJ false use (i : Int) = true := by
  unfold uE; rw [List.mem_filter, List.mem_range]
theorem posN_inj {use : List Bool} {i j : Nat} (hi : zJ false use (i : Int) = true) (hj : zJ false use (j : Int) = true) (h : posN use i = posN use j) : i = j := by
  rcases Nat.lt_trichotomy i j with e | e | e
  · have := posN_lt hi e; omega
  · exact e
  · have := posN_lt hj e; omega
theorem usedL_pair (use : List Bool) (n : Nat) : (uE use n).Pairwise (· < ·) := List.Pairwise.filter _ List.pairwise_lt_range
theorem qJ {use : List Bool} {n j : Nat} (h : j < posN use n) : ∃ i, i < n ∧ zJ false use (i : Int) = true ∧ posN use i = j := by
  have hl : j < (uE use n).length := h
  have hm : (uE use n)[j] ∈ uE use n := List.getElem_mem hl
  obtain ⟨h1, h2⟩ := oN.1 hm
  refine ⟨_, h1, h2, ?_⟩
  have hg := oM h2 h1
  have hl2 := (List.getElem?_eq_some_iff.1 hg).1
  have he : (uE use n)[posN use (uE use n)[j]] = (uE use n)[j] := by rw [List.getElem?_eq_getElem hl2] at hg; exact Option.some.inj hg
  have hp := usedL_pair use n
  rw [List.pairwise_iff_getElem] at hp
  rcases Nat.lt_trichotomy (posN use (uE use n)[j]) j with e | e | e
  · have := hp _ _ hl2 hl e; omega
  · exact e
  · have := hp _ _ hl hl2 e; omega
def sT (p : Int → Int) (x : S37) : S37 := if 0 < zI x.f0 then { x with f1 := p x.f1, f2 := if 1 < zI x.f0 then p x.f2 else x.f2 } else x
theorem renF_eq {p q : Int → Int} {x : S37} (h1 : 0 < zI x.f0 → p x.f1 = q x.f1) (h2 : 1 < zI x.f0 → p x.f2 = q x.f2) : sT p x = sT q x := by
  unfold sT
  by_cases h0 : 0 < zI x.f0
  · rw [if_pos h0, if_pos h0, h1 h0]
    by_cases h1' : 1 < zI x.f0
    · rw [if_pos h1', if_pos h1', h2 h1']
    · rw [if_neg h1', if_neg h1']
  · rw [if_neg h0, if_neg h0]
theorem renF_id {p : Int → Int} {x : S37} (h1 : 0 < zI x.f0 → p x.f1 = x.f1) (h2 : 1 < zI x.f0 → p x.f2 = x.f2) : sT p x = x := by
  have : sT p x = sT id x := renF_eq h1 h2
  rw [this]; unfold sT
  split
  · simp
  · rfl
theorem vH (p : Int → Int) (x : S37) : (sT p x).f0 = x.f0 ∧ (sT p x).f3 = x.f3 ∧ (sT p x).f4 = x.f4 ∧ (sT p x).f5 = x.f5 ∧ (sT p x).f6 = x.f6 := by
  unfold sT; split <;> exact ⟨rfl, rfl, rfl, rfl, rfl⟩
theorem tQ {p : Int → Int} {x : S37} : (0 < zI x.f0 → (sT p x).f1 = p x.f1) ∧ (1 < zI x.f0 → (sT p x).f2 = p x.f2) := by
  unfold sT
  constructor
  · intro h; rw [if_pos h]
  · intro h; rw [if_pos (by omega), if_pos h]
theorem renF_inj {p : Int → Int} {x y : S37} (h : sT p x = sT p y) (h1 : 0 < zI x.f0 → 0 < zI y.f0 → p x.f1 = p y.f1 → x.f1 = y.f1) (h2 : 1 < zI x.f0 → 1 < zI y.f0 → p x.f2 = p y.f2 → x.f2 = y.f2) : x = y := by
  have kx := vH p x
  have ky := vH p y
  rw [h] at kx
  have e0 : x.f0 = y.f0 := kx.1.symm.trans ky.1
  have e3 := kx.2.1.symm.trans ky.2.1
  have e4 := kx.2.2.1.symm.trans ky.2.2.1
  have e5 := kx.2.2.2.1.symm.trans ky.2.2.2.1
  have e6 := kx.2.2.2.2.symm.trans ky.2.2.2.2
  by_cases h0 : 0 < zI x.f0
  · have h0' : 0 < zI y.f0 := e0 ▸ h0
    have e1 := h1 h0 h0' (by rw [← (tQ (p := p)).1 h0, ← (tQ (p := p)).1 h0', h])
    have e2 : x.f2 = y.f2 := by
      by_cases h3 : 1 < zI x.f0
      · have h3' : 1 < zI y.f0 := e0 ▸ h3
        exact h2 h3 h3' (by rw [← (tQ (p := p)).2 h3, ← (tQ (p := p)).2 h3', h])
      · have h3' : ¬ 1 < zI y.f0 := e0 ▸ h3
        unfold sT at h
        rw [if_pos h0, if_pos h0', if_neg h3, if_neg h3'] at h
        have := congrArg S37.f2 h; exact this
    cases x; cases y; simp_all
  · have h0' : ¬ 0 < zI y.f0 := e0 ▸ h0
    unfold sT at h
    rwa [if_neg h0, if_neg h0'] at h
theorem renF_nodeO {p : Int → Int} {kind a b n : Int} (hk : zI kind = 1 ∨ zI kind = 2) : sT p (wF kind a b n) = wF kind (p a) (p b) n := by
  unfold sT wF
  simp only
  rcases hk with hk | hk
  · rw [if_pos (by omega), if_neg (by omega), if_neg (by omega), if_neg (by omega)]
  · rw [if_pos (by omega), if_pos (by omega), if_pos hk, if_pos hk]
theorem renN_eq (tv : List Int) (x : S37) : renN tv x = sT (rd tv) x := rfl
def clrL (L : List S37) (use : List Bool) : List S37 := (uE use L.length).map fun (i : Nat) => sT (pI use) (rT L (i : Int))
def clrT (L : List S37) (T : List Bool) (use : List Bool) : List Bool := (uE use L.length).map fun (i : Nat) => zJ false T (i : Int)
def qK (L : List S37) : Prop := ∀ i : Nat, i < L.length → (0 < zI (rT L (i : Int)).f0 → 0 ≤ (rT L (i : Int)).f1 ∧ (rT L (i : Int)).f1 < (i : Int)) ∧ (1 < zI (rT L (i : Int)).f0 → 0 ≤ (rT L (i : Int)).f2 ∧ (rT L (i : Int)).f2 < (i : Int))
theorem sJ.ahead {R : xH} {L : List S37} {T : List Bool} (h : sJ R L T) : qK L := fun i hi => (h.ok i hi).ops
theorem cRun_ok {nodes : List S37} {use : List Bool} (ha : qK nodes) (hs : Shut nodes use) : ∀ k, k ≤ nodes.length →
    (tC nodes use k).1 = ((uE use k).map fun (i : Nat) => sT (pI use) (rT nodes (i : Int))) ∧ (tC nodes use k).2.length = nodes.length ∧ ∀ i : Nat, i < k → zJ false use (i : Int) = true → rd (tC nodes use k).2 (i : Int) = (posN use i : Int) := by
  intro k
  induction k with
  | zero => intro _; exact ⟨by simp [tC, uE], by simp [tC], fun i hi => by omega⟩
  | succ k ih =>
    intro hk
    obtain ⟨h1, h2, h3⟩ := ih (by omega)
    unfold tC
    rw [usedL_succ]
    cases hu : zJ false use (k : Int) with
    | false =>
      rw [if_neg (by decide), if_neg (by decide)]
      refine ⟨h1, h2, fun i hi hui => h3 i ?_ hui⟩
      rcases Nat.lt_or_ge i k with e | e
      · exact e
      · obtain rfl : i = k := by omega
        rw [hu] at hui; cases hui
    | true =>
      rw [if_pos rfl, if_pos rfl]
      have hlen : (tC nodes use k).1.length = posN use k := by rw [h1, List.length_map]; rfl
      refine ⟨?_, by simp [h2], fun i hi hui => ?_⟩
      · show (tC nodes use k).1 ++ [renN (tC nodes use k).2 (rT nodes (k : Int))] = _
        rw [List.map_append, h1]
        congr 1
        show [_] = [sT (pI use) (rT nodes (k : Int))]
        rw [renN_eq]
        congr 1
        have hak := ha k (by omega)
        have hsk := hs k (by omega) hu
        have op : ∀ c : Int, 0 ≤ c → c < (k : Int) → zJ false use c = true → rd (tC nodes use k).2 c = pI use c := fun c c0 c1 cu => by
          obtain ⟨m, rfl⟩ := Int.eq_ofNat_of_zero_le c0
          exact h3 m (by omega) cu
        exact renF_eq (fun p => op _ (hak.1 p).1 (hak.1 p).2 (hsk.1 p)) (fun p => op _ (hak.2 p).1 (hak.2 p).2 (hsk.2 p))
      · show rd (List.set _ k _) (i : Int) = _
        by_cases e : i = k
        · subst e; rw [sG (by rw [h2]; omega), hlen]
        · rw [oI (fun e2 => e e2.symm)]; exact h3 i (by omega) hui
section
variable {L : List S37} {T : List Bool} {use : List Bool}
theorem sM : (clrL L use).length = posN use L.length := by unfold clrL; rw [List.length_map]; rfl
theorem clrT_len : (clrT L T use).length = posN use L.length := by unfold clrT; rw [List.length_map]; rfl
theorem clrL_at {i : Nat} (hi : i < L.length) (hu : zJ false use (i : Int) = true) : rT (clrL L use) (posN use i : Int) = sT (pI use) (rT L (i : Int)) := by
  conv => lhs; unfold rT clrL
  rw [List.getD_eq_getElem?_getD, Int.toNat_natCast, List.getElem?_map, oM hu hi]
  rfl
theorem clrT_at {i : Nat} (hi : i < L.length) (hu : zJ false use (i : Int) = true) : zJ false (clrT L T use) (posN use i : Int) = zJ false T (i : Int) := by
  conv => lhs; unfold zJ clrT
  rw [List.getD_eq_getElem?_getD, Int.toNat_natCast, List.getElem?_map, oM hu hi]
  rfl
theorem qM {c : Int} (h0 : 0 ≤ c) (hi : c < (L.length : Int)) (hu : zJ false use c = true) : rT (clrL L use) (pI use c) = sT (pI use) (rT L c) := by
  obtain ⟨m, rfl⟩ := Int.eq_ofNat_of_zero_le h0
  exact clrL_at (by omega) hu
theorem clrT_atI {c : Int} (h0 : 0 ≤ c) (hi : c < (L.length : Int)) (hu : zJ false use c = true) : zJ false (clrT L T use) (pI use c) = zJ false T c := by
  obtain ⟨m, rfl⟩ := Int.eq_ofNat_of_zero_le h0
  exact clrT_at (by omega) hu
theorem pI_lt {c : Int} {n : Nat} (h0 : 0 ≤ c) (hi : c < (n : Int)) (hu : zJ false use c = true) : 0 ≤ pI use c ∧ pI use c < (posN use n : Int) := by
  obtain ⟨m, rfl⟩ := Int.eq_ofNat_of_zero_le h0
  have := posN_lt (n := n) hu (by omega)
  exact ⟨Int.natCast_nonneg _, by show (posN use m : Int) < _; omega⟩
theorem pI_inj {c d : Int} (c0 : 0 ≤ c) (d0 : 0 ≤ d) (hc : zJ false use c = true) (hd : zJ false use d = true) (h : pI use c = pI use d) : c = d := by
  obtain ⟨m, rfl⟩ := Int.eq_ofNat_of_zero_le c0
  obtain ⟨k, rfl⟩ := Int.eq_ofNat_of_zero_le d0
  have : posN use m = posN use k := by have : (posN use m : Int) = (posN use k : Int) := h; omega
  rw [posN_inj hc hd this]
theorem totB_eq {x y : S37} {T' : List Bool} (h0 : y.f0 = x.f0) (h3 : y.f3 = x.f3) (h1 : 0 < zI x.f0 → zJ false T' y.f1 = zJ false T x.f1) (h2 : 1 < zI x.f0 → zJ false T' y.f2 = zJ false T x.f2) : totB y T' = totB x T := by
  unfold totB totN
  rw [h0, h3]
  congr 1
  by_cases k0 : 0 < zI x.f0
  · rw [if_pos k0, if_pos k0, h1 k0]
    congr 1
    by_cases k1 : 1 < zI x.f0
    · rw [if_pos k1, if_pos k1, h2 k1]
    · rw [if_neg k1, if_neg k1]
  · rw [if_neg k0, if_neg k0]
theorem clr_inv {R : xH} (h : sJ R L T) (hs : Shut L use) : sJ R (clrL L use) (clrT L T use) := by
  have ha := h.ahead
  refine ⟨?_, by rw [sM, clrT_len], fun j hj => ?_, fun j hj => ?_⟩
  · unfold clrL
    show List.Pairwise _ _
    rw [List.pairwise_map]
    refine List.Pairwise.imp_of_mem ?_ (usedL_pair use L.length)
    intro i j hi hj hij he
    obtain ⟨i1, i2⟩ := oN.1 hi
    obtain ⟨j1, j2⟩ := oN.1 hj
    have e : rT L (i : Int) = rT L (j : Int) := renF_inj he
      (fun p q e => pI_inj ((ha i i1).1 p).1 ((ha j j1).1 q).1 ((hs i i1 i2).1 p) ((hs j j1 j2).1 q) e)
      (fun p q e => pI_inj ((ha i i1).2 p).1 ((ha j j1).2 q).1 ((hs i i1 i2).2 p) ((hs j j1 j2).2 q) e)
    rw [vD i1, vD j1] at e
    have := (List.pairwise_iff_getElem.1 h.nodup) i j i1 j1 hij
    exact this e
  · obtain ⟨i, i1, i2, rfl⟩ := qJ (by rw [sM] at hj; exact hj)
    rw [clrT_at i1 i2, clrL_at i1 i2, h.tot i i1]
    refine (totB_eq (vH _ _).1 (vH _ _).2.1 (fun p => ?_) (fun p => ?_)).symm
    · rw [(tQ).1 p, clrT_atI ((ha i i1).1 p).1 (by have := ((ha i i1).1 p).2; omega) ((hs i i1 i2).1 p)]
    · rw [(tQ).2 p, clrT_atI ((ha i i1).2 p).1 (by have := ((ha i i1).2 p).2; omega) ((hs i i1 i2).2 p)]
  · obtain ⟨i, i1, i2, rfl⟩ := qJ (by rw [sM] at hj; exact hj)
    rw [clrL_at i1 i2]
    have hsi := hs i i1 i2
    rcases h.ok i i1 with ⟨q, e, hq⟩ | ⟨k, e, hk⟩ | e | ⟨kind, a, b, n, e, hk, hA, hB, h1, h2, h3, h4, hst⟩
    · rw [e]; exact .inl ⟨q, if_neg (by show ¬ 0 < zI 1; decide), hq⟩
    · rw [e]; exact .inr (.inl ⟨k, if_neg (by show ¬ 0 < zI 2; decide), hk⟩)
    · rw [e]; exact .inr (.inr (.inl (if_neg (by show ¬ 0 < zI 15; decide))))
    · rw [e] at hsi ⊢
      rw [renF_nodeO hk]
      have ua : zJ false use a = true := hsi.1 (by show 0 < zI kind; rcases hk with h | h <;> omega)
      have ub : zJ false use b = true := by
        rcases hk with h | h
        · rw [h1 h]; exact ua
        · have := hsi.2 (by show 1 < zI kind; omega)
          have e2 : (wF kind a b n).f2 = b := if_pos h
          rwa [e2] at this
      refine .inr (.inr (.inr ⟨kind, pI use a, pI use b, n, rfl, hk, pI_lt hA.1 hA.2 ua, pI_lt hB.1 hB.2 ub, fun h => by rw [h1 h], h2, h3, h4, ?_⟩))
      rw [qM hA.1 (by omega) ua, qM hB.1 (by omega) ub, clrT_atI hA.1 (by omega) ua, clrT_atI hB.1 (by omega) ub]
      refine hst.of_eq (vH _ _).1 (vH _ _).2.2.1 (vH _ _).1 (vH _ _).2.2.1 rfl rfl ?_
      by_cases eab : a = b
      · rw [eab, beq_self_eq_true, beq_self_eq_true]
      · rw [beq_eq_false_iff_ne.2 eab, beq_eq_false_iff_ne.2 (fun e => eab (pI_inj hA.1 hB.1 ua ub e))]
end
theorem pL {l : List Bool} {i j : Int} (h0 : 0 ≤ i) (h1 : 0 ≤ j) (h : i ≠ j) : zJ false (vE l i) j = zJ false l j := by
  unfold zJ vE
  rw [List.getD_eq_getElem?_getD, List.getD_eq_getElem?_getD, List.getElem?_set_ne (by omega)]
theorem pK {l : List Bool} {i : Int} (h0 : 0 ≤ i) (h : i < (l.length : Int)) : zJ false (vE l i) i = true := by
  unfold zJ vE
  rw [List.getD_eq_getElem?_getD, List.getElem?_set_self (by omega)]
  rfl
theorem sR {l : List Bool} {i j : Int} (hj : zJ false l j = true) : zJ false (vE l i) j = true := by
  unfold zJ vE at *
  rw [List.getD_eq_getElem?_getD] at hj ⊢
  by_cases e : i.toNat = j.toNat
  · rw [e]
    cases hl : l[j.toNat]? with
    | none => rw [hl] at hj; cases hj
    | some b => rw [List.getElem?_set_self (by have := (List.getElem?_eq_some_iff.1 hl).1; omega)]; rfl
  · rw [List.getElem?_set_ne e]; exact hj
theorem sB {l : List Bool} {i j : Int} (h0 : 0 ≤ i) (h1 : 0 ≤ j) (h : zJ false (vE l i) j = true) : j = i ∨ zJ false l j = true := by
  by_cases e : i = j
  · exact .inl e.symm
  · rw [pL h0 h1 e] at h; exact .inr h
theorem fold_keep {roots : List Int} : ∀ {l : List Bool} {j : Int}, zJ false l j = true → zJ false (roots.foldl vE l) j = true := by
  induction roots with
  | nil => intro l j h; exact h
  | cons r roots ih => intro l j h; rw [List.foldl_cons]; exact ih (sR h)
theorem fold_in {roots : List Int} : ∀ {l : List Bool} {j : Int}, j ∈ roots → 0 ≤ j → j < (l.length : Int) → zJ false (roots.foldl vE l) j = true := by
  induction roots with
  | nil => intro l j h; cases h
  | cons r roots ih =>
    intro l j h h0 h1
    rw [List.foldl_cons]
    rcases List.mem_cons.1 h with e | h
    · subst e; exact fold_keep (pK h0 h1)
    · exact ih h h0 (by rw [setB_len]; exact h1)
theorem fold_cases {roots : List Int} (hr : ∀ r ∈ roots, 0 ≤ r) : ∀ {l : List Bool} {j : Int}, 0 ≤ j → zJ false (roots.foldl vE l) j = true → j ∈ roots ∨ zJ false l j = true := by
  induction roots with
  | nil => intro l j _ h; exact .inr h
  | cons r roots ih =>
    intro l j h0 h
    rw [List.foldl_cons] at h
    rcases ih (fun r h => hr r (List.mem_cons_of_mem _ h)) h0 h with h1 | h1
    · exact .inl (List.mem_cons_of_mem _ h1)
    · rcases sB (hr r (List.mem_cons_self ..)) h0 h1 with e | h2
      · exact .inl (by rw [e]; exact List.mem_cons_self ..)
      · exact .inr h2
inductive Needs (L : List S37) (roots : List Int) : Int → Prop
  | root {r : Int} (h : r ∈ roots) : Needs L roots r
  | a {j : Int} (h : Needs L roots j) (h0 : 0 ≤ j) (h1 : j < (L.length : Int)) (hk : 0 < zI (rT L j).f0) : Needs L roots (rT L j).f1
  | b {j : Int} (h : Needs L roots j) (h0 : 0 ≤ j) (h1 : j < (L.length : Int)) (hk : 1 < zI (rT L j).f0) : Needs L roots (rT L j).f2
theorem nQ {L : List S37} {s : List Bool} {i : Nat} {j : Int} (h : zJ false s j = true) : zJ false (wN L s i) j = true := by
  unfold wN
  split
  · split
    · exact sR (sR h)
    · exact sR h
  · exact h
structure BackOK (L : List S37) (roots : List Int) (m : Nat) (s : List Bool) : Prop where
  len : s.length = L.length
  rts : ∀ r ∈ roots, zJ false s r = true
  shut : ∀ i : Nat, m ≤ i → i < L.length → zJ false s (i : Int) = true → (0 < zI (rT L (i : Int)).f0 → zJ false s (rT L (i : Int)).f1 = true) ∧ (1 < zI (rT L (i : Int)).f0 → zJ false s (rT L (i : Int)).f2 = true)
  least : ∀ j : Int, 0 ≤ j → j < (L.length : Int) → zJ false s j = true → Needs L roots j
theorem back_ok {L : List S37} {roots : List Int} (ha : qK L) (hr : ∀ r ∈ roots, 0 ≤ r ∧ r < (L.length : Int)) : ∀ k m, m + k = L.length → BackOK L roots m ((dn L.length m).foldl (wN L) (roots.foldl vE (List.replicate L.length false))) := by
  intro k
  induction k with
  | zero =>
    intro m hm
    obtain rfl : m = L.length := by omega
    rw [dn_all, List.foldl_nil]
    refine ⟨by rw [uM]; simp, fun r h => fold_in h (hr r h).1 (by simpa using (hr r h).2), fun i h1 h2 => by omega, fun j j0 j1 h => ?_⟩
    rcases fold_cases (fun r h => (hr r h).1) j0 h with h | h
    · exact .root h
    · unfold zJ at h
      rw [List.getD_eq_getElem?_getD, List.getElem?_replicate] at h
      split at h <;> cases h
  | succ k ih =>
    intro m hm
    have h := ih (m + 1) (by omega)
    rw [dn_succ (by omega), List.foldl_append]
    generalize (dn L.length (m + 1)).foldl (wN L) (roots.foldl vE (List.replicate L.length false)) = s at h
    show BackOK L roots m (wN L s m)
    have ham := ha m (by omega)
    have hneed : ∀ j : Int, (m : Int) ≤ j → zJ false (wN L s m) j = zJ false s j := fun j hj => by
      unfold wN
      by_cases hc : zJ false s (m : Int) = true ∧ 0 < zI (rT L (m : Int)).f0
      · rw [if_pos hc]
        have h1 := ham.1 hc.2
        by_cases hc2 : 1 < zI (rT L (m : Int)).f0
        · have h2 := ham.2 hc2
          rw [if_pos hc2, pL h2.1 (by omega) (by omega), pL h1.1 (by omega) (by omega)]
        · rw [if_neg hc2, pL h1.1 (by omega) (by omega)]
      · rw [if_neg hc]
    refine ⟨by rw [needS_len, h.len], fun r hr => nQ (h.rts r hr), fun i hi hil hu => ?_, fun j j0 j1 hu => ?_⟩
    · rw [hneed _ (by omega)] at hu
      rcases Nat.lt_or_ge m i with e | e
      · have := h.shut i (by omega) hil hu
        exact ⟨fun k => nQ (this.1 k), fun k => nQ (this.2 k)⟩
      · obtain rfl : i = m := by omega
        refine ⟨fun k => ?_, fun k => ?_⟩
        · have h1 := ham.1 k
          unfold wN
          rw [if_pos ⟨hu, k⟩]
          split
          · exact sR (pK h1.1 (by rw [h.len]; omega))
          · exact pK h1.1 (by rw [h.len]; omega)
        · have h2 := ham.2 k
          unfold wN
          rw [if_pos ⟨hu, by omega⟩, if_pos k]
          exact pK h2.1 (by rw [setB_len, h.len]; omega)
    · unfold wN at hu
      split at hu
      · rename_i hc
        have hm := h.least (m : Int) (by omega) (by omega) hc.1
        have h1 := ham.1 hc.2
        split at hu
        · rename_i hc2
          have h2 := ham.2 hc2
          rcases sB h2.1 j0 hu with e | hu
          · rw [e]; exact .b hm (by omega) (by omega) hc2
          · rcases sB h1.1 j0 hu with e | hu
            · rw [e]; exact .a hm (by omega) (by omega) hc.2
            · exact h.least j j0 j1 hu
        · rcases sB h1.1 j0 hu with e | hu
          · rw [e]; exact .a hm (by omega) (by omega) hc.2
          · exact h.least j j0 j1 hu
      · exact h.least j j0 j1 hu
theorem qA {L : List S37} {roots : List Int} (ha : qK L) (hr : ∀ r ∈ roots, 0 ≤ r ∧ r < (L.length : Int)) : BackOK L roots 0 (yH L roots) := back_ok ha hr L.length 0 (by omega)
theorem uU {L : List S37} {roots : List Int} (ha : qK L) (hr : ∀ r ∈ roots, 0 ≤ r ∧ r < (L.length : Int)) : Shut L (yH L roots) := fun i hi hu => (qA ha hr).shut i (Nat.zero_le _) hi hu
theorem need_of {L : List S37} {roots : List Int} (ha : qK L) (hr : ∀ r ∈ roots, 0 ≤ r ∧ r < (L.length : Int)) {j : Int} (h : Needs L roots j) : zJ false (yH L roots) j = true ∧ 0 ≤ j ∧ j < (L.length : Int) := by
  have hb := qA ha hr
  induction h with
  | root h => exact ⟨hb.rts _ h, hr _ h⟩
  | a h h0 h1 hk ih =>
    rename_i j
    obtain ⟨m, rfl⟩ := Int.eq_ofNat_of_zero_le h0
    have := (ha m (by omega)).1 hk
    exact ⟨(hb.shut m (Nat.zero_le _) (by omega) ih.1).1 hk, this.1, by omega⟩
  | b h h0 h1 hk ih =>
    rename_i j
    obtain ⟨m, rfl⟩ := Int.eq_ofNat_of_zero_le h0
    have := (ha m (by omega)).2 hk
    exact ⟨(hb.shut m (Nat.zero_le _) (by omega) ih.1).2 hk, this.1, by omega⟩
theorem clr_needs {L : List S37} {roots : List Int} (ha : qK L) (hr : ∀ r ∈ roots, 0 ≤ r ∧ r < (L.length : Int)) {j : Int} (h : Needs L roots j) : Needs (clrL L (yH L roots)) (roots.map (pI (yH L roots))) (pI (yH L roots) j) := by
  have hs := uU ha hr
  induction h with
  | root h => exact .root (List.mem_map_of_mem h)
  | a h h0 h1 hk ih =>
    rename_i j
    have hj := need_of ha hr h
    have e := qM h0 h1 hj.1
    have hl := pI_lt h0 h1 hj.1
    have := Needs.a ih hl.1 (by rw [sM]; exact hl.2) (by rw [e, (vH _ _).1]; exact hk)
    rwa [e, tQ.1 hk] at this
  | b h h0 h1 hk ih =>
    rename_i j
    have hj := need_of ha hr h
    have e := qM h0 h1 hj.1
    have hl := pI_lt h0 h1 hj.1
    have := Needs.b ih hl.1 (by rw [sM]; exact hl.2) (by rw [e, (vH _ _).1]; exact hk)
    rwa [e, tQ.2 hk] at this
def AllUsed (L : List S37) (use : List Bool) : Prop := ∀ i : Nat, i < L.length → zJ false use (i : Int) = true
theorem clr_ahead {L : List S37} {use : List Bool} (ha : qK L) (hs : Shut L use) : qK (clrL L use) := by
  intro j hj
  obtain ⟨i, i1, i2, rfl⟩ := qJ (by rw [sM] at hj; exact hj)
  rw [clrL_at i1 i2, (vH _ _).1]
  refine ⟨fun p => ?_, fun p => ?_⟩
  · rw [tQ.1 p]; exact pI_lt ((ha i i1).1 p).1 ((ha i i1).1 p).2 ((hs i i1 i2).1 p)
  · rw [tQ.2 p]; exact pI_lt ((ha i i1).2 p).1 ((ha i i1).2 p).2 ((hs i i1 i2).2 p)
theorem clr_roots {L : List S37} {roots : List Int} (ha : qK L) (hr : ∀ r ∈ roots, 0 ≤ r ∧ r < (L.length : Int)) : ∀ r ∈ roots.map (pI (yH L roots)), 0 ≤ r ∧ r < ((clrL L (yH L roots)).length : Int) := by
  intro r h
  obtain ⟨q, hq, rfl⟩ := List.mem_map.1 h
  rw [sM]
  exact pI_lt (hr q hq).1 (hr q hq).2 ((qA ha hr).rts q hq)
theorem clr_used {L : List S37} {roots : List Int} (ha : qK L) (hr : ∀ r ∈ roots, 0 ≤ r ∧ r < (L.length : Int)) : AllUsed (clrL L (yH L roots)) (yH (clrL L (yH L roots)) (roots.map (pI (yH L roots)))) := by
  intro j hj
  obtain ⟨i, i1, i2, rfl⟩ := qJ (by rw [sM] at hj; exact hj)
  have := clr_needs ha hr ((qA ha hr).least (i : Int) (by omega) (by omega) i2)
  exact (need_of (clr_ahead ha (uU ha hr)) (clr_roots ha hr) this).1
def idxP {α : Type} (p : α → Bool) : List α → Int → Int
  | [], _ => -1
  | e :: l, i => if p e then i else idxP p l (i + 1)
theorem idxP_ge {α : Type} (p : α → Bool) (l : List α) : ∀ i : Int, 0 ≤ i → decide (0 ≤ idxP p l i) = l.any p := by
  induction l with
  | nil => intro i _; simp [idxP]
  | cons e l ih =>
    intro i hi
    simp only [idxP, List.any_cons]
    by_cases hp : p e = true
    · simp [hp, hi]
    · have hf : p e = false := by simpa using hp
      simpa [hf] using ih (i + 1) (by omega)
def PredI (g : Nat) (cap : Array Value) (p : Int → Bool) (l : List Int) (w : World) : Prop :=
  ∀ (W : World) (x : Int), x ∈ l → Below w.heap.size w W → Calls Try.prog g (#[.int .i64 x] ++ cap) W fun e w' => e = .returned (.bool (p x)) ∧ Below W.heap.size W w'
theorem idx70 (g : Nat) (cap : Array Value) (p : Int → Bool) (eg : ∀ args w, (callFunc g args).run Try.prog w = .ok (.enter g args) w) (A : Option Addr) (c : Nat) (l : List Int) (w : World)
    (hr : Kd.C (Kd.int .i64) w A l.length l) (hp : PredI g cap p l w) :
    Calls Try.prog 70 #[.slice A l.length c, .func (.func g) #[] cap] w fun e w' => e = .returned (.int .i64 (idxP p l 0)) ∧ Below w.heap.size w w' := by
  have hm : l.length ≤ 9223372036854775807 := hr.2.1
  have HR := aq hr
  clear hr
  have HP := aq hp
  clear hp
  go_enter Try.func70, Try.ntmps70
  go_wp2
  go_loopg [5, 8] l.length (fun gg _ s8 wr => ∃ kk : Nat, kk ≤ l.length ∧ l.length - kk ≤ gg ∧ s8 = .int .i64 kk ∧ zT (Below w.heap.size w wr) ∧ zT (idxP p l 0 = idxP p (l.drop kk) kk))
  case atStart => exact ⟨0, Nat.zero_le _, by omega, rfl, ⟨Below.refl _ w⟩, ⟨rfl⟩⟩
  case round =>
    obtain ⟨kk, hkk, hg, rfl, BW, A1⟩ := hrel
    by_cases hlt : kk < l.length
    · have hltz : (kk : Int) < (l.length : Int) := by omega
      obtain ⟨ad, rfl, hx0⟩ := Kd.at_int (Kd.xZ HR.out BW.out) (kk : Int) (by omega) hltz
      rw [Int.toNat_natCast] at hx0
      have hgd : rd l (kk : Int) = l[kk] := by simp [rd, List.getD_eq_getElem?_getD, List.getElem?_eq_getElem hlt]
      have hdr : l.drop kk = l[kk] :: l.drop (kk + 1) := (List.drop_eq_getElem_cons hlt)
      have hmem : rd l (kk : Int) ∈ l := by rw [hgd]; exact List.getElem_mem hlt
      generalize hy : rd l (kk : Int) = y at hx0 hmem
      have E1 := aq (show l.drop kk = y :: l.drop (kk + 1) by rw [hdr, ← hgd, hy])
      clear hy hgd hdr
      have hcall := HP.out wr y hmem BW.out
      clear hmem
      cases hq : p y with
      | true =>
        rw [hq] at hcall
        have HCALL := aq hcall
        clear hcall
        have E2 := aq hq
        clear hq
        go_wp2_with (go_at_fn g; refine HCALL.out.mono ?_; rintro e w' ⟨rfl, hb'⟩)
        go_ret
        refine ⟨?_, bt_ BW.out hb'⟩
        rw [A1.out, E1.out]; simp only [idxP, E2.out, if_true]; rfl
      | false =>
        rw [hq] at hcall
        have HCALL := aq hcall
        clear hcall
        have E2 := aq hq
        clear hq
        go_wp2_with (go_at_fn g; refine HCALL.out.mono ?_; rintro e w' ⟨rfl, hb'⟩)
        go_roundg (l.length - (kk + 1))
        case measure => omega
        case rel =>
          refine ⟨kk + 1, by omega, by omega, by go_num, ⟨bt_ BW.out hb'⟩, ⟨?_⟩⟩
          rw [A1.out, E1.out]; show (if p y = true then _ else _) = _
          rw [if_neg (by rw [E2.out]; decide), show ((kk + 1 : Nat) : Int) = (kk : Int) + 1 from by omega]
    · have hltz : ¬ (kk : Int) < (l.length : Int) := by omega
      have E3 : zT (l.drop kk = []) := ⟨List.drop_eq_nil_of_le (by omega)⟩
      go_wp2
      go_ret
      refine ⟨?_, BW.out⟩
      rw [A1.out, E3.out]; rfl
theorem contF42 (g : Nat) (cap : Array Value) (p : Int → Bool) (eg : ∀ args w, (callFunc g args).run Try.prog w = .ok (.enter g args) w) (A : Option Addr) (c : Nat) (l : List Int) (w : World)
    (hr : Kd.C (Kd.int .i64) w A l.length l) (hp : PredI g cap p l w) :
    Calls Try.prog 42 #[.slice A l.length c, .func (.func g) #[] cap] w fun e w' => e = .returned (.bool (l.any p)) ∧ Below w.heap.size w w' := by
  have h70 := idx70 g cap p eg A c l w hr hp
  have hge := idxP_ge p l 0 (by omega)
  have H70 := aq h70
  have HG := aq hge
  clear h70 hge hr hp
  go_enter Try.func42, Try.ntmps42
  generalize hi : idxP p l 0 = ii at H70 HG
  have HI := aq hi
  clear hi
  go_wp2_with (go_at_call 70; refine H70.out.mono ?_; rintro e w' ⟨rfl, hb'⟩)
  go_ret
  exact ⟨by rw [HG.out]; rfl, hb'⟩
def outN (n : Nat) (r : Int) : Bool := decide (r < 0) || decide ((n : Int) ≤ r)
theorem out43 (x : Int) (g : Nat) (A : Option Addr) (n c : Nat) (W : World) (hg : W.heap[g]? = some (.cells #[.slice A n c] 22 (0, 0))) :
    Calls Try.prog 43 #[.int .i64 x, .pointer (some ⟨g, 0, none⟩)] W fun e w' => e = .returned (.bool (outN n x)) ∧ Below W.heap.size W w' := by
  have hz := (bq hg 0).trans (show _ = some (.slice A n c) from rfl)
  have HB := aq (Below.refl W.heap.size W)
  clear hg
  by_cases h1 : x < 0
  · have d1 : decide (x < 0) = true := decide_eq_true h1
    have HO := aq (show outN n x = true by unfold outN; rw [d1]; rfl)
    go_enter Try.func43, Try.ntmps43
    go_wp2
    go_ret
    exact ⟨by rw [HO.out]; rfl, HB.out⟩
  · have d1 : decide (x < 0) = false := decide_eq_false h1
    have HO := aq (show outN n x = decide ((n : Int) ≤ x) by unfold outN; rw [d1]; rfl)
    go_enter Try.func43, Try.ntmps43
    go_wp2
    go_ret
    exact ⟨by rw [HO.out]; rfl, HB.out⟩
def vU.T3 : Bool × List (List Nat × List Nat) := (true, [([], []), ([0], [0]), ([1], [1]), ([2], [2]), ([3], [3]), ([], []), ([5], [5]), ([6], [6]), ([7], [7]), ([8], [8]), ([4, 9], [4, 9]), ([10], [10]), ([11], [11]), ([12, 11, 11], [11, 12]), ([13, 11], [11, 13]), ([11, 14], [11, 14])])
def vU.B3 : List Nat := [0, 1, 3, 7, 15, 0, 32, 96, 224, 480, 1023, 2047, 4095, 8191, 16383, 32767]
theorem vU.tab3 : wD .any (opsOf Try.f63 3) = vU.T3 := by kernel_rfl
theorem vU.bits3 : xR vU.T3.2 vU.B3 = true := by kernel_rfl
def vU.T14 : Bool × List (List Nat × List Nat) := (true, [([], []), ([0], [0]), ([1], [1]), ([2, 1], [1, 2]), ([3, 1], [1, 3]), ([4, 1], [1, 4]), ([1], [1]), ([5, 6, 1], [1, 5, 6]), ([7, 1], [1, 7]), ([8, 1], [1, 8]), ([9, 1], [1, 9]), ([1, 10], [1, 10]), ([11, 1], [11]), ([12], [12]), ([13, 12], [12, 13]), ([14, 12], [12, 14]), ([15, 12], [12, 15]), ([12], [12]), ([16, 17, 12], [12, 16, 17]), ([18, 12], [12, 18]), ([19, 12], [12, 19]), ([20, 12], [12, 20]), ([12], [12]), ([22, 12], [12, 22]), ([23, 12], [12, 23]), ([24, 12], [12, 24]), ([25, 12], [12, 25]), ([21, 26, 12], [12, 21, 26]), ([12, 27], [12, 27])])
def vU.B14 : List Nat := [0, 1, 3, 7, 15, 31, 3, 127, 255, 511, 1023, 2047, 4095, 8191, 16383, 32767, 65535, 8191, 262143, 524287, 1048575, 2097151, 8191, 4202495, 12591103, 29368319, 62922751, 134217727, 268435455]
theorem vU.tab14 : wD .any (opsOf Try.f63 14) = vU.T14 := by kernel_rfl
theorem vU.bits14 : xR vU.T14.2 vU.B14 = true := by kernel_rfl
theorem right_plain (w : World) : Calls Try.prog 91 #[.agg #[.int .i64 0, .int .i64 1, .int .i64 0, .int .i64 1, .int .i64 0, .int .i64 1, .int .i64 0, .int .i64 1, .int .i64 0, .int .i64 1, .int .i64 0, .int .i64 1, .int .i64 0, .int .i64 1]] w fun e w' => e = .returned (.bool true) ∧ Below w.heap.size w w' :=
  qV.calls 0 1 0 1 0 1 0 1 0 1 0 1 0 1 true w (by kernel_rfl)
theorem pJ {nodes : List S37} (h : wI nodes = true) : OpsOK nodes ∧ nodes.length ≤ 4000 := by
  unfold wI at h
  rw [Bool.and_eq_true, decide_eq_true_iff] at h
  refine ⟨fun i i0 i1 => ?_, h.2⟩
  have h1 := h.1
  unfold okTo at h1
  rw [List.all_eq_true] at h1
  have h2 := h1 i.toNat (List.mem_range.2 (by omega))
  rw [show ((i.toNat : Nat) : Int) = i by omega] at h2
  unfold okN at h2
  simp only [Bool.and_eq_true, Bool.or_eq_true, decide_eq_true_eq] at h2
  obtain ⟨⟨⟨⟨⟨_, h3⟩, h4⟩, _⟩, _⟩, _⟩ := h2
  exact ⟨fun hk => by omega, fun hk => by omega⟩
theorem needS_none (nodes : List S37) (n : Nat) (i : Nat) : wN nodes (List.replicate n false) i = List.replicate n false := by
  have e : zJ false (List.replicate n false) (i : Int) = false := by unfold zJ; rw [List.getD_eq_getElem?_getD, List.getElem?_replicate]; split <;> rfl
  unfold wN
  rw [e]
  simp
theorem needB_nil (nodes : List S37) : yH nodes [] = List.replicate nodes.length false := by
  unfold yH
  rw [List.foldl_nil]
  generalize dn nodes.length 0 = l
  induction l with
  | nil => rfl
  | cons a l ih => rw [List.foldl_cons, needS_none]; exact ih
theorem rd_no (n : Nat) (j : Int) : zJ false (List.replicate n false) j = false := by unfold zJ; rw [List.getD_eq_getElem?_getD, List.getElem?_replicate]; split <;> rfl
theorem en90 (args : Array Value) (w : World) : (callFunc 90 args).run Try.prog w = .ok (.enter 90 args) w := enters_of Try.func90 (by kernel_rfl) rfl args w
theorem vU (nodes : List S37) (A : Option Addr) (c gF : Nat) (w : World) (hC : Kd.C k37 w A nodes.length nodes) (hc : nodes.length ≤ c) (hI : ∀ x ∈ nodes, wM x)
    (hF : w.heap[gF]? = some (.cells #[.slice A nodes.length c, .slice none 0 0, .slice none 0 0, .slice none 0 0, .int .i64 0, .int .i64 0, .int .i64 0, .int .i64 0, .int .i64 0, .int .i64 0, .int .i64 0, .int .i64 0, .int .i64 0, .int .i64 0, .int .i64 0, .int .i64 0, .int .i64 0, .int .i64 0, .slice none 0 0, .slice none 0 0, .slice none 0 0, .slice none 0 0] 120 (0, 0))) :
    Calls Try.prog 63 #[.pointer (some ⟨gF, 0, none⟩), .slice none 0 0, .agg #[.int .i64 0, .int .i64 1, .int .i64 0, .int .i64 1, .int .i64 0, .int .i64 1, .int .i64 0, .int .i64 1, .int .i64 0, .int .i64 1, .int .i64 0, .int .i64 1, .int .i64 0, .int .i64 1]] w fun e w' => e = .returned (.int .i64 (if wI nodes then 0 else 170)) ∧ Below w.heap.size w w' := by
  have hu35 := Try.underlying35
  have hu120 := Try.underlying120
  have hm := Kd.C_max hC
  have hlF := zN hF
  have hx3 := heap_alloc_last w (.cells #[.pointer (some ⟨gF, 0, none⟩)] 114)
  have hx5 := heap_alloc_last (w.alloc (.cells #[.pointer (some ⟨gF, 0, none⟩)] 114)) (.cells #[.int .i64 0, .int .i64 1, .int .i64 0, .int .i64 1, .int .i64 0, .int .i64 1, .int .i64 0, .int .i64 1, .int .i64 0, .int .i64 1, .int .i64 0, .int .i64 1, .int .i64 0, .int .i64 1] 35)
  rw [World.size_alloc] at hx5
  have hx3' := zM hx3 (.cells #[.int .i64 0, .int .i64 1, .int .i64 0, .int .i64 1, .int .i64 0, .int .i64 1, .int .i64 0, .int .i64 1, .int .i64 0, .int .i64 1, .int .i64 0, .int .i64 1, .int .i64 0, .int .i64 1] 35)
  have hF' := zM (zM hF (.cells #[.pointer (some ⟨gF, 0, none⟩)] 114)) (.cells #[.int .i64 0, .int .i64 1, .int .i64 0, .int .i64 1, .int .i64 0, .int .i64 1, .int .i64 0, .int .i64 1, .int .i64 0, .int .i64 1, .int .i64 0, .int .i64 1, .int .i64 0, .int .i64 1] 35)
  have hb := zY (zY (Below.refl w.heap.size w) (.cells #[.pointer (some ⟨gF, 0, none⟩)] 114)) (.cells #[.int .i64 0, .int .i64 1, .int .i64 0, .int .i64 1, .int .i64 0, .int .i64 1, .int .i64 0, .int .i64 1, .int .i64 0, .int .i64 1, .int .i64 0, .int .i64 1, .int .i64 0, .int .i64 1] 35)
  have hC' := Kd.xZ hC hb
  have HB := aq hb
  have HC := aq hC
  have HI := aq hI
  have HF := aq hF'
  have HX3 := aq hx3'
  have HX5 := aq hx5
  have HLF := aq hlF
  clear hC hC' hI hF hF' hb hx3 hx3' hx5 hlF
  have z1 := (bq HF.out 0).trans (show _ = some (.slice A nodes.length c) from rfl)
  have HS := aq (show gF < w.heap.size + 2 by have := HLF.out; omega)
  have hsz : ((w.alloc (.cells #[.pointer (some ⟨gF, 0, none⟩)] 114)).alloc (.cells #[.int .i64 0, .int .i64 1, .int .i64 0, .int .i64 1, .int .i64 0, .int .i64 1, .int .i64 0, .int .i64 1, .int .i64 0, .int .i64 1, .int .i64 0, .int .i64 1, .int .i64 0, .int .i64 1] 35)).heap.size = w.heap.size + 2 := by simp
  have hg := graph89 nodes A c ((w.alloc (.cells #[.pointer (some ⟨gF, 0, none⟩)] 114)).alloc (.cells #[.int .i64 0, .int .i64 1, .int .i64 0, .int .i64 1, .int .i64 0, .int .i64 1, .int .i64 0, .int .i64 1, .int .i64 0, .int .i64 1, .int .i64 0, .int .i64 1, .int .i64 0, .int .i64 1] 35)) (Kd.xZ HC.out HB.out) hc HI.out
  have HG := aq hg
  have HSZ := aq hsz
  clear hg hsz
  go_enter Try.func63, Try.ntmps63
  cases hgb : wI nodes with
  | false =>
    rw [hgb] at HG
    clear hgb
    go_wp2_with (go_at_call 89; refine HG.out.mono ?_; rintro e w7 ⟨rfl, hd⟩; have HB7 := aq (bt_ HB.out hd); clear hd)
    go_ret
    exact ⟨rfl, HB7.out⟩
  | true =>
    rw [hgb] at HG
    have HGB := aq hgb
    clear hgb
    go_wp2_with (first | (go_at_call 89; refine HG.out.mono ?_; rintro e w7 ⟨rfl, hd⟩; have HB7 := aq (bt_ HB.out hd); have HF7 := aq (bb_ HF.out hd); have HX37 := aq (bb_ HX3.out hd); have HX57 := aq (bb_ HX5.out hd); have HZ7 := aq hd.size; clear hd HB HF HX3 HX5) | (go_at_call 42; refine (contF42 90 #[.pointer (some ⟨w.heap.size, 0, none⟩)] (fun _ => false) en90 none 0 [] _ (Kd.C_nil _ _) (fun W x hx => by cases hx)).mono ?_; rintro e w8 ⟨rfl, hd⟩; have HB8 := aq (bt_ HB7.out hd); have HF8 := aq (bb_ HF7.out hd); have HX38 := aq (bb_ HX37.out hd); have HX58 := aq (bb_ HX57.out hd); have HZ8 := aq (Nat.le_trans HZ7.out hd.size); clear hd HB7 HF7 HX37 HX57 HZ7))
    have HX39 := aq (xJ HX38.out)
    have HX59 := aq (xJ HX58.out)
    have HF9 := aq (xJ HF8.out)
    have HB9 := aq (zQ HB8.out)
    have HZ9 := aq (show _ ≤ w8.drew.heap.size from HZ8.out)
    clear HX38 HX58 HF8 HB8 HZ8
    refine xK (n := 16) (S := fun w' => w'.cell? ⟨w.heap.size, 0, none⟩ = some (.pointer (some ⟨gF, 0, none⟩)) ∧ w'.cell? ⟨gF, 1, none⟩ = some (.slice none 0 0) ∧ w'.cell? ⟨gF, 2, none⟩ = some (.slice none 0 0) ∧ w'.cell? ⟨w.heap.size + 1, 0, none⟩ = some (.int .i64 0) ∧ w'.cell? ⟨w.heap.size + 1, 1, none⟩ = some (.int .i64 1) ∧ w'.cell? ⟨w.heap.size + 1, 2, none⟩ = some (.int .i64 0) ∧ w'.cell? ⟨w.heap.size + 1, 3, none⟩ = some (.int .i64 1) ∧ w'.cell? ⟨w.heap.size + 1, 4, none⟩ = some (.int .i64 0) ∧ w'.cell? ⟨w.heap.size + 1, 5, none⟩ = some (.int .i64 1) ∧ w'.cell? ⟨w.heap.size + 1, 6, none⟩ = some (.int .i64 0) ∧ w'.cell? ⟨w.heap.size + 1, 7, none⟩ = some (.int .i64 1) ∧ w'.cell? ⟨w.heap.size + 1, 8, none⟩ = some (.int .i64 0) ∧ w'.cell? ⟨w.heap.size + 1, 9, none⟩ = some (.int .i64 1) ∧ w'.cell? ⟨w.heap.size + 1, 10, none⟩ = some (.int .i64 0) ∧ w'.cell? ⟨w.heap.size + 1, 11, none⟩ = some (.int .i64 1) ∧ w'.cell? ⟨w.heap.size + 1, 12, none⟩ = some (.int .i64 0) ∧ w'.cell? ⟨w.heap.size + 1, 13, none⟩ = some (.int .i64 1)) (ds := []) (msk 16 0) (by kernel_rfl) rfl rfl ⟨(bq HX39.out 0).trans rfl, (bq HF9.out 1).trans rfl, (bq HF9.out 2).trans rfl, (bq HX59.out 0).trans rfl, (bq HX59.out 1).trans rfl, (bq HX59.out 2).trans rfl, (bq HX59.out 3).trans rfl, (bq HX59.out 4).trans rfl, (bq HX59.out 5).trans rfl, (bq HX59.out 6).trans rfl, (bq HX59.out 7).trans rfl, (bq HX59.out 8).trans rfl, (bq HX59.out 9).trans rfl, (bq HX59.out 10).trans rfl, (bq HX59.out 11).trans rfl, (bq HX59.out 12).trans rfl, (bq HX59.out 13).trans rfl⟩ (fun hHeld => ?_); refine yO vU.tab3 vU.bits3 (fun HT_ HW_ => ?_)
    generalize w8.drew = w9 at HX39 HX59 HF9 HB9 HZ9 hHeld ⊢
    refine tU 0 22 (msk 16 1) HT_.out HW_.out hHeld ?_ ?_ ?_
    rotate_left
    · rintro w' ⟨s0, s1, s2, s3, s4, s5, s6, s7, s8, s9, s10, s11, s12, s13, s14, s15, s16⟩; go_simp; with_reducible rfl
    refine pU 1 23 (msk 16 3) HT_.out ?_
    refine pU 2 24 (msk 16 7) HT_.out ?_
    refine tU 3 25 (msk 16 15) HT_.out HW_.out hHeld ?_ ?_ ?_
    rotate_left
    · rintro w' ⟨s0, s1, s2, s3, s4, s5, s6, s7, s8, s9, s10, s11, s12, s13, s14, s15, s16⟩; go_simp; with_reducible rfl
    refine pU 4 26 (msk 16 31) HT_.out ?_
    refine tU 5 27 (msk 16 63) HT_.out HW_.out hHeld ?_ ?_ ?_
    rotate_left
    · rintro w' ⟨s0, s1, s2, s3, s4, s5, s6, s7, s8, s9, s10, s11, s12, s13, s14, s15, s16⟩; go_simp; with_reducible rfl
    refine pU 6 28 (msk 16 127) HT_.out ?_
    refine pU 7 29 (msk 16 255) HT_.out ?_
    refine tU 8 30 (msk 16 511) HT_.out HW_.out hHeld ?_ ?_ ?_
    rotate_left
    · rintro w' ⟨s0, s1, s2, s3, s4, s5, s6, s7, s8, s9, s10, s11, s12, s13, s14, s15, s16⟩; go_simp; with_reducible rfl
    refine pU 9 31 (msk 16 1023) HT_.out ?_
    refine pU 10 32 (msk 16 2047) HT_.out ?_
    refine pU 11 33 (msk 16 4095) HT_.out ?_
    refine tU 12 34 (msk 16 8191) HT_.out HW_.out hHeld ?_ ?_ ?_
    rotate_left
    · rintro w' ⟨s0, s1, s2, s3, s4, s5, s6, s7, s8, s9, s10, s11, s12, s13, s14, s15, s16⟩; go_simp; with_reducible rfl
    refine wW (i := 13) (N := some 35) (msk 16 16383) rfl rfl (zG HT_.out (by kernel_rfl)) (by decide) (fun K hK => ?_)
    refine uN Try.func91 (by kernel_rfl) rfl #[.agg #[.int .i64 0, .int .i64 1, .int .i64 0, .int .i64 1, .int .i64 0, .int .i64 1, .int .i64 0, .int .i64 1, .int .i64 0, .int .i64 1, .int .i64 0, .int .i64 1, .int .i64 0, .int .i64 1]] (by rfl) rfl rfl (by (try simp only [List.map_toArray, List.map_cons, List.map_nil]); first | done | rfl) ?_
    refine (right_plain _).mono ?_
    rintro e w10 ⟨rfl, hd⟩
    refine ⟨_, rfl, ?_⟩
    have HX3a := aq (bb_ HX39.out hd)
    have HX5a := aq (bb_ HX59.out hd)
    have HFa := aq (bb_ HF9.out hd)
    have HBa := aq (bt_ HB9.out hd)
    have HZa := aq (Nat.le_trans HZ9.out hd.size)
    clear hd HX39 HX59 HF9 HB9 HZ9
    refine hK.out _ _ ⟨(bq HX3a.out 0).trans rfl, (bq HFa.out 1).trans rfl, (bq HFa.out 2).trans rfl, (bq HX5a.out 0).trans rfl, (bq HX5a.out 1).trans rfl, (bq HX5a.out 2).trans rfl, (bq HX5a.out 3).trans rfl, (bq HX5a.out 4).trans rfl, (bq HX5a.out 5).trans rfl, (bq HX5a.out 6).trans rfl, (bq HX5a.out 7).trans rfl, (bq HX5a.out 8).trans rfl, (bq HX5a.out 9).trans rfl, (bq HX5a.out 10).trans rfl, (bq HX5a.out 11).trans rfl, (bq HX5a.out 12).trans rfl, (bq HX5a.out 13).trans rfl⟩ (fun hHeld => ?_)
    clear hK K
    refine xV (a' := ?_) ?_ ?_
    rotate_left
    · show Act.put _ (some 35) _ = _
      simp only [Act.put, sq, iw, jw]
      rfl
    refine pU 14 36 (msk 16 32767) HT_.out ?_
    refine pU 15 37 (msk 16 65535) HT_.out ?_
    refine wX (yG HT_.out (by kernel_rfl)) ?_
    go_wp2
    go_loopw [43] (fun i wr => i = .int .i64 0 ∧ wr = w10) (fun i _ => 0)
    case atStart => exact ⟨rfl, rfl⟩
    case round =>
      obtain ⟨rfl, rfl⟩ := hrel
      obtain ⟨hok, hl4⟩ := pJ HGB.out
      have zF := (bq HFa.out 0).trans (show _ = some (.slice A nodes.length c) from rfl)
      have zX := (bq HX3a.out 0).trans (show _ = some (.pointer (some ⟨gF, 0, none⟩)) from rfl)
      have hn := needed66 nodes [] A c none 0 wr (Kd.xZ HC.out HBa.out) hc (Kd.C_nil _ _) (Nat.le_refl _) (fun r hr => by cases hr) hok (by omega)
      rw [needB_nil] at hn
      have HN := aq hn
      clear hn hok HGB
      go_wp2_with (go_at_call 66; refine HN.out.mono ?_; rintro e w11 ⟨v, rfl, ho, hd⟩; obtain ⟨Av, cv, ev⟩ := Kd.yT ho; subst ev; rw [List.length_replicate] at ho; have HO := aq ho; have HBb := aq (bt_ HBa.out hd); have HXb := aq (bb_ HX3a.out hd); clear ho hd HBa HX3a HFa HX5a HZa zF zX)
      generalize wr.heap.size = B0 at HO
      go_loopw [68] (fun i wr2 => ∃ j : Nat, i = .int .i64 (j : Int) ∧ zT (j ≤ nodes.length) ∧ zT (Below w.heap.size w wr2) ∧ zT (Kd.bool.R 4 wr2 B0 (fun _ => True) (.slice Av nodes.length cv) (List.replicate nodes.length false))) (fun i _ => nodes.length - (intOf i).toNat)
      case atStart => exact ⟨0, rfl, ⟨Nat.zero_le _⟩, HBb, HO⟩
      case round =>
        obtain ⟨j, rfl, HJ, HBr, HOr⟩ := hrel
        clear HO HBb HXb
        by_cases hlt : j < nodes.length
        · obtain ⟨go, co, eo, gb, gl, cl, HGo⟩ := Kd.uK HOr.out (by rw [List.length_replicate]; omega)
          injection eo with ea en ec
          subst ea
          obtain ⟨zc, _⟩ := Kd.yZ false HOr.out (j : Int) (by omega) (by omega)
          rw [rd_no, Int.toNat_natCast] at zc
          clear gb gl cl HGo en ec
          have HLT := aq hlt
          have hltz : (j : Int) < (nodes.length : Int) := by omega
          have hj0 : (0 : Int) ≤ (j : Int) := by omega
          have HW := aq (show wrap64 ((j : Int) + 1) = ((j + 1 : Nat) : Int) by unfold wrap64; have := HLT.out; omega)
          have fin : ∀ W : World, Below w.heap.size w W → Kd.bool.R 4 W B0 (fun x => True) (Value.slice (some ⟨go, 0, none⟩) nodes.length cv) (List.replicate nodes.length false) → (∃ j_1 : Nat, Value.int .i64 (wrap64 ((j : Int) + 1)) = .int .i64 (j_1 : Int) ∧ zT (j_1 ≤ nodes.length) ∧ zT (Below w.heap.size w W) ∧ zT (Kd.bool.R 4 W B0 (fun x => True) (Value.slice (some ⟨go, 0, none⟩) nodes.length cv) (List.replicate nodes.length false))) ∧ nodes.length - (intOf (.int .i64 (wrap64 ((j : Int) + 1)))).toNat < nodes.length - (intOf (.int .i64 (j : Int))).toNat := by
            intro W h1 h2
            rw [HW.out]
            refine ⟨⟨j + 1, rfl, ⟨hlt⟩, ⟨h1⟩, ⟨h2⟩⟩, ?_⟩
            simp only [intOf]
            omega
          have FIN := aq fin
          clear hlt fin
          replace hltz := eq_true hltz
          replace hj0 := eq_true hj0
          go_wp2
          refine xK (n := 29) (S := fun _ => True) (ds := []) (msk 29 0) (by kernel_rfl) rfl rfl trivial (fun hHeld => ?_); refine yO vU.tab14 vU.bits14 (fun HT_ HW_ => ?_)
          refine pU 0 73 (msk 29 1) HT_.out ?_
          refine pU 1 74 (msk 29 3) HT_.out ?_
          refine pW 2 75 (msk 29 7) HT_.out ?_
          refine pW 3 76 (msk 29 15) HT_.out ?_
          refine pW 4 77 (msk 29 31) HT_.out ?_
          refine pW 5 78 (msk 29 63) HT_.out ?_
          refine pW 6 79 (msk 29 127) HT_.out ?_
          refine pW 7 80 (msk 29 255) HT_.out ?_
          refine pW 8 81 (msk 29 511) HT_.out ?_
          refine pW 9 82 (msk 29 1023) HT_.out ?_
          refine pW 10 83 (msk 29 2047) HT_.out ?_
          refine pU 11 84 (msk 29 4095) HT_.out ?_
          refine pU 12 85 (msk 29 8191) HT_.out ?_
          refine pW 13 86 (msk 29 16383) HT_.out ?_
          refine pW 14 87 (msk 29 32767) HT_.out ?_
          refine pW 15 88 (msk 29 65535) HT_.out ?_
          refine pW 16 89 (msk 29 131071) HT_.out ?_
          refine pW 17 90 (msk 29 262143) HT_.out ?_
          refine pW 18 91 (msk 29 524287) HT_.out ?_
          refine pW 19 92 (msk 29 1048575) HT_.out ?_
          refine pW 20 93 (msk 29 2097151) HT_.out ?_
          refine pW 21 94 (msk 29 4194303) HT_.out ?_
          refine pW 22 95 (msk 29 8388607) HT_.out ?_
          refine pW 23 96 (msk 29 16777215) HT_.out ?_
          refine pW 24 97 (msk 29 33554431) HT_.out ?_
          refine pW 25 98 (msk 29 67108863) HT_.out ?_
          refine pW 26 99 (msk 29 134217727) HT_.out ?_
          refine pW 27 100 (msk 29 268435455) HT_.out ?_
          refine pU 28 101 (msk 29 536870911) HT_.out ?_
          refine wX (yG HT_.out (by kernel_rfl)) ?_
          go_wp2
          exact FIN.out _ (zQ HBr.out) (Kd.R_drew HOr.out)
        · have hltz : ¬ (j : Int) < (nodes.length : Int) := by omega
          clear hlt
          go_wp2
          go_ret
          exact ⟨rfl, HBr.out⟩
end Go.Proofs.Ytoonahobmlnflaa.PC
namespace Go.Proofs.Ytoonahobmlnflaa.PC
open Go.RowKit Go.Shelf A B C
attribute [local go_sem] Oper.semAt_some
theorem back120_in (F : Fence) (n : Nat) (h120 : F.fn 120) (hro : F.round = none) (l Bs : Nat) (W : World) (hBs : W.cell? ⟨Bs, 0, none⟩ = some (.slice none 0 0)) :
    CallsIn F n Try.prog 120 #[.func (.yield l) #[] #[], .pointer (some ⟨Bs, 0, none⟩)] W fun e W' => (∃ v, e = .returned v) ∧ W' = W := by
  refine callsIn_of_wp Try.func120 rfl h120 ?_ hro
  simp only [Try.ntmps120, List.size_toArray, List.length_cons, List.length_nil, Nat.reduceAdd, Nat.reduceSub, Array.replicate_succ, Array.replicate_zero, List.push_toArray, List.append_toArray, List.nil_append, List.cons_append]
  gi_wp2
  gi_loopw [3] (fun i wr => i = .int .i64 (-1) ∧ wr = W) (fun i _ => 0)
  case atStart => exact ⟨by rfl, rfl⟩
  case round =>
    obtain ⟨rfl, rfl⟩ := hrel
    gi_wp2
    go_end0
    exact ⟨⟨_, rfl⟩, rfl⟩
theorem back100_in (F : Fence) (n : Nat) (h100 : F.fn 100) (hro : F.round = none) (a : Option Addr) (len cap : Nat) (w : World) :
    CallsIn F n Try.prog 100 #[.slice a len cap] w fun e w' => e = .returned (.func (.func 120) #[] #[.pointer (some ⟨w.heap.size, 0, none⟩)]) ∧ w' = w.alloc (.cells #[.slice a len cap] 118) := by
  refine callsIn_of_wp Try.func100 rfl h100 ?_ hro
  simp only [Try.ntmps100, List.size_toArray, List.length_cons, List.length_nil, Nat.reduceAdd, Nat.reduceSub, Array.replicate_succ, Array.replicate_zero, List.push_toArray, List.append_toArray, List.nil_append, List.cons_append]
  gi_wp2
  go_ret
  exact ⟨rfl, rfl⟩
theorem back0_stops (F : Fence) (n : Nat) (h120 : F.fn 120) (hro : F.round = none) (Bs n₀ : Nat) (w0 : World) (hBs : w0.heap[Bs]? = some (.cells #[.slice none 0 0] 118 (0, 0))) :
    SeqStopsK F n Try.prog 120 #[.pointer (some ⟨Bs, 0, none⟩)] (fun x : Fin 0 => #[undef, undef]) (KpB n₀ Bs) (fun ys => ys = []) (fun _ => True) 0 w0 := fun l J Jx W hW _ _ hY h0 => by
  have hlt := (Array.getElem?_eq_some_iff.1 hBs).1
  have hc : W.cell? ⟨Bs, 0, none⟩ = some (.slice none 0 0) := bq ((hW.block Bs hlt).trans hBs) 0
  refine (back120_in F n h120 hro l Bs W hc).mono ?_
  rintro e W' ⟨he, rfl⟩
  exact ⟨he, .inl ⟨[], rfl, h0⟩⟩
theorem run_mk90 (W : World) : (Instr.makeSlice 90 (.int .i64 0) (.int .i64 0)).run Try.prog W = .ok (.slice (some ⟨W.heap.size, 0, none⟩) 0 0) (W.alloc (.cells #[] 35)) := by kernel_rfl
attribute [local go_sem] run_mk90
theorem solved69 (gF : Nat) (cs : Array Value) (w : World) (hF : w.heap[gF]? = some (.cells cs 120 (0, 0))) (h1 : cs[1]? = some (.slice none 0 0)) (h20 : cs[20]? = some (.slice none 0 0)) :
    Calls Try.prog 69 #[.pointer (some ⟨gF, 0, none⟩)] w fun e w' => (∃ A : Option Addr, e = .returned (.slice A 0 0)) ∧ Below w.heap.size w w' := by
  have hu120 := Try.underlying120
  have hx := heap_alloc_last w (.cells #[.pointer (some ⟨gF, 0, none⟩)] 114)
  have hF' := zM hF (.cells #[.pointer (some ⟨gF, 0, none⟩)] 114)
  have hb := zY (Below.refl w.heap.size w) (.cells #[.pointer (some ⟨gF, 0, none⟩)] 114)
  have z1 := (bq hF' 1).trans h1
  have HX := aq hx
  have HF := aq hF'
  have HB := aq hb
  have H20 := aq h20
  have HLF := aq (zN hF)
  clear hx hF' hb h1 h20 hF
  refine callsIn_wide.1 (callsIn_of_wp_marks (n := 9) Try.func69 rfl trivial ?_ rfl)
  simp only [Try.ntmps69, List.size_toArray, List.length_cons, List.length_nil, Nat.reduceAdd, Nat.reduceSub, Array.replicate_succ, Array.replicate_zero, List.push_toArray, List.append_toArray, List.nil_append, List.cons_append]
  refine wpIn_wide.2 ?_
  have hb3 := zY (zY HB.out (.cells #[] 35)) (.cells #[.slice (some ⟨w.heap.size + 1, 0, none⟩) 0 0] 90)
  have hx3 := heap_alloc_last ((w.alloc (.cells #[.pointer (some ⟨gF, 0, none⟩)] 114)).alloc (.cells #[] 35)) (.cells #[.slice (some ⟨w.heap.size + 1, 0, none⟩) 0 0] 90)
  rw [World.size_alloc, World.size_alloc] at hx3
  have hxa := zM (zM HX.out (.cells #[] 35)) (.cells #[.slice (some ⟨w.heap.size + 1, 0, none⟩) 0 0] 90)
  have hfa := zM (zM HF.out (.cells #[] 35)) (.cells #[.slice (some ⟨w.heap.size + 1, 0, none⟩) 0 0] 90)
  have HB3 := aq hb3
  have HX3 := aq hx3
  have HXA := aq hxa
  have HFA := aq hfa
  clear hb3 hx3 hxa hfa HB HX HF
  go_wp2
  generalize ((w.alloc (.cells #[.pointer (some ⟨gF, 0, none⟩)] 114)).alloc (.cells #[] 35)).alloc (.cells #[.slice (some ⟨w.heap.size + 1, 0, none⟩) 0 0] 90) = W1 at HB3 HX3 HXA HFA ⊢
  go_loopw [18] (fun i wr => i = .int .i64 0 ∧ wr = W1) (fun i _ => 0)
  case atStart => exact ⟨rfl, rfl⟩
  case round =>
    obtain ⟨rfl, rfl⟩ := hrel
    have zF := (bq HFA.out 20).trans H20.out
    have zX := (bq HXA.out 0).trans (show _ = some (.pointer (some ⟨gF, 0, none⟩)) from rfl)
    go_wp2_with (go_at_call 100; refine (callsIn_wide.1 (back100_in Fence.wide 9 trivial rfl none 0 0 _)).mono ?_; rintro e w' ⟨rfl, rfl⟩)
    have hbs := heap_alloc_last wr (.cells #[.slice none 0 0] 118)
    have hB2 := zY HB3.out (.cells #[.slice none 0 0] 118)
    have hX2 := zM HX3.out (.cells #[.slice none 0 0] 118)
    have hs2 : wr.heap.size < (wr.alloc (.cells #[.slice none 0 0] 118)).heap.size := by simp
    have hgb2 : w.heap.size + 1 + 1 < wr.heap.size := zN HX3.out
    have hbw : w.heap.size ≤ wr.heap.size := HB3.out.size
    clear HB3 HX3 HXA HFA zF zX
    generalize wr.alloc (.cells #[.slice none 0 0] 118) = W0 at hbs hB2 hX2 hs2 ⊢
    generalize wr.heap.size = Bs at hbs hs2 hgb2 hbw ⊢
    refine (wpIn_wide (n := 9)).1 ?_
    refine wpIn_rangeFunc_ownH (α := Fin 0) rfl (by omega) (gf := 120) (lb := #[.pointer (some ⟨Bs, 0, none⟩)]) rfl trivial (enters_of Try.func120 (by kernel_rfl) rfl)
      (back0_stops Fence.wide 8 trivial rfl Bs w.heap.size W0 hbs) KpB.t
      (fun W l o o' hl h ho hw => ⟨belowK_b hB2.size W l o o' hl h ho hw, World.putObj_heap_other (by omega)⟩) (Below.refl _ _) (fun _ => rfl)
      (fun pre W => W.heap[w.heap.size + 1 + 1]? = some (.cells #[.slice (some ⟨w.heap.size + 1, 0, none⟩) 0 0] 90 (0, 0)) ∧ Below w.heap.size w W ∧ W0.heap.size ≤ W.heap.size)
      (fun _ _ _ => False)
      (fun s X Y row hs hg hr => ⟨(hg.block _ (zN hs.1) (fun e => by have := (hr _ e.symm).1; omega)).trans hs.1, hs.2.1.grown hg (by have := hs.2.1.size; have := hB2.size; omega) (fun k e => by have := (hr k e).1; have := hB2.size; omega), Nat.le_trans hs.2.2 hg.size⟩)
      (fun _ _ _ _ _ hs _ _ => hs)
      ⟨hX2, hB2, Nat.le_refl _⟩
      (fun x a' W => False)
      (fun x a' s X Y row hs hg hr => hs) ?assign ?body ?done ?stop
    case assign => exact fun l pre x => x.elim0
    case body => exact fun l pre x => x.elim0
    case done =>
      rintro D ys W hD hys ⟨hi1, hi2, hi3⟩ hK
      have HI2 := aq hi2
      have zr := (bq hi1 0).trans (show _ = some (.slice (some ⟨w.heap.size + 1, 0, none⟩) 0 0) from rfl)
      clear hi1 hi2 hi3 hys
      gi_wp2
      go_wp2
      refine ⟨by simp, .inl ⟨_, _, rfl, run_takeDeferred hK, ?_⟩⟩
      refine ⟨_, results_tmp rfl _ _ _, ⟨_, rfl⟩, ?_⟩
      exact HI2.out.trans (belowK_b (w := W0) hB2.size W D _ _ hD hK rfl rfl)
    case stop =>
      rintro D cc pre W _ _ h _
      exact h.elim
end Go.Proofs.Ytoonahobmlnflaa.PC
namespace Go.Proofs.Ytoonahobmlnflaa.PC
open Go.RowKit Go.Shelf A B C
theorem idle64 (p q : Addr) (w : World) : CallsD Try.prog 64 #[.pointer (some p), .pointer (some q)] .returning w fun e u' w' => e = .returned (.tuple #[]) ∧ u' = .returning ∧ w' = w := by
  refine callsD_of_wpS Try.func64 rfl fun c₀ cs hu => ?_
  apply wpS_seq
  apply wpS_region
  simp [wpOpsS, go_sem, recoverD, hu, Try.ntmps64, Exit.thenS]
  apply wpS_seq
  apply wpS_region
  simp [wpOpsS, go_sem, recoverD, hu, Try.ntmps64, Exit.thenS]
  refine wpS_cond (t := false) (by simp [Act.eval, Array.replicate]) ?_
  simp only [Bool.false_eq_true, if_false]
  refine wpS_of_wp (Go.wp_skip ?_)
  cases c₀
  simp_all [bodyPostS, results, Try.results64]
structure IFx (w W : World) (C : Array Value) : Prop where
  F : W.heap[w.heap.size + 1 + 1 + 1]? = some (.cells C 120 (0, 0))
  x9 : W.heap[w.heap.size]? = some (.cells #[.int .i64 0, .int .i64 1, .int .i64 0, .int .i64 1, .int .i64 0, .int .i64 1, .int .i64 0, .int .i64 1, .int .i64 0, .int .i64 1, .int .i64 0, .int .i64 1, .int .i64 0, .int .i64 1] 35 (0, 0))
  x10 : W.heap[w.heap.size + 1]? = some (.cells #[.slice none 0 0] 90 (0, 0))
  x11 : W.heap[w.heap.size + 1 + 1]? = some (.cells #[.int .i64 0] 25 (0, 0))
  B : Below w.heap.size w W
theorem IFx.step {w W W' : World} {C : Array Value} (h : IFx w W C) (hd : Below W.heap.size W W') : IFx w W' C := ⟨bb_ h.F hd, bb_ h.x9 hd, bb_ h.x10 hd, bb_ h.x11 hd, bt_ h.B hd⟩
theorem IFx.one {w W W' : World} {C C' : Array Value} (h : IFx w W C) (hd : rJ (w.heap.size + 1 + 1 + 1) W W') (hF : W'.heap[w.heap.size + 1 + 1 + 1]? = some (.cells C' 120 (0, 0))) : IFx w W' C' :=
  ⟨hF, hd.blk h.x9 (by omega), hd.blk h.x10 (by omega), hd.blk h.x11 (by omega), h.B.trans (hd.below (by omega))⟩
theorem run_mk118 (n : Nat) (hn : n ≤ 4000) : ∃ cs : Array Value, ∀ W : World, (Instr.makeSlice 118 (.int .i64 (n : Int)) (.int .i64 (n : Int))).run Try.prog W = .ok (.slice (some ⟨W.heap.size, 0, none⟩) n n) (W.alloc (.cells cs 117)) := by
  have hi : (Try.prog.info? 117).map (fun i => (i.zero, i.bytes)) = some (some (.agg #[.slice none 0 0, .int .i64 0, .int .i64 0, .int .i64 0, .int .i64 0, .int .i64 0, .int .i64 0, .int .i64 0, .int .i64 0, .int .i64 0, .int .i64 0, .int .i64 0, .int .i64 0, .int .i64 0, .int .i64 0]), 136) := by kernel_rfl
  obtain ⟨i, hi, hz⟩ := Option.map_eq_some_iff.1 hi
  simp only [Prod.mk.injEq] at hz
  refine ⟨madeCells (Value.agg #[.slice none 0 0, .int .i64 0, .int .i64 0, .int .i64 0, .int .i64 0, .int .i64 0, .int .i64 0, .int .i64 0, .int .i64 0, .int .i64 0, .int .i64 0, .int .i64 0, .int .i64 0, .int .i64 0, .int .i64 0]).cells (n * i.size), fun W => ?_⟩
  have h := run_make (P := Try.prog) W 118 117 i _ (by kernel_rfl) hi hz.1 .i64 .i64 (n : Int) (n : Int) (by omega) (by omega) (by rw [hz.2]; omega) (by omega)
  simp only [Int.toNat_natCast] at h
  exact h
theorem infer40 (nodes : List S37) (A : Option Addr) (c : Nat) (w : World) (hC : Kd.C k37 w A nodes.length nodes) (hc : nodes.length ≤ c) (hI : ∀ x ∈ nodes, wM x) :
    Calls Try.prog 40 #[.slice A nodes.length c, .slice none 0 0, .slice none 0 0, .slice none 0 0, .agg #[.int .i64 0, .int .i64 1, .int .i64 0, .int .i64 1, .int .i64 0, .int .i64 1, .int .i64 0, .int .i64 1, .int .i64 0, .int .i64 1, .int .i64 0, .int .i64 1, .int .i64 0, .int .i64 1]] w fun e w' => (∃ A' : Option Addr, e = .returned (.tuple #[.slice A' 0 0, .int .i64 (if wI nodes then 0 else 170)])) ∧ Below w.heap.size w w' := by
  have hmf : ∀ (fn : Fn) (first cap : Array Value) (w : World), (Instr.makeFunc fn first cap).run Try.prog w = .ok (.func fn first cap) w := fun _ _ _ _ => rfl
  have hu35 := Try.underlying35
  have hu120 := Try.underlying120
  have hu117 := Try.underlying117
  have HC := aq hC
  have HI := aq hI
  clear hC hI
  have hx9 := zM (zM (zM (heap_alloc_last w (.cells #[.int .i64 0, .int .i64 1, .int .i64 0, .int .i64 1, .int .i64 0, .int .i64 1, .int .i64 0, .int .i64 1, .int .i64 0, .int .i64 1, .int .i64 0, .int .i64 1, .int .i64 0, .int .i64 1] 35)) (.cells #[.slice none 0 0] 90)) (.cells #[.int .i64 0] 25)) (.cells #[.slice A nodes.length c, .slice none 0 0, .slice none 0 0, .slice none 0 0, .int .i64 0, .int .i64 0, .int .i64 0, .int .i64 0, .int .i64 0, .int .i64 0, .int .i64 0, .int .i64 0, .int .i64 0, .int .i64 0, .int .i64 0, .int .i64 0, .int .i64 0, .int .i64 0, .slice none 0 0, .slice none 0 0, .slice none 0 0, .slice none 0 0] 120)
  have hx10 := zM (zM (heap_alloc_last (w.alloc (.cells #[.int .i64 0, .int .i64 1, .int .i64 0, .int .i64 1, .int .i64 0, .int .i64 1, .int .i64 0, .int .i64 1, .int .i64 0, .int .i64 1, .int .i64 0, .int .i64 1, .int .i64 0, .int .i64 1] 35)) (.cells #[.slice none 0 0] 90)) (.cells #[.int .i64 0] 25)) (.cells #[.slice A nodes.length c, .slice none 0 0, .slice none 0 0, .slice none 0 0, .int .i64 0, .int .i64 0, .int .i64 0, .int .i64 0, .int .i64 0, .int .i64 0, .int .i64 0, .int .i64 0, .int .i64 0, .int .i64 0, .int .i64 0, .int .i64 0, .int .i64 0, .int .i64 0, .slice none 0 0, .slice none 0 0, .slice none 0 0, .slice none 0 0] 120)
  have hx11 := zM (heap_alloc_last ((w.alloc (.cells #[.int .i64 0, .int .i64 1, .int .i64 0, .int .i64 1, .int .i64 0, .int .i64 1, .int .i64 0, .int .i64 1, .int .i64 0, .int .i64 1, .int .i64 0, .int .i64 1, .int .i64 0, .int .i64 1] 35)).alloc (.cells #[.slice none 0 0] 90)) (.cells #[.int .i64 0] 25)) (.cells #[.slice A nodes.length c, .slice none 0 0, .slice none 0 0, .slice none 0 0, .int .i64 0, .int .i64 0, .int .i64 0, .int .i64 0, .int .i64 0, .int .i64 0, .int .i64 0, .int .i64 0, .int .i64 0, .int .i64 0, .int .i64 0, .int .i64 0, .int .i64 0, .int .i64 0, .slice none 0 0, .slice none 0 0, .slice none 0 0, .slice none 0 0] 120)
  have hxF := heap_alloc_last (((w.alloc (.cells #[.int .i64 0, .int .i64 1, .int .i64 0, .int .i64 1, .int .i64 0, .int .i64 1, .int .i64 0, .int .i64 1, .int .i64 0, .int .i64 1, .int .i64 0, .int .i64 1, .int .i64 0, .int .i64 1] 35)).alloc (.cells #[.slice none 0 0] 90)).alloc (.cells #[.int .i64 0] 25)) (.cells #[.slice A nodes.length c, .slice none 0 0, .slice none 0 0, .slice none 0 0, .int .i64 0, .int .i64 0, .int .i64 0, .int .i64 0, .int .i64 0, .int .i64 0, .int .i64 0, .int .i64 0, .int .i64 0, .int .i64 0, .int .i64 0, .int .i64 0, .int .i64 0, .int .i64 0, .slice none 0 0, .slice none 0 0, .slice none 0 0, .slice none 0 0] 120)
  have hb := zY (zY (zY (zY (Below.refl w.heap.size w) (.cells #[.int .i64 0, .int .i64 1, .int .i64 0, .int .i64 1, .int .i64 0, .int .i64 1, .int .i64 0, .int .i64 1, .int .i64 0, .int .i64 1, .int .i64 0, .int .i64 1, .int .i64 0, .int .i64 1] 35)) (.cells #[.slice none 0 0] 90)) (.cells #[.int .i64 0] 25)) (.cells #[.slice A nodes.length c, .slice none 0 0, .slice none 0 0, .slice none 0 0, .int .i64 0, .int .i64 0, .int .i64 0, .int .i64 0, .int .i64 0, .int .i64 0, .int .i64 0, .int .i64 0, .int .i64 0, .int .i64 0, .int .i64 0, .int .i64 0, .int .i64 0, .int .i64 0, .slice none 0 0, .slice none 0 0, .slice none 0 0, .slice none 0 0] 120)
  simp only [World.size_alloc] at hx10 hx11 hxF
  have hst := vU nodes A c (w.heap.size + 1 + 1 + 1) ((((w.alloc (.cells #[.int .i64 0, .int .i64 1, .int .i64 0, .int .i64 1, .int .i64 0, .int .i64 1, .int .i64 0, .int .i64 1, .int .i64 0, .int .i64 1, .int .i64 0, .int .i64 1, .int .i64 0, .int .i64 1] 35)).alloc (.cells #[.slice none 0 0] 90)).alloc (.cells #[.int .i64 0] 25)).alloc (.cells #[.slice A nodes.length c, .slice none 0 0, .slice none 0 0, .slice none 0 0, .int .i64 0, .int .i64 0, .int .i64 0, .int .i64 0, .int .i64 0, .int .i64 0, .int .i64 0, .int .i64 0, .int .i64 0, .int .i64 0, .int .i64 0, .int .i64 0, .int .i64 0, .int .i64 0, .slice none 0 0, .slice none 0 0, .slice none 0 0, .slice none 0 0] 120)) (Kd.xZ HC.out hb) hc HI.out hxF
  have HST := aq hst
  have HB := aq hb
  have HX9 := aq hx9
  have HX10 := aq hx10
  have HX11 := aq hx11
  have HXF := aq hxF
  clear hst hb hx9 hx10 hx11 hxF
  go_enter_defers Try.func40, Try.ntmps40
  cases hgb : wI nodes with
  | false =>
    rw [hgb] at HST
    clear hgb
    go_wp2_with (go_at_call 63; refine HST.out.mono ?_; rintro e w7 ⟨rfl, hd⟩; have HB7 := aq (bt_ HB.out hd); have h10 := bb_ HX10.out hd; have h11 := bb_ HX11.out hd; have z10 := (bq h10 0).trans (show _ = some (.slice none 0 0) from rfl); have z11 := (bq h11 0).trans (show _ = some (.int .i64 0) from rfl); have f10 := bf_ h10 0; have f11 := bf_ h11 0; have H10 := aq h10; have H11 := aq h11; clear h10 h11 hd)
    have h10' := yQ (p := ⟨w.heap.size + 1 + 1, 0, none⟩) (yP H10.out 0 (.slice none 0 0)) (by simp) (.int .i64 170)
    have h11' := yP (yQ (p := ⟨w.heap.size + 1, 0, none⟩) H11.out (by simp) (.slice none 0 0)) 0 (.int .i64 170)
    have y10 := (bq h10' 0).trans (show _ = some (.slice none 0 0) from rfl)
    have y11 := (bq h11' 0).trans (show _ = some (.int .i64 170) from rfl)
    have hbb : Below w.heap.size w ((w7.setCell { block := w.heap.size + 1, off := 0 } (Value.slice none 0 0)).setCell { block := w.heap.size + 1 + 1, off := 0 } (Value.int IntKind.i64 170)) := bs_ (bs_ HB7.out (by omega)) (by omega)
    have HBB := aq hbb
    clear hbb h10' h11'
    simp [bodyPostD, Leaves, settle, results, Try.results40, go_sem, y10, y11]
    exact HBB.out
  | true =>
    rw [hgb] at HST
    have HOK := aq (pJ hgb).1
    have HL := aq (pJ hgb).2
    have HSLEN := aq (Kd.C_max HC.out)
    clear hgb
    obtain ⟨mk, hmk⟩ := run_mk118 nodes.length HL.out
    have HMK := aq hmk
    clear hmk
    go_wp2_with (first | (go_at_call 63; refine HST.out.mono ?_; rintro e w7 ⟨rfl, hd⟩; have X7 := aq (show IFx w w7 #[.slice A nodes.length c, .slice none 0 0, .slice none 0 0, .slice none 0 0, .int .i64 0, .int .i64 0, .int .i64 0, .int .i64 0, .int .i64 0, .int .i64 0, .int .i64 0, .int .i64 0, .int .i64 0, .int .i64 0, .int .i64 0, .int .i64 0, .int .i64 0, .int .i64 0, .slice none 0 0, .slice none 0 0, .slice none 0 0, .slice none 0 0] from IFx.step ⟨HXF.out, HX9.out, HX10.out, HX11.out, HB.out⟩ hd); clear hd HXF HX9 HX10 HX11 HB HST) | (go_at_call 65; refine (form65 w7).mono ?_; rintro e w8 ⟨⟨g, rfl⟩, hd⟩; have X8 := aq (X7.out.step hd); clear hd X7) | (with_reducible refine tD 117 ?_; refine uR (g := w.heap.size + 1 + 1 + 1) (o := 3) (t0 := 120) (c' := #[.slice (some ⟨g, 0, none⟩) 0 0, .int .i64 0, .int .i64 1, .int .i64 0, .int .i64 1, .int .i64 0, .int .i64 1, .int .i64 0, .int .i64 1, .int .i64 0, .int .i64 1, .int .i64 0, .int .i64 1, .int .i64 0, .int .i64 1]) (cur := #[.slice A nodes.length c, .slice none 0 0, .slice none 0 0, .slice none 0 0, .int .i64 0, .int .i64 0, .int .i64 0, .int .i64 0, .int .i64 0, .int .i64 0, .int .i64 0, .int .i64 0, .int .i64 0, .int .i64 0, .int .i64 0, .int .i64 0, .int .i64 0, .int .i64 0, .slice none 0 0, .slice none 0 0, .slice none 0 0, .slice none 0 0]) (cur' := #[.slice A nodes.length c, .slice none 0 0, .slice none 0 0, .slice (some ⟨g, 0, none⟩) 0 0, .int .i64 0, .int .i64 1, .int .i64 0, .int .i64 1, .int .i64 0, .int .i64 1, .int .i64 0, .int .i64 1, .int .i64 0, .int .i64 1, .int .i64 0, .int .i64 1, .int .i64 0, .int .i64 1, .slice none 0 0, .slice none 0 0, .slice none 0 0, .slice none 0 0]) rfl rfl X8.out.F (by kernel_rfl) (by simp) (by kernel_rfl) (by kernel_rfl) ?_; intro w9 hF9 ho9; have X9 := aq (X8.out.one ho9 hF9); clear hF9 ho9 X8) | (with_reducible refine yY 35 ?_; refine xC (t := 35) (ad := ⟨w.heap.size, 0, none⟩) (cs := [.int .i64 0, .int .i64 1, .int .i64 0, .int .i64 1, .int .i64 0, .int .i64 1, .int .i64 0, .int .i64 1, .int .i64 0, .int .i64 1, .int .i64 0, .int .i64 1, .int .i64 0, .int .i64 1]) rfl (by kernel_rfl) (by kernel_rfl) (vL X9.out.x9 0 _ rfl) ?_) | (with_reducible refine tD 35 ?_; refine uR (g := w.heap.size + 1 + 1 + 1) (o := 4) (t0 := 120) (c' := #[.int .i64 0, .int .i64 1, .int .i64 0, .int .i64 1, .int .i64 0, .int .i64 1, .int .i64 0, .int .i64 1, .int .i64 0, .int .i64 1, .int .i64 0, .int .i64 1, .int .i64 0, .int .i64 1]) (cur := #[.slice A nodes.length c, .slice none 0 0, .slice none 0 0, .slice (some ⟨g, 0, none⟩) 0 0, .int .i64 0, .int .i64 1, .int .i64 0, .int .i64 1, .int .i64 0, .int .i64 1, .int .i64 0, .int .i64 1, .int .i64 0, .int .i64 1, .int .i64 0, .int .i64 1, .int .i64 0, .int .i64 1, .slice none 0 0, .slice none 0 0, .slice none 0 0, .slice none 0 0]) (cur' := #[.slice A nodes.length c, .slice none 0 0, .slice none 0 0, .slice (some ⟨g, 0, none⟩) 0 0, .int .i64 0, .int .i64 1, .int .i64 0, .int .i64 1, .int .i64 0, .int .i64 1, .int .i64 0, .int .i64 1, .int .i64 0, .int .i64 1, .int .i64 0, .int .i64 1, .int .i64 0, .int .i64 1, .slice none 0 0, .slice none 0 0, .slice none 0 0, .slice none 0 0]) rfl rfl X9.out.F (by kernel_rfl) (by simp) (by kernel_rfl) (by kernel_rfl) ?_; intro w10 hF10 ho10; have X10 := aq (X9.out.one ho10 hF10); clear hF10 ho10 X9) | (with_reducible refine gD (N := 45) rfl ?_; refine Kd.xW rfl (w1 := w10.alloc (.cells mk 117)) (v := .slice (some ⟨w10.heap.size, 0, none⟩) nodes.length nodes.length) ?hr ?_; (case hr => have hmk := HMK.out; go_simp); have X11 := aq (X10.out.step (zY (Below.refl _ _) (.cells mk 117))); generalize w10.alloc (.cells mk 117) = w11 at X11 ⊢; generalize w10.heap.size = g10; clear X10; have z18 := (bq X11.out.F 18).trans (show _ = some (.slice none 0 0) from rfl); have f18 := bf_ X11.out.F 18) | (with_reducible refine tD 118 ?_; refine oW (w1 := w11.setCell ⟨w.heap.size + 1 + 1 + 1, 18, none⟩ (.slice (some ⟨g10, 0, none⟩) nodes.length nodes.length)) rfl rfl rfl ?hr ?_; (case hr => go_simp); intro w12 hw12; have X12 := aq (X11.out.one (zR w11 ⟨w.heap.size + 1 + 1 + 1, 18, none⟩ (.slice (some ⟨g10, 0, none⟩) nodes.length nodes.length)) (yP X11.out.F 18 _)); rw [← hw12] at X12; clear hw12 X11 z18 f18) | (go_at_call 66; refine (needed66 nodes [] A c none 0 w12 (Kd.xZ HC.out X12.out.B) hc (Kd.C_nil _ _) (by simp) (by simp) HOK.out (by have := HL.out; omega)).mono ?_; rintro e w13 ⟨v, rfl, hR, hd⟩; rw [needB_nil] at hR; have X13 := aq (X12.out.step hd); obtain ⟨Av, cv, ev⟩ := Kd.yT hR; subst ev; have HO := aq hR; clear hd hR X12))
    go_loopw [52] (fun i wr => ∃ (j : Int), 0 ≤ j ∧ j ≤ (nodes.length : Int) ∧ i = .int .i64 j ∧ wr = w13) (fun i _ => nodes.length - (intOf i).toNat)
    case atStart => exact ⟨0, Int.le_refl _, by omega, rfl, rfl⟩
    case round =>
      obtain ⟨j, j0, j1, rfl, rfl⟩ := hrel
      by_cases hlt : j < (nodes.length : Int)
      · obtain ⟨go, co, eo, gb, gl, cl, HG⟩ := Kd.uK HO.out (by rw [List.length_replicate]; omega)
        injection eo with ea en ec
        subst ea
        obtain ⟨hx1, hf1⟩ := Kd.yZ false (by have := HO.out; rw [List.length_replicate] at this; exact this) j j0 hlt
        rw [rd_no] at hx1
        have HW := aq (show wrap64 (j + 1) = j + 1 by unfold wrap64; have := HL.out; omega)
        have HLT := aq hlt
        have HJ := aq j0
        clear gb gl cl HG en ec
        replace j0 := eq_true j0
        replace hlt := eq_true hlt
        go_wp2
        refine ⟨⟨j + 1, by have := HJ.out; omega, by have := HLT.out; omega, by rw [HW.out], trivial⟩, ?_⟩
        rw [HW.out]
        have := HLT.out
        have := HJ.out
        simp only [intOf]
        omega
      · obtain rfl : j = (nodes.length : Int) := by omega
        clear j0 j1 hlt
        have z19 := (bq X13.out.F 19).trans (show _ = some (.slice none 0 0) from rfl)
        go_wp2
        go_loopw [73] (fun i W => i = .int .i64 0 ∧ W = wr) (fun _ _ => 0)
        case atStart => exact ⟨rfl, rfl⟩
        case round =>
          obtain ⟨rfl, rfl⟩ := hrel
          clear z19
          go_wp2_with (go_at_call 69; refine (solved69 (w.heap.size + 1 + 1 + 1) _ wr X13.out.F rfl rfl).mono ?_; rintro e w14 ⟨⟨A', rfl⟩, hd⟩; have X14 := aq (X13.out.step hd); clear hd X13; have z10 := (bq X14.out.x10 0).trans (show _ = some (.slice none 0 0) from rfl); have z11 := (bq X14.out.x11 0).trans (show _ = some (.int .i64 0) from rfl); have f10 := bf_ X14.out.x10 0; have f11 := bf_ X14.out.x11 0)
          have h10' := yP X14.out.x10 0 (.slice A' 0 0)
          have h11' := yQ (p := ⟨w.heap.size + 1, 0, none⟩) X14.out.x11 (by simp) (.slice A' 0 0)
          have h10'' := yQ (p := ⟨w.heap.size + 1 + 1, 0, none⟩) h10' (by simp) (.int .i64 0)
          have h11'' := yP h11' 0 (.int .i64 0)
          have y10 := (bq h10'' 0).trans (show _ = some (.slice A' 0 0) from rfl)
          have y11 := (bq h11'' 0).trans (show _ = some (.int .i64 0) from rfl)
          have HBB := aq (bs_ (g := w.heap.size + 1 + 1) (j := 0) (v := .int .i64 0) (bs_ (g := w.heap.size + 1) (j := 0) (v := .slice A' 0 0) X14.out.B (by omega)) (by omega))
          clear h10' h11' h10'' h11'' z10 z11 f10 f11 X14
          refine leaves_cons (f := 64) (args := #[.pointer (some ⟨w.heap.size + 1, 0, none⟩), .pointer (some ⟨w.heap.size + 1 + 1, 0, none⟩)]) (by simp) (by simp [go_sem]) ?_
          refine (idle64 _ _ _).mono ?_
          rintro e u' w'' ⟨rfl, rfl, rfl⟩
          simp [bodyPostD, Leaves, settle, results, Try.results40, go_sem, y10, y11]
          exact HBB.out
end Go.Proofs.Ytoonahobmlnflaa.PC
