/- Texts of this claim, one behind the other. -/
import Derived.Test.YtoonahobmlnflaaVc17
set_option linter.unusedVariables false
set_option linter.unusedSimpArgs false
set_option maxRecDepth 100000
set_option maxHeartbeats 16000000
namespace Go.Proofs.Ytoonahobmlnflaa.PC
open Go.RowKit Go.Shelf A B C
theorem seg_eq {L : List Value} {a s : Nat} {cs : List Value} (hc : cs.length = s) (hl : a + s ≤ L.length) : ((L.take a ++ cs ++ L.drop (a + s)).drop a).take s = cs := by
  rw [List.append_assoc, List.drop_append_of_le_length (by rw [List.length_take]; omega), List.drop_eq_nil_of_le (by rw [List.length_take]; omega), List.nil_append, ← hc, List.take_left]
theorem seg_ne {L : List Value} {a b s : Nat} {cs : List Value} (hc : cs.length = s) (hl : a + s ≤ L.length) (h : b + s ≤ a ∨ a + s ≤ b) : ((L.take a ++ cs ++ L.drop (a + s)).drop b).take s = (L.drop b).take s := by
  apply List.ext_getElem?
  intro k
  rw [List.getElem?_take, List.getElem?_take]
  by_cases hk : k < s
  · rw [if_pos hk, if_pos hk, List.getElem?_drop, List.getElem?_drop]
    rcases h with h | h
    · rw [List.append_assoc, List.getElem?_append_left (by rw [List.length_take]; omega), List.getElem?_take, if_pos (by omega)]
    · rw [List.getElem?_append_right (by rw [List.length_append, List.length_take]; omega), List.length_append, List.length_take, List.getElem?_drop, Nat.min_eq_left (by omega), hc]
      congr 1
      omega
  · rw [if_neg hk, if_neg hk]
theorem R_put_at {α : Type} {d : Kd α} {e base g n cap i : Nat} {ok : Nat → Prop} {W W1 : World} {xs : List α} {x : α} {cs : List Value} {cur : Array Value} (h : Kd.R d e W base ok (.slice (some ⟨g, 0, none⟩) n cap) xs) (hx : W.heap[g]? = some (.cells cur e (0, 0))) (hi : i < n) (hc : cs.length = d.sz) (hM : d.M W1 base (fun k => ok k ∧ k ≠ g) x cs)
    (h1 : W1.heap[g]? = some (.cells (cur.toList.take (i * d.sz) ++ cs ++ cur.toList.drop (i * d.sz + d.sz)).toArray e (0, 0))) (hb : rJ g W W1) : Kd.R d e W1 base ok (.slice (some ⟨g, 0, none⟩) n cap) (xs.set i x) := by
  obtain ⟨rfl, hnc, _⟩ := Kd.uS h
  obtain ⟨hok, inner, ⟨hl, ho⟩, hr⟩ := h
  rcases ho with ⟨hv, _⟩ | ⟨g', cap', cur', hv, hbs, hh, hcp, hmx, hsz, htk⟩
  · cases hv
  injection hv with hv1 _ hv3
  injection hv1 with hv1
  injection hv1 with hv1
  subst hv1
  subst hv3
  rw [hx] at hh
  injection hh with hh
  injection hh with hh
  subst hh
  have hseg : i * d.sz + d.sz ≤ xs.length * d.sz := by rw [← Nat.succ_mul]; exact Nat.mul_le_mul_right _ hi
  have hcap : xs.length * d.sz ≤ cap * d.sz := Nat.mul_le_mul_right _ hcp
  have hcl : cur.toList.length = cap * d.sz := by rw [Array.length_toList, hsz]
  have hin : (cur.toList.take (i * d.sz) ++ cs ++ cur.toList.drop (i * d.sz + d.sz)).take (xs.length * d.sz) = inner.take (i * d.sz) ++ cs ++ inner.drop (i * d.sz + d.sz) := by
    rw [← htk]
    rw [List.take_append, List.length_append, List.length_take, Nat.min_eq_left (by omega), hc, List.take_of_length_le (by rw [List.length_append, List.length_take, hc]; omega), List.take_take, Nat.min_eq_left (by omega), List.drop_take]
  refine ⟨hok, inner.take (i * d.sz) ++ cs ++ inner.drop (i * d.sz + d.sz), ⟨?_, .inr ⟨g, cap, _, by rw [List.length_set], hbs, h1, by rw [List.length_set]; exact hcp, hmx, ?_, ?_⟩⟩, ?_, ?_⟩
  · rw [List.length_append, List.length_append, List.length_take, List.length_drop, hc, List.length_set, hl]; omega
  · rw [List.size_toArray, List.length_append, List.length_append, List.length_take, List.length_drop, hc, hcl]; omega
  · rw [List.length_set, List.toList_toArray, hin]
  · rw [List.length_append, List.length_append, List.length_take, List.length_drop, hc, List.length_set, hl]; omega
  · intro j p hj
    by_cases hji : j = i
    · subst hji
      rw [List.getElem?_set_self (by omega)] at hj
      injection hj with hj
      subst hj
      rw [seg_eq hc (by omega)]
      exact d.vZ (fun k hk => ⟨hk.1, fun he => hk.2 (by simpa [Value.ownBlock] using he)⟩) hM
    · rw [List.getElem?_set_ne (fun h => hji h.symm)] at hj
      have hjl := (List.getElem?_eq_some_iff.1 hj).1
      rw [seg_ne hc (by omega) (by
        rcases Nat.lt_or_gt_of_ne hji with h | h
        · left; rw [← Nat.succ_mul]; exact Nat.mul_le_mul_right _ h
        · right; rw [← Nat.succ_mul]; exact Nat.mul_le_mul_right _ h)]
      exact d.tY (fun k hk => hb.other k (fun he => hk.2 (by subst he; rfl))) (hr.2 j p hj)
def rdA (l : List S32) (i : Int) : S32 := zJ z32 l i
def FN (i : Int) (b : S32) : Prop := (b.f1 = 0 ∧ b.f0 = 0) ∨ ((b.f1 = 1 ∨ b.f1 = -1) ∧ 0 ≤ b.f0 ∧ b.f0 < i) ∨ (b.f1 = 1 ∧ b.f0 = i)
def FOK (l : List S32) : Prop := ∀ i : Int, 0 ≤ i → i < (l.length : Int) → FN i (rdA l i)
def ofF (l : List S32) : Nat → Int → Int → S32
  | 0, u, t => ⟨u, t⟩
  | k + 1, u, t => if (rdA l u).f1 = 0 then ⟨0, 0⟩ else if (rdA l u).f0 = u then ⟨u, t⟩ else ofF l k (rdA l u).f0 (t * (rdA l u).f1)
def ofA (l : List S32) (v : Int) : S32 := ofF l (v.toNat + 1) v 1
theorem uV (l : List S32) (k : Nat) (u t : Int) : ofF l (k + 1) u t = if (rdA l u).f1 = 0 then ⟨0, 0⟩ else if (rdA l u).f0 = u then ⟨u, t⟩ else ofF l k (rdA l u).f0 (t * (rdA l u).f1) := rfl
theorem ofF_any {l : List S32} (h : FOK l) : ∀ (n : Nat) (u t : Int), u.toNat ≤ n → 0 ≤ u → u < (l.length : Int) → ∀ k, u.toNat < k → ofF l k u t = ofF l (u.toNat + 1) u t := by
  intro n
  induction n with
  | zero =>
    intro u t hn h0 h1 k hk
    obtain ⟨k, rfl⟩ : ∃ m, k = m + 1 := ⟨k - 1, by omega⟩
    rw [uV, uV]
    by_cases c1 : (rdA l u).f1 = 0
    · rw [if_pos c1, if_pos c1]
    · rw [if_neg c1, if_neg c1]
      by_cases c2 : (rdA l u).f0 = u
      · rw [if_pos c2, if_pos c2]
      · rcases h u h0 h1 with hf | ⟨_, hf⟩ | hf
        · exact absurd hf.1 c1
        · omega
        · exact absurd hf.2 c2
  | succ n ih =>
    intro u t hn h0 h1 k hk
    obtain ⟨k, rfl⟩ : ∃ m, k = m + 1 := ⟨k - 1, by omega⟩
    rw [uV, uV]
    by_cases c1 : (rdA l u).f1 = 0
    · rw [if_pos c1, if_pos c1]
    · rw [if_neg c1, if_neg c1]
      by_cases c2 : (rdA l u).f0 = u
      · rw [if_pos c2, if_pos c2]
      · rw [if_neg c2, if_neg c2]
        rcases h u h0 h1 with hf | ⟨_, hf⟩ | hf
        · exact absurd hf.1 c1
        · rw [ih _ _ (by omega) hf.1 (by omega) k (by omega), ih _ _ (by omega) hf.1 (by omega) u.toNat (by omega)]
        · exact absurd hf.2 c2
theorem of_step {l : List S32} (h : FOK l) {u t : Int} (h0 : 0 ≤ u) (h1 : u < (l.length : Int)) (c1 : ¬(rdA l u).f1 = 0) (c2 : ¬(rdA l u).f0 = u) :
    0 ≤ (rdA l u).f0 ∧ (rdA l u).f0 < u ∧ ((rdA l u).f1 = 1 ∨ (rdA l u).f1 = -1) ∧ ofF l (u.toNat + 1) u t = ofF l ((rdA l u).f0.toNat + 1) (rdA l u).f0 (t * (rdA l u).f1) := by
  rcases h u h0 h1 with hf | ⟨hs, hf⟩ | hf
  · exact absurd hf.1 c1
  · refine ⟨hf.1, hf.2, hs, ?_⟩
    rw [uV, if_neg c1, if_neg c2]
    exact ofF_any h _ _ _ (Nat.le_refl _) hf.1 (by omega) _ (by omega)
  · exact absurd hf.2 c2
def sK (l : List S32) (e : Int) : Prop := 0 ≤ e ∧ e < (l.length : Int) ∧ (rdA l e).f1 = 1 ∧ (rdA l e).f0 = e
theorem of_end {l : List S32} (h : FOK l) : ∀ (n : Nat) (u t : Int), u.toNat ≤ n → 0 ≤ u → u < (l.length : Int) → (t = 1 ∨ t = -1) → ofF l (u.toNat + 1) u t = ⟨0, 0⟩ ∨ (sK l (ofF l (u.toNat + 1) u t).f0 ∧ (ofF l (u.toNat + 1) u t).f0 ≤ u ∧ ((ofF l (u.toNat + 1) u t).f1 = 1 ∨ (ofF l (u.toNat + 1) u t).f1 = -1)) := by
  intro n
  induction n with
  | zero =>
    intro u t hn h0 h1 ht
    by_cases c1 : (rdA l u).f1 = 0
    · left; rw [uV, if_pos c1]
    · right
      by_cases c2 : (rdA l u).f0 = u
      · rw [uV, if_neg c1, if_pos c2]
        refine ⟨⟨h0, h1, ?_, c2⟩, Int.le_refl _, ht⟩
        rcases h u h0 h1 with hf | hf | hf
        · exact absurd hf.1 c1
        · omega
        · exact hf.1
      · have := (of_step h (t := t) h0 h1 c1 c2)
        omega
  | succ n ih =>
    intro u t hn h0 h1 ht
    by_cases c1 : (rdA l u).f1 = 0
    · left; rw [uV, if_pos c1]
    · by_cases c2 : (rdA l u).f0 = u
      · right
        rw [uV, if_neg c1, if_pos c2]
        refine ⟨⟨h0, h1, ?_, c2⟩, Int.le_refl _, ht⟩
        rcases h u h0 h1 with hf | hf | hf
        · exact absurd hf.1 c1
        · omega
        · exact hf.1
      · obtain ⟨p0, p1, ps, pe⟩ := (of_step h (t := t) h0 h1 c1 c2)
        rw [pe]
        rcases ih _ (t * (rdA l u).f1) (by omega) p0 (by omega) (by rcases ht with rfl | rfl <;> rcases ps with ps | ps <;> rw [ps] <;> decide) with q | ⟨q1, q2, q3⟩
        · exact .inl q
        · exact .inr ⟨q1, by omega, q3⟩
theorem oH {l : List S32} (h : FOK l) {v : Int} (h0 : 0 ≤ v) (h1 : v < (l.length : Int)) : ofA l v = ⟨0, 0⟩ ∨ (sK l (ofA l v).f0 ∧ (ofA l v).f0 ≤ v ∧ ((ofA l v).f1 = 1 ∨ (ofA l v).f1 = -1)) := of_end h _ v 1 (Nat.le_refl _) h0 h1 (.inl rfl)
theorem ofA_self {l : List S32} {v : Int} (h : sK l v) : ofA l v = ⟨v, 1⟩ := by
  unfold ofA
  rw [uV, if_neg (by rw [h.2.2.1]; decide), if_pos h.2.2.2]
theorem nS {l : List S32} {e i : Int} (h0 : 0 ≤ e) (h1 : 0 ≤ i) (h : e ≠ i) (z : S32) : rdA (l.set e.toNat z) i = rdA l i := by
  unfold rdA zJ
  rw [List.getD_eq_getElem?_getD, List.getD_eq_getElem?_getD, List.getElem?_set_ne (by omega)]
theorem rdA_set_eq {l : List S32} {e : Int} (h0 : 0 ≤ e) (h1 : e < (l.length : Int)) (z : S32) : rdA (l.set e.toNat z) e = z := by
  unfold rdA zJ
  rw [List.getD_eq_getElem?_getD, List.getElem?_set_self (by omega)]; rfl
def xB (l : List S32) (y s : Int) : S32 := if s = 0 then ⟨0, 0⟩ else ⟨(ofA l y).f0, (ofA l y).f1 * s⟩
def tN (l : List S32) (x y s : Int) : List S32 × Bool :=
  if (ofA l x).f1 = 0 ∧ (xB l y s).f1 = 0 then (l, false)
  else if (ofA l x).f1 = 0 then (l.set (xB l y s).f0.toNat ⟨0, 0⟩, true)
  else if (xB l y s).f1 = 0 then (l.set (ofA l x).f0.toNat ⟨0, 0⟩, true)
  else if (ofA l x).f0 = (xB l y s).f0 ∧ (ofA l x).f1 = (xB l y s).f1 then (l, false)
  else if (ofA l x).f0 = (xB l y s).f0 then (l.set (ofA l x).f0.toNat ⟨0, 0⟩, true)
  else if (ofA l x).f0 < (xB l y s).f0 then (l.set (xB l y s).f0.toNat ⟨(ofA l x).f0, (ofA l x).f1 * (xB l y s).f1⟩, true)
  else (l.set (ofA l x).f0.toNat ⟨(xB l y s).f0, (ofA l x).f1 * (xB l y s).f1⟩, true)
def ZA (l : List S32) (e : Int) (z : S32) : Prop := z = ⟨0, 0⟩ ∨ ((z.f1 = 1 ∨ z.f1 = -1) ∧ sK l z.f0 ∧ z.f0 < e)
theorem otherA_end {l : List S32} (h : FOK l) {y s : Int} (hs : s = 0 ∨ s = 1 ∨ s = -1) (hy : s ≠ 0 → 0 ≤ y ∧ y < (l.length : Int)) : xB l y s = ⟨0, 0⟩ ∨ (s ≠ 0 ∧ sK l (xB l y s).f0 ∧ ((xB l y s).f1 = 1 ∨ (xB l y s).f1 = -1)) := by
  unfold xB
  by_cases k : s = 0
  · rw [if_pos k]; exact .inl rfl
  · rw [if_neg k]
    obtain ⟨y0, y1⟩ := hy k
    rcases oH h y0 y1 with q | ⟨q1, _, q3⟩
    · left; rw [q]; show (⟨0, 0 * s⟩ : S32) = _; rw [Int.zero_mul]
    · right
      refine ⟨k, q1, ?_⟩
      show (ofA l y).f1 * s = 1 ∨ (ofA l y).f1 * s = -1
      rcases q3 with q3 | q3 <;> rcases hs with hs | hs | hs <;> first | exact absurd hs k | (rw [q3, hs]; decide)
theorem join_is {l : List S32} (h : FOK l) {x y s : Int} (hx : 0 ≤ x ∧ x < (l.length : Int)) (hs : s = 0 ∨ s = 1 ∨ s = -1) (hy : s ≠ 0 → 0 ≤ y ∧ y < (l.length : Int)) :
    (tN l x y s = (l, false)) ∨ ∃ e z, sK l e ∧ ZA l e z ∧ tN l x y s = (l.set e.toNat z, true) := by
  have ha := oH h hx.1 hx.2
  have hb := otherA_end h hs hy
  unfold tN
  generalize ofA l x = a at ha
  generalize xB l y s = b at hb
  by_cases c1 : a.f1 = 0 ∧ b.f1 = 0
  · rw [if_pos c1]; exact .inl rfl
  rw [if_neg c1]
  by_cases c2 : a.f1 = 0
  · rw [if_pos c2]
    refine .inr ⟨b.f0, _, ?_, .inl rfl, rfl⟩
    rcases hb with hb | hb
    · rw [hb] at c1; exact absurd ⟨c2, rfl⟩ c1
    · exact hb.2.1
  rw [if_neg c2]
  have ha' : sK l a.f0 ∧ a.f0 ≤ x ∧ (a.f1 = 1 ∨ a.f1 = -1) := by
    rcases ha with ha | ha
    · rw [ha] at c2; exact absurd rfl c2
    · exact ha
  by_cases c3 : b.f1 = 0
  · rw [if_pos c3]; exact .inr ⟨a.f0, _, ha'.1, .inl rfl, rfl⟩
  rw [if_neg c3]
  have hb' : sK l b.f0 ∧ (b.f1 = 1 ∨ b.f1 = -1) := by
    rcases hb with hb | hb
    · rw [hb] at c3; exact absurd rfl c3
    · exact hb.2
  by_cases c4 : a.f0 = b.f0 ∧ a.f1 = b.f1
  · rw [if_pos c4]; exact .inl rfl
  rw [if_neg c4]
  by_cases c5 : a.f0 = b.f0
  · rw [if_pos c5]; exact .inr ⟨a.f0, _, ha'.1, .inl rfl, rfl⟩
  rw [if_neg c5]
  have hm : a.f1 * b.f1 = 1 ∨ a.f1 * b.f1 = -1 := by
    rcases ha'.2.2 with q | q <;> rcases hb'.2 with r | r <;> rw [q, r] <;> decide
  by_cases c6 : a.f0 < b.f0
  · rw [if_pos c6]; exact .inr ⟨b.f0, ⟨a.f0, a.f1 * b.f1⟩, hb'.1, .inr ⟨hm, ha'.1, c6⟩, rfl⟩
  · rw [if_neg c6]; exact .inr ⟨a.f0, ⟨b.f0, a.f1 * b.f1⟩, ha'.1, .inr ⟨hm, hb'.1, by show b.f0 < a.f0; omega⟩, rfl⟩
theorem FOK.set {l : List S32} (h : FOK l) {e : Int} {z : S32} (he : sK l e) (hz : ZA l e z) : FOK (l.set e.toNat z) := fun i i0 i1 => by
  rw [List.length_set] at i1
  by_cases k : e = i
  · subst k
    rw [rdA_set_eq i0 i1]
    rcases hz with rfl | ⟨q1, q2, q3⟩
    · exact .inl ⟨rfl, rfl⟩
    · exact .inr (.inl ⟨q1, q2.1, q3⟩)
  · rw [nS he.1 i0 k]; exact h i i0 i1
theorem tZ {base n c : Nat} {ok : Nat → Prop} {W : World} {A : Option Addr} {l : List S32} (h : Kd.R k32 53 W base ok (.slice A n c) l) {i : Int} (h0 : 0 ≤ i) (h1 : i < (l.length : Int)) :
    ∃ g, A = some ⟨g, 0, none⟩ ∧ W.cell? ⟨g, i.toNat * 2, none⟩ = some (.int .i64 (rdA l i).f0) ∧ W.cell? ⟨g, i.toNat * 2 + 1, none⟩ = some (.int .i64 (rdA l i).f1) := by
  obtain ⟨g, cap, e, _, _⟩ := Kd.uK h (by omega)
  injection e with e1 e2 e3
  subst e1
  obtain ⟨cs, _, hM, hc, _⟩ := Kd.R_elem h z32 i h0 (by omega)
  obtain rfl := k32_openM hM
  exact ⟨g, rfl, hc 0 _ rfl, hc 1 _ rfl⟩
def aA (a : S32) : Array Value := #[.int .i64 a.f0, .int .i64 a.f1]
def muA (g : Nat) (w : World) : Nat := (intOf ((w.cell? ⟨g, 0, none⟩).getD (.int .i64 0))).toNat
theorem muA_eq {g : Nat} {w : World} {u t : Int} (h : w.heap[g]? = some (.cells #[.int .i64 u, .int .i64 t] 53 (0, 0))) : muA g w = u.toNat := by
  unfold muA; rw [(bq h 0).trans (show _ = some (.int .i64 u) from rfl)]; rfl
structure OfF (g4 g5 : Nat) (w : World) (u t : Int) (V : World) : Prop where
  b4 : V.heap[g4]? = some (.cells #[.int .i64 0, .int .i64 0] 53 (0, 0))
  b5 : V.heap[g5]? = some (.cells #[.int .i64 u, .int .i64 t] 53 (0, 0))
  B : Below w.heap.size w V
  l4 : w.heap.size ≤ g4
  l5 : w.heap.size ≤ g5
  ne : g4 ≠ g5
theorem of61 {base : Nat} {ok : Nat → Prop} (l : List S32) (A : Option Addr) (c : Nat) (W : World) (hR : Kd.R k32 53 W base ok (.slice A l.length c) l) (hf : FOK l) (v : Int) (v0 : 0 ≤ v) (v1 : v < (l.length : Int)) :
    Calls Try.prog 61 #[.slice A l.length c, .int .i64 v] W fun e w' => e = .returned (.agg (aA (ofA l v))) ∧ Below W.heap.size W w' := by
  have hu53 := Try.underlying53
  obtain ⟨g, rfl, _, _⟩ := tZ hR v0 v1
  have HR := aq hR
  have HF := aq hf
  have HV := aq (show ofA l v = ofF l (v.toNat + 1) v 1 from rfl)
  obtain ⟨res, hres⟩ : ∃ r, ofA l v = r := ⟨_, rfl⟩
  rw [hres] at HV ⊢
  have H0 := aq (show OfF W.heap.size (W.heap.size + 1) W v 1 ((W.alloc (.cells #[.int .i64 0, .int .i64 0] 53)).alloc (.cells #[.int .i64 v, .int .i64 1] 53)) from
    ⟨zM (heap_alloc_last W _) _, by have := heap_alloc_last (W.alloc (.cells #[.int .i64 0, .int .i64 0] 53)) (.cells #[.int .i64 v, .int .i64 1] 53); simpa using this, zY (zY (Below.refl _ _) _) _, Nat.le_refl _, by omega, by omega⟩)
  clear hR hf hres
  go_enter Try.func61, Try.ntmps61
  go_wp2
  go_loopw [] (fun wr => ∃ u t : Int, 0 ≤ u ∧ u < (l.length : Int) ∧ (t = 1 ∨ t = -1) ∧ res = ofF l (u.toNat + 1) u t ∧ zT (OfF W.heap.size (W.heap.size + 1) W u t wr)) (fun wr => muA (W.heap.size + 1) wr)
  case atStart => exact ⟨v, 1, v0, v1, .inl rfl, HV.out, H0⟩
  case round =>
    obtain ⟨u, t, u0, u1, ht, hr, H⟩ := hrel
    clear H0 HV
    obtain ⟨_, eg, z0, z1⟩ := tZ (Kd.zL HR.out H.out.B) u0 u1
    injection eg with eg
    injection eg with eg
    subst eg
    have y0 := (bq H.out.b5 0).trans (show _ = some (.int .i64 u) from rfl)
    have y1 := (bq H.out.b5 1).trans (show _ = some (.int .i64 t) from rfl)
    have MU := aq (muA_eq H.out.b5)
    have HRR := aq hr
    have HT := aq ht
    clear hr ht
    have hst := fun c1 c2 => of_step HF.out (t := t) u0 u1 c1 c2
    have hfx := uV l u.toNat u t
    generalize rdA l u = b at z0 z1 hst hfx
    obtain ⟨b0, b1⟩ := b
    dsimp only at z0 z1 hst hfx
    have B4 := zM H.out.b4 (.cells #[.int .i64 b0, .int .i64 b1] 53)
    have B5 := zM H.out.b5 (.cells #[.int .i64 b0, .int .i64 b1] 53)
    have x0 := (bq B4 0).trans (show _ = some (.int .i64 0) from rfl)
    have x1 := (bq B4 1).trans (show _ = some (.int .i64 0) from rfl)
    have x2 := (bq B5 0).trans (show _ = some (.int .i64 u) from rfl)
    have x3 := (bq B5 1).trans (show _ = some (.int .i64 t) from rfl)
    have q0 := bf_ B4 0
    have q1 := bf_ B4 1
    have q2 := bf_ B5 0
    have q3 := bf_ B5 1
    clear B4 B5
    by_cases c1 : b1 = 0
    · subst c1
      have HE := aq (show res = ⟨0, 0⟩ from HRR.out.trans (hfx.trans (if_pos rfl)))
      clear hst hfx HRR
      go_wp2
      have HX := aq (yP (yP (zM H.out.b4 (.cells #[.int .i64 b0, .int .i64 0] 53)) 0 (.int .i64 0)) 1 (.int .i64 0))
      refine bodyPost_ret (results_cell_row (p := 4) (ty := 53) rfl _ _ W.heap.size 53 _ (0, 0) _ rfl HX.out hu53 rfl (by kernel_rfl)) rfl ⟨by rw [HE.out]; rfl, ?_⟩
      exact bs_ (bs_ (zY H.out.B _) H.out.l4) H.out.l4
    · have d1 := eq_false c1
      by_cases c2 : b0 = u
      · have HE := aq (show res = ⟨u, t⟩ from HRR.out.trans (hfx.trans ((if_neg c1).trans (if_pos c2))))
        subst c2
        clear hst hfx HRR
        go_wp2
        have HX := aq (yP (yP (zM H.out.b4 (.cells #[.int .i64 b0, .int .i64 b1] 53)) 0 (.int .i64 b0)) 1 (.int .i64 t))
        refine bodyPost_ret (results_cell_row (p := 4) (ty := 53) rfl _ _ W.heap.size 53 _ (0, 0) _ rfl HX.out hu53 rfl (by kernel_rfl)) rfl ⟨by rw [HE.out]; rfl, ?_⟩
        exact bs_ (bs_ (zY H.out.B _) H.out.l4) H.out.l4
      · obtain ⟨p0, p1, ps, pe⟩ := hst c1 c2
        have d2 := eq_false c2
        have hw := aq (show wrap64 (t * b1) = t * b1 ∧ (t * b1 = 1 ∨ t * b1 = -1) by rcases HT.out with rfl | rfl <;> rcases ps with rfl | rfl <;> exact ⟨by unfold wrap64; omega, by decide⟩)
        have HP := aq (show 0 ≤ b0 ∧ b0 < u ∧ b0 < (l.length : Int) from ⟨p0, p1, by omega⟩)
        have HE := aq (HRR.out.trans pe)
        clear hst hfx HRR p0 p1 ps pe
        go_wp2
        have HX := aq (yP (yP (zM H.out.b5 (.cells #[.int .i64 b0, .int .i64 b1] 53)) 0 (.int .i64 b0)) 1 (.int .i64 (wrap64 (t * b1))))
        rw [hw.out.1] at HX ⊢
        refine ⟨⟨b0, t * b1, HP.out.1, HP.out.2.2, hw.out.2, HE.out, ⟨⟨?_, HX.out, ?_, H.out.l4, H.out.l5, H.out.ne⟩⟩⟩, ?_⟩
        · exact (zR _ _ _).blk ((zR _ _ _).blk (zM H.out.b4 _) H.out.ne) H.out.ne
        · exact bs_ (bs_ (zY H.out.B _) H.out.l5) H.out.l5
        · rw [muA_eq HX.out, MU.out]; have := HP.out; omega
theorem rJ.trans {g : Nat} {u v w : World} (h : rJ g u v) (h' : rJ g v w) : rJ g u w := ⟨h'.os.trans h.os, h'.tape.trans h.tape, h'.output.trans h.output, h'.size.trans h.size, fun k hk => (h'.other k hk).trans (h.other k hk)⟩
theorem grown_of {g : Nat} {u v w : World} (h : Below u.heap.size u v) (h' : rJ g v w) : u.grownBy w (some g) :=
  ⟨h'.os.trans h.os, h'.tape.trans h.tape, h'.output.trans h.output, by rw [h'.size]; exact h.size, fun k hk hn => (h'.other k (fun e => hn (by rw [e]))).trans (h.block k hk)⟩
theorem grown_below {u v : World} (o : Option Nat) (h : Below u.heap.size u v) : u.grownBy v o := ⟨h.os, h.tape, h.output, h.size, fun k hk _ => h.block k hk⟩
theorem set_two {L : List Value} {a : Nat} {x y : Value} (h : a + 2 ≤ L.length) : (L.set a x).set (a + 1) y = L.take a ++ [x, y] ++ L.drop (a + 2) := by
  apply List.ext_getElem?
  intro k
  rw [List.getElem?_set, List.getElem?_set, List.length_set]
  by_cases h1 : k < a
  · rw [if_neg (by omega), if_neg (by omega), List.append_assoc, List.getElem?_append_left (by rw [List.length_take]; omega), List.getElem?_take, if_pos h1]
  · by_cases h2 : k = a
    · subst h2
      rw [if_neg (by omega), if_pos rfl, if_pos (by omega), List.append_assoc, List.getElem?_append_right (by rw [List.length_take]; omega), List.length_take, Nat.min_eq_left (by omega), Nat.sub_self]; rfl
    · by_cases h3 : k = a + 1
      · subst h3
        rw [if_pos rfl, if_pos (by omega), List.append_assoc, List.getElem?_append_right (by rw [List.length_take]; omega), List.length_take, Nat.min_eq_left (by omega), show a + 1 - a = 1 by omega]; rfl
      · rw [if_neg (by omega), if_neg (by omega), List.getElem?_append_right (by rw [List.length_append, List.length_take]; simp; omega), List.length_append, List.length_take, Nat.min_eq_left (by omega), List.getElem?_drop]
        congr 1
        simp; omega
theorem al_put {base n c g : Nat} {ok : Nat → Prop} {W : World} {l : List S32} (h : Kd.R k32 53 W base ok (.slice (some ⟨g, 0, none⟩) n c) l) {i : Int} (h0 : 0 ≤ i) (h1 : i < (l.length : Int)) (z : S32) :
    Kd.R k32 53 ((W.setCell ⟨g, i.toNat * 2, none⟩ (.int .i64 z.f0)).setCell ⟨g, i.toNat * 2 + 1, none⟩ (.int .i64 z.f1)) base ok (.slice (some ⟨g, 0, none⟩) n c) (l.set i.toNat z) := by
  obtain ⟨cur, hx⟩ := Kd.tW h g rfl
  obtain ⟨rfl, hnc, _⟩ := Kd.uS h
  have hsz : i.toNat * 2 + 2 ≤ cur.size := by
    obtain ⟨_, inner, ⟨hl, ho⟩, hr⟩ := h
    rcases ho with ⟨hv, _⟩ | ⟨g', cap', cur', hv, hbs, hh, hcp, hmx, hs, htk⟩
    · cases hv
    injection hv with hv1 _ hv3
    injection hv1 with hv1
    injection hv1 with hv1
    subst hv1
    rw [hx] at hh
    injection hh with hh
    injection hh with hh
    subst hh
    have e : k32.sz = 2 := rfl
    rw [hs, e]
    omega
  refine R_put_at h hx (by omega) (cs := [.int .i64 z.f0, .int .i64 z.f1]) rfl (pH _ _ _ z) ?_ ((zR W ⟨g, i.toNat * 2, none⟩ _).trans (zR _ ⟨g, i.toNat * 2 + 1, none⟩ _))
  have e := yP (yP hx (i.toNat * 2) (.int .i64 z.f0)) (i.toNat * 2 + 1) (.int .i64 z.f1)
  rw [e]
  congr 2
  apply Array.toList_inj.1
  rw [Array.toList_setIfInBounds, Array.toList_setIfInBounds, set_two (by rw [Array.length_toList]; omega)]
  rfl
structure JoF (base n c : Nat) (ok : Nat → Prop) (A : Option Addr) (l : List S32) (ga gb : Nat) (a b : S32) (W V : World) : Prop where
  ba : V.heap[ga]? = some (.cells (aA a) 53 (0, 0))
  bb : V.heap[gb]? = some (.cells (aA b) 53 (0, 0))
  R : Kd.R k32 53 V base ok (.slice A n c) l
  B : Below W.heap.size W V
  la : W.heap.size ≤ ga
  lb : W.heap.size ≤ gb
theorem JoF.cells {base n c ga gb : Nat} {ok : Nat → Prop} {A : Option Addr} {l : List S32} {a0 a1 b0 b1 : Int} {W V : World} (h : JoF base n c ok A l ga gb ⟨a0, a1⟩ ⟨b0, b1⟩ W V) :
    V.cell? ⟨ga, 0, none⟩ = some (.int .i64 a0) ∧ V.cell? ⟨ga, 1, none⟩ = some (.int .i64 a1) ∧ V.cell? ⟨gb, 0, none⟩ = some (.int .i64 b0) ∧ V.cell? ⟨gb, 1, none⟩ = some (.int .i64 b1) := ⟨bq h.ba 0, bq h.ba 1, bq h.bb 0, bq h.bb 1⟩
theorem JoF.step {base n c ga gb : Nat} {ok : Nat → Prop} {A : Option Addr} {l : List S32} {a b : S32} {W V V' : World} (h : JoF base n c ok A l ga gb a b W V) (hd : Below V.heap.size V V') : JoF base n c ok A l ga gb a b W V' :=
  ⟨bb_ h.ba hd, bb_ h.bb hd, Kd.zL h.R hd, bt_ h.B hd, h.la, h.lb⟩
theorem al_move {base n c : Nat} {ok : Nat → Prop} {A : Option Addr} {l : List S32} {V V' : World} (h : Kd.R k32 53 V base ok (.slice A n c) l) (hm : ∀ k, (Value.slice A n c).ownBlock = some k → V'.heap[k]? = V.heap[k]?) : Kd.R k32 53 V' base ok (.slice A n c) l := by
  have h1 : Kd.R k32 53 V base (fun k => (Value.slice A n c).ownBlock = some k) (.slice A n c) l := ⟨fun k hk => hk, h.2.imp_ (fun p cs hp => by obtain rfl := k32_openM hp; exact pH _ _ _ _)⟩
  exact Kd.xF (Kd.R_move h1 hm) h.1
theorem JoF.setb {base n c ga gb : Nat} {ok : Nat → Prop} {A : Option Addr} {l : List S32} {a b b' : S32} {W V : World} (h : JoF base n c ok A l ga gb a b W V) (hne : ga ≠ gb) (hgA : ∀ k, (Value.slice A n c).ownBlock = some k → k < W.heap.size) (j : Nat) (v : Value) (hb : (aA b).setIfInBounds j v = aA b') : JoF base n c ok A l ga gb a b' W (V.setCell ⟨gb, j, none⟩ v) :=
  ⟨(zR V ⟨gb, j, none⟩ v).blk h.ba hne, by rw [← hb]; exact yP h.bb j v, al_move h.R (fun k hk => (zR V ⟨gb, j, none⟩ v).other k (by have := hgA k hk; have := h.lb; show k ≠ gb; omega)), bs_ h.B h.lb, h.la, h.lb⟩
structure JoOut (base n c : Nat) (ok : Nat → Prop) (A : Option Addr) (W : World) (r : List S32 × Bool) (e : Ending) (V : World) : Prop where
  ret : e = .returned (.bool r.2)
  R : Kd.R k32 53 V base ok (.slice A n c) r.1
  grown : W.grownBy V (Value.slice A n c).ownBlock
theorem JoF.vI {base n c ga gb : Nat} {ok : Nat → Prop} {A : Option Addr} {l : List S32} {a b : S32} {W V : World} (h : JoF base n c ok A l ga gb a b W V) : JoOut base n c ok A W (l, false) (.returned (.bool false)) V := ⟨rfl, h.R, grown_below _ h.B⟩
theorem JoF.put {base n c ga gb g : Nat} {ok : Nat → Prop} {l : List S32} {a b : S32} {W V : World} (h : JoF base n c ok (some ⟨g, 0, none⟩) l ga gb a b W V) {i : Int} (h0 : 0 ≤ i) (h1 : i < (l.length : Int)) (z : S32) :
    JoOut base n c ok (some ⟨g, 0, none⟩) W (l.set i.toNat z, true) (.returned (.bool true)) ((V.setCell ⟨g, i.toNat * 2, none⟩ (.int .i64 z.f0)).setCell ⟨g, i.toNat * 2 + 1, none⟩ (.int .i64 z.f1)) :=
  ⟨rfl, al_put h.R h0 h1 z, grown_of h.B ((zR V ⟨g, i.toNat * 2, none⟩ _).trans (zR _ ⟨g, i.toNat * 2 + 1, none⟩ _))⟩
theorem vF {base n c g : Nat} {ok : Nat → Prop} {W : World} {l : List S32} (h : Kd.R k32 53 W base ok (.slice (some ⟨g, 0, none⟩) n c) l) (j : Nat) : W.frozen? ⟨g, j, none⟩ = false := by
  obtain ⟨cur, hx⟩ := Kd.tW h g rfl
  exact bf_ hx j
theorem join36 {base : Nat} {ok : Nat → Prop} (l : List S32) (A : Option Addr) (c : Nat) (W : World) (hR : Kd.R k32 53 W base ok (.slice A l.length c) l) (hf : FOK l) (x y s : Int) (hx : 0 ≤ x ∧ x < (l.length : Int)) (hs : s = 0 ∨ s = 1 ∨ s = -1) (hy : s ≠ 0 → 0 ≤ y ∧ y < (l.length : Int)) :
    Calls Try.prog 36 #[.slice A l.length c, .int .i64 x, .int .i64 y, .int .i64 s] W fun e w' => JoOut base l.length c ok A W (tN l x y s) e w' := by
  obtain ⟨g, rfl, _, _⟩ := tZ hR hx.1 hx.2
  have HO := aq (fun (V : World) (v : Int) (hb : Below W.heap.size W V) (h0 : 0 ≤ v) (h1 : v < (l.length : Int)) => of61 l _ c V (Kd.zL hR hb) hf v h0 h1)
  have HR := aq hR
  obtain ⟨res, hj⟩ : ∃ r, tN l x y s = r := ⟨_, rfl⟩
  rw [hj]
  unfold tN at hj
  have ha : (ofA l x).f1 = 0 ∨ (0 ≤ (ofA l x).f0 ∧ (ofA l x).f0 < (l.length : Int) ∧ ((ofA l x).f1 = 1 ∨ (ofA l x).f1 = -1)) := by
    rcases oH hf hx.1 hx.2 with q | ⟨q, _, r⟩
    · left; rw [q]
    · exact .inr ⟨q.1, q.2.1, r⟩
  have hb : (xB l y s).f1 = 0 ∨ (0 ≤ (xB l y s).f0 ∧ (xB l y s).f0 < (l.length : Int) ∧ ((xB l y s).f1 = 1 ∨ (xB l y s).f1 = -1)) := by
    rcases otherA_end hf hs hy with q | ⟨_, q, r⟩
    · left; rw [q]
    · exact .inr ⟨q.1, q.2.1, r⟩
  have HG := aq (show ∀ k, (Value.slice (some ⟨g, 0, none⟩) l.length c).ownBlock = some k → k < W.heap.size from fun k hk => by
    obtain ⟨g', cap, e, _, hl, _⟩ := Kd.uK hR (by have := hx; omega)
    injection e with e
    injection e with e
    injection e with e
    injection hk with hk
    show k < W.heap.size
    rw [← hk]
    show g < W.heap.size
    omega)
  have HX := aq hx
  have HY := aq hy
  have hoa : ∀ V : World, Below W.heap.size W V → Calls Try.prog 61 #[.slice (some ⟨g, 0, none⟩) l.length c, .int .i64 x] V fun e w' => e = .returned (.agg #[.int .i64 (ofA l x).f0, .int .i64 (ofA l x).f1]) ∧ Below V.heap.size V w' := fun V h => HO.out V x h hx.1 hx.2
  have hob : s ≠ 0 → ∃ b' : S32, (∀ V : World, Below W.heap.size W V → Calls Try.prog 61 #[.slice (some ⟨g, 0, none⟩) l.length c, .int .i64 y] V fun e w' => e = .returned (.agg #[.int .i64 b'.f0, .int .i64 b'.f1]) ∧ Below V.heap.size V w') ∧ (xB l y s).f0 = b'.f0 ∧ (xB l y s).f1 = wrap64 (b'.f1 * s) := fun k => by
    refine ⟨ofA l y, fun V h => HO.out V y h (hy k).1 (hy k).2, ?_, ?_⟩
    · unfold xB; rw [if_neg k]
    · unfold xB; rw [if_neg k]
      show (ofA l y).f1 * s = wrap64 ((ofA l y).f1 * s)
      have : (ofA l y).f1 = 0 ∨ (ofA l y).f1 = 1 ∨ (ofA l y).f1 = -1 := by
        rcases oH hf (hy k).1 (hy k).2 with q | ⟨_, _, r⟩
        · left; rw [q]
        · exact .inr r
      rcases this with q | q | q <;> rcases hs with r | r | r <;> rw [q, r] <;> unfold wrap64 <;> omega
  have hb0 : s = 0 → xB l y s = ⟨0, 0⟩ := fun k => by unfold xB; rw [if_pos k]
  generalize ofA l x = a at ha hj hoa
  generalize xB l y s = b at hb hj hob hb0
  obtain ⟨a0, a1⟩ := a
  obtain ⟨b0, b1⟩ := b
  dsimp only at ha hb hj hob
  have HA := aq ha
  have HB := aq hb
  have HJ := aq hj
  have HOA := aq hoa
  have HOB := aq hob
  have HB0 := aq hb0
  clear ha hb hj hoa hob hb0 hs hx hy hR hf HO
  go_enter Try.func36, Try.ntmps36
  go_upto_region 3 with (first | (go_at_call 61; refine (HOA.out _ (Below.refl _ _)).mono ?_; rintro e w1 ⟨rfl, hd⟩; have B1 := aq hd; clear hd))
  have F := aq (show JoF base l.length c ok (some ⟨g, 0, none⟩) l w1.heap.size (w1.heap.size + 1) ⟨a0, a1⟩ ⟨0, 0⟩ W ((w1.alloc (.cells #[.int .i64 a0, .int .i64 a1] 53)).alloc (.cells #[.int .i64 0, .int .i64 0] 53)) from
    ⟨zM (heap_alloc_last w1 _) _, by have := heap_alloc_last (w1.alloc (.cells #[.int .i64 a0, .int .i64 a1] 53)) (.cells #[.int .i64 0, .int .i64 0] 53); rw [show (w1.alloc (.cells #[.int .i64 a0, .int .i64 a1] 53)).heap.size = w1.heap.size + 1 by simp] at this; exact this, Kd.zL HR.out (zY (zY B1.out _) _), zY (zY B1.out _) _, B1.out.size, by have := B1.out.size; omega⟩)
  generalize (w1.alloc (.cells #[.int .i64 a0, .int .i64 a1] 53)).alloc (.cells #[.int .i64 0, .int .i64 0] 53) = V at F ⊢
  have NE := aq (show w1.heap.size ≠ w1.heap.size + 1 by omega)
  generalize w1.heap.size + 1 = gb at F NE ⊢
  generalize w1.heap.size = ga at F NE ⊢
  clear HR B1 HOA
  by_cases hs0 : s = 0
  case' pos =>
    have e0 := HB0.out hs0
    injection e0 with e0 e1
    have F2 := aq (show JoF base l.length c ok (some ⟨g, 0, none⟩) l ga gb ⟨a0, a1⟩ ⟨b0, b1⟩ W V by rw [e0, e1]; exact F.out)
    clear HOB HB0 F e0 e1
    have F := F2
    clear F2
    go_upto_region 7 with fail
  case' neg =>
    obtain ⟨⟨b2, b3⟩, hcl, e2, e3⟩ := HOB.out hs0
    dsimp only at hcl e2 e3
    subst e2
    have HCL := aq hcl
    have E3 := aq e3
    clear hcl e3 HOB HB0
    go_upto_region 5 with (first | (go_at_call 61; refine (HCL.out _ F.out.B).mono ?_; rintro e w2 ⟨rfl, hd⟩; have F2 := aq (F.out.step hd); clear F hd HCL; have F := F2; clear F2; obtain ⟨_, _, y0, y1⟩ := F.out.cells; have q0 := bf_ F.out.bb 0; have q1 := bf_ F.out.bb 1))
    have F2 := aq ((F.out.setb NE.out HG.out 0 (.int .i64 b0) (b' := ⟨b0, 0⟩) rfl).setb NE.out HG.out 1 (.int .i64 b3) (b' := ⟨b0, b3⟩) rfl)
    clear F y0 y1 q0 q1
    have F := F2
    clear F2
    obtain ⟨_, _, y0, y1⟩ := F.out.cells
    have q1 := bf_ F.out.bb 1
    generalize (w2.setCell ⟨gb, 0, none⟩ (.int .i64 b0)).setCell ⟨gb, 1, none⟩ (.int .i64 b3) = V2 at F y0 y1 q1 ⊢
    go_upto_region 7 with fail
    have F2 := aq (F.out.setb NE.out HG.out 1 (.int .i64 (wrap64 (b3 * s))) (b' := ⟨b0, wrap64 (b3 * s)⟩) rfl)
    rw [← E3.out] at F2
    rw [← E3.out]
    clear F y0 y1 q1 E3
    have F := F2
    clear F2
    generalize V2.setCell ⟨gb, 1, none⟩ (.int .i64 b1) = V4 at F ⊢
  all_goals
    obtain ⟨z0, z1, z2, z3⟩ := F.out.cells
    have hj := HJ.out
    have HA' := HA.out
    have HB' := HB.out
    clear HJ HA HB
    by_cases c1 : a1 = 0 ∧ b1 = 0
    · rw [if_pos c1] at hj
      obtain ⟨c1, c2⟩ := c1
      have HE := aq hj
      clear hj HA' HB'
      go_wp2
      refine bodyPost_ret (results_tmp rfl _ _ _) rfl ?_
      rw [← HE.out]
      exact F.out.vI
    rw [if_neg c1] at hj
    by_cases c2 : a1 = 0
    · rw [if_pos c2] at hj
      have c3 : ¬ b1 = 0 := fun h => c1 ⟨c2, h⟩
      obtain ⟨p0, p1, _⟩ := HB'.resolve_left c3
      have HE := aq hj
      have OUT := aq (F.out.put p0 p1 ⟨0, 0⟩)
      obtain ⟨_, eg, r0, r1⟩ := tZ F.out.R p0 p1
      injection eg with eg
      injection eg with eg
      subst eg
      have f0 := vF F.out.R (b0.toNat * 2)
      have f1 := vF F.out.R (b0.toNat * 2 + 1)
      clear hj HA' HB' c1
      go_wp2
      refine bodyPost_ret (results_tmp rfl _ _ _) rfl ?_
      rw [← HE.out]
      exact OUT.out
    rw [if_neg c2] at hj
    obtain ⟨q0, q1, qs⟩ := HA'.resolve_left c2
    clear c1 HA'
    by_cases c3 : b1 = 0
    · rw [if_pos c3] at hj
      have HE := aq hj
      have OUT := aq (F.out.put q0 q1 ⟨0, 0⟩)
      obtain ⟨_, eg, r0, r1⟩ := tZ F.out.R q0 q1
      injection eg with eg
      injection eg with eg
      subst eg
      have f0 := vF F.out.R (a0.toNat * 2)
      have f1 := vF F.out.R (a0.toNat * 2 + 1)
      clear hj HB'
      go_wp2
      refine bodyPost_ret (results_tmp rfl _ _ _) rfl ?_
      rw [← HE.out]
      exact OUT.out
    rw [if_neg c3] at hj
    obtain ⟨p0, p1, ps⟩ := HB'.resolve_left c3
    clear HB'
    have hw : wrap64 (a1 * b1) = a1 * b1 := by rcases qs with rfl | rfl <;> rcases ps with rfl | rfl <;> unfold wrap64 <;> omega
    have HW := aq hw
    clear hw qs ps
    by_cases c4 : a0 = b0 ∧ a1 = b1
    · rw [if_pos c4] at hj
      obtain ⟨c4, c5⟩ := c4
      subst c4
      subst c5
      have HE := aq hj
      clear hj
      go_wp2
      refine bodyPost_ret (results_tmp rfl _ _ _) rfl ?_
      rw [← HE.out]
      exact F.out.vI
    rw [if_neg c4] at hj
    by_cases c5 : a0 = b0
    · rw [if_pos c5] at hj
      have c6 : ¬ a1 = b1 := fun h => c4 ⟨c5, h⟩
      subst c5
      have HE := aq hj
      have OUT := aq (F.out.put q0 q1 ⟨0, 0⟩)
      obtain ⟨_, eg, r0, r1⟩ := tZ F.out.R q0 q1
      injection eg with eg
      injection eg with eg
      subst eg
      have f0 := vF F.out.R (a0.toNat * 2)
      have f1 := vF F.out.R (a0.toNat * 2 + 1)
      clear hj c4
      go_wp2
      refine bodyPost_ret (results_tmp rfl _ _ _) rfl ?_
      rw [← HE.out]
      exact OUT.out
    rw [if_neg c5] at hj
    by_cases c6 : a0 < b0
    · rw [if_pos c6] at hj
      rw [← HW.out] at hj
      have HE := aq hj
      have OUT := aq (F.out.put p0 p1 ⟨a0, wrap64 (a1 * b1)⟩)
      obtain ⟨_, eg, r0, r1⟩ := tZ F.out.R p0 p1
      injection eg with eg
      injection eg with eg
      subst eg
      have f0 := vF F.out.R (b0.toNat * 2)
      have f1 := vF F.out.R (b0.toNat * 2 + 1)
      clear hj c4
      go_wp2
      refine bodyPost_ret (results_tmp rfl _ _ _) rfl ?_
      rw [← HE.out]
      exact OUT.out
    · rw [if_neg c6] at hj
      rw [← HW.out] at hj
      have HE := aq hj
      have OUT := aq (F.out.put q0 q1 ⟨b0, wrap64 (a1 * b1)⟩)
      obtain ⟨_, eg, r0, r1⟩ := tZ F.out.R q0 q1
      injection eg with eg
      injection eg with eg
      subst eg
      have f0 := vF F.out.R (a0.toNat * 2)
      have f1 := vF F.out.R (a0.toNat * 2 + 1)
      clear hj c4
      go_wp2
      refine bodyPost_ret (results_tmp rfl _ _ _) rfl ?_
      rw [← HE.out]
      exact OUT.out
structure S59 where
  f0 : ByteArray
  f1 : S35
def k59 : Kd S59 := Kd.iso (Kd.pair Kd.string k35) (fun x : S59 => (x.f0, x.f1))
structure S80 where
  f0 : S32
  f1 : S30
  f2 : S30
def k80 : Kd S80 := Kd.iso (Kd.pair k32 (Kd.pair k30 k30)) (fun x : S80 => (x.f0, x.f1, x.f2))
def z59 : S59 := ⟨ByteArray.empty, z35⟩
def z80 : S80 := ⟨z32, z30, z30⟩
structure rG where
  vars : List S59
  nodes : List S37
  eqs : List Int
  yM : List S80
def sQ (x : S37) : Bool := x.f0 == 2 && x.f5.f1 == 0
def eqOf (nodes : List S37) (e : Int) : Int := if (rT nodes e).f0 = 7 then (rT nodes e).f1 else e
structure Say where
  x : Int
  y : Int
  s : Int
  is : Bool
def sayN (nodes : List S37) (m : S37) : Say :=
  if m.f0 = 2 then ⟨m.f5.f0, 0, 0, sQ m⟩
  else if (m.f0 = 4 ∨ m.f0 = 3) ∧ sQ (rT nodes m.f1) = true ∧ sQ (rT nodes m.f2) = true ∧ m.f1 ≠ m.f2 then ⟨(rT nodes m.f1).f5.f0, (rT nodes m.f2).f5.f0, if m.f0 = 3 then -1 else 1, true⟩
  else ⟨0, 0, 0, false⟩
def wH (nodes : List S37) (e : Int) : Say := sayN nodes (rT nodes (eqOf nodes e))
def pC (nodes : List S37) (st : List Int × List S32) (e : Int) : List Int × List S32 :=
  if (wH nodes e).is = true ∧ (tN st.2 (wH nodes e).x (wH nodes e).y (wH nodes e).s).2 = true then (st.1, (tN st.2 (wH nodes e).x (wH nodes e).y (wH nodes e).s).1) else (st.1 ++ [e], st.2)
def vQ (nodes : List S37) (eqs : List Int) (l : List S32) : List Int × List S32 := eqs.foldl (pC nodes) ([], l)
def putS (l : List S32) (st : List S37 × List Int) (k : Nat) (x : S37) : List S37 × List Int :=
  if x.f0 ≠ 2 then (st.1 ++ [{ x with f1 := rd st.2 x.f1, f2 := rd st.2 x.f2 }], st.2.set k (st.1.length : Int))
  else if (ofA l x.f5.f0).f1 = 0 then (st.1 ++ [vP ⟨0, 1⟩], st.2.set k (st.1.length : Int))
  else if (ofA l x.f5.f0).f1 < 0 then (st.1 ++ [xU ⟨(ofA l x.f5.f0).f0, x.f5.f1⟩, nodeH 7 (st.1.length : Int) 0], st.2.set k ((st.1.length : Int) + 1))
  else (st.1 ++ [xU ⟨(ofA l x.f5.f0).f0, x.f5.f1⟩], st.2.set k (st.1.length : Int))
def rP (nodes : List S37) (l : List S32) : Nat → List S37 × List Int
  | 0 => ([], List.replicate nodes.length 0)
  | k + 1 => putS l (rP nodes l k) k (rT nodes (k : Int))
def putA (nodes : List S37) (l : List S32) : List S37 × List Int := rP nodes l nodes.length
structure RS where
  nodes : List S37
  eqs : List Int
  l : List S32
def pP (R : xH) (s : RS) : RS :=
  ⟨(xA R (putA s.nodes (vQ s.nodes s.eqs s.l).2).1 ((vQ s.nodes s.eqs s.l).1.map (rd (putA s.nodes (vQ s.nodes s.eqs s.l).2).2))).1,
   (xA R (putA s.nodes (vQ s.nodes s.eqs s.l).2).1 ((vQ s.nodes s.eqs s.l).1.map (rd (putA s.nodes (vQ s.nodes s.eqs s.l).2).2))).2, (vQ s.nodes s.eqs s.l).2⟩
def doneR (s : RS) : Bool := (vQ s.nodes s.eqs s.l).1.length == s.eqs.length
def idA (n : Nat) : List S32 := (List.range n).map fun (i : Nat) => ⟨(i : Int), 1⟩
def vC (vars : List S59) (l : List S32) : Nat → List S59 × List Int
  | 0 => ([], List.replicate vars.length 0)
  | k + 1 => if (ofA l (k : Int)).f0 = (k : Int) ∧ (ofA l (k : Int)).f1 = 1 then ((vC vars l k).1 ++ [zJ z59 vars (k : Int)], (vC vars l k).2.set k ((vC vars l k).1.length : Int)) else vC vars l k
def renV (tv : List Int) (x : S37) : S37 := if x.f0 = 2 then { x with f5 := ⟨rd tv x.f5.f0, x.f5.f1⟩ } else x
def qQ (l : List S32) (tv : List Int) (n : Nat) : List S32 := (List.range n).map fun (i : Nat) => if (ofA l (i : Int)).f1 ≠ 0 then ⟨rd tv (ofA l (i : Int)).f0, (ofA l (i : Int)).f1⟩ else ofA l (i : Int)
def startN (a : S32) (s : S80) : S80 := if a.f1 < 0 then ⟨⟨a.f0, s.f0.f1⟩, ⟨-s.f2.f0, s.f2.f1⟩, ⟨-s.f1.f0, s.f1.f1⟩⟩ else ⟨⟨a.f0, s.f0.f1⟩, s.f1, s.f2⟩
def uD (list : List S32) (out : List S80) (s : S80) : List S80 := if (rdA list s.f0.f0).f1 = 0 then out else out ++ [startN (rdA list s.f0.f0) s]
def xS (f : rG) (s : RS) : rG × List S32 :=
  (⟨(vC f.vars s.l f.vars.length).1, s.nodes.map (renV (vC f.vars s.l f.vars.length).2), s.eqs, f.yM.foldl (uD (qQ s.l (vC f.vars s.l f.vars.length).2 f.vars.length)) []⟩, qQ s.l (vC f.vars s.l f.vars.length).2 f.vars.length)
def uC (R : xH) (f : rG) : RS := ⟨(xA R f.nodes f.eqs).1, (xA R f.nodes f.eqs).2, idA f.vars.length⟩
end Go.Proofs.Ytoonahobmlnflaa.PC
