/- Texts of this claim, one behind the other. -/
import Derived.Test.YtoonahobmlnflaaVa17
set_option linter.unusedVariables false
set_option linter.unusedSimpArgs false
set_option maxRecDepth 100000
set_option maxHeartbeats 16000000
namespace Go.Proofs.Ytoonahobmlnflaa.PC
open Go.RowKit Go.Shelf A B C
def endB (l : List S32) (i : Nat) : Bool := (rdA l (i : Int)).f1 == 1 && (rdA l (i : Int)).f0 == (i : Int)
theorem qL {l : List S32} {i : Nat} (h : i < l.length) : endB l i = true ↔ tW l (i : Int) := by
 unfold endB tW
 rw [Bool.and_eq_true, beq_iff_eq, beq_iff_eq]
 exact ⟨fun k => ⟨by omega, by omega, k.1, k.2⟩, fun k => ⟨k.2.2.1, k.2.2.2⟩⟩
def sH (l : List S32) : Nat := ((List.range l.length).filter (endB l)).length
theorem filter_one {p p' : Nat → Bool} {e : Nat} (hp : p e = true) (hp' : p' e = false) (h : ∀ i, i ≠ e → p' i = p i) : ∀ m, ((List.range m).filter p').length + (if e < m then 1 else 0) = ((List.range m).filter p).length := by
 intro m
 induction m with
 | zero => simp
 | succ m ih =>
  rw [List.range_succ, List.filter_append, List.filter_append, List.length_append, List.length_append]
  by_cases hm : m = e
  ·subst hm
   rw [if_neg (by omega)] at ih
   rw [if_pos (by omega), List.filter_cons_of_neg (by rw [hp']; decide), List.filter_cons_of_pos hp]
   simp only [List.filter_nil, List.length_nil, List.length_singleton]
   omega
  ·have hs : [m].filter p' = [m].filter p := by simp only [List.filter_cons, List.filter_nil, h m hm]
   rw [hs]
   by_cases hlt : e < m
   ·rw [if_pos hlt] at ih; rw [if_pos (by omega)]; omega
   ·rw [if_neg hlt] at ih; rw [if_neg (by omega)]; omega
theorem ZA.not_end {l : List S32} {e : Int} {z : S32} (hz : ZA l e z) (h1 : z.f1 = 1) (h0 : z.f0 = e) : False := by
 rcases hz with rfl | ⟨_, _, h⟩
 ·exact absurd h1 (by decide)
 ·omega
theorem end_set {l : List S32} {e i : Int} {z : S32} (he : tW l e) (hz : ZA l e z) (h : tW (l.set e.toNat z) i) : tW l i ∧ i ≠ e := by
 obtain ⟨i0, i1, h1, h2⟩ := h
 rw [List.length_set] at i1
 by_cases k : e = i
 ·subst k
  rw [rdA_set_eq i0 i1] at h1 h2
  exact (hz.not_end h1 h2).elim
 ·rw [mH he.1 i0 k] at h1 h2
  exact ⟨⟨i0, i1, h1, h2⟩, fun h => k h.symm⟩
theorem ends_set {l : List S32} {e : Int} {z : S32} (he : tW l e) (hz : ZA l e z) : sH (l.set e.toNat z) + 1 = sH l := by
 unfold sH
 rw [List.length_set]
 have h0 := he.1
 have h1 := he.2.1
 have := filter_one (p := endB l) (p' := endB (l.set e.toNat z)) (e := e.toNat) ((qL (by omega)).2 (by rw [show ((e.toNat : Nat) : Int) = e by omega]; exact he)) (by
  cases hb : endB (l.set e.toNat z) e.toNat with
  | false => rfl
  | true =>
   have := (qL (by rw [List.length_set]; omega)).1 hb
   rw [show ((e.toNat : Nat) : Int) = e by omega] at this
   exact absurd rfl (end_set he hz this).2) (fun i hi => by
  unfold endB
  rw [mH h0 (by omega) (by omega)]) l.length
 rw [if_pos (by omega)] at this
 exact this
def SayOK (n : Nat) (s : Say) : Prop := s.is = true → (0 ≤ s.x ∧ s.x < (n : Int)) ∧ (s.s = 0 ∨ s.s = 1 ∨ s.s = -1) ∧ (s.s ≠ 0 → 0 ≤ s.y ∧ s.y < (n : Int))
structure PassOK (nodes : List S37) (n : Nat) (eqs acc : List Int) (l : List S32) (r : List Int × List S32) : Prop where
 fok : FOK r.2
 len : r.2.length = n
 st : ∃ st, r.1 = acc ++ st ∧ st.Sublist eqs ∧ sH r.2 + eqs.length = sH l + st.length ∧ (st.length = eqs.length → r.2 = l ∧ ∀ e ∈ eqs, ¬((vY nodes e).is = true ∧ (sQ l (vY nodes e).x (vY nodes e).y (vY nodes e).s).2 = true))
 ends : ∀ i, tW r.2 i → tW l i
theorem pass_ok {nodes : List S37} {n : Nat} : ∀ (eqs acc : List Int) (l : List S32), FOK l → l.length = n → (∀ e ∈ eqs, SayOK n (vY nodes e)) → PassOK nodes n eqs acc l (eqs.foldl (passS nodes) (acc, l)) := by
 intro eqs
 induction eqs with
 | nil => intro acc l hf hl _; exact ⟨hf, hl, ⟨[], by simp, List.Sublist.slnil, rfl, fun _ => ⟨rfl, fun e he => by simp at he⟩⟩, fun _ h => h⟩
 | cons e es ih =>
  intro acc l hf hl hs
  rw [List.foldl_cons]
  have hse := hs e (List.mem_cons_self ..)
  have hss : ∀ e ∈ es, SayOK n (vY nodes e) := fun e he => hs e (List.mem_cons_of_mem _ he)
  by_cases c : (vY nodes e).is = true ∧ (sQ l (vY nodes e).x (vY nodes e).y (vY nodes e).s).2 = true
  ·rw [show passS nodes (acc, l) e = (acc, (sQ l (vY nodes e).x (vY nodes e).y (vY nodes e).s).1) from if_pos c]
   obtain ⟨hx, h01, hy⟩ := hse c.1
   rw [← hl] at hx hy
   rcases join_is hf hx h01 hy with hj | ⟨e0, z, he, hz, hj⟩
   ·rw [hj] at c; exact absurd c.2 (fun h => by cases h)
   rw [hj]
   show PassOK nodes n (e :: es) acc l (es.foldl (passS nodes) (acc, l.set e0.toNat z))
   have h := ih acc (l.set e0.toNat z) (hf.set he hz) (by rw [List.length_set]; exact hl) hss
   obtain ⟨st, e1, e2, e3, e4⟩ := h.st
   have hes := ends_set he hz
   refine ⟨h.fok, h.len, ⟨st, e1, e2.cons e, ?_, fun hn => ?_⟩, fun i hi => (end_set he hz (h.ends i hi)).1⟩
   ·rw [List.length_cons]; omega
   ·have := e2.length_le
    rw [List.length_cons] at hn
    omega
  ·rw [show passS nodes (acc, l) e = (acc ++ [e], l) from if_neg c]
   have h := ih (acc ++ [e]) l hf hl hss
   obtain ⟨st, e1, e2, e3, e4⟩ := h.st
   refine ⟨h.fok, h.len, ⟨e :: st, ?_, e2.cons_cons e, ?_, fun hn => ?_⟩, h.ends⟩
   ·show _ = acc ++ e :: st
    rw [← List.append_cons] at e1
    exact e1
   ·rw [List.length_cons, List.length_cons]; omega
   ·rw [List.length_cons, List.length_cons] at hn
    obtain ⟨q1, q2⟩ := e4 (by omega)
    refine ⟨q1, fun a ha => ?_⟩
    rcases List.mem_cons.1 ha with rfl | ha
    ·exact c
    ·exact q2 a ha
theorem okN_ren {i i' : Int} {x : S37} {a b : Int} (h : okN i x = true) (ha : 0 < yZ x.f0 → 0 ≤ a ∧ a < i') (hb : 1 < yZ x.f0 → 0 ≤ b ∧ b < i') : okN i' { x with f1 := a, f2 := b } = true := by
 unfold okN at h ⊢
 simp only [Bool.and_eq_true, Bool.or_eq_true, decide_eq_true_eq] at h ⊢
 obtain ⟨⟨⟨⟨⟨h0, h1⟩, h2⟩, h3⟩, h4⟩, h5⟩ := h
 refine ⟨⟨⟨⟨⟨h0, ?_⟩, ?_⟩, h3⟩, h4⟩, h5⟩
 ·by_cases k : 0 < yZ x.f0
  ·exact .inr (ha k)
  ·exact .inl (by omega)
 ·by_cases k : 1 < yZ x.f0
  ·exact .inr (hb k)
  ·exact .inl (by omega)
theorem okN_K01 (i : Int) : okN i (uZ ⟨0, 1⟩) = true := by
 have h : okN 0 (uZ ⟨0, 1⟩) = true := by decide
 exact okN_ren (a := 0) (b := 0) h (fun k => absurd k (by decide)) (fun k => absurd k (by decide))
theorem okN_V2 {i v k : Int} (hv : 0 ≤ v) (hk : 0 ≤ k ∧ k ≤ 6) : okN i (uU ⟨v, k⟩) = true := by
 unfold okN uU
 have : yZ 2 = 0 := by decide
 simp [this, hv, hk.1, hk.2]
theorem okN_H7 {i a : Int} (ha : 0 ≤ a) (h : a < i) : okN i (nodeH 7 a 0) = true := by
 unfold okN
 have : yZ 7 = 1 := by decide
 simp [this, ha, h]
theorem NodeI_K01 : wE (uZ ⟨0, 1⟩) := by
 obtain ⟨z, o⟩ := I64_z
 exact ⟨z, o, z, o, z, o, z, o, z, o, z, o, z, o, z, o⟩
theorem NodeI_V2 (k : S32) : wE (uU k) := by
 obtain ⟨z, o⟩ := I64_z
 exact ⟨z, z, z, z, z, z, z, z, z, z, z, z, z, z, z, z⟩
theorem NodeI_H7 (a : Int) : wE (nodeH 7 a 0) := by
 obtain ⟨z, o⟩ := I64_z
 exact ⟨z, z, z, z, z, z, z, z, z, z, z, z, z, z, z, z⟩
structure RawOK (l : List S32) (out : List S37) : Prop where
 ok : ∀ i : Nat, i < out.length → okN (i : Int) (rT out (i : Int)) = true
 I : ∀ x ∈ out, wE x
 var : ∀ x ∈ out, x.f0 = 2 → tW l x.f5.f0
theorem RawOK.push {l : List S32} {out : List S37} {x : S37} (h : RawOK l out) (ho : okN (out.length : Int) x = true) (hI : wE x) (hv : x.f0 = 2 → tW l x.f5.f0) : RawOK l (out ++ [x]) := by
 refine ⟨fun i hi => ?_, fun y hy => ?_, fun y hy => ?_⟩
 ·rw [List.length_append, List.length_singleton] at hi
  by_cases k : i < out.length
  ·rw [rdT_app (by omega) (by omega)]; exact h.ok i k
  ·obtain rfl : i = out.length := by omega
   rw [rdT_last]; exact ho
 ·rcases List.mem_append.1 hy with hy | hy
  ·exact h.I y hy
  ·rw [List.mem_singleton.1 hy]; exact hI
 ·rcases List.mem_append.1 hy with hy | hy
  ·exact h.var y hy
  ·rw [List.mem_singleton.1 hy]; exact hv
def negV (nodes : List S37) (l : List S32) (i : Nat) : Bool := (rT nodes (i : Int)).f0 == 2 && decide ((ofA l (rT nodes (i : Int)).f5.f0).f1 < 0)
def negN (nodes : List S37) (l : List S32) (k : Nat) : Nat := ((List.range k).filter (negV nodes l)).length
theorem negN_succ (nodes : List S37) (l : List S32) (k : Nat) : negN nodes l (k + 1) = negN nodes l k + if negV nodes l k = true then 1 else 0 := by
 unfold negN
 rw [List.range_succ, List.filter_append, List.length_append]
 cases h : negV nodes l k with
 | true => rw [List.filter_cons_of_pos h]; rfl
 | false => rw [List.filter_cons_of_neg (by rw [h]; decide)]; rfl
structure PutI (nodes : List S37) (l : List S32) (k : Nat) (r : List S37 × List Int) : Prop where
 raw : RawOK l r.1
 len : r.2.length = nodes.length
 tv : ∀ j : Nat, j < k → 0 ≤ rd r.2 (j : Int) ∧ rd r.2 (j : Int) < (r.1.length : Int)
 cnt : r.1.length = k + negN nodes l k
theorem put_ok {nodes : List S37} {l : List S32} (hg : ∀ i : Nat, i < nodes.length → okN (i : Int) (rT nodes (i : Int)) = true) (hI : ∀ x ∈ nodes, wE x) (hf : FOK l) (hv : ∀ i : Nat, i < nodes.length → (rT nodes (i : Int)).f0 = 2 → 0 ≤ (rT nodes (i : Int)).f5.f0 ∧ (rT nodes (i : Int)).f5.f0 < (l.length : Int)) : ∀ k, k ≤ nodes.length → PutI nodes l k (tC nodes l k) := by
 intro k
 induction k with
 | zero => intro _; exact ⟨⟨fun i hi => by simp [tC] at hi, fun x hx => by simp [tC] at hx, fun x hx => by simp [tC] at hx⟩, by simp [tC], fun j hj => by omega, by simp [tC, negN]⟩
 | succ k ih =>
  intro hk
  have h := ih (by omega)
  rw [mV]
  have hx := hg k (by omega)
  have hxv := hv k (by omega)
  have hxI : wE (rT nodes (k : Int)) := hI _ (by rw [vQ (by omega)]; exact List.getElem_mem _)
  have hn := negN_succ nodes l k
  unfold negV at hn
  generalize rT nodes (k : Int) = x at hx hxv hxI hn ⊢
  generalize tC nodes l k = st at h ⊢
  obtain ⟨out, tv⟩ := st
  have hr := h.raw
  have htl : tv.length = nodes.length := h.len
  have hto := h.tv
  have hct := h.cnt
  dsimp only at hr hto hct
  have tset : ∀ (out' : List S37) (v : Int), out.length ≤ out'.length → 0 ≤ v → v < (out'.length : Int) → ∀ j : Nat, j < k + 1 → 0 ≤ rd (tv.set k v) (j : Int) ∧ rd (tv.set k v) (j : Int) < (out'.length : Int) := fun out' v h1 h2 h3 j hj => by
   by_cases e : j = k
   ·subst e; rw [tO (by omega)]; exact ⟨h2, h3⟩
   ·rw [tP (fun h => e h.symm)]
    have := hto j (by omega)
    omega
  unfold putS
  by_cases c1 : x.f0 = 2
  ·rw [if_neg (fun h => h c1)]
   obtain ⟨v0, v1⟩ := hxv c1
   have hK : 0 ≤ x.f5.f1 ∧ x.f5.f1 ≤ 6 := by
    have := (sK hx).2.2.2.2.1 c1
    exact ⟨this.2.1, this.2.2⟩
   have hae := oZ hf v0 v1
   generalize ofA l x.f5.f0 = a at hae hn ⊢
   by_cases c2 : a.f1 = 0
   ·rw [if_pos c2]
    rw [if_neg (by rw [c2]; simp)] at hn
    refine ⟨hr.push (okN_K01 _) NodeI_K01 (fun h => absurd h (by decide)), by simp [htl], tset _ _ (by simp) (by omega) (by rw [List.length_append, List.length_singleton]; omega), ?_⟩
    show (out ++ [uZ ⟨0, 1⟩]).length = _
    rw [List.length_append, List.length_singleton]; omega
   ·rw [if_neg c2]
    have hae' : tW l a.f0 ∧ (a.f1 = 1 ∨ a.f1 = -1) := by
     rcases hae with h | h
     ·rw [h] at c2; exact absurd rfl c2
     ·exact ⟨h.1, h.2.2⟩
    have r1 := hr.push (x := uU ⟨a.f0, x.f5.f1⟩) (okN_V2 hae'.1.1 hK) (NodeI_V2 _) (fun _ => hae'.1)
    by_cases c3 : a.f1 < 0
    ·rw [if_pos c3]
     rw [if_pos (by rw [c1]; simp [c3])] at hn
     have r2 := r1.push (x := nodeH 7 (out.length : Int) 0) (okN_H7 (by omega) (by rw [List.length_append, List.length_singleton]; omega)) (NodeI_H7 _) (fun h => absurd h (by show ¬ (7 : Int) = 2; decide))
     rw [List.append_assoc] at r2
     refine ⟨r2, by simp [htl], tset _ _ (by simp) (by omega) (by simp), ?_⟩
     show (out ++ [uU ⟨a.f0, x.f5.f1⟩, nodeH 7 (out.length : Int) 0]).length = _
     rw [List.length_append]; simp only [List.length_cons, List.length_nil]; omega
    ·rw [if_neg c3]
     rw [if_neg (by simp [c3])] at hn
     refine ⟨r1, by simp [htl], tset _ _ (by simp) (by omega) (by rw [List.length_append, List.length_singleton]; omega), ?_⟩
     show (out ++ [uU ⟨a.f0, x.f5.f1⟩]).length = _
     rw [List.length_append, List.length_singleton]; omega
  ·rw [if_pos c1]
   rw [if_neg (by simp [c1])] at hn
   obtain ⟨_, oa, ob, _⟩ := sK hx
   have ops : ∀ c : Int, 0 ≤ c → c < (k : Int) → 0 ≤ rd tv c ∧ rd tv c < (out.length : Int) := fun c c0 c1 => by
    obtain ⟨m, rfl⟩ := Int.eq_ofNat_of_zero_le c0
    exact hto m (by omega)
   refine ⟨hr.push (okN_ren hx (fun p => ops _ (oa p).1 (oa p).2) (fun p => ops _ (ob p).1 (ob p).2)) hxI (fun h => absurd h c1), by simp [htl], tset _ _ (by simp) (by omega) (by rw [List.length_append, List.length_singleton]; omega), ?_⟩
   show (out ++ [{ x with f1 := rd tv x.f1, f2 := rd tv x.f2 }]).length = _
   rw [List.length_append, List.length_singleton]; omega
theorem nodup_le {α : Type} [DecidableEq α] : ∀ (a b : List α), a.Nodup → (∀ x ∈ a, x ∈ b) → a.length ≤ b.length := by
 intro a
 induction a with
 | nil => intro b _ _; simp
 | cons x xs ih =>
  intro b hn hs
  rw [List.nodup_cons] at hn
  have h1 := ih (b.erase x) hn.2 (fun y hy => by
   have : y ≠ x := fun e => hn.1 (e ▸ hy)
   exact (List.mem_erase_of_ne this).2 (hs y (List.mem_cons_of_mem _ hy)))
  have h2 := List.length_erase_of_mem (hs x (List.mem_cons_self ..))
  have h3 : 0 < b.length := List.length_pos_of_mem (hs x (List.mem_cons_self ..))
  rw [List.length_cons]
  omega
theorem filter_split {p p0 : Nat → Bool} : ∀ m, (∀ i, i < m → p i = true → p0 i = true) → ((List.range m).filter fun i => p0 i && !p i).length + ((List.range m).filter p).length = ((List.range m).filter p0).length := by
 intro m
 induction m with
 | zero => simp
 | succ m ih =>
  intro h
  have h1 := ih (fun i hi => h i (by omega))
  have h2 := h m (by omega)
  rw [List.range_succ, List.filter_append, List.filter_append, List.filter_append, List.length_append, List.length_append, List.length_append]
  simp only [List.filter_cons, List.filter_nil]
  cases h3 : p m <;> cases h4 : p0 m <;> simp [h3, h4] at h2 ⊢ <;> omega
def code7 (k : S32) : Nat := k.f0.toNat * 7 + k.f1.toNat
theorem flat7 (D : List Nat) : (D.flatMap fun v => (List.range 7).map fun k => v * 7 + k).length = 7 * D.length := by
 induction D with
 | nil => rfl
 | cons d ds ih => rw [List.flatMap_cons, List.length_append, ih, List.length_map, List.length_range, List.length_cons]; omega
def VarOK (l : List S32) (nodes : List S37) : Prop := ∀ x ∈ nodes, x.f0 = 2 → x = uU x.f5 ∧ tW l x.f5.f0 ∧ 0 ≤ x.f5.f1 ∧ x.f5.f1 ≤ 6
theorem negN_le {nodes : List S37} {l0 l : List S32} (hnd : nodes.Nodup) (hv : VarOK l0 nodes) (hl : l.length = l0.length) (he : ∀ i, tW l i → tW l0 i) : negN nodes l nodes.length + 7 * sH l ≤ 7 * sH l0 := by
 have hsp := filter_split (p := endB l) (p0 := endB l0) l0.length (fun i hi h => (qL hi).2 (he i ((qL (by omega)).1 h)))
 have hmem : ∀ i, i < nodes.length → rT nodes (i : Int) ∈ nodes := fun i hi => by rw [vQ hi]; exact List.getElem_mem _
 have hle := nodup_le (((List.range nodes.length).filter (negV nodes l)).map fun (i : Nat) => code7 (rT nodes (i : Int)).f5) ((((List.range l0.length).filter fun i => endB l0 i && !endB l i)).flatMap fun v => (List.range 7).map fun k => v * 7 + k) (by
  unfold List.Nodup
  rw [List.pairwise_map]
  refine List.Pairwise.imp_of_mem ?_ (List.Pairwise.filter _ List.nodup_range)
  intro i j hi hj hij hc
  rw [List.mem_filter, List.mem_range] at hi hj
  unfold negV at hi hj
  simp only [Bool.and_eq_true, beq_iff_eq, decide_eq_true_eq] at hi hj
  obtain ⟨e1, n1, k1, m1⟩ := hv _ (hmem i hi.1) hi.2.1
  obtain ⟨e2, n2, k2, m2⟩ := hv _ (hmem j hj.1) hj.2.1
  have f0 := n1.1
  have g0 := n2.1
  unfold code7 at hc
  have hk : (rT nodes (i : Int)).f5 = (rT nodes (j : Int)).f5 := by
   generalize (rT nodes (i : Int)).f5 = a at *
   generalize (rT nodes (j : Int)).f5 = b at *
   obtain ⟨a0, a1⟩ := a
   obtain ⟨b0, b1⟩ := b
   dsimp only at *
   have : a0 = b0 ∧ a1 = b1 := by omega
   rw [this.1, this.2]
  have hx : nodes[i]'hi.1 = nodes[j]'hj.1 := by
   rw [← vQ hi.1, ← vQ hj.1, e1, e2, hk]
  exact hij ((List.getElem_inj hnd).1 hx)) (fun c hc => by
  obtain ⟨i, hi, rfl⟩ := List.mem_map.1 hc
  rw [List.mem_filter, List.mem_range] at hi
  have hi2 := hi.2
  unfold negV at hi2
  simp only [Bool.and_eq_true, beq_iff_eq, decide_eq_true_eq] at hi2
  obtain ⟨e1, n1, k1, m1⟩ := hv _ (hmem i hi.1) hi2.1
  have f0 := n1.1
  have f1 := n1.2.1
  have hnot : ¬ tW l (rT nodes (i : Int)).f5.f0 := fun h => by
   have := hi2.2
   rw [pP h] at this
   have : (1 : Int) < 0 := this
   omega
  refine List.mem_flatMap.2 ⟨(rT nodes (i : Int)).f5.f0.toNat, ?_, ?_⟩
  ·rw [List.mem_filter, List.mem_range]
   refine ⟨by omega, ?_⟩
   have ev : (((rT nodes (i : Int)).f5.f0.toNat : Nat) : Int) = (rT nodes (i : Int)).f5.f0 := by omega
   rw [Bool.and_eq_true, Bool.not_eq_true']
   refine ⟨(qL (by omega)).2 (by rw [ev]; exact n1), ?_⟩
   cases hb : endB l (rT nodes (i : Int)).f5.f0.toNat with
   | false => rfl
   | true =>
    have := (qL (by omega)).1 hb
    rw [ev] at this
    exact absurd this hnot
  ·refine List.mem_map.2 ⟨(rT nodes (i : Int)).f5.f1.toNat, List.mem_range.2 (by omega), rfl⟩)
 rw [List.length_map, flat7] at hle
 unfold negN
 unfold sH at hsp ⊢
 rw [hl]
 omega
theorem oI {g : PG} {x y : S37} (h : y ∈ (vP g x).1.L) : y ∈ g.L ∨ y = x := by
 unfold vP at h
 split at h
 ·exact .inl h
 ·split at h
  ·exact .inl h
  ·rcases List.mem_append.1 h with h | h
   ·exact .inl h
   ·exact .inr (List.mem_singleton.1 h)
theorem made_mem {R : wP} {g : PG} {kind a b n : Int} {r : PG × Int} (hk : kind ≠ 2) (h : oK R g kind a b n r) {y : S37} (hy : y ∈ r.1.L) : y ∈ g.L ∨ y.f0 ≠ 2 := by
 cases h with
 | num q hq => exact (oI hy).imp id (fun e => by rw [e]; show ¬ (1 : Int) = 2; decide)
 | old c hc => exact .inl hy
 | unneg c hc h7 => exact .inl hy
 | neg c hc hs => exact (oI hy).imp id (fun e => by rw [e]; show ¬ (7 : Int) = 2; decide)
 | node hs => exact (oI hy).imp id (fun e => by rw [e]; exact hk)
theorem makeG_mem {R : wP} (hR : rH R) {g : PG} (h : rG R g.L g.T) (hl : g.vW = false) {kind a b n : Int} (hk : kind ≠ 2) (ha0 : 0 ≤ a) (ha : a < (g.L.length : Int)) (hb0 : 0 ≤ b) (hb : b < (g.L.length : Int)) {y : S37} (hy : y ∈ (sR R g kind a b n).1.L) : y ∈ g.L ∨ y.f0 ≠ 2 := by
 have hc0 : ∀ c, c = a ∨ c = b → 0 ≤ c ∧ c < (g.L.length : Int) := fun c hc => by rcases hc with rfl | rfl <;> exact ⟨by assumption, by assumption⟩
 exact made_mem hk (make_by (n := n) (kind := kind) hR hl ha0 hb0 (fun c hc h1 => ((h.at_ (hc0 c hc).1 (hc0 c hc).2).num h1).2) (fun c hc h1 => (h.neg_at (hc0 c hc).1 (hc0 c hc).2 h1).1)) hy
theorem bNode_mem {R : wP} (hR : rH R) {g : PG} (h : rG R g.L g.T) (hl : g.vW = false) {tv : List Int} {x : S37} {i : Int} (hx : okN i x = true)
  (h1 : 0 < yZ x.f0 → 0 ≤ rd tv x.f1 ∧ rd tv x.f1 < (g.L.length : Int)) (h2 : 1 < yZ x.f0 → 0 ≤ rd tv x.f2 ∧ rd tv x.f2 < (g.L.length : Int)) {y : S37} (hy : y ∈ (rI R g tv x).1.L) (hy2 : y.f0 = 2) : y ∈ g.L ∨ (x.f0 = 2 ∧ y = uU x.f5) := by
 unfold rI at hy
 by_cases k1 : x.f0 = 1
 ·rw [if_pos k1] at hy
  exact (oI hy).imp id (fun e => by rw [e] at hy2; exact absurd hy2 (by show ¬ (1 : Int) = 2; decide))
 rw [if_neg k1] at hy
 by_cases k2 : x.f0 = 2
 ·rw [if_pos k2] at hy
  exact (oI hy).imp id (fun e => ⟨k2, e⟩)
 rw [if_neg k2] at hy
 by_cases k15 : x.f0 = 15
 ·rw [if_pos k15] at hy
  exact (oI hy).imp id (fun e => by rw [e] at hy2; exact absurd hy2 (by show ¬ (15 : Int) = 2; decide))
 rw [if_neg k15] at hy
 have o0 := (sK hx).1
 by_cases ka : yZ x.f0 = 1
 ·rw [if_pos ka] at hy
  obtain ⟨p, q⟩ := h1 (by omega)
  exact (makeG_mem hR h hl k2 p q p q hy).imp id (fun e => absurd hy2 e)
 ·rw [if_neg ka] at hy
  have k2' : yZ x.f0 = 2 := by rcases rW x.f0 with h1 | h1 | h1 | h1 <;> omega
  obtain ⟨p, q⟩ := h1 (by omega)
  obtain ⟨p2, q2⟩ := h2 (by omega)
  exact (makeG_mem hR h hl k2 p q p2 q2 hy).imp id (fun e => absurd hy2 e)
theorem bRun_vars {R : wP} (hR : rH R) {nodes : List S37} {use : List Bool} (hg : ∀ i : Nat, i < nodes.length → okN (i : Int) (rT nodes (i : Int)) = true) (hI : ∀ x ∈ nodes, wE x) (hs : Shut nodes use) : ∀ k, k ≤ nodes.length → k ≤ 4000 → ∀ y ∈ (vS R nodes use k).1.L, y.f0 = 2 → ∃ x ∈ nodes, x.f0 = 2 ∧ y = uU x.f5 := by
 intro k
 induction k with
 | zero => intro _ _ y hy; simp [vS] at hy
 | succ k ih =>
  intro hk h4 y hy hy2
  have ih' := ih (by omega) (by omega) y
  have h := bRun_ok hR hg hI hs k (by omega) (by omega)
  unfold vS at hy
  cases hu : zG false use (k : Int) with
  | false =>
   rw [hu, if_neg (by decide)] at hy
   exact ih' hy hy2
  | true =>
   rw [hu, if_pos rfl] at hy
   have hx := hg k (by omega)
   obtain ⟨_, oa, ob, _⟩ := sK hx
   have hsk := hs k (by omega) hu
   have ops : ∀ c : Int, 0 ≤ c → c < (k : Int) → zG false use c = true → 0 ≤ rd (vS R nodes use k).2 c ∧ rd (vS R nodes use k).2 c < ((vS R nodes use k).1.L.length : Int) := fun c c0 c1 cu => by
    obtain ⟨m, rfl⟩ := Int.eq_ofNat_of_zero_le c0
    exact h.tv m (by omega) cu
   have hmem : rT nodes (k : Int) ∈ nodes := by rw [vQ (by omega)]; exact List.getElem_mem _
   rcases bNode_mem hR h.inv h.vW hx (fun p => ops _ (oa p).1 (oa p).2 (hsk.1 p)) (fun p => ops _ (ob p).1 (ob p).2 (hsk.2 p)) hy hy2 with e | e
   ·exact ih' e hy2
   ·exact ⟨_, hmem, e.1, e.2⟩
theorem build_vars {R : wP} (hR : rH R) {nodes : List S37} {roots : List Int} (hg : tT nodes roots = true) (hI : ∀ x ∈ nodes, wE x) : ∀ y ∈ (wC R nodes roots).1, y.f0 = 2 → ∃ x ∈ nodes, x.f0 = 2 ∧ y = uU x.f5 := by
 obtain ⟨L, T, r, tv, h⟩ := build_is hR hg hI
 obtain ⟨hr, hG⟩ := vA.1 hg
 obtain ⟨h4, hok⟩ := uJ hG
 have hv := bRun_vars hR hok hI (sT (rP hG) hr) nodes.length (Nat.le_refl _) h4
 rw [h.run] at hv
 rw [h.build]
 intro y hy hy2
 have hy : y ∈ clrL L (xN L r) := hy
 unfold clrL at hy
 obtain ⟨i, hi, rfl⟩ := List.mem_map.1 hy
 rw [(uN _ _).1] at hy2
 have hil := (nD.1 hi).1
 have e : rO (pI (xN L r)) (rT L (i : Int)) = rT L (i : Int) := by
  have : yZ 2 = 0 := by decide
  unfold rO
  rw [if_neg (by rw [hy2, this]; decide)]
 rw [e]
 exact hv _ (by rw [vQ hil]; exact List.getElem_mem _) hy2
structure JR (n E B : Nat) (s : RS) : Prop where
 neat : Neat yI s.nodes s.eqs
 fok : FOK s.l
 len : s.l.length = n
 var : VarOK s.l s.nodes
 size : s.nodes.length + 7 * sH s.l ≤ B
 cnt : sH s.l + E = n + s.eqs.length
theorem endsN_le (l : List S32) : sH l ≤ l.length := by
 unfold sH
 have := List.length_filter_le (endB l) (List.range l.length)
 rw [List.length_range] at this
 exact this
theorem rZ {x : S37} (h : uF x = true) : x.f0 = 2 ∧ x.f5.f1 = 0 := by
 unfold uF at h
 rw [Bool.and_eq_true, beq_iff_eq, beq_iff_eq] at h
 exact h
theorem pT {L : List S37} {i : Int} (h0 : 0 ≤ i) (h1 : i < (L.length : Int)) : rT L i ∈ L := by
 obtain ⟨m, rfl⟩ := Int.eq_ofNat_of_zero_le h0
 rw [vQ (by omega)]
 exact List.getElem_mem _
theorem eqOf_range {nodes : List S37} (ho : oD nodes) {e : Int} (h0 : 0 ≤ e) (h1 : e < (nodes.length : Int)) : 0 ≤ eqOf nodes e ∧ eqOf nodes e < (nodes.length : Int) := by
 unfold eqOf
 by_cases k : (rT nodes e).f0 = 7
 ·rw [if_pos k]; exact (ho e h0 h1).1 (by rw [k]; decide)
 ·rw [if_neg k]; exact ⟨h0, h1⟩
theorem say_ok {nodes : List S37} {l : List S32} (ho : oD nodes) (hv : VarOK l nodes) {e : Int} (h0 : 0 ≤ e) (h1 : e < (nodes.length : Int)) : SayOK l.length (vY nodes e) := by
 obtain ⟨e0, e1⟩ := eqOf_range ho h0 h1
 intro hi
 unfold vY sayN at hi ⊢
 have hm := pT e0 e1
 have hop := ho _ e0 e1
 generalize rT nodes (eqOf nodes e) = m at hm hop hi ⊢
 by_cases c1 : m.f0 = 2
 ·rw [if_pos c1] at hi ⊢
  have h := (hv m hm c1).2.1
  exact ⟨⟨h.1, h.2.1⟩, .inl rfl, fun h => absurd rfl h⟩
 ·rw [if_neg c1] at hi ⊢
  by_cases c2 : (m.f0 = 4 ∨ m.f0 = 3) ∧ uF (rT nodes m.f1) = true ∧ uF (rT nodes m.f2) = true ∧ m.f1 ≠ m.f2
  ·rw [if_pos c2]
   obtain ⟨k, p1, p2, _⟩ := c2
   have ha : 2 = yZ m.f0 := by rcases k with k | k <;> rw [k] <;> decide
   obtain ⟨a0, a1⟩ := hop.1 (by omega)
   obtain ⟨b0, b1⟩ := hop.2 (by omega)
   have q1 := (hv _ (pT a0 a1) (rZ p1).1).2.1
   have q2 := (hv _ (pT b0 b1) (rZ p2).1).2.1
   refine ⟨⟨q1.1, q1.2.1⟩, ?_, fun _ => ⟨q2.1, q2.2.1⟩⟩
   show (if m.f0 = 3 then (-1 : Int) else 1) = 0 ∨ (if m.f0 = 3 then (-1 : Int) else 1) = 1 ∨ (if m.f0 = 3 then (-1 : Int) else 1) = -1
   by_cases c3 : m.f0 = 3
   ·rw [if_pos c3]; exact .inr (.inr rfl)
   ·rw [if_neg c3]; exact .inr (.inl rfl)
  ·rw [if_neg c2] at hi
   exact absurd hi (by show ¬ false = true; decide)
theorem neat_f12 {R : wP} {nodes : List S37} {r : List Int} (h : Neat R nodes r) : ∀ i : Int, 0 ≤ i → i < (nodes.length : Int) → (0 ≤ (rT nodes i).f1 ∧ (rT nodes i).f1 < (nodes.length : Int)) ∧ (0 ≤ (rT nodes i).f2 ∧ (rT nodes i).f2 < (nodes.length : Int)) := fun i i0 i1 => by
 obtain ⟨T, hT⟩ := h.inv
 obtain ⟨m, rfl⟩ := Int.eq_ofNat_of_zero_le i0
 have hz : (0 : Int) ≤ 0 ∧ (0 : Int) < (nodes.length : Int) := ⟨Int.le_refl _, by omega⟩
 rcases hT.ok m (by omega) with ⟨q, e, hq⟩ | ⟨v, e, hv⟩ | e | ⟨kind, a, b, n, e, hk, ha, hb, _⟩
 ·rw [e]; exact ⟨hz, hz⟩
 ·rw [e]; exact ⟨hz, hz⟩
 ·rw [e]; exact ⟨hz, hz⟩
 ·rw [e]
  refine ⟨⟨ha.1, by have := ha.2; show a < (nodes.length : Int); omega⟩, ?_⟩
  show 0 ≤ (if yZ kind = 2 then b else 0) ∧ (if yZ kind = 2 then b else 0) < (nodes.length : Int)
  by_cases c : yZ kind = 2
  ·rw [if_pos c]; exact ⟨hb.1, by have := hb.2; omega⟩
  ·rw [if_neg c]; exact hz
theorem jr_step {n E B : Nat} (hB : B ≤ 1900) (hE : E ≤ 17592186044416) {s : RS} (h : JR n E B s) : JW n s ∧ JR n E B (pH yI s) := by
 obtain ⟨hroots, hG⟩ := vA.1 h.neat.right
 have ho : oD s.nodes := mR (rP hG)
 obtain ⟨h4, hok⟩ := uJ hG
 have hsz := h.size
 have hel : s.eqs.length ≤ E := by have := h.cnt; have := endsN_le s.l; have := h.len; omega
 have hsay : ∀ e ∈ s.eqs, SayOK n (vY s.nodes e) := fun e he => by
  rw [← h.len]; exact say_ok ho h.var (hroots e he).1 (hroots e he).2
 have hpk : ∀ k, PassOK s.nodes n (s.eqs.take k) [] s.l (pQ s k) := fun k => pass_ok (s.eqs.take k) [] s.l h.fok h.len (fun e he => hsay e (List.mem_of_mem_take he))
 have hpa : PassOK s.nodes n s.eqs [] s.l (uW s.nodes s.eqs s.l) := pass_ok s.eqs [] s.l h.fok h.len hsay
 obtain ⟨st, e1, e2, e3, e4⟩ := hpa.st
 rw [List.nil_append] at e1
 have hvr : ∀ i : Nat, i < s.nodes.length → (rT s.nodes (i : Int)).f0 = 2 → 0 ≤ (rT s.nodes (i : Int)).f5.f0 ∧ (rT s.nodes (i : Int)).f5.f0 < ((uW s.nodes s.eqs s.l).2.length : Int) := fun i hi h2 => by
  have := (h.var _ (pT (by omega) (by omega)) h2).2.1
  rw [hpa.len, ← h.len]
  exact ⟨this.1, this.2.1⟩
 have hpu := put_ok hok h.neat.nodeI hpa.fok hvr s.nodes.length (Nat.le_refl _)
 have hng := negN_le (l := (uW s.nodes s.eqs s.l).2) h.neat.nodup h.var (by rw [hpa.len, h.len]) hpa.ends
 have hrl : (rawG s).length + 7 * sH (uW s.nodes s.eqs s.l).2 ≤ B := by
  have := hpu.cnt
  unfold rawG putA
  omega
 have hstay : ∀ e ∈ (uW s.nodes s.eqs s.l).1, 0 ≤ e ∧ e < (s.nodes.length : Int) := fun e he => by
  rw [e1] at he
  exact hroots e (e2.subset he)
 have hright : tT (rawG s) (rawR s) = true := vA.2 ⟨fun q hq => by
  obtain ⟨e, he, rfl⟩ := List.mem_map.1 hq
  obtain ⟨a0, a1⟩ := hstay e he
  obtain ⟨m, rfl⟩ := Int.eq_ofNat_of_zero_le a0
  exact hpu.tv m (by omega), graphB_mk (by omega) hpu.raw.ok⟩
 have hbn := build_neat nW hright hpu.raw.I
 refine ⟨⟨ho, hroots, by omega, by omega, fun k => (hpk k).fok, fun k => (hpk k).len, hsay, ⟨fun i i0 i1 => (neat_f12 h.neat i i0 i1).1, fun i i0 i1 => (neat_f12 h.neat i i0 i1).2, fun i i0 i1 h2 => by
  obtain ⟨m, rfl⟩ := Int.eq_ofNat_of_zero_le i0
  exact hvr m (by omega) h2⟩, hstay, fun k => ?_, hright, hpu.raw.I⟩, ?_⟩
 ·obtain ⟨st', f1, f2, _⟩ := (hpk k).st
  rw [f1, List.nil_append]
  have := f2.length_le
  rw [List.length_take] at this
  omega
 ·rw [stepR_eq]
  refine ⟨hbn.1, hpa.fok, hpa.len, fun y hy hy2 => ?_, ?_, ?_⟩
  ·obtain ⟨x, hx, hx2, e⟩ := build_vars nW hright hpu.raw.I y hy hy2
   have hk : 0 ≤ x.f5.f1 ∧ x.f5.f1 ≤ 6 := by
    obtain ⟨i, hi, ei⟩ := List.mem_iff_getElem.1 hx
    have : (rT (rawG s) (i : Int)).f0 = 2 → 0 ≤ (rT (rawG s) (i : Int)).f5.f0 ∧ 0 ≤ (rT (rawG s) (i : Int)).f5.f1 ∧ (rT (rawG s) (i : Int)).f5.f1 ≤ 6 := (sK (hpu.raw.ok i hi)).2.2.2.2.1
    rw [vQ hi, ei] at this
    exact ⟨(this hx2).2.1, (this hx2).2.2⟩
   have hf : y.f5 = x.f5 := by rw [e]; rfl
   rw [hf]
   exact ⟨e, hpu.raw.var x hx hx2, hk.1, hk.2⟩
  ·show (wC yI (rawG s) (rawR s)).1.length + 7 * sH (uW s.nodes s.eqs s.l).2 ≤ B
   have := hbn.2
   omega
  ·show sH (uW s.nodes s.eqs s.l).2 + E = n + (wC yI (rawG s) (rawR s)).2.length
   rw [mD, rawR_len, e1]
   have := h.cnt
   omega
theorem JR.done {n E B : Nat} (hB : B ≤ 1900) {s : RS} (h : JR n E B s) : JD n s := ⟨h.fok, h.len, by have := h.size; omega, fun x hx h2 => by
 have := (h.var x hx h2).2.1
 exact ⟨this.1, by rw [← h.len]; exact this.2.1⟩⟩
theorem nS (n : Nat) : (idA n).length = n := by unfold idA; rw [List.length_map, List.length_range]
theorem idA_at {n : Nat} {i : Int} (h0 : 0 ≤ i) (h1 : i < (n : Int)) : rdA (idA n) i = ⟨i, 1⟩ := by
 obtain ⟨m, rfl⟩ := Int.eq_ofNat_of_zero_le h0
 unfold rdA zG idA
 rw [List.getD_eq_getElem?_getD, List.getElem?_map, Int.toNat_natCast, List.getElem?_range (by omega)]
 rfl
theorem idA_end {n : Nat} {i : Int} (h0 : 0 ≤ i) (h1 : i < (n : Int)) : tW (idA n) i := ⟨h0, by rw [nS]; exact h1, by rw [idA_at h0 h1], by rw [idA_at h0 h1]⟩
theorem idA_fok (n : Nat) : FOK (idA n) := fun i h0 h1 => by
 rw [nS] at h1
 rw [idA_at h0 h1]
 exact .inr (.inr ⟨rfl, rfl⟩)
theorem idA_ends (n : Nat) : sH (idA n) = n := by
 unfold sH
 rw [nS]
 have : (List.range n).filter (endB (idA n)) = List.range n := List.filter_eq_self.2 fun i hi => (qL (by rw [nS]; exact List.mem_range.1 hi)).2 (idA_end (by omega) (by have := List.mem_range.1 hi; omega))
 rw [this, List.length_range]
theorem jr_start {f : sV} {B : Nat} (ho : nP f) (hB : f.nodes.length + 7 * f.vars.length ≤ B) : JR f.vars.length f.eqs.length B (oR yI f) := by
 have hbn := build_neat nW ho.right ho.nodeI
 obtain ⟨hroots, hG⟩ := vA.1 ho.right
 obtain ⟨h4, hok⟩ := uJ hG
 refine ⟨hbn.1, idA_fok _, nS _, fun y hy hy2 => ?_, ?_, ?_⟩
 ·obtain ⟨x, hx, hx2, e⟩ := build_vars nW ho.right ho.nodeI y hy hy2
  have hk : 0 ≤ x.f5.f0 ∧ 0 ≤ x.f5.f1 ∧ x.f5.f1 ≤ 6 := by
   obtain ⟨i, hi, ei⟩ := List.mem_iff_getElem.1 hx
   have := (sK (hok i hi)).2.2.2.2.1
   rw [vQ hi, ei] at this
   exact this hx2
  have hf : y.f5 = x.f5 := by rw [e]; rfl
  rw [hf]
  exact ⟨e, idA_end hk.1 (ho.var x hx hx2), hk.2.1, hk.2.2⟩
 ·show (wC yI f.nodes f.eqs).1.length + 7 * sH (idA f.vars.length) ≤ B
  rw [idA_ends]
  have := hbn.2
  omega
 ·show sH (idA f.vars.length) + f.eqs.length = f.vars.length + (wC yI f.nodes f.eqs).2.length
  rw [idA_ends, mD]
theorem runs_end {n E B : Nat} (hB : B ≤ 1900) (hE : E ≤ 17592186044416) {s t : RS} (h : qE yI s t) : JR n E B s → ∃ s', JR n E B s' ∧ doneR s' = true ∧ t = pH yI s' := by
 induction h with
 | done hd => intro hj; exact ⟨_, hj, hd, rfl⟩
 | more hd _ ih => intro hj; exact ih (jr_step hB hE hj).2
theorem join_new {l : List S32} {x y s : Int} (hx : tW l x) (hy : s ≠ 0 → tW l y ∧ x ≠ y) (hs : s = 0 ∨ s = 1 ∨ s = -1) : (sQ l x y s).2 = true := by
 have ha := pP hx
 have hb : s ≠ 0 → wK l y s = ⟨y, s⟩ := fun k => by
  unfold wK
  rw [if_neg k, pP (hy k).1]
  show (⟨y, 1 * s⟩ : S32) = _
  rw [Int.one_mul]
 unfold sQ
 rw [ha]
 rw [if_neg (fun h => absurd h.1 (by show ¬ (1 : Int) = 0; decide)), if_neg (by show ¬ (1 : Int) = 0; decide)]
 by_cases k : s = 0
 ·have : wK l y s = ⟨0, 0⟩ := by unfold wK; rw [if_pos k]
  rw [this, if_pos rfl]
 ·rw [hb k, if_neg k, if_neg (fun h => (hy k).2 h.1), if_neg (fun h => (hy k).2 h)]
  split <;> rfl
theorem nodup_rT {L : List S37} (h : L.Nodup) {i j : Int} (i0 : 0 ≤ i) (i1 : i < (L.length : Int)) (j0 : 0 ≤ j) (j1 : j < (L.length : Int)) (e : rT L i = rT L j) : i = j := by
 obtain ⟨a, rfl⟩ := Int.eq_ofNat_of_zero_le i0
 obtain ⟨b, rfl⟩ := Int.eq_ofNat_of_zero_le j0
 rw [vQ (by omega), vQ (by omega)] at e
 have := (List.getElem_inj h).1 e
 omega
theorem say_new {nodes : List S37} {l : List S32} (hn : nodes.Nodup) (ho : oD nodes) (hv : VarOK l nodes) {e : Int} (h0 : 0 ≤ e) (h1 : e < (nodes.length : Int)) (hi : (vY nodes e).is = true) : (sQ l (vY nodes e).x (vY nodes e).y (vY nodes e).s).2 = true := by
 obtain ⟨e0, e1⟩ := eqOf_range ho h0 h1
 have hsk := say_ok ho hv h0 h1 hi
 refine join_new ?_ ?_ hsk.2.1
 ·unfold vY sayN at hi ⊢
  have hm := pT e0 e1
  have hop := ho _ e0 e1
  generalize rT nodes (eqOf nodes e) = m at hm hop hi ⊢
  by_cases c1 : m.f0 = 2
  ·rw [if_pos c1]; exact (hv m hm c1).2.1
  ·rw [if_neg c1] at hi ⊢
   by_cases c2 : (m.f0 = 4 ∨ m.f0 = 3) ∧ uF (rT nodes m.f1) = true ∧ uF (rT nodes m.f2) = true ∧ m.f1 ≠ m.f2
   ·rw [if_pos c2]
    obtain ⟨k, p1, _⟩ := c2
    have ha : 2 = yZ m.f0 := by rcases k with k | k <;> rw [k] <;> decide
    obtain ⟨a0, a1⟩ := hop.1 (by omega)
    exact (hv _ (pT a0 a1) (rZ p1).1).2.1
   ·rw [if_neg c2] at hi
    exact absurd hi (by show ¬ false = true; decide)
 ·unfold vY sayN at hi ⊢
  have hm := pT e0 e1
  have hop := ho _ e0 e1
  generalize rT nodes (eqOf nodes e) = m at hm hop hi ⊢
  by_cases c1 : m.f0 = 2
  ·rw [if_pos c1]; intro h; exact absurd rfl h
  ·rw [if_neg c1] at hi ⊢
   by_cases c2 : (m.f0 = 4 ∨ m.f0 = 3) ∧ uF (rT nodes m.f1) = true ∧ uF (rT nodes m.f2) = true ∧ m.f1 ≠ m.f2
   ·rw [if_pos c2]
    intro _
    obtain ⟨k, p1, p2, hne⟩ := c2
    have ha : 2 = yZ m.f0 := by rcases k with k | k <;> rw [k] <;> decide
    obtain ⟨a0, a1⟩ := hop.1 (by omega)
    obtain ⟨b0, b1⟩ := hop.2 (by omega)
    have q1 := hv _ (pT a0 a1) (rZ p1).1
    have q2 := hv _ (pT b0 b1) (rZ p2).1
    refine ⟨q2.2.1, fun hx => hne (nodup_rT hn a0 a1 b0 b1 ?_)⟩
    have hk : (rT nodes m.f1).f5 = (rT nodes m.f2).f5 := by
     have r1 := (rZ p1).2
     have r2 := (rZ p2).2
     have hx : (rT nodes m.f1).f5.f0 = (rT nodes m.f2).f5.f0 := hx
     generalize (rT nodes m.f1).f5 = a at *
     generalize (rT nodes m.f2).f5 = b at *
     obtain ⟨a0, a1⟩ := a
     obtain ⟨b0, b1⟩ := b
     dsimp only at *
     rw [hx, r1, r2]
    rw [q1.1, q2.1, hk]
   ·rw [if_neg c2] at hi
    exact absurd hi (by show ¬ false = true; decide)
theorem rd_rep (n : Nat) (i : Int) : rd (List.replicate n 0) i = 0 := by
 unfold rd
 rw [List.getD_eq_getElem?_getD, List.getElem?_replicate]
 split <;> rfl
theorem put_same {nodes : List S37} {l : List S32} {roots : List Int} (hn : Neat yI nodes roots) (hv : VarOK l nodes) : ∀ k, k ≤ nodes.length → (tC nodes l k).1 = nodes.take k ∧ (tC nodes l k).2.length = nodes.length ∧ (∀ j : Nat, j < k → rd (tC nodes l k).2 (j : Int) = (j : Int)) ∧ rd (tC nodes l k).2 0 = 0 := by
 obtain ⟨T, hT⟩ := hn.inv
 intro k
 induction k with
 | zero => intro _; exact ⟨by simp [tC], by simp [tC], fun j hj => by omega, rd_rep _ _⟩
 | succ k ih =>
  intro hk
  obtain ⟨h1, h2, h3, h4⟩ := ih (by omega)
  rw [mV]
  have hmem : rT nodes (k : Int) ∈ nodes := pT (by omega) (by omega)
  have hvk := hv _ hmem
  have hok := hT.ok k (by omega)
  have hx : rT nodes (k : Int) = nodes[k] := vQ (by omega)
  have htk : nodes.take (k + 1) = nodes.take k ++ [rT nodes (k : Int)] := by rw [List.take_succ_eq_append_getElem (by omega), hx]
  have hlk : (nodes.take k).length = k := by rw [List.length_take]; omega
  generalize rT nodes (k : Int) = x at hvk hok htk
  generalize tC nodes l k = st at h1 h2 h3 h4
  obtain ⟨out, tv⟩ := st
  dsimp only at h1 h2 h3 h4
  subst h1
  have hset : (∀ j : Nat, j < k + 1 → rd (tv.set k (k : Int)) (j : Int) = (j : Int)) ∧ rd (tv.set k (k : Int)) 0 = 0 := by
   refine ⟨fun j hj => ?_, ?_⟩
   ·by_cases e : j = k
    ·subst e; exact tO (by omega) _
    ·rw [tP (fun h => e h.symm)]; exact h3 j (by omega)
   ·by_cases e : k = 0
    ·subst e; exact tO (by omega) _
    ·have := tP (l := tv) (i := k) (j := 0) e (k : Int)
     exact this.trans h4
  have hops : ∀ c : Int, 0 ≤ c → c < (k : Int) → rd tv c = c := fun c c0 c1 => by
   obtain ⟨m, rfl⟩ := Int.eq_ofNat_of_zero_le c0
   exact h3 m (by omega)
  unfold putS
  by_cases c1 : x.f0 = 2
  ·rw [if_neg (fun h => h c1)]
   obtain ⟨e, he, _⟩ := hvk c1
   rw [pP he, if_neg (by show ¬ (1 : Int) = 0; decide), if_neg (by show ¬ (1 : Int) < 0; decide)]
   refine ⟨?_, by simp [h2], ?_⟩
   ·show nodes.take k ++ [uU ⟨x.f5.f0, x.f5.f1⟩] = _
    rw [htk]
    congr 2
    exact e.symm
   ·show (∀ j : Nat, j < k + 1 → rd (tv.set k ((nodes.take k).length : Int)) (j : Int) = (j : Int)) ∧ rd (tv.set k ((nodes.take k).length : Int)) 0 = 0
    rw [hlk]; exact hset
  ·rw [if_pos c1]
   have hxe : ({ x with f1 := rd tv x.f1, f2 := rd tv x.f2 } : S37) = x := by
    rcases hok with ⟨q, e, hq⟩ | ⟨v, e, hq⟩ | e | ⟨kind, a, b, n, e, hkd, ha, hb, _⟩
    ·subst e; show (⟨1, rd tv 0, rd tv 0, 0, q, ⟨0, 0⟩, _⟩ : S37) = _; rw [h4]; rfl
    ·subst e; exact absurd rfl c1
    ·subst e; show (⟨15, rd tv 0, rd tv 0, 0, z30, z32, z35⟩ : S37) = _; rw [h4]; rfl
    ·subst e
     show (⟨kind, rd tv a, rd tv (if yZ kind = 2 then b else 0), n, z30, z32, z35⟩ : S37) = uE kind a b n
     rw [hops a ha.1 ha.2]
     unfold uE
     by_cases c2 : yZ kind = 2
     ·rw [if_pos c2, hops b hb.1 hb.2]
     ·rw [if_neg c2, h4]
   refine ⟨?_, by simp [h2], ?_⟩
   ·show nodes.take k ++ [{ x with f1 := rd tv x.f1, f2 := rd tv x.f2 }] = _
    rw [htk, hxe]
   ·show (∀ j : Nat, j < k + 1 → rd (tv.set k ((nodes.take k).length : Int)) (j : Int) = (j : Int)) ∧ rd (tv.set k ((nodes.take k).length : Int)) 0 = 0
    rw [hlk]; exact hset
theorem step_same {n E B : Nat} {s : RS} (h : JR n E B s) (hp : uW s.nodes s.eqs s.l = (s.eqs, s.l)) : pH yI s = s := by
 obtain ⟨h1, h2, h3, _⟩ := put_same h.neat h.var s.nodes.length (Nat.le_refl _)
 have hr : rawR s = s.eqs := by
  unfold rawR
  rw [hp]
  show s.eqs.map (rd (tC s.nodes s.l s.nodes.length).2) = s.eqs
  rw [List.map_congr_left (g := id) (fun e he => by
   obtain ⟨e0, e1⟩ := h.neat.ok e he
   obtain ⟨m, rfl⟩ := Int.eq_ofNat_of_zero_le e0
   exact h3 m (by omega)), List.map_id]
 have hw : rawG s = s.nodes := by
  unfold rawG
  rw [hp]
  show (tC s.nodes s.l s.nodes.length).1 = s.nodes
  rw [h1, List.take_length]
 rw [stepR_eq, hr, hw, hp, neat_build h.neat]
theorem done_same {n E B : Nat} {s : RS} (h : JR n E B s) (hd : doneR s = true) : pH yI s = s ∧ ∀ e ∈ s.eqs, (vY s.nodes e).is = false := by
 obtain ⟨hroots, hG⟩ := vA.1 h.neat.right
 have ho : oD s.nodes := mR (rP hG)
 have hsay : ∀ e ∈ s.eqs, SayOK n (vY s.nodes e) := fun e he => by
  rw [← h.len]; exact say_ok ho h.var (hroots e he).1 (hroots e he).2
 have hpa : PassOK s.nodes n s.eqs [] s.l (uW s.nodes s.eqs s.l) := pass_ok s.eqs [] s.l h.fok h.len hsay
 obtain ⟨st, e1, e2, e3, e4⟩ := hpa.st
 rw [List.nil_append] at e1
 unfold doneR at hd
 rw [beq_iff_eq, e1] at hd
 obtain ⟨q1, q2⟩ := e4 hd
 have hst : st = s.eqs := e2.eq_of_length hd
 refine ⟨step_same h ?_, fun e he => ?_⟩
 ·rw [← hst]
  conv => lhs; rw [hst]
  exact Prod.ext e1 q1
 ·cases hi : (vY s.nodes e).is with
  | false => rfl
  | true => exact absurd ⟨hi, say_new h.neat.nodup ho h.var (hroots e he).1 (hroots e he).2 hi⟩ (q2 e he)
theorem pass_none {nodes : List S37} : ∀ (eqs acc : List Int) (l : List S32), (∀ e ∈ eqs, (vY nodes e).is = false) → eqs.foldl (passS nodes) (acc, l) = (acc ++ eqs, l) := by
 intro eqs
 induction eqs with
 | nil => intro acc l _; simp
 | cons e es ih =>
  intro acc l h
  rw [List.foldl_cons, show passS nodes (acc, l) e = (acc ++ [e], l) from if_neg (fun k => by rw [h e (List.mem_cons_self ..)] at k; exact absurd k.1 (by decide)), ih (acc ++ [e]) l (fun a ha => h a (List.mem_cons_of_mem _ ha)), List.append_assoc]
  rfl
theorem renV_z (tv : List Int) : uX tv z37 = z37 := if_neg (by decide)
theorem pS (tv : List Int) (L : List S37) (i : Int) : rT (L.map (uX tv)) i = uX tv (rT L i) := by
 unfold rT
 rw [List.getD_eq_getElem?_getD, List.getD_eq_getElem?_getD, List.getElem?_map]
 cases L[i.toNat]? with
 | none => exact (renV_z tv).symm
 | some x => rfl
theorem uG (tv : List Int) (x : S37) : (uX tv x).f0 = x.f0 ∧ (uX tv x).f1 = x.f1 ∧ (uX tv x).f2 = x.f2 ∧ (uX tv x).f3 = x.f3 ∧ (uX tv x).f4 = x.f4 ∧ (uX tv x).f6 = x.f6 ∧ (uX tv x).f5.f1 = x.f5.f1 := by
 unfold uX; split <;> exact ⟨rfl, rfl, rfl, rfl, rfl, rfl, rfl⟩
theorem need_map (tv : List Int) (L : List S37) (r : List Int) : xN (L.map (uX tv)) r = xN L r := by
 have : vX (L.map (uX tv)) = vX L := by
  funext s i
  unfold vX
  rw [pS, (uG tv _).1, (uG tv _).2.1, (uG tv _).2.2.1]
 unfold xN
 rw [this, List.length_map]
theorem say_map (tv : List Int) (L : List S37) (e : Int) : (vY (L.map (uX tv)) e).is = (vY L e).is := by
 have hp : ∀ x, uF (uX tv x) = uF x := fun x => by unfold uF; rw [(uG tv x).1, (uG tv x).2.2.2.2.2.2]
 have he : eqOf (L.map (uX tv)) e = eqOf L e := by
  unfold eqOf
  rw [pS, (uG tv _).1, (uG tv _).2.1]
 unfold vY
 rw [he, pS]
 generalize rT L (eqOf L e) = m
 unfold sayN
 rw [(uG tv m).1, (uG tv m).2.1, (uG tv m).2.2.1, pS, pS, hp, hp, hp]
 by_cases c1 : m.f0 = 2
 ·rw [if_pos c1, if_pos c1]
 ·rw [if_neg c1, if_neg c1]
  by_cases c2 : (m.f0 = 4 ∨ m.f0 = 3) ∧ uF (rT L m.f1) = true ∧ uF (rT L m.f2) = true ∧ m.f1 ≠ m.f2
  ·rw [if_pos c2, if_pos c2]
  ·rw [if_neg c2, if_neg c2]
theorem neat_map {L : List S37} {r : List Int} {l : List S32} {tv : List Int} (h : Neat yI L r) (hv : VarOK l L) (h0 : ∀ i, tW l i → 0 ≤ rd tv i) (hj : ∀ i j, tW l i → tW l j → rd tv i = rd tv j → i = j) : Neat yI (L.map (uX tv)) r := by
 obtain ⟨T, hT⟩ := h.inv
 refine ⟨⟨T, ⟨?_, ?_, ?_, ?_⟩⟩, ?_, ?_, ?_⟩
 ·unfold List.Nodup
  rw [List.pairwise_map]
  refine List.Pairwise.imp_of_mem ?_ hT.nodup
  intro x y hx hy hne e
  apply hne
  have ef := congrArg S37.f0 e
  rw [(uG tv x).1, (uG tv y).1] at ef
  by_cases c : x.f0 = 2
  ·have cy : y.f0 = 2 := by rw [← ef]; exact c
   obtain ⟨ex, hex, _⟩ := hv x hx c
   obtain ⟨ey, hey, _⟩ := hv y hy cy
   unfold uX at e
   rw [if_pos c, if_pos cy] at e
   have e5 := congrArg S37.f5 e
   have a := congrArg S32.f0 e5
   have b := congrArg S32.f1 e5
   have a := hj _ _ hex hey a
   have b : x.f5.f1 = y.f5.f1 := b
   have hk : x.f5 = y.f5 := by
    generalize x.f5 = p at *
    generalize y.f5 = q at *
    obtain ⟨p0, p1⟩ := p
    obtain ⟨q0, q1⟩ := q
    dsimp only at *
    rw [a, b]
   rw [ex, ey, hk]
  ·have cy : ¬ y.f0 = 2 := by rw [← ef]; exact c
   unfold uX at e
   rw [if_neg c, if_neg cy] at e
   exact e
 ·rw [List.length_map]; exact hT.len
 ·intro i hi
  rw [List.length_map] at hi
  rw [pS, hT.tot i hi]
  exact (totB_eq (uG tv _).1 (uG tv _).2.2.2.1 (fun _ => by rw [(uG tv _).2.1]) (fun _ => by rw [(uG tv _).2.2.1])).symm
 ·intro i hi
  rw [List.length_map] at hi
  rw [pS]
  have hmem : rT L (i : Int) ∈ L := pT (by omega) (by omega)
  rcases hT.ok i hi with ⟨q, e, hq⟩ | ⟨k, e, hk⟩ | e | ⟨kind, a, b, n, e, hk, ha, hb, hab, hn, n1, n2, hs⟩
  ·left; exact ⟨q, by rw [e]; exact if_neg (by show ¬ (1 : Int) = 2; decide), hq⟩
  ·right; left
   have h2 : (rT L (i : Int)).f0 = 2 := by rw [e]; rfl
   have := (hv _ hmem h2).2.1
   rw [e] at this
   exact ⟨⟨rd tv k.f0, k.f1⟩, by rw [e]; exact if_pos (show (2 : Int) = 2 from rfl), h0 _ this, hk.2.1, hk.2.2⟩
  ·right; right; left; rw [e]; exact if_neg (by show ¬ (15 : Int) = 2; decide)
  ·right; right; right
   have k2 : ¬ kind = 2 := fun h => by subst h; exact absurd hk (by decide)
   refine ⟨kind, a, b, n, by rw [e]; exact if_neg k2, hk, ha, hb, hab, hn, n1, n2, ?_⟩
   exact hs.of_eq (by rw [pS]; exact (uG tv _).1) (by rw [pS]; exact (uG tv _).2.2.2.2.1) (by rw [pS]; exact (uG tv _).1) (by rw [pS]; exact (uG tv _).2.2.2.2.1) rfl rfl rfl
 ·intro i hi
  rw [List.length_map] at hi
  rw [need_map]
  exact h.used i hi
 ·intro q hq; rw [List.length_map]; exact h.ok q hq
 ·rw [List.length_map]; exact h.le
structure FinI (vars : List S59) (l : List S32) (k : Nat) : Prop where
 len : (wJ vars l k).2.length = vars.length
 cnt : (wJ vars l k).1.length = ((List.range k).filter (endB l)).length
 pos : ∀ i : Nat, i < k → tW l (i : Int) → 0 ≤ rd (wJ vars l k).2 (i : Int) ∧ rd (wJ vars l k).2 (i : Int) < ((wJ vars l k).1.length : Int)
 mono : ∀ i j : Nat, i < j → j < k → tW l (i : Int) → tW l (j : Int) → rd (wJ vars l k).2 (i : Int) < rd (wJ vars l k).2 (j : Int)
theorem end_of {l : List S32} (hf : FOK l) {k : Nat} (hk : k < l.length) : ((ofA l (k : Int)).f0 = (k : Int) ∧ (ofA l (k : Int)).f1 = 1) ↔ tW l (k : Int) := by
 constructor
 ·intro h
  rcases oZ hf (v := (k : Int)) (by omega) (by omega) with q | q
  ·rw [q] at h; exact absurd h.2 (by show ¬ (0 : Int) = 1; decide)
  ·rw [h.1] at q; exact q.1
 ·intro h; rw [pP h]; exact ⟨rfl, rfl⟩
theorem fin_ok {vars : List S59} {l : List S32} (hf : FOK l) (hl : l.length = vars.length) : ∀ k, k ≤ vars.length → FinI vars l k := by
 intro k
 induction k with
 | zero => intro _; exact ⟨by simp [wJ], by simp [wJ], fun i hi => by omega, fun i j _ hj => by omega⟩
 | succ k ih =>
  intro hk
  have h := ih (by omega)
  have hiff := end_of hf (k := k) (by omega)
  have hfl : ((List.range (k + 1)).filter (endB l)).length = ((List.range k).filter (endB l)).length + if endB l k = true then 1 else 0 := by
   rw [List.range_succ, List.filter_append, List.length_append]
   simp only [List.filter_cons, List.filter_nil]
   split <;> rfl
  have hb : endB l k = true ↔ tW l (k : Int) := qL (by omega)
  by_cases c : tW l (k : Int)
  ·have e : wJ vars l (k + 1) = ((wJ vars l k).1 ++ [zG z59 vars (k : Int)], (wJ vars l k).2.set k ((wJ vars l k).1.length : Int)) := by rw [oH, if_pos (hiff.2 c)]
   rw [if_pos (hb.2 c)] at hfl
   have hlt : k < (wJ vars l k).2.length := by rw [h.len]; omega
   refine ⟨by rw [e]; simp [h.len], by rw [e, hfl]; simp [h.cnt], fun i hi he => ?_, fun i j hij hj hi' hj' => ?_⟩
   ·rw [e]
    show 0 ≤ rd ((wJ vars l k).2.set k _) (i : Int) ∧ rd ((wJ vars l k).2.set k _) (i : Int) < (((wJ vars l k).1 ++ [zG z59 vars (k : Int)]).length : Int)
    rw [List.length_append, List.length_singleton]
    by_cases ei : i = k
    ·subst ei; rw [tO hlt]; omega
    ·rw [tP (fun h => ei h.symm)]
     have := h.pos i (by omega) he
     omega
   ·rw [e]
    show rd ((wJ vars l k).2.set k _) (i : Int) < rd ((wJ vars l k).2.set k _) (j : Int)
    rw [tP (show k ≠ i by omega)]
    by_cases ej : j = k
    ·subst ej; rw [tO hlt]; exact (h.pos i hij hi').2
    ·rw [tP (fun h => ej h.symm)]; exact h.mono i j hij (by omega) hi' hj'
  ·have e : wJ vars l (k + 1) = wJ vars l k := by rw [oH, if_neg (fun h => c (hiff.1 h))]
   rw [if_neg (fun h => c (hb.1 h))] at hfl
   have hik : ∀ i : Nat, i < k + 1 → tW l (i : Int) → i < k := fun i hi he => by
    by_cases ei : i = k
    ·subst ei; exact absurd he c
    ·omega
   refine ⟨by rw [e]; exact h.len, by rw [e, hfl, h.cnt]; rfl, fun i hi he => by rw [e]; exact h.pos i (hik i hi he) he, fun i j hij hj hi' hj' => by rw [e]; exact h.mono i j hij (hik j hj hj') hi' hj'⟩
theorem starts_mem {ls : List S32} : ∀ (ss out : List S80) (s : S80), s ∈ ss.foldl (vF ls) out → s ∈ out ∨ ∃ s0 ∈ ss, (rdA ls s0.f0.f0).f1 ≠ 0 ∧ s = nZ (rdA ls s0.f0.f0) s0 := by
 intro ss
 induction ss with
 | nil => intro out s h; exact .inl h
 | cons a rs ih =>
  intro out s h
  rw [List.foldl_cons] at h
  rcases ih _ s h with h | ⟨s0, hs0, h⟩
  ·rw [startS_eq] at h
   by_cases c : (rdA ls a.f0.f0).f1 = 0
   ·rw [if_pos c] at h; exact .inl h
   ·rw [if_neg c] at h
    rcases List.mem_append.1 h with h | h
    ·exact .inl h
    ·exact .inr ⟨a, List.mem_cons_self .., c, List.mem_singleton.1 h⟩
  ·exact .inr ⟨s0, List.mem_cons_of_mem _ hs0, h⟩
theorem right_neg {n d : Int} (hi : I64 n) (h : zE n d = true) : zE (-n) d = true ∧ I64 (-n) := by
 have hl := right_low h
 have := hi.2
 unfold zE at h ⊢
 rw [decide_eq_true_eq] at h ⊢
 rw [Int.natAbs_neg]
 exact ⟨⟨h.1, by omega, h.2.2⟩, by unfold I64; omega⟩
theorem noteA_at {l : List S32} {tv : List Int} {n : Nat} {i : Int} (h0 : 0 ≤ i) (h1 : i < (n : Int)) : rdA (uD l tv n) i = noteA tv (ofA l i) := by
 obtain ⟨m, rfl⟩ := Int.eq_ofNat_of_zero_le h0
 rw [listA_eq]
 unfold rdA zG lsK
 rw [List.getD_eq_getElem?_getD, List.getElem?_map, Int.toNat_natCast, List.getElem?_range (by omega)]
 rfl
theorem finV_id (vars : List S59) : ∀ k, k ≤ vars.length → (wJ vars (idA vars.length) k).1 = vars.take k ∧ (wJ vars (idA vars.length) k).2.length = vars.length ∧ ∀ j : Nat, j < k → rd (wJ vars (idA vars.length) k).2 (j : Int) = (j : Int) := by
 intro k
 induction k with
 | zero => intro _; exact ⟨by simp [wJ], by simp [wJ], fun j hj => by omega⟩
 | succ k ih =>
  intro hk
  obtain ⟨h1, h2, h3⟩ := ih (by omega)
  have hs := pP (idA_end (n := vars.length) (i := (k : Int)) (by omega) (by omega))
  rw [oH, if_pos (by rw [hs]; exact ⟨rfl, rfl⟩)]
  have hlk : (vars.take k).length = k := by rw [List.length_take]; omega
  refine ⟨?_, by simp [h2], fun j hj => ?_⟩
  ·show (wJ vars (idA vars.length) k).1 ++ [zG z59 vars (k : Int)] = _
   rw [h1, List.take_succ_eq_append_getElem (by omega)]
   unfold zG
   rw [List.getD_eq_getElem?_getD, Int.toNat_natCast, List.getElem?_eq_getElem (by omega)]; rfl
  ·show rd ((wJ vars (idA vars.length) k).2.set k ((wJ vars (idA vars.length) k).1.length : Int)) (j : Int) = (j : Int)
   rw [h1, hlk]
   by_cases e : j = k
   ·subst e; exact tO (by omega) _
   ·rw [tP (fun h => e h.symm)]; exact h3 j (by omega)
theorem starts_id {n : Nat} : ∀ (ss out : List S80), (∀ s ∈ ss, StartOK n s) → ss.foldl (vF (idA n)) out = out ++ ss := by
 intro ss
 induction ss with
 | nil => intro out _; simp
 | cons s ss ih =>
  intro out h
  have hs := h s (List.mem_cons_self ..)
  rw [List.foldl_cons, startS_eq, idA_at hs.v0 hs.v1, if_neg (by show ¬ (1 : Int) = 0; decide)]
  have e : nZ ⟨s.f0.f0, 1⟩ s = s := if_neg (show ¬ (1 : Int) < 0 by decide)
  rw [e, ih _ (fun a ha => h a (List.mem_cons_of_mem _ ha)), List.append_assoc]
  rfl
structure OnceIs (f a : sV) (ls : List S32) : Prop where
 ok : nP a
 small : a.nodes.length + 7 * a.vars.length ≤ 1900
 len : ls.length = f.vars.length
 note : ∀ i : Int, 0 ≤ i → i < (f.vars.length : Int) → rdA ls i = ⟨0, 0⟩ ∨ (((rdA ls i).f1 = 1 ∨ (rdA ls i).f1 = -1) ∧ 0 ≤ (rdA ls i).f0 ∧ (rdA ls i).f0 < (a.vars.length : Int))
 vle : a.vars.length ≤ f.vars.length
 ele : a.eqs.length ≤ f.eqs.length
 cnt : f.vars.length + a.eqs.length = a.vars.length + f.eqs.length
 sle : a.zS.length ≤ f.zS.length
 again : ∀ t2, qE yI (oR yI a) t2 → xE a t2 = (a, idA a.vars.length)
theorem once_is {f : sV} {t : RS} (ho : nP f) (hB : f.nodes.length + 7 * f.vars.length ≤ 1900) (hr : qE yI (oR yI f) t) : OnceIs f (xE f t).1 (xE f t).2 := by
 obtain ⟨s, hj, hd, rfl⟩ := runs_end (Nat.le_refl 1900) ho.ele hr (jr_start ho hB)
 obtain ⟨hst, hsn⟩ := done_same hj hd
 rw [hst]
 have hf := hj.fok
 have hl := hj.len
 have hfi := fin_ok (vars := f.vars) hf hl f.vars.length (Nat.le_refl _)
 have hcv : (wJ f.vars s.l f.vars.length).1.length = sH s.l := by rw [hfi.cnt]; unfold sH; rw [hl]
 have hen := endsN_le s.l
 have hsz := hj.size
 have hct := hj.cnt
 generalize htv : (wJ f.vars s.l f.vars.length).2 = tv at hfi
 generalize hvs : (wJ f.vars s.l f.vars.length).1 = vs at hfi hcv
 have hpos : ∀ i, tW s.l i → 0 ≤ rd tv i ∧ rd tv i < (vs.length : Int) := fun i h => by
  have h1 := h.2.1
  obtain ⟨m, rfl⟩ := Int.eq_ofNat_of_zero_le h.1
  have := hfi.pos m (by omega) h
  rw [htv, hvs] at this
  exact this
 have hinj : ∀ i j, tW s.l i → tW s.l j → rd tv i = rd tv j → i = j := fun i j hi hj' e => by
  have h1 := hi.2.1
  have h2 := hj'.2.1
  obtain ⟨a, rfl⟩ := Int.eq_ofNat_of_zero_le hi.1
  obtain ⟨b, rfl⟩ := Int.eq_ofNat_of_zero_le hj'.1
  rcases Nat.lt_trichotomy a b with h | h | h
  ·have := hfi.mono a b h (by omega) hi hj'
   rw [htv] at this
   omega
  ·rw [h]
  ·have := hfi.mono b a h (by omega) hj' hi
   rw [htv] at this
   omega
 have hneat := neat_map hj.neat hj.var (fun i h => (hpos i h).1) hinj
 have hfin : xE f s = (⟨vs, s.nodes.map (uX tv), s.eqs, f.zS.foldl (vF (uD s.l tv f.vars.length)) []⟩, uD s.l tv f.vars.length) := by
  unfold xE; rw [htv, hvs]
 rw [hfin]
 have hnote : ∀ i : Int, 0 ≤ i → i < (f.vars.length : Int) → rdA (uD s.l tv f.vars.length) i = ⟨0, 0⟩ ∨ (((rdA (uD s.l tv f.vars.length) i).f1 = 1 ∨ (rdA (uD s.l tv f.vars.length) i).f1 = -1) ∧ 0 ≤ (rdA (uD s.l tv f.vars.length) i).f0 ∧ (rdA (uD s.l tv f.vars.length) i).f0 < (vs.length : Int)) := fun i i0 i1 => by
  rw [noteA_at i0 i1]
  unfold noteA
  rcases oZ hf i0 (by rw [hl]; exact i1) with h | ⟨h1, _, h3⟩
  ·rw [h, if_neg (fun h => h rfl)]; exact .inl rfl
  ·rw [if_pos (by rcases h3 with h | h <;> rw [h] <;> decide)]
   exact .inr ⟨h3, hpos _ h1⟩
 have hvar : ∀ x ∈ s.nodes.map (uX tv), x.f0 = 2 → 0 ≤ x.f5.f0 ∧ x.f5.f0 < (vs.length : Int) := fun x hx h2 => by
  obtain ⟨y, hy, rfl⟩ := List.mem_map.1 hx
  rw [(uG tv y).1] at h2
  have := hpos _ (hj.var y hy h2).2.1
  unfold uX
  rw [if_pos h2]
  exact this
 have hstl : (f.zS.foldl (vF (uD s.l tv f.vars.length)) []).length ≤ f.zS.length := by
  have := starts_len (uD s.l tv f.vars.length) f.zS f.zS.length
  rw [List.take_length] at this
  exact this
 have hok : nP ⟨vs, s.nodes.map (uX tv), s.eqs, f.zS.foldl (vF (uD s.l tv f.vars.length)) []⟩ := by
  refine ⟨hneat.right, hneat.nodeI, fun x hx h2 => (hvar x hx h2).2, fun x hx => ?_, ?_, ?_, ?_, ?_⟩
  ·rcases starts_mem f.zS [] x hx with h | ⟨s0, hs0, hz, rfl⟩
   ·simp at h
   ·have h := ho.start s0 hs0
    have hn := hnote s0.f0.f0 h.v0 h.v1
    generalize rdA (uD s.l tv f.vars.length) s0.f0.f0 = a at hn hz
    rcases hn with hn | ⟨_, n0, n1⟩
    ·rw [hn] at hz; exact absurd rfl hz
    unfold nZ
    by_cases c : a.f1 < 0
    ·rw [if_pos c]
     have r1 := right_neg h.i1.1 h.lo
     have r2 := right_neg h.i2.1 h.hi
     exact ⟨n0, n1, h.k0, h.k1, r2.1, r1.1, ⟨r2.2, h.i2.2⟩, ⟨r1.2, h.i1.2⟩⟩
    ·rw [if_neg c]
     exact ⟨n0, n1, h.k0, h.k1, h.lo, h.hi, h.i1, h.i2⟩
  ·show (s.nodes.map (uX tv)).length ≤ 1900; rw [List.length_map]; omega
  ·have := ho.ele; show s.eqs.length ≤ 17592186044416; omega
  ·have := ho.vle; show vs.length ≤ 100; omega
  ·have := ho.sle; show (f.zS.foldl (vF (uD s.l tv f.vars.length)) []).length ≤ 2932031007402; omega
 have hsm : (s.nodes.map (uX tv)).length + 7 * vs.length ≤ 1900 := by rw [List.length_map, hcv]; exact hsz
 refine ⟨hok, hsm, by unfold uD; rw [List.length_map, List.length_range], hnote, by show vs.length ≤ f.vars.length; omega, by show s.eqs.length ≤ f.eqs.length; omega, by show f.vars.length + s.eqs.length = vs.length + f.eqs.length; omega, hstl, fun t2 h2 => ?_⟩
 generalize hss : f.zS.foldl (vF (uD s.l tv f.vars.length)) [] = ss at hok h2 ⊢
 have hj2 := jr_start hok hsm
 have hs0 : oR yI ⟨vs, s.nodes.map (uX tv), s.eqs, ss⟩ = ⟨s.nodes.map (uX tv), s.eqs, idA vs.length⟩ := by
  show (⟨(wC yI (s.nodes.map (uX tv)) s.eqs).1, (wC yI (s.nodes.map (uX tv)) s.eqs).2, idA vs.length⟩ : RS) = _
  rw [neat_build hneat]
 rw [hs0] at h2 hj2
 have hpass : uW (s.nodes.map (uX tv)) s.eqs (idA vs.length) = (s.eqs, idA vs.length) := pass_none s.eqs [] _ (fun e he => by rw [say_map]; exact hsn e he)
 have hstep := step_same hj2 hpass
 have ht2 : t2 = ⟨s.nodes.map (uX tv), s.eqs, idA vs.length⟩ := by
  cases h2 with
  | done _ => exact hstep
  | more hd2 _ =>
   exfalso
   unfold doneR at hd2
   rw [show uW (s.nodes.map (uX tv)) s.eqs (idA vs.length) = _ from hpass] at hd2
   rw [beq_eq_false_iff_ne] at hd2
   exact hd2 rfl
 rw [ht2]
 obtain ⟨g1, g2, g3⟩ := finV_id vs vs.length (Nat.le_refl _)
 rw [List.take_length] at g1
 have g4 : ∀ i : Int, 0 ≤ i → i < (vs.length : Int) → rd (wJ vs (idA vs.length) vs.length).2 i = i := fun i i0 i1 => by
  obtain ⟨m, rfl⟩ := Int.eq_ofNat_of_zero_le i0
  exact g3 m (by omega)
 have hls : uD (idA vs.length) (wJ vs (idA vs.length) vs.length).2 vs.length = idA vs.length := by
  unfold uD
  rw [idA]
  refine List.map_congr_left fun i hi => ?_
  have hi' := List.mem_range.1 hi
  have := pP (idA_end (n := vs.length) (i := (i : Int)) (by omega) (by omega))
  rw [idA] at this
  rw [this, if_pos (by show ¬ (1 : Int) = 0; decide)]
  show (⟨rd _ (i : Int), 1⟩ : S32) = _
  rw [show rd (wJ vs (List.map (fun (i : Nat) => (⟨(i : Int), 1⟩ : S32)) (List.range vs.length)) vs.length).2 (i : Int) = (i : Int) from g4 i (by omega) (by omega)]
 show (⟨⟨(wJ vs (idA vs.length) vs.length).1, (s.nodes.map (uX tv)).map (uX (wJ vs (idA vs.length) vs.length).2), s.eqs, ss.foldl (vF (uD (idA vs.length) (wJ vs (idA vs.length) vs.length).2 vs.length)) []⟩, uD (idA vs.length) (wJ vs (idA vs.length) vs.length).2 vs.length⟩ : sV × List S32) = _
 rw [hls, g1, starts_id ss [] hok.start, List.nil_append]
 congr 2
 rw [List.map_congr_left (g := id) (fun x hx => by
  unfold uX
  by_cases c : x.f0 = 2
  ·rw [if_pos c, g4 _ (hvar x hx c).1 (hvar x hx c).2]; rfl
  ·rw [if_neg c]; rfl), List.map_id]
end Go.Proofs.Ytoonahobmlnflaa.PC
