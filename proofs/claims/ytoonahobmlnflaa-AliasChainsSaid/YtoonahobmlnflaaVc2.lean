/- Texts of this claim, one behind the other. -/
import Derived.Test.YtoonahobmlnflaaVc1
import Derived.Laws.StructEq
import Derived.Test.YtoonahobmlnflaaProg
set_option linter.unusedVariables false
set_option linter.unusedSimpArgs false
set_option maxRecDepth 100000
set_option maxHeartbeats 16000000
namespace Go.Proofs.Ytoonahobmlnflaa.PC.B
open Go.Proofs.Ytoonahobmlnflaa.PC.A (zT)
def oG (md : Region.Mode) (o : Oper) : List Nat := (o.after.toList.filter (fun e => Region.binds md e)).map (fun e => e.on)
def clashOf (md : Region.Mode) (ops : Array Oper) (i : Nat) (oi : Oper) : List Nat := (List.range ops.size).filter fun j => !(j == i) && match ops[j]? with
  | some oj => !(oj.after.any (fun e => Region.binds md e && e.on == i) || oi.apart ops oj)
  | none => false
def wD (md : Region.Mode) (ops : Array Oper) : Bool × List (List Nat × List Nat) := (Region.noSelect ops, (List.range ops.size).map fun i => match ops[i]? with
  | some o => (oG md o, clashOf md ops i o)
  | none => ([], []))
def qH (T : List (List Nat × List Nat)) (l : List Bool) (i : Nat) : Bool := !l.getD i true && match T[i]? with
  | some r => r.1.all (fun j => l.getD j false)
  | none => false
def readyT (T : List (List Nat × List Nat)) (l : List Bool) : List Nat := (List.range T.length).filter (qH T l)
def freeT (T : List (List Nat × List Nat)) (l : List Bool) (i : Nat) : Bool := match T[i]? with
  | some r => r.2.all (fun j => l.getD j true)
  | none => false
def closedT (T : List (List Nat × List Nat)) (l : List Bool) : Bool := (List.range T.length).all fun j => !l.getD j false || match T[j]? with
  | some r => r.1.all (fun k => l.getD k false)
  | none => true
def reachT (T : List (List Nat × List Nat)) (i : Nat) : Nat → Nat → Bool
  | 0, _ => false
  | fuel + 1, d => match T[d]? with
    | some r => r.1.any fun j => j == i || reachT T i fuel j
    | none => false
def lastT (T : List (List Nat × List Nat)) (l : List Bool) (ds : List Nat) (i : Nat) : Bool := ds.all fun d => l.getD d true || reachT T i T.length d
section
variable {md : Region.Mode} {ops : Array Oper} {T : Bool × List (List Nat × List Nat)} {l l' li lj lk : Array Bool} {ds : List Nat} {i j k : Nat}
theorem gd (l : Array Bool) (j : Nat) (b : Bool) : l.getD j b = l.toList.getD j b := by simp [Array.getD_eq_getD_getElem?, List.getD_eq_getElem?_getD]
theorem needs_all (o : Oper) (p : Nat → Bool) : o.after.all (fun e => !Region.binds md e || p e.on) = (oG md o).all p := by
  unfold oG
  rw [← Array.all_toList]
  induction o.after.toList with
  | nil => rfl
  | cons e r ih =>
    rw [List.all_cons, ih, List.filter_cons]
    cases h : Region.binds md e <;> simp
theorem needs_any (o : Oper) (p : Nat → Bool) : o.after.any (fun e => Region.binds md e && p e.on) = (oG md o).any p := by
  unfold oG
  rw [← Array.any_toList]
  induction o.after.toList with
  | nil => rfl
  | cons e r ih =>
    rw [List.any_cons, ih, List.filter_cons]
    cases h : Region.binds md e <;> simp
theorem qI : (wD md ops).2.length = ops.size := by simp [wD]
theorem oK {o : Oper} (h : ops[i]? = some o) : (wD md ops).2[i]? = some (oG md o, clashOf md ops i o) := by
  have hi := (Array.getElem?_eq_some_iff.1 h).1
  unfold wD
  rw [List.getElem?_map, List.getElem?_range hi, Option.map_some, h]
theorem oJ (h : ops[i]? = none) : (wD md ops).2[i]? = none := by
  have hi : ops.size ≤ i := Array.getElem?_eq_none_iff.1 h
  exact List.getElem?_eq_none (by rw [qI]; exact hi)
theorem readyAt_eq : qH (wD md ops).2 l.toList i = (!l.getD i true && ((ops[i]?).map (·.after.all fun e => !Region.binds md e || l.getD e.on false)).getD false) := by
  unfold qH
  rw [gd]
  cases h : ops[i]? with
  | none => rw [oJ h]; rfl
  | some o =>
    rw [oK h]
    simp only [Option.map_some, Option.getD_some]
    rw [← needs_all]
    simp only [gd]
theorem ready_eq : Region.ready md ops l = readyT (wD md ops).2 l.toList := by
  unfold Region.ready readyT
  rw [qI]
  refine List.filter_congr (fun i _ => ?_)
  rw [readyAt_eq]
theorem free_eq : Region.free md ops l i = freeT (wD md ops).2 l.toList i := by
  unfold Region.free freeT
  cases h : ops[i]? with
  | none => rw [oJ h]
  | some oi =>
    rw [oK h]
    simp only [clashOf]
    rw [List.all_filter]
    congr 1
    funext j
    rw [gd]
    cases hj : ops[j]? with
    | none => cases (j == i) <;> cases (l.toList.getD j true) <;> simp
    | some oj =>
      cases (j == i) <;> cases (l.toList.getD j true) <;> cases (oj.after.any (fun e => Region.binds md e && e.on == i) || oi.apart ops oj) <;> simp_all
theorem closed_eq : Region.closedB md ops l = closedT (wD md ops).2 l.toList := by
  unfold Region.closedB closedT
  rw [qI]
  congr 1
  funext j
  rw [gd]
  cases h : ops[j]? with
  | none => rw [oJ h]
  | some o =>
    rw [oK h]
    simp only
    rw [← needs_all]
    simp only [gd]
theorem reach_eq : ∀ (fuel d : Nat), Region.rE md ops i fuel d = reachT (wD md ops).2 i fuel d
  | 0, _ => rfl
  | fuel + 1, d => by
    unfold Region.rE reachT
    cases h : ops[d]? with
    | none => rw [oJ h]
    | some o =>
      rw [oK h]
      simp only
      rw [← needs_any]
      congr 1
      funext e
      rw [reach_eq fuel]
theorem last_eq : Region.lastB md ops l ds i = lastT (wD md ops).2 l.toList ds i := by
  unfold Region.lastB lastT
  rw [qI]
  congr 1
  funext d
  rw [gd, reach_eq]
theorem readyAt_mem (h : qH T.2 l.toList i = true) (hT : wD md ops = T) : (Region.ready md ops l).contains i = true := by
  subst hT
  rw [ready_eq]
  unfold readyT
  rw [List.contains_iff_mem, List.mem_filter, List.mem_range]
  refine ⟨?_, h⟩
  unfold qH at h
  rw [Bool.and_eq_true] at h
  cases hq : (wD md ops).2[i]? with
  | none => rw [hq] at h; simp at h
  | some r => exact (List.getElem?_eq_some_iff.1 hq).1
theorem set_of (h : (l.toList.set i true == l'.toList) = true) : (l.setIfInBounds i true == l') = true := by
  rw [beq_iff_eq] at h ⊢
  apply Array.ext'
  rw [Array.toList_setIfInBounds]
  exact h
def anyT (T : Bool × List (List Nat × List Nat)) (l l' : List Bool) (i : Nat) : Bool := T.1 && freeT T.2 l i && qH T.2 l i && (l.set i true == l')
theorem any_of (hT : wD md ops = T) (h : anyT T l.toList l'.toList i = true) : anyB md ops l l' i = true := by
  simp only [anyT, Bool.and_eq_true] at h
  obtain ⟨⟨⟨h1, h2⟩, h3⟩, h4⟩ := h
  have h5 := readyAt_mem h3 hT
  have h6 := set_of h4
  subst hT
  simp only [anyB, Bool.and_eq_true]
  exact ⟨⟨⟨h1, by rw [free_eq]; exact h2⟩, h5⟩, h6⟩
def takeT (T : Bool × List (List Nat × List Nat)) (ds : List Nat) (l l' : List Bool) (i : Nat) : Bool := T.1 && freeT T.2 l i && qH T.2 l i && closedT T.2 l && lastT T.2 l ds i && (l.set i true == l')
theorem take_of (hT : wD md ops = T) (h : takeT T ds l.toList l'.toList i = true) : takeB md ops ds l l' i = true := by
  simp only [takeT, Bool.and_eq_true] at h
  obtain ⟨⟨⟨⟨⟨h1, h2⟩, h3⟩, h4⟩, h5⟩, h6⟩ := h
  have h7 := readyAt_mem h3 hT
  have h8 := set_of h6
  subst hT
  simp only [takeB, Bool.and_eq_true]
  exact ⟨⟨⟨⟨⟨h1, by rw [free_eq]; exact h2⟩, h7⟩, by rw [closed_eq]; exact h4⟩, by rw [last_eq]; exact h5⟩, h8⟩
theorem zG (hT : wD md ops = T) (h : (readyT T.2 l.toList == [i] && l.toList.set i true == l'.toList) = true) : readyB md ops l l' i = true := by
  simp only [Bool.and_eq_true] at h
  obtain ⟨h1, h2⟩ := h
  subst hT
  simp only [readyB, Bool.and_eq_true]
  exact ⟨by rw [ready_eq]; exact h1, set_of h2⟩
theorem two_of (hT : wD md ops = T) (h : (readyT T.2 l.toList == [i, j] && l.toList.set i true == li.toList && l.toList.set j true == lj.toList) = true) : (Region.ready md ops l == [i, j] && l.setIfInBounds i true == li && l.setIfInBounds j true == lj) = true := by
  simp only [Bool.and_eq_true] at h ⊢
  obtain ⟨⟨h1, h2⟩, h3⟩ := h
  subst hT
  exact ⟨⟨by rw [ready_eq]; exact h1, set_of h2⟩, set_of h3⟩
theorem yG (hT : wD md ops = T) (h : (readyT T.2 l.toList == []) = true) : (Region.ready md ops l == []) = true := by
  subst hT
  rw [ready_eq]
  exact h
def upM (B : List Nat) (d : Nat) : List Nat → Nat
  | [] => 0
  | n :: r => (2 ^ n ||| (if n < d then B.getD n 0 else 0)) ||| upM B d r
def xR (T : List (List Nat × List Nat)) (B : List Nat) : Bool := (List.range T.length).all fun d => match T[d]? with
  | some r => (B.getD d 0 ||| upM B d r.1) == upM B d r.1
  | none => false
theorem upM_bit {B : List Nat} {d i : Nat} : ∀ {ns : List Nat}, (upM B d ns).testBit i = true → ∃ n ∈ ns, n = i ∨ (n < d ∧ (B.getD n 0).testBit i = true)
  | [], h => by simp [upM] at h
  | n :: r, h => by
    unfold upM at h
    rw [Nat.testBit_or, Nat.testBit_or, Bool.or_eq_true, Bool.or_eq_true] at h
    rcases h with (h | h) | h
    · rw [Nat.testBit_two_pow] at h
      exact ⟨n, List.mem_cons_self, .inl (by simpa using h)⟩
    · by_cases hn : n < d
      · rw [if_pos hn] at h
        exact ⟨n, List.mem_cons_self, .inr ⟨hn, h⟩⟩
      · rw [if_neg hn] at h
        simp at h
    · obtain ⟨m, hm, h2⟩ := upM_bit h
      exact ⟨m, List.mem_cons_of_mem _ hm, h2⟩
theorem reach_bit {T : List (List Nat × List Nat)} {B : List Nat} (hB : xR T B = true) : ∀ (fuel d : Nat), d < fuel → d < T.length → (B.getD d 0).testBit i = true → reachT T i fuel d = true
  | 0, d, h, _, _ => by omega
  | fuel + 1, d, h, hd, hb => by
    have h1 := List.all_eq_true.1 hB d (List.mem_range.2 hd)
    cases hr : T[d]? with
    | none => rw [hr] at h1; simp at h1
    | some r =>
      rw [hr] at h1
      simp only [beq_iff_eq] at h1
      have h2 : (upM B d r.1).testBit i = true := by rw [← h1, Nat.testBit_or, hb, Bool.true_or]
      obtain ⟨n, hn, h3⟩ := upM_bit h2
      unfold reachT
      rw [hr]
      simp only
      rw [List.any_eq_true]
      refine ⟨n, hn, ?_⟩
      rcases h3 with rfl | ⟨h4, h5⟩
      · simp
      · rw [reach_bit hB fuel n (by omega) (by omega) h5, Bool.or_true]
def lastW (T : List (List Nat × List Nat)) (B : List Nat) (l : List Bool) (ds : List Nat) (i : Nat) : Bool := ds.all fun d => l.getD d true || (decide (d < T.length) && (B.getD d 0).testBit i)
def takeW (T : Bool × List (List Nat × List Nat)) (B : List Nat) (ds : List Nat) (l l' : List Bool) (i : Nat) : Bool := T.1 && freeT T.2 l i && qH T.2 l i && closedT T.2 l && lastW T.2 B l ds i && (l.set i true == l')
theorem take_ofW {B : List Nat} (hT : wD md ops = T) (hB : xR T.2 B = true) (h : takeW T B ds l.toList l'.toList i = true) : takeB md ops ds l l' i = true := by
  refine take_of hT ?_
  simp only [takeW, takeT, Bool.and_eq_true] at h ⊢
  obtain ⟨⟨⟨⟨⟨h1, h2⟩, h3⟩, h4⟩, h5⟩, h6⟩ := h
  refine ⟨⟨⟨⟨⟨h1, h2⟩, h3⟩, h4⟩, ?_⟩, h6⟩
  unfold lastW at h5
  unfold lastT
  rw [List.all_eq_true] at h5 ⊢
  intro d hd
  have h7 := h5 d hd
  rw [Bool.or_eq_true, Bool.and_eq_true, decide_eq_true_eq] at h7
  rcases h7 with h7 | ⟨h8, h9⟩
  · rw [h7, Bool.true_or]
  · rw [reach_bit hB _ d h8 h8 h9, Bool.or_true]
theorem yO {P : Program} {Q : Exit → Act → World → Prop} {S : World → Prop} {n : Nat} {a : Act} {w : World} {B : List Nat} (hT : wD md ops = T) (hB : xR T.2 B = true) (h : zT (wD md ops = T) → zT (xR T.2 B = true) → yS P md ops Q S ds n l a w) : yS P md ops Q S ds n l a w := h ⟨hT⟩ ⟨hB⟩
end
def opsIn : Code → Nat → Option (Array Oper)
  | .region id ops _, k => if id == k then some ops else none
  | .seq a b, k => match opsIn a k with
    | some o => some o
    | none => opsIn b k
  | .cond _ a b, k => match opsIn a k with
    | some o => some o
    | none => opsIn b k
  | .block _ c, k => opsIn c k
  | .loop c, k => opsIn c k
  | .scope c, k => opsIn c k
  | .rangeFunc _ _ a b, k => match opsIn a k with
    | some o => some o
    | none => opsIn b k
  | _, _ => none
def opsOf (f : Func) (k : Nat) : Array Oper := ((f.body.bind fun c => opsIn c k)).getD #[]
end Go.Proofs.Ytoonahobmlnflaa.PC.B
namespace Go.Proofs.Ytoonahobmlnflaa.PC.B
section
variable {P : Program} {ops : Array Oper} {Q : Exit → Act → World → Prop} {md : Region.Mode} {S : World → Prop} {ds : List Nat} {T : Bool × List (List Nat × List Nat)}
end
end Go.Proofs.Ytoonahobmlnflaa.PC.B
namespace Go.Proofs.Ytoonahobmlnflaa.PC.A
open Go.RowKit
namespace Kd
section
variable {α : Type} {d : Kd α} {e base g o n cap : Nat} {ok okp : Nat → Prop} {w W : World} {v : Value} {xs : List α}
end
section
variable {α : Type} {enc : α → Value} {h1 : ∀ x, (enc x).oneCell' = true} {e base g o n cap : Nat} {ok : Nat → Prop} {W : World} {xs : List α}
end
end Kd
end Go.Proofs.Ytoonahobmlnflaa.PC.A
namespace Go.Proofs.Ytoonahobmlnflaa.PC.A
open Go.RowKit
namespace Kd
def tag {α : Type} (f : Nat → Nat) (d : Kd α) : Kd (α × Nat) where
  sz := d.sz
  E := d.E
  K := fun w x cs => d.K w x.1 cs
  M := fun w base ok x cs => d.M w base (fun k => ok k ∧ f k = x.2) x.1 cs
  sI := fun h => d.sI h
  rI := fun h => d.rI h
  uG := fun hb h => d.uG hb h
  vR := fun h => d.vR h
  vZ := fun hok h => d.vZ (fun k hk => ⟨hok k hk.1, hk.2⟩) h
  uZ := fun h => d.vZ (fun _ hk => ⟨⟨hk.1.1, hk.2⟩, hk.1.2⟩) (d.uZ h)
  tY := fun hm h => d.tY (fun k hk => hm k hk.1) h
  uH := fun hb h => d.uH hb h
def raw (sz : Nat) : Kd (List Value) where
  sz := sz
  E := []
  K := fun _ x cs => cs = x ∧ cs.length = sz ∧ ∀ u ∈ cs, u.oneCell' = true
  M := fun _ _ _ x cs => cs = x ∧ cs.length = sz ∧ ∀ u ∈ cs, u.oneCell' = true
  sI := fun h => h.2.1
  rI := fun h => h.2.2
  uG := fun _ h => h
  vR := fun h => h
  vZ := fun _ h => h
  uZ := fun h => h
  tY := fun _ h => h
  uH := fun _ h => h
def S {α : Type} (d : Kd α) (e : Nat) (w : World) (base : Nat) (ok : Nat → Prop) (v : Value) (xs : List α) : Prop := ∃ f, (tag f d).R e w base ok v xs.zipIdx
section
variable {α β : Type} {d : Kd α} {d' : Kd β} {e e' : Nat} {w w1 W : World} {base b : Nat} {ok ok' okv oku : Nat → Prop} {u v : Value} {xs : List α} {ys : List β}
theorem R_head {ad : Addr} {n cap : Nat} (h : d.R e w base ok (.slice (some ad) n cap) xs) : ∃ g, ad = ⟨g, 0, none⟩ := by
  obtain ⟨_, inner, ho, hr⟩ := h
  rcases ho.2 with ⟨hv, _⟩ | ⟨g, cap', cur, hv, _⟩
  · cases hv
  · injection hv with ha _ _
    injection ha with ha
    exact ⟨g, ha⟩
theorem R_getA {ad : Addr} {n cap : Nat} (h : d.R e W base ok (.slice (some ad) n cap) xs) (z : α) (i : Int) (h0 : 0 ≤ i) (h1 : i < n) :
    ∃ c, c.length = d.sz ∧ d.M W base (fun k => ok k ∧ some k ≠ (Value.slice (some ad) n cap).ownBlock) (xs.getD i.toNat z) c ∧ ∀ j u, c[j]? = some u → W.cell? (ad.add (i.toNat * d.sz + j)) = some u := by
  obtain ⟨g, rfl⟩ := R_head h
  obtain ⟨c, hcl, hM, hcc, _⟩ := R_elem h z i h0 h1
  refine ⟨c, hcl, d.vZ (fun k hk => ⟨hk.1, fun he => hk.2 (by simpa [Value.ownBlock] using he)⟩) hM, fun j u hu => ?_⟩
  rw [add_at, Nat.zero_add]
  exact hcc j u hu
theorem S_nil (d : Kd α) (e : Nat) (w : World) (base : Nat) (ok : Nat → Prop) : S d e w base ok (.slice none 0 0) [] := ⟨fun _ => 0, rK _ _ _ _ _⟩
end
section
variable {α β : Type} {d : Kd α} {d' : Kd β} {e e' g : Nat} {w w1 W : World} {base b : Nat} {ok ok' okv oku : Nat → Prop} {u v : Value} {xs : List α} {ys : List β}
end
section
variable {P : Program} {ops : Array Oper} {rest : List Oper} {o : Oper} {a : Act} {Q : Exit → Act → World → Prop} {Kc : Act → World → Prop} {α : Type}
end
def gap {α : Type} (f : Nat → Nat) (d : Kd α) (i : Nat) (c : List Value) : Kd (α × Nat) where
  sz := d.sz
  E := d.E
  K := fun w x cs => (x.2 = i → cs = c ∧ cs.length = d.sz ∧ ∀ u ∈ cs, u.oneCell' = true) ∧ (x.2 ≠ i → d.K w x.1 cs)
  M := fun w base ok x cs => (x.2 = i → cs = c ∧ cs.length = d.sz ∧ ∀ u ∈ cs, u.oneCell' = true) ∧ (x.2 ≠ i → d.M w base (fun k => ok k ∧ f k = x.2) x.1 cs)
  sI := fun {w x cs} h => by
    by_cases hx : x.2 = i
    · exact (h.1 hx).2.1
    · exact d.sI (h.2 hx)
  rI := fun {w x cs} h => by
    by_cases hx : x.2 = i
    · exact (h.1 hx).2.2
    · exact d.rI (h.2 hx)
  uG := fun hb h => ⟨h.1, fun hx => d.uG hb (h.2 hx)⟩
  vR := fun h => ⟨h.1, fun hx => d.vR (h.2 hx)⟩
  vZ := fun hok h => ⟨h.1, fun hx => d.vZ (fun k hk => ⟨hok k hk.1, hk.2⟩) (h.2 hx)⟩
  uZ := fun h => ⟨h.1, fun hx => d.vZ (fun _ hk => ⟨⟨hk.1.1, hk.2⟩, hk.1.2⟩) (d.uZ (h.2 hx))⟩
  tY := fun hm h => ⟨h.1, fun hx => d.tY (fun k hk => hm k hk.1) (h.2 hx)⟩
  uH := fun hb h => ⟨h.1, fun hx => d.uH hb (h.2 hx)⟩
def H {α : Type} (d : Kd α) (e : Nat) (w : World) (base : Nat) (ok : Nat → Prop) (v : Value) (xs : List α) (i : Int) (oki : Nat → Prop) (c : List Value) : Prop :=
  (∀ k, oki k → ok k) ∧ ∃ f, (gap f d i.toNat c).R e w base (fun k => ok k ∧ ¬ oki k) v xs.zipIdx
section
variable {α β : Type} {d : Kd α} {e e' g n cap : Nat} {w w1 W : World} {base : Nat} {ok ok' oki okp : Nat → Prop} {u v : Value} {xs : List α} {i : Int} {c : List Value}
end
section
variable {P : Program} {ops : Array Oper} {rest : List Oper} {o : Oper} {a : Act} {Q : Exit → Act → World → Prop} {α : Type}
end
end Kd
end Go.Proofs.Ytoonahobmlnflaa.PC.A
namespace Go.Proofs.Ytoonahobmlnflaa.PC.A
open Go.RowKit
namespace Kd
section
variable {α : Type} {n : Nat} {d : Kd α} {hs : 0 < d.sz} {w : World} {base : Nat} {ok : Nat → Prop} {xs : List α} {cs : List Value}
end
section
variable {α : Type} {n : Nat} {enc : α → Value} {h1 : ∀ x, (enc x).oneCell' = true} {hs : 0 < (scalar enc h1).sz} {w : World} {base : Nat} {ok : Nat → Prop} {xs : List α} {cs : List Value}
end
end Kd
end Go.Proofs.Ytoonahobmlnflaa.PC.A
namespace Go.Proofs.Ytoonahobmlnflaa.PC.A
open Go.RowKit
section
variable {P : Program}
end
namespace Kd
section
variable {P : Program} {ops : Array Oper} {rest : List Oper} {o : Oper} {a : Act} {Q : Exit → Act → World → Prop} {Kc : Act → World → Prop} {α : Type}
end
section
variable {α : Type} {d : Kd α} {e : Nat} {w : World} {base : Nat} {ok : Nat → Prop} {v : Value} {xs : List α}
end
section
variable {P : Program} {ops : Array Oper} {rest : List Oper} {o : Oper} {a : Act} {Q : Exit → Act → World → Prop} {Kc : Act → World → Prop} {α : Type}
end
end Kd
end Go.Proofs.Ytoonahobmlnflaa.PC.A
namespace Go.Proofs.Ytoonahobmlnflaa.PC.A
open Go.RowKit
namespace Kd
structure Heap {α : Type} (d : Kd α) : Prop where
  K : ∀ {w w1 : World} {x : α} {cs : List Value}, (∀ k, k < w.heap.size → w1.heap[k]? = w.heap[k]?) → d.K w x cs → d.K w1 x cs
theorem cell_heap {w w1 : World} (hb : ∀ k, k < w.heap.size → w1.heap[k]? = w.heap[k]?) {a : Addr} {v : Value} (h : w.cell? a = some v) : w1.cell? a = some v := by
  have := hb a.block (World.block_lt_of_cell? w a h)
  simpa [World.cell?, this] using h
theorem Heap.C {α : Type} {d : Kd α} (hd : Heap d) {w w1 : World} {A : Option Addr} {n : Nat} {xs : List α} (hb : ∀ k, k < w.heap.size → w1.heap[k]? = w.heap[k]?) (h : d.C w A n xs) : d.C w1 A n xs :=
  ⟨h.1, h.2.1, fun hn => by
    obtain ⟨ad, e, hc⟩ := h.2.2 hn
    refine ⟨ad, e, fun j p hj => ?_⟩
    obtain ⟨c, hs, hr, hcell⟩ := hc j p hj
    exact ⟨c, hs, hd.K hb hr, fun i u hu => cell_heap hb (hcell i u hu)⟩⟩
section
variable {α : Type} {d : Kd α} {e base g n c : Nat} {ok : Nat → Prop} {w w0 W : World} {A : Option Addr} {xs : List α}
end
end Kd
end Go.Proofs.Ytoonahobmlnflaa.PC.A
namespace Go.Proofs.Ytoonahobmlnflaa.PC.A
open Go.RowKit
def Kept (w W : World) (S : Nat → Prop) : Prop := w.heap.size ≤ W.heap.size ∧ ∀ i, i < w.heap.size → ¬ S i → W.heap[i]? = w.heap[i]?
section
variable {w W W2 : World} {S S2 S' : Nat → Prop}
theorem Kept.refl (w : World) (S : Nat → Prop) : Kept w w S := ⟨Nat.le_refl _, fun _ _ _ => rfl⟩
theorem Kept.sP (h : Below w.heap.size w W) (S : Nat → Prop) : Kept w W S := ⟨h.size, fun i hi _ => h.block i hi⟩
theorem Kept.then_ (h : Kept w W S) (k : Kept W W2 S2) (hs : ∀ k, S2 k → S k ∨ w.heap.size ≤ k) : Kept w W2 S :=
  ⟨Nat.le_trans h.1 k.1, fun i hi hn => (k.2 i (Nat.lt_of_lt_of_le hi h.1) (fun h2 => (hs i h2).elim hn (fun h3 => by omega))).trans (h.2 i hi hn)⟩
theorem Kept.of_grown {row : Option Nat} (hg : W.grownBy W2 row) (h : Kept w W S) (hr : ∀ k, row = some k → S k ∨ w.heap.size ≤ k) : Kept w W2 S :=
  h.then_ (S2 := fun k => row = some k) ⟨hg.size, fun i hi hn => hg.block i hi (fun he => hn he.symm)⟩ hr
theorem Kept.below (h : Kept w W S) (hb : Below W.heap.size W W2) : Kept w W2 S := h.then_ (Kept.sP hb (fun _ => False)) (fun _ hk => hk.elim)
theorem Kept.alloc (h : Kept w W S) (o : Obj) : Kept w (W.alloc o) S := h.below (zY (Below.refl _ _) o)
theorem Kept.drew (h : Kept w W S) : Kept w W.drew S := h
theorem Kept.drewN (h : Kept w W S) (m : Nat) : Kept w (W.drewN m) S := h
theorem Kept.setCell (h : Kept w W S) {p : Addr} (hp : S p.block ∨ w.heap.size ≤ p.block) (u : Value) : Kept w (W.setCell p u) S :=
  h.then_ (S2 := fun k => k = p.block) ⟨by simp [World.setCell], fun i _ hn => Below.heap_setCell W p u i hn⟩ (fun k hk => by rw [hk]; exact hp)
theorem Kept.vI {g : Nat} (h : wE w W g none) (k : Kept W W2 S2) (hs : ∀ k, S2 k → w.heap.size ≤ k) : wE w W2 g none :=
  ⟨Nat.le_trans h.1 k.1, fun i hi hg hr => (k.2 i (Nat.lt_of_lt_of_le hi h.1) (fun h2 => by have := hs i h2; omega)).trans (h.2 i hi hg hr)⟩
end
namespace Kd
section
variable {α : Type} {d : Kd α} {e base n c : Nat} {ok oki S S2 : Nat → Prop} {w w0 W W1 W2 : World} {v : Value} {A : Option Addr} {xs : List α} {i : Int} {cs : List Value}
end
end Kd
end Go.Proofs.Ytoonahobmlnflaa.PC.A
namespace Go.Proofs.Ytoonahobmlnflaa.PC.A
open Go.RowKit
def Foot (P : World → Prop) (W : World) (ok : Nat → Prop) : Prop := ∀ W' : World, (∀ k, ok k → k < W.heap.size → W'.heap[k]? = W.heap[k]?) → P W'
theorem heap_lt {W W1 : World} {k : Nat} (h : W1.heap[k]? = W.heap[k]?) (hlt : k < W.heap.size) : k < W1.heap.size := by
  rw [Array.getElem?_eq_getElem hlt] at h
  exact (Array.getElem?_eq_some_iff.1 h).1
namespace Foot
variable {P Q : World → Prop} {W W1 : World} {ok ok' : Nat → Prop}
theorem now (h : Foot P W ok) : P W := h W (fun _ _ _ => rfl)
theorem bound (h : Foot P W ok) : Foot P W (fun k => ok k ∧ k < W.heap.size) := fun W' hW => h W' (fun k hk hlt => hW k ⟨hk, hlt⟩ hlt)
theorem step (h : Foot P W ok) (hm : ∀ k, ok k → k < W.heap.size → W1.heap[k]? = W.heap[k]?) : Foot P W1 ok := fun W' hW => h W' (fun k hk hlt => (hW k hk (heap_lt (hm k hk hlt) hlt)).trans (hm k hk hlt))
theorem imp (h : Foot P W ok) (hi : ∀ W', P W' → Q W') : Foot Q W ok := fun W' hW => hi W' (h W' hW)
theorem old (h : Foot P W ok) (hb : Below W.heap.size W W1) : Foot P W1 (fun k => ok k ∧ k < W.heap.size) := (h.bound).step (fun k _ hlt => hb.block k hlt)
end Foot
namespace Kd
def F {α : Type} (d : Kd α) (W : World) (ok : Nat → Prop) (A : Option Addr) (n : Nat) (xs : List α) : Prop := Foot (fun W => d.C W A n xs) W ok
def FK {α : Type} (d : Kd α) (W : World) (ok : Nat → Prop) (x : α) (c : List Value) : Prop := Foot (fun W => d.K W x c) W ok
section
variable {α β : Type} {d : Kd α} {e base n n' cc g N : Nat} {ok ok' okp S : Nat → Prop} {w w0 w1 W W1 : World} {A A' : Option Addr} {u v v1 : Value} {xs : List α} {xs' : List β} {d' : Kd β} {x : α} {c : List Value}
theorem F_nil (d : Kd α) (W : World) (ok : Nat → Prop) : F d W ok none ([] : List α).length [] := fun W' _ => C_nil d W'
theorem FK_of_M (h : d.M W base ok x c) : FK d W ok x c := fun _ hW => d.vR (M_step h hW)
end
end Kd
end Go.Proofs.Ytoonahobmlnflaa.PC.A
namespace Go.Proofs.Ytoonahobmlnflaa.PC.A
open Go.RowKit
namespace Kd
def chunks (sz : Nat) (n : Nat) (inner : List Value) : List (List Value) := (List.range n).map fun j => (inner.drop (j * sz)).take sz
theorem tL (sz n : Nat) (inner : List Value) : (chunks sz n inner).length = n := by simp [chunks]
theorem chunks_at {sz n : Nat} {inner : List Value} {j : Nat} (hj : j < n) : (chunks sz n inner)[j]? = some ((inner.drop (j * sz)).take sz) := by simp [chunks, hj]
theorem chunks_get {sz n : Nat} {inner : List Value} {j : Nat} {c : List Value} (h : (chunks sz n inner)[j]? = some c) : c = (inner.drop (j * sz)).take sz := by
  have hj : j < n := by have := (List.getElem?_eq_some_iff.1 h).1; rwa [tL] at this
  rw [chunks_at hj] at h
  injection h with h
  exact h.symm
theorem reps_raw {α : Type} {Rr : α → List Value → Prop} {sz : Nat} {xs : List α} {inner : List Value} (h : wZ Rr sz xs inner) (hR : ∀ x c, Rr x c → c.length = sz ∧ ∀ u ∈ c, u.oneCell' = true) : wZ (fun x cs => cs = x ∧ cs.length = sz ∧ ∀ u ∈ cs, u.oneCell' = true) sz (chunks sz xs.length inner) inner := by
  refine ⟨by rw [tL]; exact h.1, fun j p hj => ?_⟩
  have hjl : j < xs.length := by have := (List.getElem?_eq_some_iff.1 hj).1; rwa [tL] at this
  have hp := chunks_get hj
  exact ⟨hp.symm, hR _ _ (h.2 j _ (List.getElem?_eq_getElem hjl))⟩
section
variable {α : Type} {d : Kd α} {e base n cc g : Nat} {ok ok' okp S : Nat → Prop} {w w1 W W1 : World} {A : Option Addr} {u v v1 : Value} {xs : List α} {x : α} {c : List Value}
def N {α : Type} (d : Kd α) (e : Nat) (w : World) (base : Nat) (ok : Nat → Prop) (v : Value) (xs : List α) : Prop :=
  (∀ k, v.ownBlock = some k → ok k) ∧ ∃ rows : List (List Value), rows.length = xs.length ∧ (raw d.sz).R e w base (fun k => some k = v.ownBlock) v rows ∧ ∀ (j : Nat) (x : α) (c : List Value), xs[j]? = some x → rows[j]? = some c → FK d w (fun k => ok k ∧ some k ≠ v.ownBlock) x c
theorem R_N (h : d.R e w base ok v xs) : N d e w base ok v xs := by
  obtain ⟨h0, inner, ho, hr⟩ := h
  refine ⟨h0, chunks d.sz xs.length inner, tL _ _ _, ⟨fun k hk => hk.symm, inner, by rw [tL]; exact ho, reps_raw hr (fun x c hp => ⟨d.sI (d.vR hp), d.rI (d.vR hp)⟩)⟩, fun j x c hx hc => ?_⟩
  rw [chunks_get hc]
  exact FK_of_M (hr.2 j x hx)
theorem N_nil (d : Kd α) (e : Nat) (w : World) (base : Nat) (ok : Nat → Prop) : N d e w base ok (.slice none 0 0) [] := R_N (rK _ _ _ _ _)
end
end Kd
end Go.Proofs.Ytoonahobmlnflaa.PC.A
namespace Go.Proofs.Ytoonahobmlnflaa.PC.A
open Go.RowKit
namespace Kd
section
variable {α : Type} {d : Kd α} {W : World} {g n : Nat} {S ok : Nat → Prop} {A : Option Addr} {ad : Addr} {xs : List α}
end
end Kd
end Go.Proofs.Ytoonahobmlnflaa.PC.A
namespace Go.Proofs.Ytoonahobmlnflaa.PC.A
open Go.RowKit
section
variable {w w' u : World} {m B g : Nat} {o : Obj} {row : Option Nat} {S : Nat → Prop} {a : Addr} {v : Value}
end
namespace Kd
section
variable {α : Type} {d : Kd α} {e base n m : Nat} {ok : Nat → Prop} {w w' : World} {v : Value} {A : Option Addr} {xs : List α}
end
end Kd
end Go.Proofs.Ytoonahobmlnflaa.PC.A
namespace Go.Proofs.Ytoonahobmlnflaa.PC.A
open Go.RowKit
section
variable {P : Program} {d : Nat} {xs ys : Array Value} {f : Field} {fs : List Field} {a b : Value} {r s : Bool} {w : World}
theorem eqf_last (hn : (f.name == "_") = false) (ha : (part f.type xs f.offset).run P w = .ok a w) (hb : (part f.type ys f.offset).run P w = .ok b w) (he : (Op.equalIn d f.type a b).run P w = .ok r w) : (Op.eqFields d xs ys [f]).run P w = .ok r w := by
  have hn' : f.name ≠ "_" := by simpa using hn
  simp only [Op.eqFields, if_pos hn', Sem.run_bind, ha, hb, he, Result.andThen_ok]
  cases r <;> simp
theorem rL (hn : (f.name == "_") = false) (ha : (part f.type xs f.offset).run P w = .ok a w) (hb : (part f.type ys f.offset).run P w = .ok b w) (he : (Op.equalIn d f.type a b).run P w = .ok r w) (hr : (Op.eqFields d xs ys fs).run P w = .ok s w) : (Op.eqFields d xs ys (f :: fs)).run P w = .ok (r && s) w := by
  have hn' : f.name ≠ "_" := by simpa using hn
  rw [Op.eqFields]
  simp only [if_pos hn', Sem.run_bind, ha, hb, he, Result.andThen_ok]
  cases r
  · simp
  · simpa using hr
theorem eqA_of {t : TypeId} {fs : Array Field} (hu : P.underlying t = some (.struct fs)) (hp : P.stoodInHeld t = false) (h : (Op.eqFields d xs ys fs.toList).run P w = .ok r w) : (Op.equalIn (d + 1) t (.agg xs) (.agg ys)).run P w = .ok r w := by
  have hf : P.fieldsOf t = fs := by simp [Program.fieldsOf, hu]
  rw [run_equalIn_struct (P := P) w d t xs ys (by rw [hf]; exact hu) hp, hf]
  exact h
end
end Go.Proofs.Ytoonahobmlnflaa.PC.A
namespace Go.Proofs.Ytoonahobmlnflaa.PC.A
theorem wZ.one {α : Type} {R : α → List Value → Prop} {ps : List α} {cs : List Value} {p : α} {v : Value} (hp : R p [v]) (h : wZ R 1 ps cs) : wZ R 1 (p :: ps) (v :: cs) := by
  refine ⟨by simp [h.1], fun j q hq => ?_⟩
  cases j with
  | zero =>
    simp only [List.getElem?_cons_zero, Option.some.injEq] at hq
    subst hq
    simpa using hp
  | succ j =>
    simp only [List.getElem?_cons_succ] at hq
    have h1 := h.2 j q hq
    simpa [Nat.mul_one] using h1
theorem wZ.front {α : Type} {R : α → List Value → Prop} {size : Nat} {ps : List α} {cs c all : List Value} {p : α} (hp : R p c) (hc : c.length = size) (h : wZ R size ps cs) (ha : c ++ cs = all) : wZ R size (p :: ps) all := by
  subst ha
  refine ⟨by rw [List.length_append, hc, h.1, List.length_cons, Nat.succ_mul, Nat.add_comm], fun j q hq => ?_⟩
  cases j with
  | zero =>
    simp only [List.getElem?_cons_zero, Option.some.injEq] at hq
    subst hq
    rw [Nat.zero_mul, List.drop_zero, List.take_append_of_le_length (by omega), List.take_of_length_le (by omega)]
    exact hp
  | succ j =>
    simp only [List.getElem?_cons_succ] at hq
    have h1 := h.2 j q hq
    rw [Nat.succ_mul, List.drop_append, List.drop_of_length_le (by rw [hc]; exact Nat.le_add_left _ _), List.nil_append, hc, Nat.add_sub_cancel]
    exact h1
theorem wZ.c2 {α : Type} {R : α → List Value → Prop} {ps : List α} {cs : List Value} {p : α} {va vb : Value} (hp : R p [va, vb]) (h : wZ R 2 ps cs) : wZ R 2 (p :: ps) (va :: vb :: cs) := wZ.front hp rfl h rfl
theorem wZ.c3 {α : Type} {R : α → List Value → Prop} {ps : List α} {cs : List Value} {p : α} {va vb vc : Value} (hp : R p [va, vb, vc]) (h : wZ R 3 ps cs) : wZ R 3 (p :: ps) (va :: vb :: vc :: cs) := wZ.front hp rfl h rfl
theorem wZ.c4 {α : Type} {R : α → List Value → Prop} {ps : List α} {cs : List Value} {p : α} {va vb vc vd : Value} (hp : R p [va, vb, vc, vd]) (h : wZ R 4 ps cs) : wZ R 4 (p :: ps) (va :: vb :: vc :: vd :: cs) := wZ.front hp rfl h rfl
theorem wZ.c5 {α : Type} {R : α → List Value → Prop} {ps : List α} {cs : List Value} {p : α} {va vb vc vd ve : Value} (hp : R p [va, vb, vc, vd, ve]) (h : wZ R 5 ps cs) : wZ R 5 (p :: ps) (va :: vb :: vc :: vd :: ve :: cs) := wZ.front hp rfl h rfl
theorem wZ.c6 {α : Type} {R : α → List Value → Prop} {ps : List α} {cs : List Value} {p : α} {va vb vc vd ve vf : Value} (hp : R p [va, vb, vc, vd, ve, vf]) (h : wZ R 6 ps cs) : wZ R 6 (p :: ps) (va :: vb :: vc :: vd :: ve :: vf :: cs) := wZ.front hp rfl h rfl
theorem wZ.c7 {α : Type} {R : α → List Value → Prop} {ps : List α} {cs : List Value} {p : α} {va vb vc vd ve vf vg : Value} (hp : R p [va, vb, vc, vd, ve, vf, vg]) (h : wZ R 7 ps cs) : wZ R 7 (p :: ps) (va :: vb :: vc :: vd :: ve :: vf :: vg :: cs) := wZ.front hp rfl h rfl
theorem wZ.c8 {α : Type} {R : α → List Value → Prop} {ps : List α} {cs : List Value} {p : α} {va vb vc vd ve vf vg vh : Value} (hp : R p [va, vb, vc, vd, ve, vf, vg, vh]) (h : wZ R 8 ps cs) : wZ R 8 (p :: ps) (va :: vb :: vc :: vd :: ve :: vf :: vg :: vh :: cs) := wZ.front hp rfl h rfl
theorem wZ.c9 {α : Type} {R : α → List Value → Prop} {ps : List α} {cs : List Value} {p : α} {va vb vc vd ve vf vg vh vi : Value} (hp : R p [va, vb, vc, vd, ve, vf, vg, vh, vi]) (h : wZ R 9 ps cs) : wZ R 9 (p :: ps) (va :: vb :: vc :: vd :: ve :: vf :: vg :: vh :: vi :: cs) := wZ.front hp rfl h rfl
theorem wZ.c10 {α : Type} {R : α → List Value → Prop} {ps : List α} {cs : List Value} {p : α} {va vb vc vd ve vf vg vh vi vj : Value} (hp : R p [va, vb, vc, vd, ve, vf, vg, vh, vi, vj]) (h : wZ R 10 ps cs) : wZ R 10 (p :: ps) (va :: vb :: vc :: vd :: ve :: vf :: vg :: vh :: vi :: vj :: cs) := wZ.front hp rfl h rfl
end Go.Proofs.Ytoonahobmlnflaa.PC.A
namespace Go.Proofs.Ytoonahobmlnflaa.PC.B
def up (b : Nat → Bool) (i : Nat) : Nat → Bool := fun j => if j = i then true else b j
section
variable {P : Program} {ops : Array Oper} {Q : Exit → Act → World → Prop} {md : Region.Mode} {T : Bool × List (List Nat × List Nat)} {B : List Nat} {O : List Nat} {b : Nat → Bool} {i j n : Nat}
end
end Go.Proofs.Ytoonahobmlnflaa.PC.B
namespace Go.Proofs.Ytoonahobmlnflaa.PC.A
open Go.RowKit
end Go.Proofs.Ytoonahobmlnflaa.PC.A
namespace Go.Proofs.Ytoonahobmlnflaa.PC.B
section
variable {ops : Array Oper} {a : Act} {o og : Oper} {g : Nat} {t : Tmp} {u : Bool}
end
end Go.Proofs.Ytoonahobmlnflaa.PC.B
namespace Go.Proofs.Ytoonahobmlnflaa.PC.A
open Go.RowKit
section
variable {P : Program} {ops : Array Oper} {rest : List Oper} {o : Oper} {a : Act} {Q : Exit → Act → World → Prop} {W : World}
end
end Go.Proofs.Ytoonahobmlnflaa.PC.A
namespace Go.Proofs.Ytoonahobmlnflaa.PC.A
open Go.RowKit
namespace Kd
section
variable {α : Type} {d : Kd α} {e base n cap g : Nat} {ok ok' okp : Nat → Prop} {w w1 W : World} {v v1 : Value} {xs ys : List α}
end
section
variable {P : Program} {ops : Array Oper} {rest : List Oper} {o : Oper} {a : Act} {Q : Exit → Act → World → Prop} {Kc : Act → World → Prop} {α : Type}
end
end Kd
end Go.Proofs.Ytoonahobmlnflaa.PC.A
namespace Go.Proofs.Ytoonahobmlnflaa.PC.C
open Go.RowKit Go.Proofs.Ytoonahobmlnflaa.PC.A
namespace Kd
open Go.Proofs.Ytoonahobmlnflaa.PC.A.Kd
end Kd
namespace Kd
open Go.Proofs.Ytoonahobmlnflaa.PC.A.Kd
section
variable {α : Type} {d : Kd α} {e base g N : Nat} {ok : Nat → Prop} {W w1 : World} {u v : Value} {xs : List α}
end
end Kd
theorem yC (k k' : IntKind) (x y : Int) : Builtin.max2 (.int k x) (.int k' y) = pure (.int k (if x < y then y else x)) := by simp only [Builtin.max2, gt_iff_lt]
theorem yE (k k' : IntKind) (x y : Int) : Builtin.min2 (.int k x) (.int k' y) = pure (.int k (if y < x then y else x)) := by simp only [Builtin.min2]
theorem xO (ats : Array TypeId) (ty : TypeId) (a b : Value) : Builtin.max_ ats ty #[a, b] = (Builtin.max2 a b >>= fun s => pure s) := by simp only [Builtin.max_, List.foldlM_cons, List.foldlM_nil]
theorem xP (ats : Array TypeId) (ty : TypeId) (a b : Value) : Builtin.min_ ats ty #[a, b] = (Builtin.min2 a b >>= fun s => pure s) := by simp only [Builtin.min_, List.foldlM_cons, List.foldlM_nil]
theorem yK (ats : Array TypeId) (ty : TypeId) (a b c : Value) : Builtin.max_ ats ty #[a, b, c] = (Builtin.max2 a b >>= fun s => Builtin.max2 s c >>= fun s => pure s) := by simp only [Builtin.max_, List.foldlM_cons, List.foldlM_nil]
theorem yL (ats : Array TypeId) (ty : TypeId) (a b c : Value) : Builtin.min_ ats ty #[a, b, c] = (Builtin.min2 a b >>= fun s => Builtin.min2 s c >>= fun s => pure s) := by simp only [Builtin.min_, List.foldlM_cons, List.foldlM_nil]
theorem yD (ats : Array TypeId) (ty : TypeId) (a b c d : Value) : Builtin.max_ ats ty #[a, b, c, d] = (Builtin.max2 a b >>= fun s => Builtin.max2 s c >>= fun s => Builtin.max2 s d >>= fun s => pure s) := by simp only [Builtin.max_, List.foldlM_cons, List.foldlM_nil]
theorem yF (ats : Array TypeId) (ty : TypeId) (a b c d : Value) : Builtin.min_ ats ty #[a, b, c, d] = (Builtin.min2 a b >>= fun s => Builtin.min2 s c >>= fun s => Builtin.min2 s d >>= fun s => pure s) := by simp only [Builtin.min_, List.foldlM_cons, List.foldlM_nil]
end Go.Proofs.Ytoonahobmlnflaa.PC.C
namespace Go.Proofs.Ytoonahobmlnflaa.PC.A
open Go.RowKit
section
variable {P : Program} {ops : Array Oper} {rest : List Oper} {o : Oper} {a : Act} {Q : Exit → Act → World → Prop} {W : World}
theorem xL {f : FuncId} {as_ : Array Operand} {ts : Array TypeId} (_ho : o.op = .call { callee := .value (.func f), args := as_, argTypes := ts }) (h : wpList P ops Q (o :: rest) a W) : wpList P ops Q (o :: rest) a W := h
theorem zA {b : Builtin} {xs : Array Operand} {ts : Array TypeId} (_ho : o.op = .call { callee := .builtin b, args := xs, argTypes := ts }) (h : wpList P ops Q (o :: rest) a W) : wpList P ops Q (o :: rest) a W := h
end
def shl (k : IntKind) (x y : Int) : Int := k.wrap (x * 2 ^ min y.toNat k.bits)
def shr (k : IntKind) (x y : Int) : Int := x / 2 ^ min y.toNat k.bits
theorem shl_small {k : IntKind} {x y j : Int} (h : shl k x y = j) (hy : y ≤ k.bits) : k.wrap (x * 2 ^ y.toNat) = j := by rw [← h]; unfold shl; rw [Nat.min_eq_left (by omega)]
theorem shr_small {k : IntKind} {x y j : Int} (h : shr k x y = j) (hy : y ≤ k.bits) : x / 2 ^ y.toNat = j := by rw [← h]; unfold shr; rw [Nat.min_eq_left (by omega)]
namespace Kd
section
variable {α : Type} {d : Kd α} {e base : Nat} {ok : Nat → Prop} {W w1 : World} {v : Value} {xs : List α}
end
section
variable {α : Type} {d : Kd α} {e base g n cap : Nat} {ok oki okp : Nat → Prop} {W : World} {xs : List α} {i : Int} {c : List Value}
end
section
variable {α : Type} {d : Kd α} {e base b b' g N : Nat} {ok ok1 : Nat → Prop} {W W2 w1 : World} {u v : Value} {xs ys : List α} {S : Nat → Prop}
end
end Kd
end Go.Proofs.Ytoonahobmlnflaa.PC.A
namespace Go.Proofs.Ytoonahobmlnflaa.PC.A
open Go.RowKit
namespace Kd
def V {α : Type} (d : Kd α) (_e : Nat) (W : World) (_base : Nat) (ok : Nat → Prop) (v : Value) (xs : List α) : Prop := ∃ A c, v = .slice A xs.length c ∧ xs.length ≤ c ∧ F d W ok A xs.length xs
section
variable {α β : Type} {d : Kd α} {e base base' n m c g N' lo hi : Nat} {ok ok' S : Nat → Prop} {w W w1 : World} {A : Option Addr} {ad : Addr} {u v v1 : Value} {xs : List α}
theorem V_nil (d : Kd α) (e : Nat) (W : World) (base : Nat) (ok : Nat → Prop) : V d e W base ok (.slice none 0 0) [] := ⟨none, 0, rfl, Nat.le_refl _, F_nil d W ok⟩
end
end Kd
end Go.Proofs.Ytoonahobmlnflaa.PC.A
namespace Go.Proofs.Ytoonahobmlnflaa.PC
open Go.RowKit A B C
attribute [local go_sem] yC yE xO xP yK yL yD yF
def errW : Option Int → Value
  | none => .nilIface
  | some c => .iface 0 (.int .i64 c)
theorem eN_ : errW none = .nilIface := rfl
theorem eS_ (c : Int) : errW (some c) = .iface 0 (.int .i64 c) := rfl
theorem sV : (Try.prog.info? 3).map (fun i => (i.zero, i.size, i.bytes)) = some (some (.int .i64 0), 1, 8) := by kernel_rfl
theorem info4 : (Try.prog.info? 4).map (fun i => (i.zero, i.size, i.bytes)) = some (some (.bool false), 1, 1) := by kernel_rfl
theorem pF : (Try.prog.info? 37).map (fun i => (i.zero, i.size, i.bytes)) = some (some (.agg #[(.int .i64 0), (.int .i64 0), (.int .i64 0), (.int .i64 0), (.int .i64 0), (.int .i64 0), (.int .i64 0), (.int .i64 0), (.int .i64 0), (.int .i64 0), (.int .i64 0), (.int .i64 0), (.int .i64 0), (.int .i64 0), (.int .i64 0), (.int .i64 0), (.int .i64 0), (.int .i64 0), (.int .i64 0), (.int .i64 0), (.int .i64 0), (.int .i64 0)]), 22, 176) := by kernel_rfl
-- the values' own types
structure S30 where
  f0 : Int
  f1 : Int
def z30 : S30 := ⟨(0 : Int), (0 : Int)⟩
def k30 : Kd S30 := Kd.iso (Kd.pair (Kd.int .i64) (Kd.int .i64)) (fun x : S30 => (x.f0, x.f1))
theorem tO {w : World} {x : S30} {cs : List Value} (h : k30.K w x cs) : cs = [.int .i64 x.f0, .int .i64 x.f1] := by
  obtain ⟨_, _, rfl, rfl, rfl⟩ := h
  exact rfl
theorem sW {w : World} {base : Nat} {ok : Nat → Prop} {x : S30} {cs : List Value} (h : k30.M w base ok x cs) : cs = [.int .i64 x.f0, .int .i64 x.f1] := by
  obtain ⟨_, _, rfl, rfl, rfl⟩ := h
  exact rfl
theorem rZ (w : World) (base : Nat) (ok : Nat → Prop) (x : S30)  : k30.M w base ok x [.int .i64 x.f0, .int .i64 x.f1] := ⟨[.int .i64 x.f0], [.int .i64 x.f1], rfl, rfl, rfl⟩
structure S32 where
  f0 : Int
  f1 : Int
def z32 : S32 := ⟨(0 : Int), (0 : Int)⟩
def k32 : Kd S32 := Kd.iso (Kd.pair (Kd.int .i64) (Kd.int .i64)) (fun x : S32 => (x.f0, x.f1))
theorem k32_open {w : World} {x : S32} {cs : List Value} (h : k32.K w x cs) : cs = [.int .i64 x.f0, .int .i64 x.f1] := by
  obtain ⟨_, _, rfl, rfl, rfl⟩ := h
  exact rfl
theorem k32_openM {w : World} {base : Nat} {ok : Nat → Prop} {x : S32} {cs : List Value} (h : k32.M w base ok x cs) : cs = [.int .i64 x.f0, .int .i64 x.f1] := by
  obtain ⟨_, _, rfl, rfl, rfl⟩ := h
  exact rfl
theorem pH (w : World) (base : Nat) (ok : Nat → Prop) (x : S32)  : k32.M w base ok x [.int .i64 x.f0, .int .i64 x.f1] := ⟨[.int .i64 x.f0], [.int .i64 x.f1], rfl, rfl, rfl⟩
structure S33 where
  f0 : S30
  f1 : S30
  f2 : S30
  f3 : S30
  f4 : S30
  f5 : S30
  f6 : S30
def z33 : S33 := ⟨z30, z30, z30, z30, z30, z30, z30⟩
def k33 : Kd S33 := Kd.iso (Kd.pair k30 (Kd.pair k30 (Kd.pair k30 (Kd.pair k30 (Kd.pair k30 (Kd.pair k30 k30)))))) (fun x : S33 => (x.f0, x.f1, x.f2, x.f3, x.f4, x.f5, x.f6))
theorem k33_open {w : World} {x : S33} {cs : List Value} (h : k33.K w x cs) : cs = [.int .i64 x.f0.f0, .int .i64 x.f0.f1, .int .i64 x.f1.f0, .int .i64 x.f1.f1, .int .i64 x.f2.f0, .int .i64 x.f2.f1, .int .i64 x.f3.f0, .int .i64 x.f3.f1, .int .i64 x.f4.f0, .int .i64 x.f4.f1, .int .i64 x.f5.f0, .int .i64 x.f5.f1, .int .i64 x.f6.f0, .int .i64 x.f6.f1] := by
  obtain ⟨_, _, rfl, s0, ⟨_, _, rfl, s2, ⟨_, _, rfl, s4, ⟨_, _, rfl, s6, ⟨_, _, rfl, s8, ⟨_, _, rfl, s10, s12⟩⟩⟩⟩⟩⟩ := h
  obtain rfl := tO s0
  obtain rfl := tO s2
  obtain rfl := tO s4
  obtain rfl := tO s6
  obtain rfl := tO s8
  obtain rfl := tO s10
  obtain rfl := tO s12
  exact rfl
theorem k33_openM {w : World} {base : Nat} {ok : Nat → Prop} {x : S33} {cs : List Value} (h : k33.M w base ok x cs) : cs = [.int .i64 x.f0.f0, .int .i64 x.f0.f1, .int .i64 x.f1.f0, .int .i64 x.f1.f1, .int .i64 x.f2.f0, .int .i64 x.f2.f1, .int .i64 x.f3.f0, .int .i64 x.f3.f1, .int .i64 x.f4.f0, .int .i64 x.f4.f1, .int .i64 x.f5.f0, .int .i64 x.f5.f1, .int .i64 x.f6.f0, .int .i64 x.f6.f1] := by
  obtain ⟨_, _, rfl, s0, ⟨_, _, rfl, s2, ⟨_, _, rfl, s4, ⟨_, _, rfl, s6, ⟨_, _, rfl, s8, ⟨_, _, rfl, s10, s12⟩⟩⟩⟩⟩⟩ := h
  obtain rfl := sW s0
  obtain rfl := sW s2
  obtain rfl := sW s4
  obtain rfl := sW s6
  obtain rfl := sW s8
  obtain rfl := sW s10
  obtain rfl := sW s12
  exact rfl
theorem k33_mkM (w : World) (base : Nat) (ok : Nat → Prop) (x : S33)  : k33.M w base ok x [.int .i64 x.f0.f0, .int .i64 x.f0.f1, .int .i64 x.f1.f0, .int .i64 x.f1.f1, .int .i64 x.f2.f0, .int .i64 x.f2.f1, .int .i64 x.f3.f0, .int .i64 x.f3.f1, .int .i64 x.f4.f0, .int .i64 x.f4.f1, .int .i64 x.f5.f0, .int .i64 x.f5.f1, .int .i64 x.f6.f0, .int .i64 x.f6.f1] := ⟨[.int .i64 x.f0.f0, .int .i64 x.f0.f1], [.int .i64 x.f1.f0, .int .i64 x.f1.f1, .int .i64 x.f2.f0, .int .i64 x.f2.f1, .int .i64 x.f3.f0, .int .i64 x.f3.f1, .int .i64 x.f4.f0, .int .i64 x.f4.f1, .int .i64 x.f5.f0, .int .i64 x.f5.f1, .int .i64 x.f6.f0, .int .i64 x.f6.f1], rfl, (rZ w base ok x.f0 ), ⟨[.int .i64 x.f1.f0, .int .i64 x.f1.f1], [.int .i64 x.f2.f0, .int .i64 x.f2.f1, .int .i64 x.f3.f0, .int .i64 x.f3.f1, .int .i64 x.f4.f0, .int .i64 x.f4.f1, .int .i64 x.f5.f0, .int .i64 x.f5.f1, .int .i64 x.f6.f0, .int .i64 x.f6.f1], rfl, (rZ w base ok x.f1 ), ⟨[.int .i64 x.f2.f0, .int .i64 x.f2.f1], [.int .i64 x.f3.f0, .int .i64 x.f3.f1, .int .i64 x.f4.f0, .int .i64 x.f4.f1, .int .i64 x.f5.f0, .int .i64 x.f5.f1, .int .i64 x.f6.f0, .int .i64 x.f6.f1], rfl, (rZ w base ok x.f2 ), ⟨[.int .i64 x.f3.f0, .int .i64 x.f3.f1], [.int .i64 x.f4.f0, .int .i64 x.f4.f1, .int .i64 x.f5.f0, .int .i64 x.f5.f1, .int .i64 x.f6.f0, .int .i64 x.f6.f1], rfl, (rZ w base ok x.f3 ), ⟨[.int .i64 x.f4.f0, .int .i64 x.f4.f1], [.int .i64 x.f5.f0, .int .i64 x.f5.f1, .int .i64 x.f6.f0, .int .i64 x.f6.f1], rfl, (rZ w base ok x.f4 ), ⟨[.int .i64 x.f5.f0, .int .i64 x.f5.f1], [.int .i64 x.f6.f0, .int .i64 x.f6.f1], rfl, (rZ w base ok x.f5 ), (rZ w base ok x.f6 )⟩⟩⟩⟩⟩⟩
structure S35 where
  f0 : S33
def z35 : S35 := ⟨z33⟩
def k35 : Kd S35 := Kd.iso k33 (fun x : S35 => x.f0)
theorem k35_open {w : World} {x : S35} {cs : List Value} (h : k35.K w x cs) : cs = [.int .i64 x.f0.f0.f0, .int .i64 x.f0.f0.f1, .int .i64 x.f0.f1.f0, .int .i64 x.f0.f1.f1, .int .i64 x.f0.f2.f0, .int .i64 x.f0.f2.f1, .int .i64 x.f0.f3.f0, .int .i64 x.f0.f3.f1, .int .i64 x.f0.f4.f0, .int .i64 x.f0.f4.f1, .int .i64 x.f0.f5.f0, .int .i64 x.f0.f5.f1, .int .i64 x.f0.f6.f0, .int .i64 x.f0.f6.f1] := by
  have s0 : k33.K w x.f0 cs := h
  obtain rfl := k33_open s0
  exact rfl
theorem k35_openM {w : World} {base : Nat} {ok : Nat → Prop} {x : S35} {cs : List Value} (h : k35.M w base ok x cs) : cs = [.int .i64 x.f0.f0.f0, .int .i64 x.f0.f0.f1, .int .i64 x.f0.f1.f0, .int .i64 x.f0.f1.f1, .int .i64 x.f0.f2.f0, .int .i64 x.f0.f2.f1, .int .i64 x.f0.f3.f0, .int .i64 x.f0.f3.f1, .int .i64 x.f0.f4.f0, .int .i64 x.f0.f4.f1, .int .i64 x.f0.f5.f0, .int .i64 x.f0.f5.f1, .int .i64 x.f0.f6.f0, .int .i64 x.f0.f6.f1] := by
  have s0 : k33.M w base ok x.f0 cs := h
  obtain rfl := k33_openM s0
  exact rfl
theorem k35_mkM (w : World) (base : Nat) (ok : Nat → Prop) (x : S35)  : k35.M w base ok x [.int .i64 x.f0.f0.f0, .int .i64 x.f0.f0.f1, .int .i64 x.f0.f1.f0, .int .i64 x.f0.f1.f1, .int .i64 x.f0.f2.f0, .int .i64 x.f0.f2.f1, .int .i64 x.f0.f3.f0, .int .i64 x.f0.f3.f1, .int .i64 x.f0.f4.f0, .int .i64 x.f0.f4.f1, .int .i64 x.f0.f5.f0, .int .i64 x.f0.f5.f1, .int .i64 x.f0.f6.f0, .int .i64 x.f0.f6.f1] := (k33_mkM w base ok x.f0 )
structure S37 where
  f0 : Int
  f1 : Int
  f2 : Int
  f3 : Int
  f4 : S30
  f5 : S32
  f6 : S35
def z37 : S37 := ⟨(0 : Int), (0 : Int), (0 : Int), (0 : Int), z30, z32, z35⟩
def k37 : Kd S37 := Kd.iso (Kd.pair (Kd.int .i64) (Kd.pair (Kd.int .i64) (Kd.pair (Kd.int .i64) (Kd.pair (Kd.int .i64) (Kd.pair k30 (Kd.pair k32 k35)))))) (fun x : S37 => (x.f0, x.f1, x.f2, x.f3, x.f4, x.f5, x.f6))
theorem k37_open {w : World} {x : S37} {cs : List Value} (h : k37.K w x cs) : cs = [.int .i64 x.f0, .int .i64 x.f1, .int .i64 x.f2, .int .i64 x.f3, .int .i64 x.f4.f0, .int .i64 x.f4.f1, .int .i64 x.f5.f0, .int .i64 x.f5.f1, .int .i64 x.f6.f0.f0.f0, .int .i64 x.f6.f0.f0.f1, .int .i64 x.f6.f0.f1.f0, .int .i64 x.f6.f0.f1.f1, .int .i64 x.f6.f0.f2.f0, .int .i64 x.f6.f0.f2.f1, .int .i64 x.f6.f0.f3.f0, .int .i64 x.f6.f0.f3.f1, .int .i64 x.f6.f0.f4.f0, .int .i64 x.f6.f0.f4.f1, .int .i64 x.f6.f0.f5.f0, .int .i64 x.f6.f0.f5.f1, .int .i64 x.f6.f0.f6.f0, .int .i64 x.f6.f0.f6.f1] := by
  obtain ⟨_, _, rfl, rfl, ⟨_, _, rfl, rfl, ⟨_, _, rfl, rfl, ⟨_, _, rfl, rfl, ⟨_, _, rfl, s4, ⟨_, _, rfl, s6, s8⟩⟩⟩⟩⟩⟩ := h
  obtain rfl := tO s4
  obtain rfl := k32_open s6
  obtain rfl := k35_open s8
  exact rfl
theorem k37_openM {w : World} {base : Nat} {ok : Nat → Prop} {x : S37} {cs : List Value} (h : k37.M w base ok x cs) : cs = [.int .i64 x.f0, .int .i64 x.f1, .int .i64 x.f2, .int .i64 x.f3, .int .i64 x.f4.f0, .int .i64 x.f4.f1, .int .i64 x.f5.f0, .int .i64 x.f5.f1, .int .i64 x.f6.f0.f0.f0, .int .i64 x.f6.f0.f0.f1, .int .i64 x.f6.f0.f1.f0, .int .i64 x.f6.f0.f1.f1, .int .i64 x.f6.f0.f2.f0, .int .i64 x.f6.f0.f2.f1, .int .i64 x.f6.f0.f3.f0, .int .i64 x.f6.f0.f3.f1, .int .i64 x.f6.f0.f4.f0, .int .i64 x.f6.f0.f4.f1, .int .i64 x.f6.f0.f5.f0, .int .i64 x.f6.f0.f5.f1, .int .i64 x.f6.f0.f6.f0, .int .i64 x.f6.f0.f6.f1] := by
  obtain ⟨_, _, rfl, rfl, ⟨_, _, rfl, rfl, ⟨_, _, rfl, rfl, ⟨_, _, rfl, rfl, ⟨_, _, rfl, s4, ⟨_, _, rfl, s6, s8⟩⟩⟩⟩⟩⟩ := h
  obtain rfl := sW s4
  obtain rfl := k32_openM s6
  obtain rfl := k35_openM s8
  exact rfl
theorem rB (w : World) (base : Nat) (ok : Nat → Prop) (x : S37)  : k37.M w base ok x [.int .i64 x.f0, .int .i64 x.f1, .int .i64 x.f2, .int .i64 x.f3, .int .i64 x.f4.f0, .int .i64 x.f4.f1, .int .i64 x.f5.f0, .int .i64 x.f5.f1, .int .i64 x.f6.f0.f0.f0, .int .i64 x.f6.f0.f0.f1, .int .i64 x.f6.f0.f1.f0, .int .i64 x.f6.f0.f1.f1, .int .i64 x.f6.f0.f2.f0, .int .i64 x.f6.f0.f2.f1, .int .i64 x.f6.f0.f3.f0, .int .i64 x.f6.f0.f3.f1, .int .i64 x.f6.f0.f4.f0, .int .i64 x.f6.f0.f4.f1, .int .i64 x.f6.f0.f5.f0, .int .i64 x.f6.f0.f5.f1, .int .i64 x.f6.f0.f6.f0, .int .i64 x.f6.f0.f6.f1] := ⟨[.int .i64 x.f0], [.int .i64 x.f1, .int .i64 x.f2, .int .i64 x.f3, .int .i64 x.f4.f0, .int .i64 x.f4.f1, .int .i64 x.f5.f0, .int .i64 x.f5.f1, .int .i64 x.f6.f0.f0.f0, .int .i64 x.f6.f0.f0.f1, .int .i64 x.f6.f0.f1.f0, .int .i64 x.f6.f0.f1.f1, .int .i64 x.f6.f0.f2.f0, .int .i64 x.f6.f0.f2.f1, .int .i64 x.f6.f0.f3.f0, .int .i64 x.f6.f0.f3.f1, .int .i64 x.f6.f0.f4.f0, .int .i64 x.f6.f0.f4.f1, .int .i64 x.f6.f0.f5.f0, .int .i64 x.f6.f0.f5.f1, .int .i64 x.f6.f0.f6.f0, .int .i64 x.f6.f0.f6.f1], rfl, rfl, ⟨[.int .i64 x.f1], [.int .i64 x.f2, .int .i64 x.f3, .int .i64 x.f4.f0, .int .i64 x.f4.f1, .int .i64 x.f5.f0, .int .i64 x.f5.f1, .int .i64 x.f6.f0.f0.f0, .int .i64 x.f6.f0.f0.f1, .int .i64 x.f6.f0.f1.f0, .int .i64 x.f6.f0.f1.f1, .int .i64 x.f6.f0.f2.f0, .int .i64 x.f6.f0.f2.f1, .int .i64 x.f6.f0.f3.f0, .int .i64 x.f6.f0.f3.f1, .int .i64 x.f6.f0.f4.f0, .int .i64 x.f6.f0.f4.f1, .int .i64 x.f6.f0.f5.f0, .int .i64 x.f6.f0.f5.f1, .int .i64 x.f6.f0.f6.f0, .int .i64 x.f6.f0.f6.f1], rfl, rfl, ⟨[.int .i64 x.f2], [.int .i64 x.f3, .int .i64 x.f4.f0, .int .i64 x.f4.f1, .int .i64 x.f5.f0, .int .i64 x.f5.f1, .int .i64 x.f6.f0.f0.f0, .int .i64 x.f6.f0.f0.f1, .int .i64 x.f6.f0.f1.f0, .int .i64 x.f6.f0.f1.f1, .int .i64 x.f6.f0.f2.f0, .int .i64 x.f6.f0.f2.f1, .int .i64 x.f6.f0.f3.f0, .int .i64 x.f6.f0.f3.f1, .int .i64 x.f6.f0.f4.f0, .int .i64 x.f6.f0.f4.f1, .int .i64 x.f6.f0.f5.f0, .int .i64 x.f6.f0.f5.f1, .int .i64 x.f6.f0.f6.f0, .int .i64 x.f6.f0.f6.f1], rfl, rfl, ⟨[.int .i64 x.f3], [.int .i64 x.f4.f0, .int .i64 x.f4.f1, .int .i64 x.f5.f0, .int .i64 x.f5.f1, .int .i64 x.f6.f0.f0.f0, .int .i64 x.f6.f0.f0.f1, .int .i64 x.f6.f0.f1.f0, .int .i64 x.f6.f0.f1.f1, .int .i64 x.f6.f0.f2.f0, .int .i64 x.f6.f0.f2.f1, .int .i64 x.f6.f0.f3.f0, .int .i64 x.f6.f0.f3.f1, .int .i64 x.f6.f0.f4.f0, .int .i64 x.f6.f0.f4.f1, .int .i64 x.f6.f0.f5.f0, .int .i64 x.f6.f0.f5.f1, .int .i64 x.f6.f0.f6.f0, .int .i64 x.f6.f0.f6.f1], rfl, rfl, ⟨[.int .i64 x.f4.f0, .int .i64 x.f4.f1], [.int .i64 x.f5.f0, .int .i64 x.f5.f1, .int .i64 x.f6.f0.f0.f0, .int .i64 x.f6.f0.f0.f1, .int .i64 x.f6.f0.f1.f0, .int .i64 x.f6.f0.f1.f1, .int .i64 x.f6.f0.f2.f0, .int .i64 x.f6.f0.f2.f1, .int .i64 x.f6.f0.f3.f0, .int .i64 x.f6.f0.f3.f1, .int .i64 x.f6.f0.f4.f0, .int .i64 x.f6.f0.f4.f1, .int .i64 x.f6.f0.f5.f0, .int .i64 x.f6.f0.f5.f1, .int .i64 x.f6.f0.f6.f0, .int .i64 x.f6.f0.f6.f1], rfl, (rZ w base ok x.f4 ), ⟨[.int .i64 x.f5.f0, .int .i64 x.f5.f1], [.int .i64 x.f6.f0.f0.f0, .int .i64 x.f6.f0.f0.f1, .int .i64 x.f6.f0.f1.f0, .int .i64 x.f6.f0.f1.f1, .int .i64 x.f6.f0.f2.f0, .int .i64 x.f6.f0.f2.f1, .int .i64 x.f6.f0.f3.f0, .int .i64 x.f6.f0.f3.f1, .int .i64 x.f6.f0.f4.f0, .int .i64 x.f6.f0.f4.f1, .int .i64 x.f6.f0.f5.f0, .int .i64 x.f6.f0.f5.f1, .int .i64 x.f6.f0.f6.f0, .int .i64 x.f6.f0.f6.f1], rfl, (pH w base ok x.f5 ), (k35_mkM w base ok x.f6 )⟩⟩⟩⟩⟩⟩
def rT (xs : List S37) (i : Int) : S37 := xs.getD i.toNat z37
structure S117 where
  f0 : (List S30)
  f1 : S35
end Go.Proofs.Ytoonahobmlnflaa.PC
namespace Go.Proofs.Ytoonahobmlnflaa.PC
open Go.RowKit A B C
class Up (W : World) (w : outParam World) : Prop where
  blk : ∀ {g : Nat} {o : Obj}, w.heap[g]? = some o → W.heap[g]? = some o
  bel : ∀ {v : World}, Below v.heap.size v w → Below v.heap.size v W
instance (priority := low) upRefl (w : World) : Up w w := ⟨id, id⟩
instance upAlloc (W w : World) (o : Obj) [h : Up W w] : Up (W.alloc o) w := ⟨fun e => zM (h.blk e) o, fun b => zY (h.bel b) o⟩
instance upDrew (W w : World) [h : Up W w] : Up W.drew w := ⟨fun e => xJ (h.blk e), fun b => zQ (h.bel b)⟩
instance upDrewN (W w : World) (n : Nat) [h : Up W w] : Up (W.drewN n) w := ⟨fun e => xE (h.blk e) n, fun b => bdN (h.bel b) n⟩
theorem ub {W w : World} [h : Up W w] {g : Nat} {o : Obj} (e : w.heap[g]? = some o) : W.heap[g]? = some o := h.blk e
theorem ul {W w : World} [h : Up W w] {v : World} (b : Below v.heap.size v w) : Below v.heap.size v W := h.bel b
theorem gd {α : Type} {c : Prop} [Decidable c] {x : Option α} {r : α} (h : (if c then x else none) = some r) : decide c = true ∧ x = some r := by
  by_cases e : c
  · rw [if_pos e] at h; exact ⟨decide_eq_true e, h⟩
  · rw [if_neg e] at h; cases h
theorem gp {α : Type} {c : Prop} [Decidable c] {x : Option α} {r : α} (h : (if c then x else none) = some r) : c ∧ x = some r := by
  by_cases e : c
  · rw [if_pos e] at h; exact ⟨e, h⟩
  · rw [if_neg e] at h; cases h
theorem bc {w W : World} (h : Below w.heap.size w W) {a : Addr} {v : Value} (e : w.cell? a = some v) : W.cell? a = some v := (h.cell (World.block_lt_of_cell? w _ e)).trans e
theorem dA {α : Type} {x : α} {w : World} {n m : Nat} : x = x ∧ ∃ k, (w.drewN n).drewN m = w.drewN k := ⟨rfl, _, World.drewN_drewN _ _ _⟩
theorem dB {α : Type} {x : α} {w : World} {a b m : Nat} : x = x ∧ ∃ k, (w.drewN (a + b)).drewN m = w.drewN (a + k) := ⟨rfl, _, Eq.trans (World.drewN_drewN _ _ _) (congrArg (World.drewN _) (Nat.add_assoc _ _ _))⟩
theorem bk {w W w1 : World} [h : Up W w] {g : Nat} {o : Obj} (e : zT (w.heap[g]? = some o)) (hb : Below W.heap.size W w1) : zT (w1.heap[g]? = some o) := aq (bb_ (ub e.out) hb)
theorem bT {w : World} {g : Nat} {c : Array Value} {t : TypeId} (h : w.heap[g]? = some (.cells c t (0, 0))) (i : Nat) (v : Value) (hv : c[i]? = some v := by rfl) : w.cell? ⟨g, i, none⟩ = some v := (bq h i).trans hv
class Up1 (W : World) (w : outParam World) : Prop where
  up : Up W w
instance up1Alloc (W w : World) (o : Obj) [h : Up W w] : Up1 (W.alloc o) w := ⟨inferInstance⟩
instance up1Drew (W w : World) [h : Up W w] : Up1 W.drew w := ⟨inferInstance⟩
instance up1DrewN (W w : World) (n : Nat) [h : Up W w] : Up1 (W.drewN n) w := ⟨inferInstance⟩
end Go.Proofs.Ytoonahobmlnflaa.PC
namespace Go.Proofs.Ytoonahobmlnflaa.PC
open Go.RowKit A B C
attribute [local go_sem] yC yE xO xP yK yL yD yF
mutual
def zD.j0 : Nat → Int → Bool → Option (Int)
  | 0, _, _ => none
  | k + 1, x0, x3 => if x3 = true then (some 0) else (if x0 ≥ 3 then (zD.j1 k x0 (decide (x0 ≤ 6))) else (zD.j1 k x0 false))
def zD.j1 : Nat → Int → Bool → Option (Int)
  | 0, _, _ => none
  | k + 1, x0, x10 => if x10 = true then (some 2) else (if x0 ≥ 7 then (if x0 ≤ 14 then (some 1) else (some (-1))) else (some (-1)))
end
def zD.f (k : Nat) (a0 : Int) : Option (Int) := if a0 = 1 then (zD.j0 k a0 (a0 == 1)) else (if a0 = 2 then (zD.j0 k a0 (a0 == 2)) else (zD.j0 k a0 (a0 == 15)))
theorem zD.calls (k : Nat) (a0 : Int) (r : Int) (w : World) (h : zD.f k a0 = some r) :
    Calls Try.prog 44 #[.int .i64 a0] w fun e w' => e = .returned (.int .i64 r) ∧ yW w w' := by
 have H := h
 unfold zD.f at H
 clear h
 have HC2 := aq H
 clear H
 go_enter Try.func44, Try.ntmps44
 go_upto_if 3 with (fail)
 go_cut [3] (fun v3 wc => ∃ (kq : Nat) (x3_1 : Bool), v3 = .bool x3_1 ∧ zT (zD.j0 kq a0 x3_1 = some r) ∧ zT (kq ≤ k) ∧ yW w wc)
 case first =>
  have H := HC2.out
  clear HC2
  by_cases c3 : a0 = 1
  case pos =>
   rw [if_pos c3] at H
   have c3b0 : (a0 == 1) = true := beq_iff_eq.mpr c3
   have c3b1 : (a0 != 1) = false := bne_eq_false_iff_eq.mpr c3
   clear c3
   (first | rw [c3b0] | (simp only [iw, jw]; rw [c3b0]) | skip)
   have H' := aq H
   clear H
   go_wp2
   go_meet
   case rel => exact ⟨_, ((a0 == 1)), (by first | rfl | (simp; done) | (simp [*]; done)), H', ⟨by first | omega | exact Nat.le_refl _⟩, by repeat (first | exact yW.refl _ | apply yW.step)⟩
  rw [if_neg c3] at H
  have c3b0 : (a0 == 1) = false := beq_eq_false_iff_ne.mpr c3
  have c3b1 : (a0 != 1) = true := bne_iff_ne.mpr c3
  (first | rw [c3b0] | (simp only [iw, jw]; rw [c3b0]) | skip)
  by_cases c4 : a0 = 2
  case neg =>
   rw [if_neg c4] at H
   have c4b0 : (a0 == 2) = false := beq_eq_false_iff_ne.mpr c4
   have c4b1 : (a0 != 2) = true := bne_iff_ne.mpr c4
   have H' := aq H
   clear H
   go_wp2
   go_meet
   case rel => exact ⟨_, ((a0 == 15)), (by first | rfl | (simp; done) | (simp [*]; done)), H', ⟨by first | omega | exact Nat.le_refl _⟩, by repeat (first | exact yW.refl _ | apply yW.step)⟩
  rw [if_pos c4] at H
  have c4b0 : (a0 == 2) = true := beq_iff_eq.mpr c4
  have c4b1 : (a0 != 2) = false := bne_eq_false_iff_eq.mpr c4
  clear c4
  have H' := aq H
  clear H
  go_wp2
  go_meet
  case rel => exact ⟨_, ((a0 == 2)), (by first | rfl | (simp; done) | (simp [*]; done)), H', ⟨by first | omega | exact Nat.le_refl _⟩, by repeat (first | exact yW.refl _ | apply yW.step)⟩
 case rest =>
  clear HC2
  try clear p2
  try clear c3
  try clear c3b0
  try clear c3b1
  try clear c4
  try clear c4b0
  try clear c4b1
  obtain ⟨kq, x3_1, rfl, HA, HJ1, ⟨mc1, rfl⟩⟩ := hcut
  cases kq with
  | zero => exact absurd HA.out (by simp [zD.j0])
  | succ kj1 =>
   have H := HA.out
   clear HA
   simp only [zD.j0] at H
   by_cases c5 : x3_1 = true
   case pos =>
    subst c5
    have H1 : (some 0) = some r := by rw [if_pos rfl] at H; exact H
    clear H
    have H := H1
    clear H1
    obtain rfl := Option.some.inj H
    go_wp2
    go_ret
    exact ⟨by first | rfl | (simp; done) | (simp [*]; done), by repeat (first | exact yW.refl _ | apply yW.step)⟩
   replace c5 := Bool.eq_false_iff.mpr c5
   subst c5
   have H1 : (if a0 ≥ 3 then (zD.j1 kj1 a0 (decide (a0 ≤ 6))) else (zD.j1 kj1 a0 false)) = some r := by rw [if_neg (show ¬ (false = true) by decide)] at H; exact H
   clear H
   have H := H1
   clear H1
   have HC6 := aq H
   clear H
   go_upto_region 5 with (fail)
   go_cut [10] (fun v10 wc => ∃ (kq : Nat) (x10_5 : Bool), v10 = .bool x10_5 ∧ zT (zD.j1 kq a0 x10_5 = some r) ∧ zT (kq ≤ kj1) ∧ yW w wc)
   case first =>
    have H := HC6.out
    clear HC6
    by_cases c7 : a0 ≥ 3
    case neg =>
     rw [if_neg c7] at H
     have c7b0 : decide (3 ≤ a0) = false := decide_eq_false c7
     clear c7
     (first | rw [c7b0] | (simp only [iw, jw]; rw [c7b0]) | skip)
     have H' := aq H
     clear H
     go_wp2
     go_meet
     case rel => exact ⟨_, (false), (by first | rfl | (simp; done) | (simp [*]; done)), H', ⟨by have := HJ1.out; first | omega | exact Nat.le_refl _⟩, by repeat (first | exact yW.refl _ | apply yW.step)⟩
    rw [if_pos c7] at H
    have c7b0 : decide (3 ≤ a0) = true := decide_eq_true c7
    clear c7
    (first | rw [c7b0] | (simp only [iw, jw]; rw [c7b0]) | skip)
    have H' := aq H
    clear H
    go_wp2
    go_meet
    case rel => exact ⟨_, (decide (a0 ≤ 6)), (by first | rfl | (simp; done) | (simp [*]; done)), H', ⟨by have := HJ1.out; first | omega | exact Nat.le_refl _⟩, by repeat (first | exact yW.refl _ | apply yW.step)⟩
   case rest =>
    clear HC6
    try clear c1
    try clear p2
    try clear c3
    try clear c3b0
    try clear c3b1
    try clear c4
    try clear c4b0
    try clear c4b1
    try clear c5
    try clear c7
    try clear c7b0
    try clear p2
    obtain ⟨kq, x10_5, rfl, HA, HJ5, ⟨mc5, rfl⟩⟩ := hcut
    cases kq with
    | zero => exact absurd HA.out (by simp [zD.j1])
    | succ kj5 =>
     have H := HA.out
     clear HA
     simp only [zD.j1] at H
     by_cases c8 : x10_5 = true
     case pos =>
      subst c8
      have H1 : (some 2) = some r := by rw [if_pos rfl] at H; exact H
      clear H
      have H := H1
      clear H1
      obtain rfl := Option.some.inj H
      go_wp2
      go_ret
      exact ⟨by first | rfl | (simp; done) | (simp [*]; done), by repeat (first | exact yW.refl _ | apply yW.step)⟩
     replace c8 := Bool.eq_false_iff.mpr c8
     subst c8
     have H1 : (if a0 ≥ 7 then (if a0 ≤ 14 then (some 1) else (some (-1))) else (some (-1))) = some r := by rw [if_neg (show ¬ (false = true) by decide)] at H; exact H
     clear H
     have H := H1
     clear H1
     by_cases c9 : a0 ≥ 7
     case neg =>
      rw [if_neg c9] at H
      have c9b0 : decide (7 ≤ a0) = false := decide_eq_false c9
      clear c9
      obtain rfl := Option.some.inj H
      go_wp2
      go_ret
      exact ⟨by first | rfl | (simp; done) | (simp [*]; done), by repeat (first | exact yW.refl _ | apply yW.step)⟩
     rw [if_pos c9] at H
     have c9b0 : decide (7 ≤ a0) = true := decide_eq_true c9
     clear c9
     by_cases c10 : a0 ≤ 14
     case pos =>
      rw [if_pos c10] at H
      have c10b0 : decide (a0 ≤ 14) = true := decide_eq_true c10
      clear c10
      obtain rfl := Option.some.inj H
      go_wp2
      go_ret
      exact ⟨by first | rfl | (simp; done) | (simp [*]; done), by repeat (first | exact yW.refl _ | apply yW.step)⟩
     rw [if_neg c10] at H
     have c10b0 : decide (a0 ≤ 14) = false := decide_eq_false c10
     clear c10
     obtain rfl := Option.some.inj H
     go_wp2
     go_ret
     exact ⟨by first | rfl | (simp; done) | (simp [*]; done), by repeat (first | exact yW.refl _ | apply yW.step)⟩
mutual
def yI.j0 : Nat → Int → Bool → Option (Int)
  | 0, _, _ => none
  | k + 1, x0, x3 => if x3 = true then (some 0) else (if x0 ≥ 3 then (yI.j1 k x0 (decide (x0 ≤ 6))) else (yI.j1 k x0 false))
def yI.j1 : Nat → Int → Bool → Option (Int)
  | 0, _, _ => none
  | k + 1, x0, x10 => if x10 = true then (some 2) else (if x0 ≥ 7 then (if x0 ≤ 14 then (some 1) else (some (-1))) else (some (-1)))
end
def yI.f (k : Nat) (a0 : Int) : Option (Int) := if a0 = 1 then (yI.j0 k a0 (a0 == 1)) else (if a0 = 2 then (yI.j0 k a0 (a0 == 2)) else (yI.j0 k a0 (a0 == 15)))
theorem yI.calls (k : Nat) (a0 : Int) (r : Int) (w : World) (h : yI.f k a0 = some r) :
    Calls Try.prog 93 #[.int .i64 a0] w fun e w' => e = .returned (.int .i64 r) ∧ yW w w' := by
 have H := h
 unfold yI.f at H
 clear h
 have HC2 := aq H
 clear H
 go_enter Try.func93, Try.ntmps93
 go_upto_if 3 with (fail)
 go_cut [3] (fun v3 wc => ∃ (kq : Nat) (x3_1 : Bool), v3 = .bool x3_1 ∧ zT (yI.j0 kq a0 x3_1 = some r) ∧ zT (kq ≤ k) ∧ yW w wc)
 case first =>
  have H := HC2.out
  clear HC2
  by_cases c3 : a0 = 1
  case pos =>
   rw [if_pos c3] at H
   have c3b0 : (a0 == 1) = true := beq_iff_eq.mpr c3
   have c3b1 : (a0 != 1) = false := bne_eq_false_iff_eq.mpr c3
   clear c3
   (first | rw [c3b0] | (simp only [iw, jw]; rw [c3b0]) | skip)
   have H' := aq H
   clear H
   go_wp2
   go_meet
   case rel => exact ⟨_, ((a0 == 1)), (by first | rfl | (simp; done) | (simp [*]; done)), H', ⟨by first | omega | exact Nat.le_refl _⟩, by repeat (first | exact yW.refl _ | apply yW.step)⟩
  rw [if_neg c3] at H
  have c3b0 : (a0 == 1) = false := beq_eq_false_iff_ne.mpr c3
  have c3b1 : (a0 != 1) = true := bne_iff_ne.mpr c3
  (first | rw [c3b0] | (simp only [iw, jw]; rw [c3b0]) | skip)
  by_cases c4 : a0 = 2
  case neg =>
   rw [if_neg c4] at H
   have c4b0 : (a0 == 2) = false := beq_eq_false_iff_ne.mpr c4
   have c4b1 : (a0 != 2) = true := bne_iff_ne.mpr c4
   have H' := aq H
   clear H
   go_wp2
   go_meet
   case rel => exact ⟨_, ((a0 == 15)), (by first | rfl | (simp; done) | (simp [*]; done)), H', ⟨by first | omega | exact Nat.le_refl _⟩, by repeat (first | exact yW.refl _ | apply yW.step)⟩
  rw [if_pos c4] at H
  have c4b0 : (a0 == 2) = true := beq_iff_eq.mpr c4
  have c4b1 : (a0 != 2) = false := bne_eq_false_iff_eq.mpr c4
  clear c4
  have H' := aq H
  clear H
  go_wp2
  go_meet
  case rel => exact ⟨_, ((a0 == 2)), (by first | rfl | (simp; done) | (simp [*]; done)), H', ⟨by first | omega | exact Nat.le_refl _⟩, by repeat (first | exact yW.refl _ | apply yW.step)⟩
 case rest =>
  clear HC2
  try clear p2
  try clear c3
  try clear c3b0
  try clear c3b1
  try clear c4
  try clear c4b0
  try clear c4b1
  obtain ⟨kq, x3_1, rfl, HA, HJ1, ⟨mc1, rfl⟩⟩ := hcut
  cases kq with
  | zero => exact absurd HA.out (by simp [yI.j0])
  | succ kj1 =>
   have H := HA.out
   clear HA
   simp only [yI.j0] at H
   by_cases c5 : x3_1 = true
   case pos =>
    subst c5
    have H1 : (some 0) = some r := by rw [if_pos rfl] at H; exact H
    clear H
    have H := H1
    clear H1
    obtain rfl := Option.some.inj H
    go_wp2
    go_ret
    exact ⟨by first | rfl | (simp; done) | (simp [*]; done), by repeat (first | exact yW.refl _ | apply yW.step)⟩
   replace c5 := Bool.eq_false_iff.mpr c5
   subst c5
   have H1 : (if a0 ≥ 3 then (yI.j1 kj1 a0 (decide (a0 ≤ 6))) else (yI.j1 kj1 a0 false)) = some r := by rw [if_neg (show ¬ (false = true) by decide)] at H; exact H
   clear H
   have H := H1
   clear H1
   have HC6 := aq H
   clear H
   go_upto_region 5 with (fail)
   go_cut [10] (fun v10 wc => ∃ (kq : Nat) (x10_5 : Bool), v10 = .bool x10_5 ∧ zT (yI.j1 kq a0 x10_5 = some r) ∧ zT (kq ≤ kj1) ∧ yW w wc)
   case first =>
    have H := HC6.out
    clear HC6
    by_cases c7 : a0 ≥ 3
    case neg =>
     rw [if_neg c7] at H
     have c7b0 : decide (3 ≤ a0) = false := decide_eq_false c7
     clear c7
     (first | rw [c7b0] | (simp only [iw, jw]; rw [c7b0]) | skip)
     have H' := aq H
     clear H
     go_wp2
     go_meet
     case rel => exact ⟨_, (false), (by first | rfl | (simp; done) | (simp [*]; done)), H', ⟨by have := HJ1.out; first | omega | exact Nat.le_refl _⟩, by repeat (first | exact yW.refl _ | apply yW.step)⟩
    rw [if_pos c7] at H
    have c7b0 : decide (3 ≤ a0) = true := decide_eq_true c7
    clear c7
    (first | rw [c7b0] | (simp only [iw, jw]; rw [c7b0]) | skip)
    have H' := aq H
    clear H
    go_wp2
    go_meet
    case rel => exact ⟨_, (decide (a0 ≤ 6)), (by first | rfl | (simp; done) | (simp [*]; done)), H', ⟨by have := HJ1.out; first | omega | exact Nat.le_refl _⟩, by repeat (first | exact yW.refl _ | apply yW.step)⟩
   case rest =>
    clear HC6
    try clear c1
    try clear p2
    try clear c3
    try clear c3b0
    try clear c3b1
    try clear c4
    try clear c4b0
    try clear c4b1
    try clear c5
    try clear c7
    try clear c7b0
    try clear p2
    obtain ⟨kq, x10_5, rfl, HA, HJ5, ⟨mc5, rfl⟩⟩ := hcut
    cases kq with
    | zero => exact absurd HA.out (by simp [yI.j1])
    | succ kj5 =>
     have H := HA.out
     clear HA
     simp only [yI.j1] at H
     by_cases c8 : x10_5 = true
     case pos =>
      subst c8
      have H1 : (some 2) = some r := by rw [if_pos rfl] at H; exact H
      clear H
      have H := H1
      clear H1
      obtain rfl := Option.some.inj H
      go_wp2
      go_ret
      exact ⟨by first | rfl | (simp; done) | (simp [*]; done), by repeat (first | exact yW.refl _ | apply yW.step)⟩
     replace c8 := Bool.eq_false_iff.mpr c8
     subst c8
     have H1 : (if a0 ≥ 7 then (if a0 ≤ 14 then (some 1) else (some (-1))) else (some (-1))) = some r := by rw [if_neg (show ¬ (false = true) by decide)] at H; exact H
     clear H
     have H := H1
     clear H1
     by_cases c9 : a0 ≥ 7
     case neg =>
      rw [if_neg c9] at H
      have c9b0 : decide (7 ≤ a0) = false := decide_eq_false c9
      clear c9
      obtain rfl := Option.some.inj H
      go_wp2
      go_ret
      exact ⟨by first | rfl | (simp; done) | (simp [*]; done), by repeat (first | exact yW.refl _ | apply yW.step)⟩
     rw [if_pos c9] at H
     have c9b0 : decide (7 ≤ a0) = true := decide_eq_true c9
     clear c9
     by_cases c10 : a0 ≤ 14
     case pos =>
      rw [if_pos c10] at H
      have c10b0 : decide (a0 ≤ 14) = true := decide_eq_true c10
      clear c10
      obtain rfl := Option.some.inj H
      go_wp2
      go_ret
      exact ⟨by first | rfl | (simp; done) | (simp [*]; done), by repeat (first | exact yW.refl _ | apply yW.step)⟩
     rw [if_neg c10] at H
     have c10b0 : decide (a0 ≤ 14) = false := decide_eq_false c10
     clear c10
     obtain rfl := Option.some.inj H
     go_wp2
     go_ret
     exact ⟨by first | rfl | (simp; done) | (simp [*]; done), by repeat (first | exact yW.refl _ | apply yW.step)⟩
def zE.l0 : Nat → Int → Int → Option (Int)
  | 0, _, _ => none
  | k + 1, x0, x1 => if x1 > 0 then (if x1 = 0 then (none) else (zE.l0 k x1 (Int.tmod x0 x1))) else (some x0)
def zE.f (k : Nat) (a0 : Int) (a1 : Int) : Option (Int) := zE.l0 k a0 a1
theorem zE.calls (k : Nat) (a0 : Int) (a1 : Int) (r : Int) (w : World) (h : zE.f k a0 a1 = some r) :
    Calls Try.prog 87 #[.int .u64 a0, .int .u64 a1] w fun e w' => e = .returned (.int .u64 r) ∧ yW w w' := by
 have H := h
 unfold zE.f at H
 clear h
 have H' := aq H
 clear H
 go_enter Try.func87, Try.ntmps87
 go_wp2
 repeat (go_quiet (fail); try go_wp2)
 go_loopg [0, 1] k (fun kq v0 v1 w' => ∃ (x0_1 : Int) (x1_1 : Int), v0 = .int .u64 x0_1 ∧ v1 = .int .u64 x1_1 ∧ zT (zE.l0 kq x0_1 x1_1 = some r) ∧ zT (kq ≤ k) ∧ yW w w')
 case atStart => exact ⟨(a0), (a1), (by first | rfl | (simp; done) | (simp [*]; done)), (by first | rfl | (simp; done) | (simp [*]; done)), H', ⟨Nat.le_refl _⟩, by repeat (first | exact yW.refl _ | apply yW.step)⟩
 case round =>
  clear H'
  try clear p2
  obtain ⟨x0_1, x1_1, rfl, rfl, HA, HK1, ⟨m1, rfl⟩⟩ := hrel
  cases gk with
  | zero => exact absurd HA.out (by simp [zE.l0])
  | succ k1 =>
   have H := HA.out
   clear HA
   simp only [zE.l0] at H
   by_cases c3 : x1_1 > 0
   case neg =>
    rw [if_neg c3] at H
    have c3b0 : decide (0 < x1_1) = false := decide_eq_false c3
    clear c3
    obtain rfl := Option.some.inj H
    go_wp2
    repeat (go_quiet (fail); try go_wp2)
    go_ret
    exact ⟨by first | rfl | (simp; done) | (simp [*]; done), by repeat (first | exact yW.refl _ | apply yW.step)⟩
   rw [if_pos c3] at H
   have c3b0 : decide (0 < x1_1) = true := decide_eq_true c3
   clear c3
   by_cases c4 : x1_1 = 0
   case pos => rw [if_pos c4] at H; exact absurd H (by simp)
   rw [if_neg c4] at H
   have c4b0 : (x1_1 == 0) = false := beq_eq_false_iff_ne.mpr c4
   have c4b1 : (x1_1 != 0) = true := bne_iff_ne.mpr c4
   have H' := aq H
   clear H
   go_wp2
   repeat (go_quiet (fail); try go_wp2)
   (first | go_roundg k1 | (refine Handed.intro k1 ?measure ?_; rotate_left; go_step; (repeat apply Exists.intro); (refine ⟨?rel, ?fr_⟩); (case fr_ => (simp only [add_plain]; rfl))))
   case measure => have := HK1.out; omega
   case rel => exact ⟨(x1_1), (Int.tmod x0_1 x1_1), (by first | rfl | (simp; done) | (simp [*]; done)), (by first | rfl | (simp; done) | (simp [*]; done)), H', ⟨by have := HK1.out; omega⟩, by repeat (first | exact yW.refl _ | apply yW.step)⟩
def zS.f (a0 : Int) : Option (Int) := if a0 < 0 then (some (IntKind.u64.wrap (-(IntKind.u64.wrap (a0))))) else (some (IntKind.u64.wrap (a0)))
theorem zS.calls (a0 : Int) (r : Int) (w : World) (h : zS.f a0 = some r) :
    Calls Try.prog 88 #[.int .i64 a0] w fun e w' => e = .returned (.int .u64 r) ∧ yW w w' := by
 have H := h
 unfold zS.f at H
 clear h
 by_cases c2 : a0 < 0
 case pos =>
  rw [if_pos c2] at H
  have c2b0 : decide (a0 < 0) = true := decide_eq_true c2
  clear c2
  obtain rfl := Option.some.inj H
  go_enter Try.func88, Try.ntmps88
  go_wp2
  go_ret
  exact ⟨by first | rfl | (simp; done) | (simp [*]; done), by repeat (first | exact yW.refl _ | apply yW.step)⟩
 rw [if_neg c2] at H
 have c2b0 : decide (a0 < 0) = false := decide_eq_false c2
 clear c2
 obtain rfl := Option.some.inj H
 go_enter Try.func88, Try.ntmps88
 go_wp2
 go_ret
 exact ⟨by first | rfl | (simp; done) | (simp [*]; done), by repeat (first | exact yW.refl _ | apply yW.step)⟩
end Go.Proofs.Ytoonahobmlnflaa.PC
