/- Two lists held against each other, in plain Lean; who reaches whom under another matching, and with an edge more. -/
import Derived.Test.YtlaneafplmbcnaaPOx53
import Derived.Test.YtlaneafplmbcnaaBp
namespace Go.Proofs.Ytlaneafplmbcnaa.PO
open Go.RowKit Go.Proofs.YtlaneafplmbcnaaW.PrintWords Go.Proofs.YtlaneafplmbcnaaW.PrintLast Go.Proofs.YtlaneafplmbcnaaW.PrintMore
set_option linter.unusedVariables false
set_option linter.unusedSimpArgs false
theorem IntsB_l0 (l l' : List Int) (he : l.length = l'.length) (hn : l.length ≤ 64) : ∀ (d i : Nat), i + d = l.length → Ev (fun k => orreryref17_Ints.l0 k l l' (l.length : Int) (i : Int)) (decide (l.drop i = l'.drop i)) := by
  intro d
  induction d with
  | zero =>
    intro i hi
    rw [List.drop_eq_nil_of_le (by omega), List.drop_eq_nil_of_le (by omega), decide_eq_true rfl]
    refine Ev.step (f := fun _ => some true) (fun k => ?_) (Ev.now _)
    simp only [orreryref17_Ints.l0]; rw [if_neg (by omega)]
  | succ d ih =>
    intro i hi
    have hw : wrap64 ((i : Int) + 1) = ((i + 1 : Nat) : Int) := by rw [w64 (by omega) (by omega)]; omega
    have h1 := drop_rdI (show i < l.length by omega)
    have h2 := drop_rdI (show i < l'.length by omega)
    rw [h1, h2]
    by_cases c : rd l (i : Int) = rd l' (i : Int)
    · have e : decide (rd l (i : Int) :: l.drop (i + 1) = rd l' (i : Int) :: l'.drop (i + 1)) = decide (l.drop (i + 1) = l'.drop (i + 1)) := by
        rw [decide_eq_decide, c]; simp
      rw [e]
      refine Ev.step (fun k => ?_) (ih (i + 1) (by omega))
      simp only [orreryref17_Ints.l0]
      rw [if_pos (by omega), if_pos (by omega), if_pos (by omega), if_pos (by omega), if_pos c, hw]
    · rw [decide_eq_false (fun h => c (List.cons.inj h).1)]
      refine Ev.step (f := fun _ => some false) (fun k => ?_) (Ev.now _)
      simp only [orreryref17_Ints.l0]
      rw [if_pos (by omega), if_pos (by omega), if_pos (by omega), if_pos (by omega), if_neg c]
theorem Ev_IntsB (l l' : List Int) (hn : l.length ≤ 64) : Ev (fun k => orreryref17_Ints.f k l l') (decide (l = l')) := by
  unfold orreryref17_Ints.f
  by_cases c : l.length = l'.length
  · simp only [if_pos (show (l.length : Int) = (l'.length : Int) by omega)]
    exact IntsB_l0 l l' c hn l.length 0 (by omega)
  · simp only [if_neg (show ¬ (l.length : Int) = (l'.length : Int) by omega)]
    rw [decide_eq_false (fun h => c (by rw [h]))]
    exact Ev.now _
theorem drop_T30 {x : List S30} {i : Nat} (h : i < x.length) : x.drop i = rd_T30 x (i : Int) :: x.drop (i + 1) := by
  rw [rd_T30_getE h, List.drop_eq_getElem_cons h]

section
variable {n : Nat} {l : List S33} {t t' : List Int} (T : Whole n l t) (T' : Whole n l t')
include T T'
theorem pi_rg {e : Int} (e0 : 0 ≤ e) (e1 : e < (n : Int)) : 0 ≤ rd (byL n t) (rd t' e) ∧ rd (byL n t) (rd t' e) < (n : Int) ∧ rd t (rd (byL n t) (rd t' e)) = rd t' e := by
  have h := T'.rg e e0 e1
  exact T.told_by h.1 h.2.1
theorem pi_to {e : Int} (e0 : 0 ≤ e) (e1 : e < (n : Int)) : Rch (needs n l t) e (rd (byL n t) (rd t' e)) := by
  have h := T'.rg e e0 e1
  obtain ⟨ed, hed, h1, h2, _⟩ := wt_att h.2.2
  by_cases c : rd (byL n t) (rd t' e) = e
  · rw [c]; exact .refl e
  · exact .one ((T.needs_mem e0).2 ⟨ed, hed, h1, by rw [h2], c⟩)
theorem pi_inj {e f : Int} (e0 : 0 ≤ e) (e1 : e < (n : Int)) (f0 : 0 ≤ f) (f1 : f < (n : Int)) (h : rd (byL n t) (rd t' e) = rd (byL n t) (rd t' f)) : e = f := by
  have h1 := (pi_rg T T' e0 e1).2.2
  have h2 := (pi_rg T T' f0 f1).2.2
  rw [h, h2] at h1
  rcases Int.lt_trichotomy e f with q | q | q
  · exact absurd h1.symm (T'.inj e f e0 q f1)
  · exact q
  · exact absurd h1 (T'.inj f e f0 q e1)
theorem pi_back {e : Int} (e0 : 0 ≤ e) (e1 : e < (n : Int)) : Rch (needs n l t) (rd (byL n t) (rd t' e)) e := by
  classical
  have hp := pi_rg T T' e0 e1
  have mr : ∀ x : Int, x ∈ ((List.range n).map (fun k : Nat => (k : Int))).filter (fun x => decide (Rch (needs n l t) (rd (byL n t) (rd t' e)) x)) ↔ (0 ≤ x ∧ x < (n : Int)) ∧ Rch (needs n l t) (rd (byL n t) (rd t' e)) x := fun x => by
    rw [List.mem_filter, decide_eq_true_iff]
    constructor
    · rintro ⟨h, h'⟩
      obtain ⟨y, hy, rfl⟩ := List.mem_map.1 h
      have := List.mem_range.1 hy
      exact ⟨by omega, h'⟩
    · rintro ⟨⟨a, b⟩, c⟩
      exact ⟨List.mem_map.2 ⟨x.toNat, List.mem_range.2 (by omega), by omega⟩, c⟩
  have nd : (((List.range n).map (fun k : Nat => (k : Int))).filter (fun x => decide (Rch (needs n l t) (rd (byL n t) (rd t' e)) x))).Nodup := by
    refine List.Pairwise.filter _ ?_
    rw [List.pairwise_map]
    exact (List.nodup_range (n := n)).imp (fun {a b} h e => h (by omega))
  generalize ((List.range n).map (fun k : Nat => (k : Int))).filter (fun x => decide (Rch (needs n l t) (rd (byL n t) (rd t' e)) x)) = S at mr nd
  have mnd : (S.map (fun x => rd (byL n t) (rd t' x))).Nodup := by
    unfold List.Nodup
    rw [List.pairwise_map]
    refine nd.imp_of_mem (fun {a b} ha hb h q => h ?_)
    have h1 := (mr a).1 ha
    have h2 := (mr b).1 hb
    exact pi_inj T T' h1.1.1 h1.1.2 h2.1.1 h2.1.2 q
  have msub : ∀ y ∈ S.map (fun x => rd (byL n t) (rd t' x)), y ∈ S := fun y hy => by
    obtain ⟨x, hx, rfl⟩ := List.mem_map.1 hy
    have h1 := (mr x).1 hx
    have h2 := pi_rg T T' h1.1.1 h1.1.2
    exact (mr _).2 ⟨⟨h2.1, h2.2.1⟩, h1.2.trans (pi_to T T' h1.1.1 h1.1.2)⟩
  have hin : rd (byL n t) (rd t' e) ∈ S.map (fun x => rd (byL n t) (rd t' x)) := by
    by_cases c : rd (byL n t) (rd t' e) ∈ S.map (fun x => rd (byL n t) (rd t' x))
    · exact c
    · exfalso
      have hm : rd (byL n t) (rd t' e) ∈ S := (mr _).2 ⟨⟨hp.1, hp.2.1⟩, .refl _⟩
      have := nodup_len (rd (byL n t) (rd t' e) :: S.map (fun x => rd (byL n t) (rd t' x))) S (List.nodup_cons.2 ⟨c, mnd⟩) (fun y hy => by
        rcases List.mem_cons.1 hy with rfl | hy
        · exact hm
        · exact msub y hy)
      simp at this
      omega
  obtain ⟨y, hy, hq⟩ := List.mem_map.1 hin
  have h1 := (mr y).1 hy
  have := pi_inj T T' h1.1.1 h1.1.2 e0 e1 hq
  rw [this] at h1
  exact h1.2
theorem rch_same {i j : Int} (i0 : 0 ≤ i) (i1 : i < (n : Int)) (h : Rch (needs n l t') i j) : Rch (needs n l t) i j := by
  have := Rch.keeps (P := fun x => (0 ≤ x ∧ x < (n : Int)) ∧ Rch (needs n l t) i x) (fun x hx k' hk => by
    have hkr := T'.nb x k' hk
    refine ⟨hkr, hx.2.trans ?_⟩
    obtain ⟨ed, hed, h1, h2, h3⟩ := (T'.needs_mem hx.1.1).1 hk
    have he := T.hE ed hed
    have hb' := T'.told_by he.2.2.1 he.2.2.2.1
    have hb := T.told_by he.2.2.1 he.2.2.2.1
    have hback := pi_back T T' hkr.1 hkr.2
    rw [← h2, hb'.2.2] at hback
    rw [← h2]
    refine Rch.trans ?_ hback
    by_cases c : rd (byL n t) ed.f1 = x
    · rw [c]; exact .refl x
    · exact .one ((T.needs_mem hx.1.1).2 ⟨ed, hed, h1, rfl, c⟩)) h ⟨⟨i0, i1⟩, .refl i⟩
  exact this.2
end
theorem map_nodup {n : Nat} {l : List S33} {t : List Int} (T : Whole n l t) {b : List Int} (hb : b.Nodup) (hr : ∀ e ∈ b, 0 ≤ e ∧ e < (n : Int)) : (b.map (rd t)).Nodup := by
  unfold List.Nodup
  rw [List.pairwise_map]
  refine hb.imp_of_mem (fun {x y} hx hy h q => ?_)
  have h1 := hr x hx
  have h2 := hr y hy
  rcases Int.lt_trichotomy x y with z | z | z
  · exact T.inj x y h1.1 z h2.2 q
  · exact h z
  · exact T.inj y x h2.1 z h1.2 q.symm
theorem vars_same {n : Nat} {l : List S33} {t t' : List Int} (T : Whole n l t) (T' : Whole n l t') {b : List Int} (hs : IsScc (needs n l t) b) (hr : ∀ e ∈ b, 0 ≤ e ∧ e < (n : Int)) : sortI (b.map (rd t)) = sortI (b.map (rd t')) := by
  have nd : b.Nodup := hs.1.imp (fun {x y} h q => by omega)
  refine rising_eq _ _ (sortI_lt (map_nodup T nd hr)) (sortI_lt (map_nodup T' nd hr)) (fun v => ?_)
  rw [mem_sortI, mem_sortI, List.mem_map, List.mem_map]
  constructor
  · rintro ⟨e, he, rfl⟩
    have h := hr e he
    have hp := pi_rg T' T h.1 h.2
    exact ⟨_, (hs.mem_iff he).2 ⟨rch_same T T' h.1 h.2 (pi_to T' T h.1 h.2), rch_same T T' hp.1 hp.2.1 (pi_back T' T h.1 h.2)⟩, hp.2.2⟩
  · rintro ⟨e, he, rfl⟩
    have h := hr e he
    have hp := pi_rg T T' h.1 h.2
    exact ⟨_, (hs.mem_iff he).2 ⟨pi_to T T' h.1 h.2, pi_back T T' h.1 h.2⟩, hp.2.2⟩
theorem blocks_same {n : Nat} {l : List S33} {t t' : List Int} (T : Whole n l t) (T' : Whole n l t') : (∀ b, b ∈ blocksL n l t ↔ b ∈ blocksL n l t') ∧ (blocksL n l t).length = (blocksL n l t').length :=
  Blks.same T.nb T'.nb (blocks_blks T) (blocks_blks T') (fun i j i0 i1 j0 j1 => ⟨fun h => ⟨rch_same T' T i0 i1 h.1, rch_same T' T j0 j1 h.2⟩, fun h => ⟨rch_same T T' i0 i1 h.1, rch_same T T' j0 j1 h.2⟩⟩) (fun b hs hr => vars_same T T' hs hr)

theorem Whole.more {n : Nat} {l : List S33} {t : List Int} (T : Whole n l t) (h4 : l.length ≤ 4000) {i j : Int} (i0 : 0 ≤ i) (i1 : i < (n : Int)) (j0 : 0 ≤ j) (j1 : j < (n : Int)) : Whole n (l ++ [⟨i, j, 0⟩]) t := by
  have hE : Edges n n (l ++ [⟨i, j, 0⟩]) := fun e he => by
    rcases List.mem_append.1 he with h | h
    · exact T.hE e h
    · rw [List.mem_singleton.1 h]; exact ⟨i0, i1, j0, j1, Int.le_refl _, by simp⟩
  refine ⟨T.hn, by rw [List.length_append, List.length_singleton]; omega, hE, T.len, fun x x0 x1 => ?_, T.inj⟩
  have h := T.rg x x0 x1
  refine ⟨h.1, h.2.1, (any_isE hE _ _).1 ?_⟩
  rw [List.any_append, (any_isE T.hE _ _).2 h.2.2, Bool.true_or]
theorem more_needs {n : Nat} {l : List S33} {t : List Int} (T : Whole n l t) (h4 : l.length ≤ 4000) {i j : Int} (i0 : 0 ≤ i) (i1 : i < (n : Int)) (j0 : 0 ≤ j) (j1 : j < (n : Int)) {x k : Int} (x0 : 0 ≤ x) : k ∈ rd_L3 (needs n (l ++ [⟨i, j, 0⟩]) t) x ↔ k ∈ rd_L3 (needs n l t) x ∨ (x = i ∧ k = rd (byL n t) j ∧ k ≠ x) := by
  rw [(T.more h4 i0 i1 j0 j1).needs_mem x0, T.needs_mem x0]
  constructor
  · rintro ⟨e, he, h1, h2, h3⟩
    rcases List.mem_append.1 he with h | h
    · exact .inl ⟨e, h, h1, h2, h3⟩
    · have := List.mem_singleton.1 h
      subst this
      exact .inr ⟨h1.symm, h2.symm, h3⟩
  · rintro (⟨e, he, h⟩ | ⟨h1, h2, h3⟩)
    · exact ⟨e, List.mem_append.2 (.inl he), h⟩
    · exact ⟨⟨i, j, 0⟩, List.mem_append.2 (.inr (List.mem_singleton.2 rfl)), h1.symm, h2.symm, h3⟩
/-- An edge from a block to one that is not behind it changes no block. -/
theorem blocks_more {n : Nat} {l : List S33} {t : List Int} (T : Whole n l t) (h4 : l.length ≤ 4000) {i j : Int} (i0 : 0 ≤ i) (i1 : i < (n : Int)) (j0 : 0 ≤ j) (j1 : j < (n : Int))
    {p q : Nat} (hp : p < (blocksL n l t).length) (hq : q < (blocksL n l t).length) (hip : i ∈ (blocksL n l t)[p].f0) (hjq : rd (byL n t) j ∈ (blocksL n l t)[q].f0) (hqp : q ≤ p) :
    (∀ b, b ∈ blocksL n l t ↔ b ∈ blocksL n (l ++ [⟨i, j, 0⟩]) t) ∧ (blocksL n l t).length = (blocksL n (l ++ [⟨i, j, 0⟩]) t).length := by
  have T' := T.more h4 i0 i1 j0 j1
  have B := blocks_blks T
  refine Blks.same T.nb T'.nb B (blocks_blks T') (fun u v u0 u1 v0 v1 => ?_) (fun b _ _ => rfl)
  have mono : ∀ {u v : Int}, 0 ≤ u → u < (n : Int) → Rch (needs n l t) u v → Rch (needs n (l ++ [⟨i, j, 0⟩]) t) u v := fun {u v} a b h => by
    have := Rch.keeps (P := fun x => (0 ≤ x ∧ x < (n : Int)) ∧ Rch (needs n (l ++ [⟨i, j, 0⟩]) t) u x) (fun x hx k hk => ⟨T.nb x k hk, hx.2.trans (.one ((more_needs T h4 i0 i1 j0 j1 hx.1.1).2 (.inl hk)))⟩) h ⟨⟨a, b⟩, .refl u⟩
    exact this.2
  have down : ∀ {u v : Int} {c : Nat} (hc : c < (blocksL n l t).length), u ∈ (blocksL n l t)[c].f0 → Rch (needs n (l ++ [⟨i, j, 0⟩]) t) u v → ∃ (d : Nat) (hd : d < (blocksL n l t).length), d ≤ c ∧ v ∈ (blocksL n l t)[d].f0 := fun {u v c} hc hu h => by
    refine Rch.keeps (P := fun x => ∃ (d : Nat) (hd : d < (blocksL n l t).length), d ≤ c ∧ x ∈ (blocksL n l t)[d].f0) (fun x hx k hk => ?_) h ⟨c, hc, Nat.le_refl _, hu⟩
    obtain ⟨d, hd, hdc, hxd⟩ := hx
    have hxr := B.rg _ (List.getElem_mem hd) x hxd
    rcases (more_needs T h4 i0 i1 j0 j1 hxr.1).1 hk with h1 | ⟨h1, h2, _⟩
    · obtain ⟨d', hd', hdd, hk'⟩ := B.ord d hd x hxd k h1
      exact ⟨d', hd', by omega, hk'⟩
    · subst h1
      have := B.one hd hp hxd hip
      subst this
      exact ⟨q, hq, by omega, by rw [h2]; exact hjq⟩
  constructor
  · exact fun h => ⟨mono u0 u1 h.1, mono v0 v1 h.2⟩
  · rintro ⟨h1, h2⟩
    obtain ⟨c, hc, hu⟩ := B.at u0 u1
    obtain ⟨d, hd, hdc, hv⟩ := down hc hu h1
    obtain ⟨c', hc', hcd, hu'⟩ := down hd hv h2
    have e1 := B.one hc hc' hu hu'
    have e2 : d = c := by omega
    subst e2
    exact ((B.scc _ (List.getElem_mem hc)).mem_iff hu).1 hv
end Go.Proofs.Ytlaneafplmbcnaa.PO
