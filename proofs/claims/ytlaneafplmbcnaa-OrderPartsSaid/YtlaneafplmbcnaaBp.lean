/- Several texts of this claim, one behind the other. -/
import Derived.Test.YtlaneafplmbcnaaPOx45
import Derived.Test.YtlaneafplmbcnaaRn
import Derived.Test.YtlaneafplmbcnaaHc
import Derived.Test.YtlaneafplmbcnaaOb
namespace Go.Proofs.Ytlaneafplmbcnaa.PO
open Go.RowKit Go.Proofs.YtlaneafplmbcnaaW.PrintWords Go.Proofs.YtlaneafplmbcnaaW.PrintLast Go.Proofs.YtlaneafplmbcnaaW.PrintMore
set_option linter.unusedVariables false
set_option linter.unusedSimpArgs false
section
variable {n : Nat}
theorem nS_len {B : List Int} {N : List (List Int)} {e : S33} {i : Nat} (h : ∀ j : Int, (rd_L3 N j).length ≤ i) (h0 : 0 ≤ e.f0) (h1 : e.f0 < (N.length : Int)) : ∀ j : Int, (rd_L3 (nS B N e) j).length ≤ i + 1 := fun j => by
  unfold nS
  split
  · have := h j; omega
  · rw [rd_L3_nat, rd_L3_set N e.f0 _ _ h0 h1 (by omega)]
    split
    · rw [List.length_append]; have := h e.f0; simp; omega
    · have := h (j.toNat : Int); omega
theorem OB_l1 (h64 : n ≤ 64) {l : List S33} (hl : l.length ≤ 4096) (hE : Edges n n l) {B : List Int} (hB : InN n B) (told : List Int) (r : List S30 × Int) : ∀ (d i : Nat) (N : List (List Int)), i + d = l.length → NB n N → (∀ j : Int, (rd_L3 N j).length ≤ i) →
    ((order_together.f ((l.drop i).foldl (nS B) N)).bind fun t => (order_ordered.f told ((l.drop i).foldl (nS B) N) t).bind fun t2 => some (t2, (0 : Int))) = some r → Ev (fun k => order_Blocks.l1 k told B N l (l.length : Int) (i : Int)) r := by
  intro d
  induction d with
  | zero =>
    intro i N hi hN hlen H
    rw [List.drop_eq_nil_of_le (by omega)] at H
    refine Ev.step (f := fun _ => some r) (fun k => ?_) (Ev.now _)
    simp only [order_Blocks.l1]
    rw [if_neg (by omega)]
    exact H
  | succ d ih =>
    intro i N hi hN hlen H
    have hmem : rd_T33 l (i : Int) ∈ l := List.mem_of_mem_drop (i := i) (by rw [drop_rd (show i < l.length by omega)]; exact List.mem_cons_self)
    rw [drop_rd (show i < l.length by omega)] at H
    generalize he : rd_T33 l (i : Int) = e at hmem H
    have hb := hE e hmem
    have hb' : 0 ≤ e.f0 ∧ e.f0 < (n : Int) ∧ 0 ≤ e.f1 ∧ e.f1 < (n : Int) := ⟨hb.1, hb.2.1, hb.2.2.1, hb.2.2.2.1⟩
    refine Ev.step (f := fun k => order_Blocks.l1 k told B (nS B N e) l (l.length : Int) ((i + 1 : Nat) : Int)) (fun k => ?_) (ih (i + 1) _ (by omega) (hN.step hB hb').1 (nS_len hlen hb.1 (by rw [hN.1]; exact hb.2.1)) H)
    have hw : wrap64 ((i : Int) + 1) = ((i + 1 : Nat) : Int) := by rw [w64 (by omega) (by omega)]; omega
    have hln := hlen e.f0
    simp only [order_Blocks.l1]
    rw [if_pos (by omega), if_pos (by omega), if_pos (by omega), he, if_pos hb.2.2.1, if_pos (by rw [hB.1]; exact hb.2.2.2.1), hw]
    unfold nS
    by_cases q : rd B e.f1 = e.f0
    · rw [if_pos q, if_pos q]
    · rw [if_neg q, if_neg q, if_pos hb.1, if_pos (by rw [hN.1]; exact hb.2.1), if_pos (by omega)]
theorem OB_l0 (h64 : n ≤ 64) (l : List S33) {told : List Int} (ht : told.length = n) (hr : ∀ j ∈ told, 0 ≤ j ∧ j < (n : Int)) (r : List S30 × Int) : ∀ (d i : Nat) (b : List Int), i + d = n → b.length = n →
    Ev (fun k => order_Blocks.l1 k told (byS (told.drop i) i b) (List.replicate n []) l (l.length : Int) ((0 : Nat) : Int)) r → Ev (fun k => order_Blocks.l0 k (n : Int) l told b told (told.length : Int) (i : Int)) r := by
  intro d
  induction d with
  | zero =>
    intro i b hi hb H
    rw [List.drop_eq_nil_of_le (by omega)] at H
    refine Ev.step (fun k => ?_) H
    simp only [order_Blocks.l0]
    rw [if_neg (by omega), if_pos (by omega), if_pos (by omega), Int.toNat_natCast]
    rfl
  | succ d ih =>
    intro i b hi hb H
    have hmem : rd told (i : Int) ∈ told := List.mem_of_mem_drop (i := i) (by rw [drop_rdI (show i < told.length by omega)]; exact List.mem_cons_self)
    rw [drop_rdI (show i < told.length by omega)] at H
    generalize he : rd told (i : Int) = j at hmem H
    have hj := hr j hmem
    refine Ev.step (f := fun k => order_Blocks.l0 k (n : Int) l told (b.set j.toNat (i : Int)) told (told.length : Int) ((i + 1 : Nat) : Int)) (fun k => ?_) (ih (i + 1) _ (by omega) (by rw [List.length_set]; exact hb) H)
    have hw : wrap64 ((i : Int) + 1) = ((i + 1 : Nat) : Int) := by rw [w64 (by omega) (by omega)]; omega
    simp only [order_Blocks.l0]
    rw [if_pos (by omega), if_pos (by omega), if_pos (by omega), he, if_pos hj.1, if_pos (by rw [hb]; exact hj.2), hw]
end
theorem Whole.mem {n : Nat} {l : List S33} {told : List Int} (T : Whole n l told) : ∀ j ∈ told, 0 ≤ j ∧ j < (n : Int) := fun j hj => by
  obtain ⟨i, hi, rfl⟩ := List.mem_iff_getElem.1 hj
  have := T.rg (i : Int) (by omega) (by rw [← T.len]; omega)
  have e : rd told (i : Int) = told[i] := by simp [rd, List.getD_eq_getElem?_getD, List.getElem?_eq_getElem hi]
  rw [e] at this
  exact ⟨this.1, this.2.1⟩
/-- What the program tells. -/
def blocksL (n : Nat) (l : List S33) (told : List Int) : List S30 := ordL told (needs n l told) (tarjan (needs n l told)).length (List.replicate n false) ((tarjan (needs n l told)).mergeSort hdLe)
theorem Ev_oBlocks {a : Int} {l : List S33} {told : List Int} (h : toldB a l told = true) : Ev (fun k => order_Blocks.f k a l told) (blocksL a.toNat l told, 0) := by
  obtain ⟨ha, T⟩ := toldB_whole h
  have hr := T.mem
  obtain ⟨hNB, _⟩ := needs_in T.hE T.len hr
  obtain ⟨n, rfl⟩ := Int.eq_ofNat_of_zero_le ha
  rw [Int.toNat_natCast] at T hNB hr ⊢
  have hin : inRb (needs n l told) = true := inRb_iff.2 (fun j k hk => by rw [hNB.1]; exact hNB.2 j k hk)
  have h64 := T.hn
  have h1 := OB_l1 h64 T.hl T.hE (by_in T.len hr) told (blocksL n l told, 0) l.length 0 (List.replicate n []) (by omega) (NB.none n) (fun j => by
    unfold rd_L3
    rw [List.getD_eq_getElem?_getD, List.getElem?_replicate]
    split <;> simp) (by
    show ((order_together.f (needs n l told)).bind fun t => (order_ordered.f told (needs n l told) t).bind fun t2 => some (t2, (0 : Int))) = some (blocksL n l told, 0)
    unfold order_together.f
    rw [if_pos ⟨by rw [hNB.1]; exact h64, hin⟩]
    show ((order_ordered.f told (needs n l told) (tarjan (needs n l told))).bind fun t2 => some (t2, (0 : Int))) = some (blocksL n l told, 0)
    unfold order_ordered.f
    rw [if_pos ⟨by rw [hNB.1]; exact T.len, by rw [hNB.1]; exact h64, hin, rfl⟩, hNB.1]
    rfl)
  have h0 := OB_l0 h64 l T.len hr (blocksL n l told, 0) n 0 (List.replicate n 0) (by omega) (by simp) h1
  refine Ev.congr (fun k => ?_) h0
  unfold order_Blocks.f order_right.f
  rw [h]
  simp only [Option.bind_some, if_true, if_pos (show (0 : Int) ≤ (n : Int) by omega), Int.toNat_natCast, if_pos (show n ≤ 35184372088832 by omega)]
  rfl
theorem Ev_oBlocksBad {a : Int} {l : List S33} {told : List Int} (h : toldB a l told = false) : Ev (fun k => order_Blocks.f k a l told) ([], 170) := by
  refine Ev.congr (fun k => ?_) (Ev.now _)
  unfold order_Blocks.f order_right.f
  rw [h]
  rfl
theorem blocksL_ord {n : Nat} {l : List S33} {told : List Int} (T : Whole n l told) : Ord (needs n l told) n told (fun x => rdOf false (List.replicate n false) x = true) (blocksL n l told) := by
  obtain ⟨hNB, _⟩ := needs_in T.hE T.len T.mem
  have hS := tarjan_sccs hNB.2 hNB.1.symm
  refine ordL_ord told hNB.2 _ _ _ (List.length_mergeSort _) (OInv.start hS (List.mergeSort_perm _ _) (List.pairwise_mergeSort (le := hdLe) (fun a b c h1 h2 => ?_) (fun a b => ?_) _))
  · have h1 := of_decide_eq_true h1
    have h2 := of_decide_eq_true h2
    exact decide_eq_true (by omega)
  · show (decide _ || decide _) = true
    rcases Int.le_total (a.headD 0) (b.headD 0) with h | h
    · rw [decide_eq_true h]; rfl
    · rw [decide_eq_true h, Bool.or_true]
/-- Each list of a block is short. -/
theorem Ord.short {N : List (List Int)} {n : Nat} {told : List Int} {th : Int → Prop} {x : List S30} (hN : ∀ j, ∀ k ∈ rd_L3 N j, 0 ≤ k ∧ k < (n : Int)) (h : Ord N n told th x) : ∀ b ∈ x, b.f0.length ≤ n ∧ b.f1.length ≤ n := by
  induction h with
  | done _ => intro b hb; cases hb
  | @step th th' b h rest hn _ _ ih =>
    intro c hc
    rcases List.mem_cons.1 hc with e | e
    · subst e
      have hl : b.length ≤ n := by
        have hm := head_mem hn.hd
        have h1 := tj_nodup_le b ((List.range n).map (fun k : Nat => (k : Int))) (hn.scc.1.imp (fun h e => by omega)) (fun x hx => by
          have := Rch.range hN ((hn.scc.mem_iff hm).1 hx).1 ⟨hn.h0, hn.h1⟩
          exact List.mem_map.2 ⟨x.toNat, List.mem_range.2 (by omega), by omega⟩)
        rw [List.length_map, List.length_range] at h1
        exact h1
      exact ⟨hl, by show (sortI _).length ≤ n; rw [sortI_len, List.length_map]; exact hl⟩
    · exact ih c e
end Go.Proofs.Ytlaneafplmbcnaa.PO

namespace Go.Proofs.Ytlaneafplmbcnaa.PO
open Go.RowKit Go.Proofs.YtlaneafplmbcnaaW.PrintWords Go.Proofs.YtlaneafplmbcnaaW.PrintLast Go.Proofs.YtlaneafplmbcnaaW.PrintMore
set_option linter.unusedVariables false
set_option linter.unusedSimpArgs false

structure BlkI (N : List (List Int)) (n : Nat) (told : List Int) (th : Int → Prop) (x : List S30) : Prop where
  scc : ∀ b ∈ x, IsScc N b.f0
  rg : ∀ b ∈ x, ∀ e ∈ b.f0, 0 ≤ e ∧ e < (n : Int)
  nt : ∀ b ∈ x, ∀ e ∈ b.f0, ¬ th e
  vars : ∀ b ∈ x, b.f1 = sortI (b.f0.map (rd told))
  dis : x.Pairwise (fun a b => ∀ e ∈ a.f0, e ∉ b.f0)
  all : ∀ e : Int, 0 ≤ e → e < (n : Int) → th e ∨ ∃ b ∈ x, e ∈ b.f0
  ord : ∀ (i : Nat) (hi : i < x.length), ∀ e ∈ x[i].f0, ∀ k ∈ rd_L3 N e, th k ∨ ∃ (j : Nat) (hj : j < x.length), j ≤ i ∧ k ∈ x[j].f0
theorem Ord.blk {N : List (List Int)} {n : Nat} {told : List Int} (hN : ∀ j, ∀ k ∈ rd_L3 N j, 0 ≤ k ∧ k < (n : Int)) {th : Int → Prop} {x : List S30} (h : Ord N n told th x) :
    (∀ i j : Int, 0 ≤ i → i < (n : Int) → th i → Rch N i j → Rch N j i → th j) → BlkI N n told th x := by
  induction h with
  | done hd => intro _; exact ⟨fun b hb => (by cases hb), fun b hb => (by cases hb), fun b hb => (by cases hb), fun b hb => (by cases hb), List.Pairwise.nil, fun e e0 e1 => .inl (hd e e0 e1), fun i hi => (by simp at hi)⟩
  | @step th th' b h rest hn ht hr ih =>
    intro sat
    have hm := head_mem hn.hd
    have brg : ∀ e ∈ b, 0 ≤ e ∧ e < (n : Int) := fun e he => ((hn.scc.mem_iff hm).1 he).1.range hN ⟨hn.h0, hn.h1⟩
    have bnt : ∀ e ∈ b, ¬ th e := fun e he hte => hn.nt (sat e h (brg e he).1 (brg e he).2 hte ((hn.scc.mem_iff hm).1 he).2 ((hn.scc.mem_iff hm).1 he).1)
    have I := ih (fun i j i0 i1 hi h1 h2 => by
      have hj := h1.range hN ⟨i0, i1⟩
      rw [ht j hj.1 hj.2]
      rcases (ht i i0 i1).1 hi with h3 | h3
      · exact .inl (sat i j i0 i1 h3 h1 h2)
      · exact .inr ((hn.scc.mem_iff h3).2 ⟨h1, h2⟩))
    refine ⟨fun c hc => ?_, fun c hc => ?_, fun c hc => ?_, fun c hc => ?_, List.pairwise_cons.2 ⟨fun c hc e he hec => ?_, I.dis⟩, fun e e0 e1 => ?_, fun i hi e he k hk => ?_⟩
    · rcases List.mem_cons.1 hc with rfl | hc
      · exact hn.scc
      · exact I.scc c hc
    · rcases List.mem_cons.1 hc with rfl | hc
      · exact brg
      · exact I.rg c hc
    · rcases List.mem_cons.1 hc with rfl | hc
      · exact bnt
      · exact fun e he hte => I.nt c hc e he ((ht e (I.rg c hc e he).1 (I.rg c hc e he).2).2 (.inl hte))
    · rcases List.mem_cons.1 hc with rfl | hc
      · rfl
      · exact I.vars c hc
    · exact I.nt c hc e hec ((ht e (I.rg c hc e hec).1 (I.rg c hc e hec).2).2 (.inr he))
    · rcases I.all e e0 e1 with h1 | ⟨c, hc, h1⟩
      · rcases (ht e e0 e1).1 h1 with h2 | h2
        · exact .inl h2
        · exact .inr ⟨_, List.mem_cons_self, h2⟩
      · exact .inr ⟨c, List.mem_cons_of_mem _ hc, h1⟩
    · cases i with
      | zero =>
        have he : e ∈ b := he
        have h1 : Rch N h k := ((hn.scc.mem_iff hm).1 he).1.trans (.one hk)
        rcases hn.fr k h1 with h2 | h2
        · exact .inl h2
        · exact .inr ⟨0, by simp, Nat.le_refl _, (hn.scc.mem_iff hm).2 ⟨h1, h2⟩⟩
      | succ i =>
        have hkr := hN e k hk
        rcases I.ord i (by simpa using hi) e he k hk with h1 | ⟨j, hj, hji, h1⟩
        · rcases (ht k hkr.1 hkr.2).1 h1 with h2 | h2
          · exact .inl h2
          · exact .inr ⟨0, by simp, Nat.zero_le _, h2⟩
        · exact .inr ⟨j + 1, by simpa using hj, by omega, h1⟩
/-- The blocks of a whole matching. -/
structure Blks (N : List (List Int)) (n : Nat) (told : List Int) (x : List S30) : Prop where
  scc : ∀ b ∈ x, IsScc N b.f0
  rg : ∀ b ∈ x, ∀ e ∈ b.f0, 0 ≤ e ∧ e < (n : Int)
  vars : ∀ b ∈ x, b.f1 = sortI (b.f0.map (rd told))
  dis : x.Pairwise (fun a b => ∀ e ∈ a.f0, e ∉ b.f0)
  all : ∀ e : Int, 0 ≤ e → e < (n : Int) → ∃ b ∈ x, e ∈ b.f0
  ord : ∀ (i : Nat) (hi : i < x.length), ∀ e ∈ x[i].f0, ∀ k ∈ rd_L3 N e, ∃ (j : Nat) (hj : j < x.length), j ≤ i ∧ k ∈ x[j].f0
theorem no_th (n : Nat) (j : Int) : ¬ rdOf false (List.replicate n false) j = true := by
  unfold rdOf
  rw [List.getD_eq_getElem?_getD, List.getElem?_replicate]
  split <;> simp
theorem blocks_blks {n : Nat} {l : List S33} {told : List Int} (T : Whole n l told) : Blks (needs n l told) n told (blocksL n l told) := by
  obtain ⟨hNB, _⟩ := needs_in T.hE T.len T.mem
  have h := (blocksL_ord T).blk hNB.2 (fun i j _ _ h => absurd h (no_th n i))
  exact ⟨h.scc, h.rg, h.vars, h.dis, fun e a b => (h.all e a b).resolve_left (no_th n e), fun i hi e he k hk => (h.ord i hi e he k hk).resolve_left (no_th n k)⟩
section
variable {N : List (List Int)} {n : Nat} {told : List Int} {x : List S30}
theorem Blks.mem (B : Blks N n told x) {b : S30} : b ∈ x ↔ IsScc N b.f0 ∧ (∀ e ∈ b.f0, 0 ≤ e ∧ e < (n : Int)) ∧ b.f1 = sortI (b.f0.map (rd told)) := by
  constructor
  · exact fun h => ⟨B.scc b h, B.rg b h, B.vars b h⟩
  · rintro ⟨h1, h2, h3⟩
    obtain ⟨e, he⟩ := h1.head
    have hem := head_mem he
    obtain ⟨c, hc, hec⟩ := B.all e (h2 e hem).1 (h2 e hem).2
    have e0 : c.f0 = b.f0 := (B.scc c hc).eq h1 hec hem
    have e1 : c.f1 = b.f1 := by rw [B.vars c hc, h3, e0]
    have : c = b := by cases c; cases b; simp only at e0 e1; subst e0; subst e1; rfl
    rw [← this]; exact hc
theorem Blks.nodup (B : Blks N n told x) : x.Nodup := by
  refine B.dis.imp_of_mem (fun {a b} ha hb h => ?_)
  rintro rfl
  obtain ⟨e, he⟩ := (B.scc a ha).head
  exact h e (head_mem he) (head_mem he)
/-- Where an equation is. -/
theorem Blks.at (B : Blks N n told x) {e : Int} (e0 : 0 ≤ e) (e1 : e < (n : Int)) : ∃ (i : Nat) (hi : i < x.length), e ∈ x[i].f0 := by
  obtain ⟨b, hb, he⟩ := B.all e e0 e1
  obtain ⟨i, hi, rfl⟩ := List.mem_iff_getElem.1 hb
  exact ⟨i, hi, he⟩
theorem Blks.one (B : Blks N n told x) {e : Int} {i j : Nat} (hi : i < x.length) (hj : j < x.length) (h1 : e ∈ x[i].f0) (h2 : e ∈ x[j].f0) : i = j := by
  have h := List.pairwise_iff_getElem.1 B.dis
  rcases Nat.lt_trichotomy i j with q | q | q
  · exact absurd h2 (h i j hi hj q e h1)
  · exact q
  · exact absurd h1 (h j i hj hi q e h2)
theorem Blks.f1_mem (B : Blks N n told x) {i : Nat} (hi : i < x.length) {v : Int} : v ∈ x[i].f1 ↔ ∃ e ∈ x[i].f0, rd told e = v := by
  rw [B.vars _ (List.getElem_mem hi), mem_sortI, List.mem_map]
end
theorem nodup_len {α : Type} : ∀ (l s : List α), l.Nodup → (∀ x ∈ l, x ∈ s) → l.length ≤ s.length := by
  intro l
  induction l with
  | nil => intro s _ _; exact Nat.zero_le _
  | cons a l ih =>
    intro s hn hs
    obtain ⟨s1, s2, rfl⟩ := List.append_of_mem (hs a List.mem_cons_self)
    have hn' := List.nodup_cons.1 hn
    have h1 := ih (s1 ++ s2) hn'.2 (fun x hx => by
      rcases List.mem_append.1 (hs x (List.mem_cons_of_mem _ hx)) with h | h
      · exact List.mem_append.2 (.inl h)
      · rcases List.mem_cons.1 h with h | h
        · subst h; exact absurd hx hn'.1
        · exact List.mem_append.2 (.inr h))
    simp only [List.length_append, List.length_cons] at h1 ⊢
    omega
/-- Blocks of graphs in which the same equations reach each other are the same. -/
theorem IsScc.congr {N N' : List (List Int)} {n : Nat} (hN : ∀ j, ∀ k ∈ rd_L3 N j, 0 ≤ k ∧ k < (n : Int)) (hN' : ∀ j, ∀ k ∈ rd_L3 N' j, 0 ≤ k ∧ k < (n : Int)) (hR : ∀ i j : Int, 0 ≤ i → i < (n : Int) → 0 ≤ j → j < (n : Int) → (Rch N i j ∧ Rch N j i ↔ Rch N' i j ∧ Rch N' j i)) {b : List Int} (hb : ∀ e ∈ b, 0 ≤ e ∧ e < (n : Int)) (h : IsScc N b) : IsScc N' b := by
  obtain ⟨h1, r, hr, hm⟩ := h
  have hrr := hb r hr
  refine ⟨h1, r, hr, fun y => ⟨fun hy => ?_, fun hy => ?_⟩⟩
  · have := hb y hy
    exact (hR r y hrr.1 hrr.2 this.1 this.2).1 ((hm y).1 hy)
  · have hyr := hy.1.range hN' hrr
    exact (hm y).2 ((hR r y hrr.1 hrr.2 hyr.1 hyr.2).2 hy)
theorem Blks.same {N N' : List (List Int)} {n : Nat} {told told' : List Int} {x y : List S30} (hN : ∀ j, ∀ k ∈ rd_L3 N j, 0 ≤ k ∧ k < (n : Int)) (hN' : ∀ j, ∀ k ∈ rd_L3 N' j, 0 ≤ k ∧ k < (n : Int)) (B : Blks N n told x) (B' : Blks N' n told' y)
    (hR : ∀ i j : Int, 0 ≤ i → i < (n : Int) → 0 ≤ j → j < (n : Int) → (Rch N i j ∧ Rch N j i ↔ Rch N' i j ∧ Rch N' j i))
    (hV : ∀ b : List Int, IsScc N b → (∀ e ∈ b, 0 ≤ e ∧ e < (n : Int)) → sortI (b.map (rd told)) = sortI (b.map (rd told'))) : (∀ b, b ∈ x ↔ b ∈ y) ∧ x.length = y.length := by
  have h : ∀ b, b ∈ x ↔ b ∈ y := fun b => by
    rw [B.mem, B'.mem]
    constructor
    · rintro ⟨h1, h2, h3⟩
      exact ⟨h1.congr hN hN' hR h2, h2, h3.trans (hV _ h1 h2)⟩
    · rintro ⟨h1, h2, h3⟩
      have h4 := h1.congr hN' hN (fun i j a b c d => (hR i j a b c d).symm) h2
      exact ⟨h4, h2, h3.trans (hV _ h4 h2).symm⟩
  exact ⟨h, Nat.le_antisymm (nodup_len x y B.nodup (fun b hb => (h b).1 hb)) (nodup_len y x B'.nodup (fun b hb => (h b).2 hb))⟩

theorem byS_at {told : List Int} : ∀ (js : List Int) (i : Nat) (b : List Int) (n : Nat), b.length = n → (∀ j ∈ js, 0 ≤ j ∧ j < (n : Int)) → js.Nodup →
    (∀ (k : Nat) (hk : k < js.length), rd (byS js i b) js[k] = ((i + k : Nat) : Int)) ∧ (∀ x : Int, 0 ≤ x → x ∉ js → rd (byS js i b) x = rd b x) := by
  intro js
  induction js with
  | nil => intro i b n _ _ _; exact ⟨fun k hk => by simp at hk, fun x _ _ => rfl⟩
  | cons j js ih =>
    intro i b n hb hj hn
    have hjj := hj j List.mem_cons_self
    have hn' := List.nodup_cons.1 hn
    obtain ⟨h1, h2⟩ := ih (i + 1) (b.set j.toNat (i : Int)) n (by rw [List.length_set]; exact hb) (fun x hx => hj x (List.mem_cons_of_mem _ hx)) hn'.2
    refine ⟨fun k hk => ?_, fun x x0 hx => ?_⟩
    · cases k with
      | zero =>
        show rd (byS js (i + 1) (b.set j.toNat (i : Int))) j = _
        rw [h2 j hjj.1 hn'.1, tj_rd b j j _ hjj.1 (by rw [hb]; exact hjj.2) hjj.1, if_pos rfl]; simp
      | succ k =>
        have hk' : k < js.length := by simpa using hk
        have := h1 k hk'
        show rd (byS js (i + 1) (b.set j.toNat (i : Int))) (js[k]'hk') = _
        rw [this]; omega
    · show rd (byS js (i + 1) (b.set j.toNat (i : Int))) x = rd b x
      rw [h2 x x0 (fun h => hx (List.mem_cons_of_mem _ h)), tj_rd b j x _ hjj.1 (by rw [hb]; exact hjj.2) x0, if_neg (fun e => hx (by rw [e]; exact List.mem_cons_self))]
/-- The equation that tells an unknown. -/
def byL (n : Nat) (told : List Int) : List Int := byS told 0 (List.replicate n 0)
theorem rd_getE {l : List Int} {i : Nat} (h : i < l.length) : rd l (i : Int) = l[i] := by simp [rd, List.getD_eq_getElem?_getD, List.getElem?_eq_getElem h]
theorem Whole.nodup {n : Nat} {l : List S33} {told : List Int} (T : Whole n l told) : told.Nodup := by
  refine List.pairwise_iff_getElem.2 (fun i j hi hj hij e => ?_)
  have := T.inj (i : Int) (j : Int) (by omega) (by omega) (by rw [← T.len]; omega)
  rw [rd_getE hi, rd_getE hj] at this
  exact this e
theorem Whole.by_told {n : Nat} {l : List S33} {told : List Int} (T : Whole n l told) {i : Int} (i0 : 0 ≤ i) (i1 : i < (n : Int)) : rd (byL n told) (rd told i) = i := by
  obtain ⟨k, rfl⟩ := Int.eq_ofNat_of_zero_le i0
  have hk : k < told.length := by rw [T.len]; omega
  have := (byS_at (told := told) told 0 (List.replicate n 0) n (by simp) T.mem T.nodup).1 k hk
  rw [rd_getE hk]
  unfold byL
  rw [this]; simp
theorem Whole.told_by {n : Nat} {l : List S33} {told : List Int} (T : Whole n l told) {j : Int} (j0 : 0 ≤ j) (j1 : j < (n : Int)) : 0 ≤ rd (byL n told) j ∧ rd (byL n told) j < (n : Int) ∧ rd told (rd (byL n told) j) = j := by
  obtain ⟨i, i0, i1, rfl⟩ := T.onto j0 j1
  rw [T.by_told i0 i1]
  exact ⟨i0, i1, rfl⟩
/-- What an equation needs. -/
theorem mem_fold_needs {n : Nat} {B : List Int} (hB : InN n B) : ∀ (es : List S33), Edges n n es → ∀ N, NB n N → ∀ i k : Int, 0 ≤ i → (k ∈ rd_L3 (es.foldl (nS B) N) i ↔ k ∈ rd_L3 N i ∨ ∃ e ∈ es, e.f0 = i ∧ rd B e.f1 = k ∧ k ≠ i) := by
  intro es
  induction es with
  | nil => intro _ N _ i k _; simp
  | cons e es ih =>
    intro hE N hN i k i0
    have he := hE e List.mem_cons_self
    have he' : 0 ≤ e.f0 ∧ e.f0 < (n : Int) ∧ 0 ≤ e.f1 ∧ e.f1 < (n : Int) := ⟨he.1, he.2.1, he.2.2.1, he.2.2.2.1⟩
    obtain ⟨h1, h2⟩ := hN.step hB he'
    rw [List.foldl_cons, ih (fun x hx => hE x (List.mem_cons_of_mem _ hx)) _ h1 i k i0, h2 i i0]
    constructor
    · rintro (h | ⟨e', he', h⟩)
      · by_cases c : rd B e.f1 = e.f0
        · rw [if_pos c] at h; exact .inl h
        · rw [if_neg c] at h
          by_cases d : e.f0 = i
          · rw [if_pos d] at h
            rcases List.mem_append.1 h with h | h
            · rw [d] at h; exact .inl h
            · have := List.mem_singleton.1 h
              exact .inr ⟨e, List.mem_cons_self, d, this.symm, fun q => c (by omega)⟩
          · rw [if_neg d] at h; exact .inl h
      · exact .inr ⟨e', List.mem_cons_of_mem _ he', h⟩
    · rintro (h | ⟨e', he', h3, h4, h5⟩)
      · left
        by_cases c : rd B e.f1 = e.f0
        · rw [if_pos c]; exact h
        · rw [if_neg c]
          by_cases d : e.f0 = i
          · rw [if_pos d, d]; exact List.mem_append.2 (.inl h)
          · rw [if_neg d]; exact h
      · rcases List.mem_cons.1 he' with q | q
        · subst q
          left
          rw [if_neg (fun q => h5 (by omega)), if_pos h3]
          exact List.mem_append.2 (.inr (by rw [h4]; exact List.mem_singleton.2 rfl))
        · exact .inr ⟨e', q, h3, h4, h5⟩
theorem Whole.needs_mem {n : Nat} {l : List S33} {told : List Int} (T : Whole n l told) {i k : Int} (i0 : 0 ≤ i) : k ∈ rd_L3 (needs n l told) i ↔ ∃ e ∈ l, e.f0 = i ∧ rd (byL n told) e.f1 = k ∧ k ≠ i := by
  have h := mem_fold_needs (by_in T.len T.mem) l T.hE _ (NB.none n) i k i0
  unfold needs byL
  rw [h]
  constructor
  · rintro (h | h)
    · unfold rd_L3 at h
      rw [List.getD_eq_getElem?_getD, List.getElem?_replicate] at h
      split at h <;> cases h
    · exact h
  · exact .inr
theorem Whole.nb {n : Nat} {l : List S33} {told : List Int} (T : Whole n l told) : ∀ j, ∀ k ∈ rd_L3 (needs n l told) j, 0 ≤ k ∧ k < (n : Int) := (needs_in T.hE T.len T.mem).1.2
theorem blocks_len {n : Nat} {l : List S33} {told : List Int} (T : Whole n l told) : (blocksL n l told).length ≤ n := by
  have hlen : ∀ (d : Nat) (th : List Bool) (bs : List (List Int)), (ordL told (needs n l told) d th bs).length = d := by
    intro d
    induction d with
    | zero => intro th bs; rfl
    | succ d ih => intro th bs; rw [ordL, List.length_cons, ih]
  have hS := tarjan_sccs T.nb (needs_in T.hE T.len T.mem).1.1.symm
  unfold blocksL
  rw [hlen]
  exact hS.len
theorem blocks_short {n : Nat} {l : List S33} {told : List Int} (T : Whole n l told) : ∀ b ∈ blocksL n l told, b.f0.length ≤ n ∧ b.f1.length ≤ n := (blocksL_ord T).short T.nb
theorem rd_T30_getE {l : List S30} {i : Nat} (h : i < l.length) : rd_T30 l (i : Int) = l[i] := by simp [rd_T30, List.getD_eq_getElem?_getD, List.getElem?_eq_getElem h]
end Go.Proofs.Ytlaneafplmbcnaa.PO

namespace Go.Proofs.Ytlaneafplmbcnaa.PO
open Go.RowKit Go.Proofs.YtlaneafplmbcnaaW.PrintWords Go.Proofs.YtlaneafplmbcnaaW.PrintLast Go.Proofs.YtlaneafplmbcnaaW.PrintMore
set_option linter.unusedVariables false
set_option linter.unusedSimpArgs false
theorem toldL_of {n : Nat} {l : List S33} (hE : Edges n n l) : ∀ (js : List Int) (i : Nat) (s : List Bool), s.length = n → js.Nodup → (∀ (k : Nat) (hk : k < js.length), 0 ≤ js[k] ∧ js[k] < (n : Int) ∧ 0 ≤ wt l ((i + k : Nat) : Int) js[k] ∧ rdOf false s js[k] = false) → toldL (n : Int) l js (i : Int) s = true := by
  intro js
  induction js with
  | nil => intro i s _ _ _; rfl
  | cons j js ih =>
    intro i s hs hn h
    have hn' := List.nodup_cons.1 hn
    have h0 := h 0 (by simp)
    simp only [List.getElem_cons_zero, Nat.add_zero] at h0
    unfold toldL
    rw [if_neg (by omega), if_neg (by omega), h0.2.2.2, if_neg Bool.false_ne_true, if_pos ((any_isE hE _ _).2 h0.2.2.1)]
    refine ih (i + 1) _ (by simp [hs]) hn'.2 (fun k hk => ?_)
    have h1 := h (k + 1) (by simpa using hk)
    simp only [List.getElem_cons_succ] at h1
    refine ⟨h1.1, h1.2.1, by rw [show i + 1 + k = i + (k + 1) by omega]; exact h1.2.2.1, ?_⟩
    rw [tj_sn s j js[k] true h0.1 (by rw [hs]; exact h0.2.1) h1.1, if_neg (fun e => hn'.1 (by rw [e]; exact List.getElem_mem hk))]
    exact h1.2.2.2
theorem rightB_of {n : Nat} {l : List S33} (h64 : n ≤ 64) (hl : l.length ≤ 4096) (hE : Edges n n l) : rightB (n : Int) (n : Int) l = true := by
  unfold rightB
  rw [if_neg (by omega), if_neg (by omega), if_neg (by omega), if_neg (by omega), if_neg (by omega), Bool.not_eq_true', List.any_eq_false]
  intro e he
  have h := hE e he
  unfold badE
  rw [if_neg (by omega), if_neg (by omega), if_neg (by omega), if_neg (by omega), if_neg (by omega), decide_eq_false (by omega)]
  exact Bool.false_ne_true
theorem toldB_of {n : Nat} {l : List S33} {told : List Int} (T : Whole n l told) : toldB (n : Int) l told = true := by
  unfold toldB
  rw [if_pos (rightB_of T.hn T.hl T.hE), if_pos (by rw [T.len]), Int.toNat_natCast]
  refine toldL_of T.hE told 0 _ (by simp) T.nodup (fun k hk => ?_)
  have h := T.rg (k : Int) (by omega) (by rw [← T.len]; omega)
  rw [rd_getE hk] at h
  exact ⟨h.1, h.2.1, by rw [Nat.zero_add]; exact h.2.2, by simpa using no_th n told[k]⟩
end Go.Proofs.Ytlaneafplmbcnaa.PO
