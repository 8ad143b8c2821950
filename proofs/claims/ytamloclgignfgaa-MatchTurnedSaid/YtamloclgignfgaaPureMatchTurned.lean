/- MatchTurned in plain Lean. -/
import Derived.Test.YtamloclgignfgaaPAx28
import Derived.Test.YtamloclgignfgaaRowA
import Derived.Test.YtamloclgignfgaaOv
import Derived.Test.YtamloclgignfgaaAn
namespace Go.Proofs.Ytamloclgignfgaa.PA
open Go.RowKit Go.Proofs.YtamloclgignfgaaW.PrintWords Go.Proofs.YtamloclgignfgaaW.PrintLast Go.Proofs.YtamloclgignfgaaW.PrintMore
set_option linter.unusedVariables false
set_option linter.unusedSimpArgs false

/-- A row's number as a column. -/
def sg (n by' i : Int) : Int := if i + by' < n then i + by' else i + by' - n
/-- And back. -/
def sgi (n by' x : Int) : Int := if by' ≤ x then x - by' else x - by' + n
theorem sg_rg {n by' i : Int} (b0 : 0 ≤ by') (b1 : by' < n) (i0 : 0 ≤ i) (i1 : i < n) : 0 ≤ sg n by' i ∧ sg n by' i < n := by unfold sg; split <;> omega
theorem sgi_rg {n by' i : Int} (b0 : 0 ≤ by') (b1 : by' < n) (i0 : 0 ≤ i) (i1 : i < n) : 0 ≤ sgi n by' i ∧ sgi n by' i < n := by unfold sgi; split <;> omega
theorem sg_sgi {n by' i : Int} (b0 : 0 ≤ by') (b1 : by' < n) (i0 : 0 ≤ i) (i1 : i < n) : sg n by' (sgi n by' i) = i := by unfold sg sgi; split <;> split <;> omega
theorem sg_inj {n by' i j : Int} (b0 : 0 ≤ by') (b1 : by' < n) (i0 : 0 ≤ i) (i1 : i < n) (j0 : 0 ≤ j) (j1 : j < n) (h : sg n by' i = sg n by' j) : i = j := by unfold sg at h; split at h <;> split at h <;> omega
theorem sgi_inj {n by' i j : Int} (b0 : 0 ≤ by') (b1 : by' < n) (i0 : 0 ≤ i) (i1 : i < n) (j0 : 0 ≤ j) (j1 : j < n) (h : sgi n by' i = sgi n by' j) : i = j := by unfold sgi at h; split at h <;> split at h <;> omega
theorem sg_mod {n by' i : Int} (b0 : 0 ≤ by') (b1 : by' < n) (i0 : 0 ≤ i) (i1 : i < n) : Int.tmod (i + by') n = sg n by' i := by
  unfold sg
  rw [Int.tmod_eq_emod_of_nonneg (by omega)]
  by_cases h : i + by' < n
  · rw [if_pos h, Int.emod_eq_of_lt (by omega) h]
  · rw [if_neg h, ← Int.sub_emod_right, Int.emod_eq_of_lt (by omega) (by omega)]
/-- An edge turned. -/
def tu (n by' : Int) (e : S40) : S40 := ⟨e.f1, sg n by' e.f0, e.f2⟩
theorem wt_tu {n : Nat} {by' : Int} (b0 : 0 ≤ by') (b1 : by' < (n : Int)) {i j : Int} (i0 : 0 ≤ i) (i1 : i < (n : Int)) : ∀ (l : List S40), Edges n n l → wt (l.map (tu n by')) j (sg n by' i) = wt l i j := by
  have key : ∀ (l : List S40) (w : Int), Edges n n l → (l.map (tu n by')).foldl (wS j (sg n by' i)) w = l.foldl (wS i j) w := by
    intro l
    induction l with
    | nil => intro w _; rfl
    | cons e l ih =>
      intro w hE
      have he := hE e List.mem_cons_self
      rw [List.map_cons, List.foldl_cons, List.foldl_cons, ih _ (fun x hx => hE x (List.mem_cons_of_mem _ hx))]
      congr 1
      unfold wS tu
      by_cases c : e.f0 = i ∧ e.f1 = j ∧ e.f2 > w
      · rw [if_pos c, if_pos ⟨c.2.1, by rw [c.1], c.2.2⟩]
      · rw [if_neg c, if_neg (fun h => c ⟨sg_inj b0 b1 he.1 he.2.1 i0 i1 h.2.1, h.1, h.2.2⟩)]
  intro l hE
  exact key l (-1) hE
theorem edges_tu {n : Nat} {by' : Int} (b0 : 0 ≤ by') (b1 : by' < (n : Int)) {l : List S40} (hE : Edges n n l) : Edges n n (l.map (tu n by')) := fun e he => by
  obtain ⟨x, hx, rfl⟩ := List.mem_map.1 he
  have h := hE x hx
  have h1 := sg_rg b0 b1 h.1 h.2.1
  exact ⟨h.2.2.1, h.2.2.2.1, h1.1, h1.2, h.2.2.2.2.1, h.2.2.2.2.2⟩
theorem Whole.inj2 {n : Nat} {l : List S40} {L : List Int} (T : Whole n l L) {i j : Int} (i0 : 0 ≤ i) (i1 : i < (n : Int)) (j0 : 0 ≤ j) (j1 : j < (n : Int)) (h : rd L i = rd L j) : i = j := by
  rcases Int.lt_trichotomy i j with q | q | q
  · exact absurd h (T.inj i j i0 q j1)
  · exact q
  · exact absurd h.symm (T.inj j i j0 q i1)
theorem Opt.val {n : Nat} {l : List S40} {L : List Int} {p q : Int → Int} (O : Opt n l L p q) : wsum n l L = sm p n + sm q n := by
  unfold wsum
  rw [sm_congr n (fun i a b => O.ti i a b), sm_add p (fun i => q (rd L i)) n, sm_turn q (fun i => rd L i) (fun i a b => ⟨(O.T.rg i a b).1, (O.T.rg i a b).2.1⟩) (fun i j a b c d e => O.T.inj2 a b c d e)]
/-- Turned, a whole matching weighs no more than the heaviest. -/
theorem Opt.tu_le {n : Nat} {by' : Int} (b0 : 0 ≤ by') (b1 : by' < (n : Int)) {l : List S40} {L L' : List Int} {p q : Int → Int} (O : Opt n l L p q) (T' : Whole n (l.map (tu n by')) L') : wsum n (l.map (tu n by')) L' ≤ wsum n l L := by
  have hE := O.T.hE
  have h1 : wsum n (l.map (tu n by')) L' ≤ sm (fun j => p (sgi n by' (rd L' j)) + q j) n := by
    unfold wsum
    refine sm_le n (fun j j0 j1 => ?_)
    obtain ⟨r0, r1, r2⟩ := T'.rg j j0 j1
    have s := sgi_rg b0 b1 r0 r1
    have h := wt_tu b0 b1 s.1 s.2 (j := j) l hE
    rw [sg_sgi b0 b1 r0 r1] at h
    rw [h] at r2 ⊢
    exact O.le _ j s.1 s.2 j0 j1 r2
  rw [sm_add (fun j => p (sgi n by' (rd L' j))) q n, sm_turn p (fun j => sgi n by' (rd L' j)) (fun j a b => by
    obtain ⟨r0, r1, _⟩ := T'.rg j a b
    exact sgi_rg b0 b1 r0 r1) (fun i j a b c d e => by
    obtain ⟨r0, r1, _⟩ := T'.rg i a b
    obtain ⟨s0, s1, _⟩ := T'.rg j c d
    exact T'.inj2 a b c d (sgi_inj b0 b1 r0 r1 s0 s1 e))] at h1
  rw [O.val]
  exact h1
theorem Opt.tu_ge {n : Nat} {by' : Int} (b0 : 0 ≤ by') (b1 : by' < (n : Int)) {l : List S40} {L L' : List Int} {p q : Int → Int} (hE : Edges n n l) (O : Opt n (l.map (tu n by')) L' p q) (T : Whole n l L) : wsum n l L ≤ wsum n (l.map (tu n by')) L' := by
  have h1 : wsum n l L ≤ sm (fun i => p (rd L i) + q (sg n by' i)) n := by
    unfold wsum
    refine sm_le n (fun i i0 i1 => ?_)
    obtain ⟨r0, r1, r2⟩ := T.rg i i0 i1
    have s := sg_rg b0 b1 i0 i1
    have h := wt_tu b0 b1 i0 i1 (j := rd L i) l hE
    rw [← h] at r2 ⊢
    exact O.le _ _ r0 r1 s.1 s.2 r2
  rw [sm_add (fun i => p (rd L i)) (fun i => q (sg n by' i)) n, sm_turn p (fun i => rd L i) (fun i a b => ⟨(T.rg i a b).1, (T.rg i a b).2.1⟩) (fun i j a b c d e => T.inj2 a b c d e), sm_turn q (fun i => sg n by' i) (fun i a b => sg_rg b0 b1 a b) (fun i j a b c d e => sg_inj b0 b1 a b c d e)] at h1
  rw [O.val]
  exact h1
/-- Turned, as many are matched. -/
theorem tu_size {a by' : Int} {l : List S40} (hb : rightB a a l = true) (b0 : 0 ≤ by') (b1 : by' < a) (hb' : rightB a a (l.map (tu a by')) = true) : sizeN (mostL a.toNat a.toNat l) = sizeN (mostL a.toNat a.toNat (l.map (tu a by'))) := by
  obtain ⟨⟨ha0, ha1, _, _, hlen⟩, hed⟩ := rightB_iff a a l hb
  have hE : Edges a.toNat a.toNat l := fun e he => by have := hed e he; omega
  obtain ⟨_, hM, D, hD⟩ := most_good hb
  obtain ⟨_, hM', D', hD'⟩ := most_good hb'
  generalize hn : a.toNat = n at *
  have han : a = (n : Int) := by omega
  subst han
  have hE' := edges_tu b0 b1 hE
  obtain ⟨E, h1, h2, h3⟩ := hM.pairs hE
  obtain ⟨E', h1', h2', h3'⟩ := hM'.pairs hE'
  have le1 := hD'.bound hE' hM' (E.map (fun e => (e.2, sg n by' e.1))) (fun e he => by
    obtain ⟨x, hx, rfl⟩ := List.mem_map.1 he
    obtain ⟨p0, p1, p2, p3, p4, _⟩ := h2 x hx
    have s := sg_rg b0 b1 p0 p1
    exact ⟨p2, p3, s.1, s.2, by simp only; rw [wt_tu b0 b1 p0 p1 l hE]; exact p4⟩) (by
    rw [List.pairwise_map]
    refine List.Pairwise.imp_of_mem (fun {x y} hx hy h => ⟨h.2, fun e => h.1 ?_⟩) h3
    obtain ⟨p0, p1, _⟩ := h2 x hx
    obtain ⟨q0, q1, _⟩ := h2 y hy
    exact sg_inj b0 b1 p0 p1 q0 q1 e)
  have le2 := hD.bound hE hM (E'.map (fun e => (sgi n by' e.2, e.1))) (fun e he => by
    obtain ⟨x, hx, rfl⟩ := List.mem_map.1 he
    obtain ⟨p0, p1, p2, p3, p4, _⟩ := h2' x hx
    have s := sgi_rg b0 b1 p2 p3
    have h := wt_tu b0 b1 s.1 s.2 (j := x.1) l hE
    rw [sg_sgi b0 b1 p2 p3] at h
    exact ⟨s.1, s.2, p0, p1, by simp only; rw [← h]; exact p4⟩) (by
    rw [List.pairwise_map]
    refine List.Pairwise.imp_of_mem (fun {x y} hx hy h => ⟨fun e => h.2 ?_, h.1⟩) h3'
    obtain ⟨_, _, p0, p1, _⟩ := h2' x hx
    obtain ⟨_, _, q0, q1, _⟩ := h2' y hy
    exact sgi_inj b0 b1 p0 p1 q0 q1 e)
  rw [List.length_map] at le1 le2
  omega
theorem most_f {a : Int} {l : List S40} (hb : rightB a a l = true) : match_Most.f a a l = some (mostL a.toNat a.toNat l, 0) := by unfold match_Most.f; rw [if_pos hb]

/-- Behind the loop. -/
theorem Turned_end {a by' : Int} {l : List S40} (hb : rightB a a l = true) (b0 : 0 ≤ by') (b1 : by' < a) : Ev (fun k => ((match_Most.f a a l).bind fun bt568 => ((match_Most.f a a (l.map (tu a by'))).bind fun bt572 => ((match_Assign.f k a l).bind fun bt576 => ((match_Assign.f k a (l.map (tu a by'))).bind fun bt580 => (if bt568.2 = 0 then (if bt572.2 = 0 then (if bt576.2 = bt580.2 then (if (bt568.1.length : Int) = a then (if (bt572.1.length : Int) = a then ((orreryref19_Size.f k bt568.1).bind fun t584 => ((orreryref19_Size.f k bt572.1).bind fun t585 => (orrerylaw19_MatchTurned.j2 k a l (l.map (tu a by')) bt568.1 bt576.1 bt576.2 bt580.1 (t584 != t585)))) else (orrerylaw19_MatchTurned.j2 k a l (l.map (tu a by')) bt568.1 bt576.1 bt576.2 bt580.1 true)) else (orrerylaw19_MatchTurned.j2 k a l (l.map (tu a by')) bt568.1 bt576.1 bt576.2 bt580.1 true)) else (orrerylaw19_MatchTurned.j2 k a l (l.map (tu a by')) bt568.1 bt576.1 bt576.2 bt580.1 true)) else (orrerylaw19_MatchTurned.j2 k a l (l.map (tu a by')) bt568.1 bt576.1 bt576.2 bt580.1 true)) else (orrerylaw19_MatchTurned.j2 k a l (l.map (tu a by')) bt568.1 bt576.1 bt576.2 bt580.1 true))))))) true := by
  obtain ⟨⟨ha0, ha1, _, _, hlen⟩, hed⟩ := rightB_iff a a l hb
  have hE : Edges a.toNat a.toNat l := fun e he => by have := hed e he; omega
  have han : (a.toNat : Int) = a := Int.toNat_of_nonneg ha0
  have hE' : Edges a.toNat a.toNat (l.map (tu a by')) := by
    have := edges_tu (n := a.toNat) (by' := by') b0 (by omega) hE
    rwa [han] at this
  have hb' := right_of ha0 ha1 (by rw [List.length_map]; exact hlen) hE'
  have hs := tu_size hb b0 b1 hb'
  have mw := most_whole hb
  have mw' := most_whole hb'
  obtain ⟨hG, hM, _⟩ := most_good hb
  obtain ⟨hG', hM', _⟩ := most_good hb'
  have hml : (mostL a.toNat a.toNat l).length = a.toNat := by rw [hM.1, hG.1]
  have hml' : (mostL a.toNat a.toNat (l.map (tu a by'))).length = a.toNat := by rw [hM'.1, hG'.1]
  have hsz := Ev_Size (mostL a.toNat a.toNat l) (by omega)
  have hsz' := Ev_Size (mostL a.toNat a.toNat (l.map (tu a by'))) (by omega)
  have hle := sizeN_le (mostL a.toNat a.toNat l)
  rw [most_f hb, most_f hb']
  simp only [Option.bind_some, if_true]
  have fin : ∀ (c d : List Int) (g : Int), Ev (fun k => orrerylaw19_MatchTurned.j2 k a l (l.map (tu a by')) (mostL a.toNat a.toNat l) c g d false) true → Ev (fun k => if ((mostL a.toNat a.toNat l).length : Int) = a then (if ((mostL a.toNat a.toNat (l.map (tu a by'))).length : Int) = a then ((orreryref19_Size.f k (mostL a.toNat a.toNat l)).bind fun t584 => ((orreryref19_Size.f k (mostL a.toNat a.toNat (l.map (tu a by')))).bind fun t585 => (orrerylaw19_MatchTurned.j2 k a l (l.map (tu a by')) (mostL a.toNat a.toNat l) c g d (t584 != t585)))) else (orrerylaw19_MatchTurned.j2 k a l (l.map (tu a by')) (mostL a.toNat a.toNat l) c g d true)) else (orrerylaw19_MatchTurned.j2 k a l (l.map (tu a by')) (mostL a.toNat a.toNat l) c g d true)) true := fun c d g h => by
    simp only [if_pos (show ((mostL a.toNat a.toNat l).length : Int) = a by omega), if_pos (show ((mostL a.toNat a.toNat (l.map (tu a by'))).length : Int) = a by omega)]
    refine Ev.bind hsz (Ev.bind hsz' ?_)
    rw [hs, bne_self_eq_false]
    exact h
  rcases Ev_Assign hb with ⟨L, p, q, O, hA⟩ | ⟨hno, hA⟩ <;> rcases Ev_Assign hb' with ⟨L', p', q', O', hA'⟩ | ⟨hno', hA'⟩
  · refine Ev.bind hA (Ev.bind hA' ?_)
    simp only [if_true]
    refine fin L L' 0 ?_
    have hw : sizeN (mostL a.toNat a.toNat l) = a.toNat := mw.2 ⟨L, O.T⟩
    have hLl := O.T.len
    have hLl' := O'.T.len
    refine Ev.step (f := fun k => (orreryref19_Table.f k a a l).bind fun t587 => ((orreryref19_Table.f k a a (l.map (tu a by'))).bind fun t590 => ((orreryref19_Size.f k (mostL a.toNat a.toNat l)).bind fun t593 => (if t593 = a then ((orreryref19_Matching.f k t587 a L).bind fun t594 => (if t594 = true then ((orreryref19_Matching.f k t590 a L').bind fun t595 => (if t595 = true then ((orreryref19_Size.f k L).bind fun t596 => (if t596 = a then ((orreryref19_Size.f k L').bind fun t597 => (if t597 = a then ((orreryref19_Sum.f k t587 L).bind fun t598 => ((orreryref19_Sum.f k t590 L').bind fun t599 => (some (t598 == t599)))) else (some false))) else (some false))) else (some false))) else (some false))) else (some false))))) (fun k => by simp [orrerylaw19_MatchTurned.j2]) ?_
    refine Ev.bind (Ev_Table hb) (Ev.bind (Ev_Table hb') (Ev.bind hsz ?_))
    rw [hw, han]
    simp only [if_true]
    obtain ⟨b, hb1, hbi⟩ := Ev_Matching hG (by omega) L (by omega)
    rw [hbi.2 O.T.mat, han] at hb1
    refine Ev.bind hb1 ?_
    simp only [if_true]
    obtain ⟨b', hb1', hbi'⟩ := Ev_Matching hG' (by omega) L' (by omega)
    rw [hbi'.2 O'.T.mat, han] at hb1'
    refine Ev.bind hb1' ?_
    simp only [if_true]
    have hs1 := Ev_Size L (by omega)
    rw [(sizeN_full hLl).2 (fun i a b => (O.T.rg i a b).1), han] at hs1
    have hs2 := Ev_Size L' (by omega)
    rw [(sizeN_full hLl').2 (fun i a b => (O'.T.rg i a b).1), han] at hs2
    refine Ev.bind hs1 ?_
    simp only [if_true]
    refine Ev.bind hs2 ?_
    simp only [if_true]
    refine Ev.bind (Ev_Sum O.T) (Ev.bind (Ev_Sum O'.T) ?_)
    have e1 : wsum a.toNat l L = wsum a.toNat (l.map (tu a by')) L' := by
      have h1 := O.tu_le (by' := by') (L' := L') b0 (by omega) (by rw [han]; exact O'.T)
      have h2 := Opt.tu_ge (by' := by') (L' := L') (p := p') (q := q') b0 (by omega) hE (by rw [han]; exact O') O.T
      rw [han] at h1 h2
      omega
    rw [e1, beq_self_eq_true]
    exact Ev.now _
  · exfalso
    obtain ⟨M, hMw⟩ := mw'.1 (by rw [← hs]; exact mw.2 ⟨L, O.T⟩)
    exact hno' M hMw
  · exfalso
    obtain ⟨M, hMw⟩ := mw.1 (by rw [hs]; exact mw'.2 ⟨L', O'.T⟩)
    exact hno M hMw
  · refine Ev.bind hA (Ev.bind hA' ?_)
    simp only [if_true]
    refine fin [] [] 190 ?_
    refine Ev.step (f := fun k => (orreryref19_Size.f k (mostL a.toNat a.toNat l)).bind fun t586 => (some (decide (t586 < a)))) (fun k => by simp [orrerylaw19_MatchTurned.j2]) (Ev.bind hsz ?_)
    have hlt : sizeN (mostL a.toNat a.toNat l) < a.toNat := by
      by_cases e : sizeN (mostL a.toNat a.toNat l) = a.toNat
      · obtain ⟨M, hMw⟩ := mw.1 e
        exact absurd hMw (hno M)
      · omega
    rw [decide_eq_true (show (sizeN (mostL a.toNat a.toNat l) : Int) < a by omega)]
    exact Ev.now _
theorem Turned_l0 {a by' : Int} {l : List S40} (hb : rightB a a l = true) (b0 : 0 ≤ by') (b1 : by' < a) : ∀ (d i : Nat), i + d = l.length → Ev (fun k => orrerylaw19_MatchTurned.l0 k a l by' ((l.take i).map (tu a by')) l (l.length : Int) (i : Int)) true := by
  obtain ⟨⟨ha0, ha1, _, _, hlen⟩, hed⟩ := rightB_iff a a l hb
  intro d
  induction d with
  | zero =>
    intro i hi
    refine Ev.step (fun k => ?_) (Turned_end hb b0 b1)
    simp only [orrerylaw19_MatchTurned.l0]
    rw [if_neg (by omega), List.take_of_length_le (by omega)]
  | succ d ih =>
    intro i hi
    have hil : i < l.length := by omega
    have hx : rd_T40 l (i : Int) = l[i] := by simp [rd_T40, List.getD_eq_getElem?_getD, List.getElem?_eq_getElem hil]
    have he := hed _ (List.getElem_mem hil)
    have hlt : (List.map (tu a by') (List.take i l)).length = i := by simp; omega
    refine Ev.step (fun k => ?_) (ih (i + 1) (by omega))
    simp only [orrerylaw19_MatchTurned.l0]
    rw [if_pos (by omega), if_pos (by omega), if_pos (by omega), if_neg (by omega), if_pos (by rw [hlt]; omega), hx, w64 (n := l[i].f0 + by') (by omega) (by omega), sg_mod b0 b1 he.1 he.2.1, w64 (by omega) (by omega), show (i : Int) + 1 = ((i + 1 : Nat) : Int) by omega, List.take_succ_eq_append_getElem hil, List.map_append]
    rfl
theorem MatchTurned_pure (a0 : Int) (l1 : List S40) (a2 : Int) (h0 : I64 a0) (h1 : (∀ e ∈ l1, I64 e.f0 ∧ I64 e.f1 ∧ I64 e.f2) ∧ l1.length ≤ 9223372036854775807) (h2 : I64 a2) : ∃ k, orrerylaw19_MatchTurned.f k a0 l1 a2 = some true := by
  refine Ev.rounds (g := fun k => orrerylaw19_MatchTurned.f k a0 l1 a2) ?_
  unfold orrerylaw19_MatchTurned.f
  have hR := Ev_Right a0 a0 l1 h1.2
  have jt : Ev (fun k => orrerylaw19_MatchTurned.j0 k a0 l1 a2 true) true := Ev.step (f := fun _ => some true) (fun k => by simp [orrerylaw19_MatchTurned.j0]) (Ev.now _)
  refine Ev.bind hR ?_
  by_cases hb : rightB a0 a0 l1 = true
  · simp only [hb, if_true]
    obtain ⟨⟨ha0, ha1, _, _, hlen⟩, hed⟩ := rightB_iff a0 a0 l1 hb
    by_cases hz : a0 = 0
    · rw [hz, beq_self_eq_true]
      rw [hz] at jt
      exact jt
    · have hzb : (a0 == 0) = false := by simpa using hz
      rw [hzb]
      have t1 := Int.tmod_lt_of_pos a2 (show 0 < a0 by omega)
      have t2 := Int.lt_tmod_of_pos a2 (show 0 < a0 by omega)
      have b0 := Int.tmod_nonneg a0 (show 0 ≤ Int.tmod a2 a0 + a0 by omega)
      have b1 := Int.tmod_lt_of_pos (Int.tmod a2 a0 + a0) (show 0 < a0 by omega)
      refine Ev.step (fun k => ?_) (Turned_l0 hb b0 b1 l1.length 0 (by omega))
      simp only [orrerylaw19_MatchTurned.j0]
      rw [if_neg (by simp), if_neg hz, w64 (by omega) (by omega)]
      rfl
  · have hbf : rightB a0 a0 l1 = false := by simpa using hb
    simp only [hbf, Bool.false_eq_true, if_false]
    exact jt
end Go.Proofs.Ytamloclgignfgaa.PA
