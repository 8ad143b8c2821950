/- MatchMore in plain Lean. -/
import Derived.Test.YtamloclgignfgaaPAx27
import Derived.Test.YtamloclgignfgaaRowA
import Derived.Test.YtamloclgignfgaaOv
import Derived.Test.YtamloclgignfgaaAn
namespace Go.Proofs.Ytamloclgignfgaa.PA
open Go.RowKit Go.Proofs.YtamloclgignfgaaW.PrintWords Go.Proofs.YtamloclgignfgaaW.PrintLast Go.Proofs.YtamloclgignfgaaW.PrintMore
set_option linter.unusedVariables false
set_option linter.unusedSimpArgs false

theorem wt_snoc (l : List S40) (o : S40) (i j : Int) : wt (l ++ [o]) i j = wS i j (wt l i j) o := by unfold wt; rw [List.foldl_append]; rfl
theorem wt_snoc_ge (l : List S40) (o : S40) (i j : Int) : wt l i j ≤ wt (l ++ [o]) i j := by rw [wt_snoc]; unfold wS; split <;> omega
theorem wt_snoc_ne (l : List S40) (o : S40) (i j : Int) (h : ¬ (i = o.f0 ∧ j = o.f1)) : wt (l ++ [o]) i j = wt l i j := by
  rw [wt_snoc]; unfold wS; rw [if_neg (fun q => h ⟨q.1.symm, q.2.1.symm⟩)]
theorem edges_snoc {n m : Nat} {l : List S40} {o : S40} (hE : Edges n m l) (ho : 0 ≤ o.f0 ∧ o.f0 < (n : Int) ∧ 0 ≤ o.f1 ∧ o.f1 < (m : Int) ∧ 0 ≤ o.f2 ∧ o.f2 ≤ 100) : Edges n m (l ++ [o]) := fun e he => by
  rcases List.mem_append.1 he with h | h
  · exact hE e h
  · rw [List.mem_singleton.1 h]; exact ho
theorem Whole.snoc {n : Nat} {l : List S40} {o : S40} {L : List Int} (T : Whole n l L) (hl : l.length < 4096) (hE : Edges n n (l ++ [o])) : Whole n (l ++ [o]) L :=
  ⟨T.hn, by simp; omega, hE, T.len, fun i a b => by
    obtain ⟨r0, r1, r2⟩ := T.rg i a b
    have := wt_snoc_ge l o i (rd L i)
    exact ⟨r0, r1, by omega⟩, T.inj⟩
theorem snoc_size {a : Int} {l : List S40} {o : S40} (hb : rightB a a l = true) (hb' : rightB a a (l ++ [o]) = true) : sizeN (mostL a.toNat a.toNat l) ≤ sizeN (mostL a.toNat a.toNat (l ++ [o])) ∧ sizeN (mostL a.toNat a.toNat (l ++ [o])) ≤ sizeN (mostL a.toNat a.toNat l) + 1 := by
  obtain ⟨⟨ha0, ha1, _, _, hlen⟩, hed⟩ := rightB_iff a a l hb
  have hE : Edges a.toNat a.toNat l := fun e he => by have := hed e he; omega
  obtain ⟨_, hed'⟩ := rightB_iff a a _ hb'
  have hE' : Edges a.toNat a.toNat (l ++ [o]) := fun e he => by have := hed' e he; omega
  obtain ⟨_, hM, D, hD⟩ := most_good hb
  obtain ⟨_, hM', D', hD'⟩ := most_good hb'
  obtain ⟨E, h1, h2, h3⟩ := hM.pairs hE
  obtain ⟨E', h1', h2', h3'⟩ := hM'.pairs hE'
  constructor
  · rw [← h1]
    refine hD'.bound hE' hM' E (fun e he => ?_) h3
    obtain ⟨p0, p1, p2, p3, p4, _⟩ := h2 e he
    have := wt_snoc_ge l o e.1 e.2
    exact ⟨p0, p1, p2, p3, by omega⟩
  · have hnd : E'.Nodup := h3'.imp (fun {x y} h e => h.1 (by rw [e]))
    have h4 := hD.bound hE hM (E'.erase (o.f0, o.f1)) (fun e he => by
      obtain ⟨hne, he'⟩ := (List.Nodup.mem_erase_iff hnd).1 he
      obtain ⟨p0, p1, p2, p3, p4, _⟩ := h2' e he'
      refine ⟨p0, p1, p2, p3, ?_⟩
      rw [wt_snoc_ne l o e.1 e.2 (fun h => hne (Prod.ext h.1 h.2))] at p4
      exact p4) (h3'.sublist List.erase_sublist)
    have h5 : E'.length ≤ (E'.erase (o.f0, o.f1)).length + 1 := by
      rw [List.length_erase]; split <;> omega
    omega
theorem most_f' {a : Int} {l : List S40} (hb : rightB a a l = true) : match_Most.f a a l = some (mostL a.toNat a.toNat l, 0) := by unfold match_Most.f; rw [if_pos hb]

theorem More_mid {a : Int} {l m : List S40} {MA MB : List Int} {sA sB : Nat} (hA : Ev (fun k => orreryref19_Size.f k MA) (sA : Int)) (hB : Ev (fun k => orreryref19_Size.f k MB) (sB : Int)) (h1 : sA ≤ sB) (h2 : sB ≤ sA + 1) (hs : sA ≤ 64)
    (hj : Ev (fun k => orrerylaw19_MatchMore.j1 k a l m MA MB false) true) :
    Ev (fun k => ((orreryref19_Size.f k MB).bind fun t536 => ((orreryref19_Size.f k MA).bind fun t537 => (if t536 < t537 then (orrerylaw19_MatchMore.j1 k a l m MA MB true) else ((orreryref19_Size.f k MB).bind fun t538 => ((orreryref19_Size.f k MA).bind fun t539 => (orrerylaw19_MatchMore.j1 k a l m MA MB (decide (t538 > (wrap64 (t539 + 1)))))))))))  true := by
  have w1 : wrap64 ((sA : Int) + 1) = (sA : Int) + 1 := w64 (by omega) (by omega)
  have e1 : ¬ ((sB : Int) < (sA : Int)) := by omega
  have e2 : decide ((sB : Int) > wrap64 ((sA : Int) + 1)) = false := by rw [w1]; exact decide_eq_false (by omega)
  refine Ev.bind hB (Ev.bind hA ?_)
  simp only [if_neg e1]
  refine Ev.bind hB (Ev.bind hA ?_)
  simp only [e2]
  exact hj
theorem More_j1 {a : Int} {l m : List S40} {MA MB c d : List Int} {sA sB : Nat} {g h : Int} (hA : Ev (fun k => orreryref19_Size.f k MA) (sA : Int)) (hB : Ev (fun k => orreryref19_Size.f k MB) (sB : Int))
    (hc : Ev (fun k => match_Assign.f k a l) (c, g)) (hd : Ev (fun k => match_Assign.f k a m) (d, h)) (e1 : (g == 0) = ((sA : Int) == a)) (e2 : (h == 0) = ((sB : Int) == a)) (e3 : g = 0 → h = 0)
    (hj : Ev (fun k => orrerylaw19_MatchMore.j2 k a l m c g d false) true) : Ev (fun k => orrerylaw19_MatchMore.j1 k a l m MA MB false) true := by
  refine Ev.step (f := fun k => (match_Assign.f k a l).bind fun bt540 => ((match_Assign.f k a m).bind fun bt544 => ((orreryref19_Size.f k MA).bind fun t548 => (if ((bt540.2 == 0) != (t548 == a)) = true then (orrerylaw19_MatchMore.j2 k a l m bt540.1 bt540.2 bt544.1 true) else ((orreryref19_Size.f k MB).bind fun t549 => (if ((bt544.2 == 0) != (t549 == a)) = true then (orrerylaw19_MatchMore.j2 k a l m bt540.1 bt540.2 bt544.1 true) else (if bt540.2 = 0 then (orrerylaw19_MatchMore.j2 k a l m bt540.1 bt540.2 bt544.1 (bt544.2 != 0)) else (orrerylaw19_MatchMore.j2 k a l m bt540.1 bt540.2 bt544.1 false)))))))) (fun k => by simp [orrerylaw19_MatchMore.j1]) ?_
  refine Ev.bind hc (Ev.bind hd (Ev.bind hA ?_))
  simp only [e1, bne_self_eq_false, Bool.false_eq_true, if_false]
  refine Ev.bind hB ?_
  simp only [e2, bne_self_eq_false, Bool.false_eq_true, if_false]
  by_cases hg : g = 0
  · simp only [if_pos hg, e3 hg, bne_self_eq_false]; exact hj
  · simp only [if_neg hg]; exact hj
theorem More_j2 {a : Int} {l m : List S40} (hb : rightB a a l = true) (hb' : rightB a a m = true) {L L' : List Int} (T : Whole a.toNat l L) (T' : Whole a.toNat m L') (hw : wsum a.toNat l L ≤ wsum a.toNat m L') : Ev (fun k => orrerylaw19_MatchMore.j2 k a l m L 0 L' false) true := by
  obtain ⟨⟨ha0, ha1, _, _, hlen⟩, hed⟩ := rightB_iff a a l hb
  have han : (a.toNat : Int) = a := Int.toNat_of_nonneg ha0
  obtain ⟨hG, hM, _⟩ := most_good hb
  obtain ⟨hG', hM', _⟩ := most_good hb'
  have hLl := T.len
  have hLl' := T'.len
  refine Ev.step (f := fun k => (orreryref19_Table.f k a a l).bind fun t550 => ((orreryref19_Table.f k a a m).bind fun t553 => ((orreryref19_Matching.f k t550 a L).bind fun t556 => (if t556 = true then ((orreryref19_Matching.f k t553 a L').bind fun t557 => (if t557 = true then ((orreryref19_Size.f k L).bind fun t558 => (if t558 = a then ((orreryref19_Size.f k L').bind fun t559 => (if t559 = a then ((orreryref19_Sum.f k t553 L').bind fun t560 => ((orreryref19_Sum.f k t550 L).bind fun t561 => (some (decide (t560 ≥ t561))))) else (some false))) else (some false))) else (some false))) else (some false))))) (fun k => by simp [orrerylaw19_MatchMore.j2]) ?_
  refine Ev.bind (Ev_Table hb) (Ev.bind (Ev_Table hb') ?_)
  obtain ⟨b, hb1, hbi⟩ := Ev_Matching hG (by omega) L (by omega)
  rw [hbi.2 T.mat, han] at hb1
  refine Ev.bind hb1 ?_
  simp only [if_true]
  obtain ⟨b', hb1', hbi'⟩ := Ev_Matching hG' (by omega) L' (by omega)
  rw [hbi'.2 T'.mat, han] at hb1'
  refine Ev.bind hb1' ?_
  simp only [if_true]
  have hs1 := Ev_Size L (by omega)
  rw [(sizeN_full hLl).2 (fun i a b => (T.rg i a b).1), han] at hs1
  have hs2 := Ev_Size L' (by omega)
  rw [(sizeN_full hLl').2 (fun i a b => (T'.rg i a b).1), han] at hs2
  refine Ev.bind hs1 ?_
  simp only [if_true]
  refine Ev.bind hs2 ?_
  simp only [if_true]
  refine Ev.bind (Ev_Sum T') (Ev.bind (Ev_Sum T) ?_)
  rw [decide_eq_true hw]
  exact Ev.now _
theorem More_all {a : Int} {l : List S40} {o : S40} (hl : l.length ≤ 4000) (hb : rightB a a l = true) (hb' : rightB a a (l ++ [o]) = true) : Ev (fun k => orrerylaw19_MatchMore.j1 k a l (l ++ [o]) (mostL a.toNat a.toNat l) (mostL a.toNat a.toNat (l ++ [o])) false) true := by
  obtain ⟨⟨ha0, ha1, _, _, hlen⟩, hed⟩ := rightB_iff a a l hb
  obtain ⟨_, hed'⟩ := rightB_iff a a _ hb'
  have hE' : Edges a.toNat a.toNat (l ++ [o]) := fun e he => by have := hed' e he; omega
  have hws : ∀ L, wsum a.toNat l L ≤ wsum a.toNat (l ++ [o]) L := fun L => sm_le _ (fun i _ _ => wt_snoc_ge l o i (rd L i))
  have tw : ∀ L, Whole a.toNat l L → Whole a.toNat (l ++ [o]) L := fun L T => T.snoc (by omega) hE'
  have mw := most_whole hb
  have mw' := most_whole hb'
  obtain ⟨hG, hM, _⟩ := most_good hb
  obtain ⟨hG', hM', _⟩ := most_good hb'
  have hml : (mostL a.toNat a.toNat l).length = a.toNat := by rw [hM.1, hG.1]
  have hml' : (mostL a.toNat a.toNat (l ++ [o])).length = a.toNat := by rw [hM'.1, hG'.1]
  have hsz := Ev_Size (mostL a.toNat a.toNat l) (by omega)
  have hsz' := Ev_Size (mostL a.toNat a.toNat (l ++ [o])) (by omega)
  have hAs' := Ev_Assign hb'
  generalize l ++ [o] = m at hb' hws tw mw' hsz' hAs' ⊢
  have nb : ∀ (s : Nat), s = a.toNat → (((0 : Int) == 0) = ((s : Int) == a)) := fun s hs => by rw [show (s : Int) = a by omega]; simp
  have nn : ∀ (s : Nat), s ≠ a.toNat → (((190 : Int) == 0) = ((s : Int) == a)) := fun s hs => by
    have : ((s : Int) == a) = false := by simp; omega
    rw [this]; rfl
  have fin : ∀ d : List Int, Ev (fun k => orrerylaw19_MatchMore.j2 k a l m [] 190 d false) true := fun d =>
    Ev.step (f := fun _ => some true) (fun k => by simp [orrerylaw19_MatchMore.j2]) (Ev.now _)
  rcases Ev_Assign hb with ⟨L, p, q, O, hA⟩ | ⟨hno, hA⟩
  · have T' := tw L O.T
    rcases hAs' with ⟨L', p', q', O', hA'⟩ | ⟨hno', hA'⟩
    · refine More_j1 hsz hsz' hA hA' (nb _ (mw.2 ⟨L, O.T⟩)) (nb _ (mw'.2 ⟨L', O'.T⟩)) (fun _ => rfl) (More_j2 hb hb' O.T O'.T (Int.le_trans (hws L) (O'.best T')))
    · exact absurd T' (hno' L)
  · have hlt : sizeN (mostL a.toNat a.toNat l) ≠ a.toNat := fun e => by
      obtain ⟨M, hMw⟩ := mw.1 e
      exact hno M hMw
    rcases hAs' with ⟨L', p', q', O', hA'⟩ | ⟨hno', hA'⟩
    · exact More_j1 hsz hsz' hA hA' (nn _ hlt) (nb _ (mw'.2 ⟨L', O'.T⟩)) (fun h => by omega) (fin _)
    · exact More_j1 hsz hsz' hA hA' (nn _ hlt) (nn _ (fun e => by
        obtain ⟨M, hMw⟩ := mw'.1 e
        exact hno' M hMw)) (fun h => by omega) (fin _)

theorem MatchMore_pure (a0 : Int) (l1 : List S40) (o0 o1 o2 : Int) (h0 : I64 a0) (h1 : (∀ e ∈ l1, I64 e.f0 ∧ I64 e.f1 ∧ I64 e.f2) ∧ l1.length ≤ 9223372036854775807) (h2 : I64 o0 ∧ I64 o1 ∧ I64 o2) : ∃ k, orrerylaw19_MatchMore.f k a0 l1 o0 o1 o2 = some true := by
  refine Ev.rounds (g := fun k => orrerylaw19_MatchMore.f k a0 l1 o0 o1 o2) ?_
  unfold orrerylaw19_MatchMore.f
  have hR := Ev_Right a0 a0 l1 h1.2
  have hR1 := Ev_Right a0 a0 [(⟨o0, o1, o2⟩ : S40)] (by simp)
  have jt : Ev (fun k => orrerylaw19_MatchMore.j0 k a0 l1 true o0 o1 o2) true := Ev.step (f := fun _ => some true) (fun k => by simp [orrerylaw19_MatchMore.j0]) (Ev.now _)
  refine Ev.bind hR ?_
  by_cases hb : rightB a0 a0 l1 = true
  · simp only [hb, if_true]
    refine Ev.bind hR1 ?_
    by_cases hb1 : rightB a0 a0 [(⟨o0, o1, o2⟩ : S40)] = true
    · simp only [hb1, if_true]
      by_cases c4 : l1.length > 4000
      · rw [decide_eq_true (show (l1.length : Int) > 4000 by omega)]; exact jt
      rw [decide_eq_false (show ¬ (l1.length : Int) > 4000 by omega)]
      obtain ⟨⟨ha0, ha1, _, _, hlen⟩, hed⟩ := rightB_iff a0 a0 l1 hb
      have hE : Edges a0.toNat a0.toNat l1 := fun e he => by have := hed e he; omega
      have hed1 := (rightB_iff a0 a0 _ hb1).2 _ (List.mem_singleton.2 rfl)
      simp only at hed1
      have hE' : Edges a0.toNat a0.toNat (l1 ++ [(⟨o0, o1, o2⟩ : S40)]) := edges_snoc hE (by simp only; omega)
      have hb' := right_of ha0 ha1 (show (l1 ++ [(⟨o0, o1, o2⟩ : S40)]).length ≤ 4096 by simp; omega) hE'
      obtain ⟨s1, s2⟩ := snoc_size hb hb'
      obtain ⟨hG, hM, _⟩ := most_good hb
      obtain ⟨hG', hM', _⟩ := most_good hb'
      have hml : (mostL a0.toNat a0.toNat l1).length = a0.toNat := by rw [hM.1, hG.1]
      have hml' : (mostL a0.toNat a0.toNat (l1 ++ [(⟨o0, o1, o2⟩ : S40)])).length = a0.toNat := by rw [hM'.1, hG'.1]
      have hsz := Ev_Size (mostL a0.toNat a0.toNat l1) (by omega)
      have hsz' := Ev_Size (mostL a0.toNat a0.toNat (l1 ++ [(⟨o0, o1, o2⟩ : S40)])) (by omega)
      have hle := sizeN_le (mostL a0.toNat a0.toNat l1)
      have hj := More_all (by omega) hb hb'
      have hf := most_f' hb
      have hf' := most_f' hb'
      have hml0 : ((mostL a0.toNat a0.toNat l1).length : Int) = a0 := by omega
      have hml0' : ((mostL a0.toNat a0.toNat (l1 ++ [(⟨o0, o1, o2⟩ : S40)])).length : Int) = a0 := by omega
      refine Ev.step (fun k => ?_) (More_mid hsz hsz' s1 s2 (by omega) hj)
      simp only [orrerylaw19_MatchMore.j0, Bool.false_eq_true, if_false, Option.bind_some, List.nil_append]
      rw [if_pos (by simp; omega), if_pos (by simp; omega), hf, hf']
      generalize mostL a0.toNat a0.toNat l1 = MA at hml0 ⊢
      generalize mostL a0.toNat a0.toNat (l1 ++ [(⟨o0, o1, o2⟩ : S40)]) = MB at hml0' ⊢
      simp only [Option.bind_some, if_true, if_pos hml0, if_pos hml0']
    · have hbf : rightB a0 a0 [(⟨o0, o1, o2⟩ : S40)] = false := by simpa using hb1
      simp only [hbf, Bool.false_eq_true, if_false]
      exact jt
  · have hbf : rightB a0 a0 l1 = false := by simpa using hb
    simp only [hbf, Bool.false_eq_true, if_false]
    exact jt
end Go.Proofs.Ytamloclgignfgaa.PA
