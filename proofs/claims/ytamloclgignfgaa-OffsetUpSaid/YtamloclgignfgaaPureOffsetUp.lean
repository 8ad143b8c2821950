/- OffsetUp in plain Lean. -/
import Derived.Test.YtamloclgignfgaaPAx36
import Derived.Test.YtamloclgignfgaaRowA
import Derived.Test.YtamloclgignfgaaOb
import Derived.Test.YtamloclgignfgaaOv
namespace Go.Proofs.Ytamloclgignfgaa.PA
open Go.RowKit Go.Proofs.YtamloclgignfgaaW.PrintWords Go.Proofs.YtamloclgignfgaaW.PrintLast Go.Proofs.YtamloclgignfgaaW.PrintMore
set_option linter.unusedVariables false
set_option linter.unusedSimpArgs false

/-- An edge one heavier. -/
def upE (e : S40) : S40 := ⟨e.f0, e.f1, e.f2 + 1⟩
theorem wt_up {n : Nat} {l : List S40} (hE : Edges n n l) (i j : Int) : (0 ≤ wt l i j → wt (l.map upE) i j = wt l i j + 1) ∧ (0 ≤ wt (l.map upE) i j → 0 ≤ wt l i j) := by
  have hat : 0 ≤ wt (l.map upE) i j → ∃ e ∈ l, e.f0 = i ∧ e.f1 = j ∧ wt (l.map upE) i j = e.f2 + 1 := fun h => by
    obtain ⟨e', he', e0, e1, e2⟩ := wt_att h
    obtain ⟨e, he, rfl⟩ := List.mem_map.1 he'
    exact ⟨e, he, e0, e1, e2.symm⟩
  refine ⟨fun h => ?_, fun h => ?_⟩
  · obtain ⟨e, he, e0, e1, e2⟩ := wt_att h
    have h1 := wt_ge (List.mem_map_of_mem (f := upE) he)
    have h2 : e.f2 + 1 ≤ wt (l.map upE) i j := by rw [← e0, ← e1]; exact h1
    obtain ⟨x, hx, x0, x1, x2⟩ := hat (by omega)
    have h3 := wt_ge hx
    rw [x0, x1] at h3
    omega
  · obtain ⟨e, he, e0, e1, e2⟩ := hat h
    exact (wt_nonneg (fun e he => (hE e he).2.2.2.2.1) i j).2 ⟨e, he, e0, e1⟩
theorem Whole.up {n : Nat} {l : List S40} {told : List Int} (T : Whole n l told) (h99 : ∀ e ∈ l, e.f2 ≤ 99) : Whole n (l.map upE) told :=
  ⟨T.hn, by rw [List.length_map]; exact T.hl, fun e he => by
    obtain ⟨x, hx, rfl⟩ := List.mem_map.1 he
    have h1 := T.hE x hx
    have h2 := h99 x hx
    exact ⟨h1.1, h1.2.1, h1.2.2.1, h1.2.2.2.1, by show 0 ≤ x.f2 + 1; omega, by show x.f2 + 1 ≤ 100; omega⟩, T.len, fun i a b => by
    obtain ⟨r0, r1, r2⟩ := T.rg i a b
    exact ⟨r0, r1, by rw [(wt_up T.hE i _).1 r2]; omega⟩, T.inj⟩
theorem Fit.up {n : Nat} {l : List S40} {told : List Int} (T : Whole n l told) {c d : Int → Int} (h : Fit (wt l) n told c d) : Fit (wt (l.map upE)) n told c (fun j => d j + 1) :=
  ⟨h.c0, fun i a b => by have := h.d0 i a b; show 0 ≤ d (rd told i) + 1; omega, fun i a b => by
    rw [(wt_up T.hE i _).1 (T.rg i a b).2.2]
    have := h.eq i a b
    show d (rd told i) + 1 - c i = _; omega, fun i j a b e f w => by
    have h1 := (wt_up T.hE i j).2 w
    rw [(wt_up T.hE i j).1 h1]
    have := h.le i j a b e f h1
    show _ ≤ d j + 1 - c i; omega⟩
theorem Fit.down {n : Nat} {l : List S40} {told : List Int} (T : Whole n l told) {c d : Int → Int} (h : Fit (wt (l.map upE)) n told c d) : Fit (wt l) n told c (fun j => d j - 1) :=
  ⟨h.c0, fun i a b => by
    have h1 := h.eq i a b
    have h2 := (T.rg i a b).2.2
    have h3 := h.c0 i a b
    rw [(wt_up T.hE i _).1 h2] at h1
    show 0 ≤ d (rd told i) - 1; omega, fun i a b => by
    have := h.eq i a b
    rw [(wt_up T.hE i _).1 (T.rg i a b).2.2] at this
    show d (rd told i) - 1 - c i = _; omega, fun i j a b e f w => by
    have h1 := (wt_up T.hE i j).1 w
    have := h.le i j a b e f (by omega)
    show _ ≤ d j - 1 - c i; omega⟩
theorem Up_l1 (n : Nat) (hn : n ≤ 64) (c d c' d' : List Int) (hc : c.length = n) (hd : d.length = n) (hc' : c'.length = n) (hd' : d'.length = n) (h1 : ∀ i : Int, 0 ≤ i → i < (n : Int) → rd c i = rd c' i ∧ wrap64 (rd d i + 1) = rd d' i) :
    ∀ (r i : Nat), i + r = n → Ev (fun k => orrerylaw20_OffsetUp.l1 k c d c' d' (n : Int) (i : Int)) true := by
  intro r
  induction r with
  | zero =>
    intro i hi
    refine Ev.step (f := fun _ => some true) (fun k => ?_) (Ev.now _)
    simp only [orrerylaw20_OffsetUp.l1]
    rw [if_neg (by omega)]
  | succ r ih =>
    intro i hi
    have h2 := h1 (i : Int) (by omega) (by omega)
    refine Ev.step (fun k => ?_) (ih (i + 1) (by omega))
    simp only [orrerylaw20_OffsetUp.l1]
    rw [if_pos (by omega), if_pos (by omega), if_pos (by omega), if_pos (by omega), if_pos h2.1, if_pos (by omega), if_pos (by omega), if_pos h2.2, w64 (n := (i : Int) + 1) (by omega) (by omega), show (i : Int) + 1 = ((i + 1 : Nat) : Int) by omega]
theorem take_rd {l : List S40} {i : Nat} (h : i < l.length) : l.take (i + 1) = l.take i ++ [rd_T40 l (i : Int)] := by
  rw [List.take_add_one, List.getElem?_eq_getElem h]
  simp [rd_T40, List.getD_eq_getElem?_getD, List.getElem?_eq_getElem h]
theorem Up_l0 (a : Int) (l : List S40) (told : List Int) (hl : l.length ≤ 4096) (hw : ∀ e ∈ l, 0 ≤ e.f2 ∧ e.f2 ≤ 100)
    (h : (∀ e ∈ l, e.f2 ≤ 99) → Ev (fun k => orrerylaw20_OffsetUp.l0 k a l told (l.map upE) l (l.length : Int) (l.length : Int)) true) :
    ∀ (r i : Nat), i + r = l.length → (∀ e ∈ l.take i, e.f2 ≤ 99) → Ev (fun k => orrerylaw20_OffsetUp.l0 k a l told ((l.take i).map upE) l (l.length : Int) (i : Int)) true := by
  intro r
  induction r with
  | zero =>
    intro i hi h99
    have : i = l.length := by omega
    subst this
    rw [List.take_length] at h99 ⊢
    exact h h99
  | succ r ih =>
    intro i hi h99
    have hm : rd_T40 l (i : Int) ∈ l := by
      unfold rd_T40; rw [List.getD_eq_getElem?_getD, Int.toNat_natCast, List.getElem?_eq_getElem (by omega)]; exact List.getElem_mem _
    have hlen : ((l.take i).map upE).length = i := by rw [List.length_map, List.length_take]; omega
    have ht := take_rd (show i < l.length by omega)
    generalize hx : rd_T40 l (i : Int) = e at hm ht
    have he := hw e hm
    by_cases c : e.f2 > 99
    · refine Ev.step (f := fun _ => some true) (fun k => ?_) (Ev.now _)
      simp only [orrerylaw20_OffsetUp.l0]
      rw [if_pos (by omega), if_pos (by omega), if_pos (by omega), hx, if_pos c]
    · have h1 := ih (i + 1) (by omega) (fun x hx => by
        rw [ht] at hx
        rcases List.mem_append.1 hx with hx | hx
        · exact h99 x hx
        · rw [List.mem_singleton.1 hx]; omega)
      rw [ht, List.map_append] at h1
      refine Ev.step (fun k => ?_) h1
      simp only [orrerylaw20_OffsetUp.l0]
      rw [if_pos (by omega), if_pos (by omega), if_pos (by omega), hx, if_neg c, hlen, if_pos (by omega), w64 (n := e.f2 + 1) (by omega) (by omega), w64 (n := (i : Int) + 1) (by omega) (by omega), show (i : Int) + 1 = ((i + 1 : Nat) : Int) by omega]
      rfl
theorem OffsetUp_pure (a0 : Int) (l1 : List S40) (l2 : List Int) (h0 : I64 a0) (h1 : (∀ e ∈ l1, I64 e.f0 ∧ I64 e.f1 ∧ I64 e.f2) ∧ l1.length ≤ 9223372036854775807) (h2 : (∀ x ∈ l2, I64 x) ∧ l2.length ≤ 9223372036854775807) : ∃ k, orrerylaw20_OffsetUp.f k a0 l1 l2 = some true := by
  refine Ev.rounds (g := fun k => orrerylaw20_OffsetUp.f k a0 l1 l2) ?_
  unfold orrerylaw20_OffsetUp.f orrerylaw20_alive.f
  simp only [Option.bind_some, if_true]
  have hT := Ev_Told a0 l1 l2 h1.2
  have jt : Ev (fun k => orrerylaw20_OffsetUp.j0 k a0 l1 l2 true) true := Ev.step (f := fun _ => some true) (fun k => by simp [orrerylaw20_OffsetUp.j0]) (Ev.now _)
  by_cases hb : toldB a0 l1 l2 = true
  · rw [hb] at hT
    refine Ev.bind hT ?_
    simp only [if_true]
    by_cases hz : a0 = 0
    · rw [show (a0 == 0) = true by simpa using hz]; exact jt
    rw [show (a0 == 0) = false by simpa using hz]
    obtain ⟨ha, T⟩ := toldB_whole hb
    have hn := T.hn
    have h3 := Up_l0 a0 l1 l2 T.hl (fun e he => by have := T.hE e he; omega) (fun h99 => ?_) l1.length 0 (by omega) (fun e he => by simp at he)
    · refine Ev.step (fun k => ?_) h3
      simp only [orrerylaw20_OffsetUp.j0]
      rw [if_neg (by simp)]; rfl
    have T' := T.up h99
    obtain ⟨o, ho, _, hO⟩ := Ev_LeastOff hb
    obtain ⟨o', ho', _, hO'⟩ := Ev_LeastOff (toldB_of ha T')
    refine Ev.step (fun k => by simp only [orrerylaw20_OffsetUp.l0]; rw [if_neg (by omega)]) (Ev.bind hO (Ev.bind hO' ?_))
    rcases o with _ | ⟨c, d⟩
    · rcases o' with _ | ⟨c', d'⟩
      · simp only [outO, if_true]
        refine Ev.step (fun k => ?_) (Up_l1 0 (by omega) [] [] [] [] rfl rfl rfl rfl (fun i a b => by omega) 0 0 rfl)
        simp [orrerylaw20_OffsetUp.j2]
      · exfalso
        obtain ⟨_, _, hV⟩ := ho'.small T'
        obtain ⟨i, a, b, w⟩ := ho _ _ ((RowV.fit T' hV).down T)
        have := ho'.2.1 i a b
        omega
    · obtain ⟨hc, hd, hV⟩ := ho.small T
      have hf := RowV.fit T hV
      rcases o' with _ | ⟨c', d'⟩
      · exfalso
        obtain ⟨i, a, b, w⟩ := ho' _ _ (hf.up T)
        have := ho.2.1 i a b
        omega
      · obtain ⟨hc', hd', hV'⟩ := ho'.small T'
        have hf' := RowV.fit T' hV'
        simp only [outO, if_true, eq_true (show (c.length : Int) = (c'.length : Int) by rw [hc.1, hc'.1])]
        refine Ev.step (fun k => ?_) (Up_l1 a0.toNat hn c d c' d' hc.1 hd.1 hc'.1 hd'.1 (fun j a b => ?_) a0.toNat 0 (by omega))
        · simp only [orrerylaw20_OffsetUp.j2]
          rw [if_neg (by simp [hd.1, hd'.1]), hc.1]; rfl
        · have hcc : ∀ i : Int, 0 ≤ i → i < (a0.toNat : Int) → rd c i = rd c' i := fun i a b => Int.le_antisymm (ho.2.2.2.2 _ _ (hf'.down T) i a b) (ho'.2.2.2.2 _ _ (hf.up T) i a b)
          refine ⟨hcc j a b, ?_⟩
          obtain ⟨i, i0, i1, rfl⟩ := T.onto a b
          have e1 := hf.eq i i0 i1
          have e2 := hf'.eq i i0 i1
          have e3 := hcc i i0 i1
          rw [(wt_up T.hE i _).1 (T.rg i i0 i1).2.2] at e2
          have e4 := hd.2 _ a b
          rw [w64 (by omega) (by omega)]
          omega
  · have hbf : toldB a0 l1 l2 = false := by simpa using hb
    rw [hbf] at hT
    refine Ev.bind hT ?_
    simp only [Bool.false_eq_true, if_false]
    exact jt
end Go.Proofs.Ytamloclgignfgaa.PA
