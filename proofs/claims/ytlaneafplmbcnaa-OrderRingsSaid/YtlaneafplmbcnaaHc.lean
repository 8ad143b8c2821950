/- Several texts of this claim, one behind the other. -/
import Derived.Test.YtlaneafplmbcnaaPOx0
import Derived.Test.YtlaneafplmbcnaaGe
namespace Go.Proofs.Ytlaneafplmbcnaa.PO
open Go.RowKit Go.Proofs.YtlaneafplmbcnaaW.PrintWords Go.Proofs.YtlaneafplmbcnaaW.PrintLast Go.Proofs.YtlaneafplmbcnaaW.PrintMore
set_option linter.unusedVariables false
set_option linter.unusedSimpArgs false

theorem tj_rd (o : List Int) (j j' x : Int) (h0 : 0 ≤ j) (h1 : j < o.length) (h2 : 0 ≤ j') : rd (o.set j.toNat x) j' = if j = j' then x else rd o j' := by
  unfold rd
  rw [List.getD_eq_getElem?_getD, List.getD_eq_getElem?_getD, List.getElem?_set]
  by_cases e : j = j'
  · subst e; rw [if_pos rfl, if_pos rfl, if_pos (by omega)]; rfl
  · rw [if_neg (by omega), if_neg e]
theorem tj_sn (s : List Bool) (j j' : Int) (b : Bool) (h0 : 0 ≤ j) (h1 : j < s.length) (h2 : 0 ≤ j') : rdOf false (s.set j.toNat b) j' = if j = j' then b else rdOf false s j' := by
  unfold rdOf
  rw [List.getD_eq_getElem?_getD, List.getD_eq_getElem?_getD, List.getElem?_set]
  by_cases e : j = j'
  · subst e; rw [if_pos rfl, if_pos rfl, if_pos (by omega)]; rfl
  · rw [if_neg (by omega), if_neg e]
theorem tj_count_set (o : List Int) (j x : Int) (h0 : 0 ≤ j) (h1 : j < o.length) (hz : rd o j = 0) (hx : x ≠ 0) : (o.set j.toNat x).count 0 + 1 = o.count 0 := by
  have hl : j.toNat < o.length := by omega
  have hr : o[j.toNat] = 0 := by rw [← hz]; unfold rd; rw [List.getD_eq_getElem?_getD, List.getElem?_eq_getElem hl]; rfl
  have hp : 0 < o.count 0 := List.count_pos_iff.2 (by rw [← hr]; exact List.getElem_mem hl)
  rw [List.count_set hl, hr]
  simp only [beq_self_eq_true, if_true, beq_iff_eq, hx, if_false]
  omega
theorem tj_count_le : ∀ (a b : List Int), a.length = b.length → (∀ j : Int, 0 ≤ j → j < (a.length : Int) → rd a j = 0 → rd b j = 0) → a.count 0 ≤ b.count 0 := by
  intro a
  induction a with
  | nil => intro b h _; simp
  | cons x a ih =>
    intro b h hj
    cases b with
    | nil => simp at h
    | cons y b =>
      have h0 := hj 0 (by omega) (by simp only [List.length_cons]; omega)
      have h1 := ih b (by simpa using h) (fun j j0 j1 hz => by
        have := hj (j + 1) (by omega) (by simp; omega)
        unfold rd at this hz ⊢
        rw [show (j + 1).toNat = j.toNat + 1 by omega] at this
        simpa using this hz)
      simp only [List.count_cons]
      simp only [rd, Int.toNat_zero, List.getD_cons_zero] at h0
      by_cases e : x = 0
      · rw [h0 e, e]; simp only [beq_self_eq_true, if_true]; omega
      · simp only [beq_iff_eq, e, if_false]; omega
theorem tj_nodup_le : ∀ (l s : List Int), l.Nodup → (∀ x ∈ l, x ∈ s) → l.length ≤ s.length := by
  intro l
  induction l with
  | nil => intro s _ _; simp
  | cons x l ih =>
    intro s hn hs
    have hx := hs x List.mem_cons_self
    have := ih (s.erase x) (List.nodup_cons.1 hn).2 (fun y hy => (List.mem_erase_of_ne (by rintro rfl; exact (List.nodup_cons.1 hn).1 hy)).2 (hs y (List.mem_cons_of_mem _ hy)))
    rw [List.length_erase_of_mem hx] at this
    have hp := List.length_pos_of_mem hx
    simp only [List.length_cons]; omega
/-- Some places are cleared. -/
def offs (s : List Bool) (b : List Int) : List Bool := b.foldl (fun s k => s.set k.toNat false) s
theorem offs_len (b : List Int) : ∀ s, (offs s b).length = s.length := by
  induction b with
  | nil => intro s; rfl
  | cons k b ih => intro s; show (offs _ b).length = _; rw [ih]; simp
theorem offs_at (b : List Int) : ∀ (s : List Bool) (j : Int), (∀ k ∈ b, 0 ≤ k ∧ k < (s.length : Int)) → 0 ≤ j → (rdOf false (offs s b) j = true ↔ j ∉ b ∧ rdOf false s j = true) := by
  induction b with
  | nil => intro s j _ _; simp [offs]
  | cons k b ih =>
    intro s j h j0
    have hk := h k List.mem_cons_self
    show rdOf false (offs (s.set k.toNat false) b) j = true ↔ _
    rw [ih (s.set k.toNat false) j (fun x hx => by have := h x (List.mem_cons_of_mem _ hx); simp; omega) j0, tj_sn s k j false hk.1 hk.2 j0]
    by_cases e : k = j
    · subst e; simp
    · rw [if_neg e]
      simp [List.mem_cons, show ¬ j = k from fun h => e h.symm]
/-- Rising. -/
def sortI (l : List Int) : List Int := l.mergeSort fun x y => decide (x ≤ y)
theorem mem_sortI {l : List Int} {x : Int} : x ∈ sortI l ↔ x ∈ l := List.mem_mergeSort
theorem sortI_len (l : List Int) : (sortI l).length = l.length := List.length_mergeSort l
theorem sortI_le (l : List Int) : (sortI l).Pairwise (fun a b => a ≤ b) := by
  have h := List.pairwise_mergeSort (le := fun x y : Int => decide (x ≤ y)) (fun a b c h1 h2 => by simp at *; omega) (fun a b => by simp; omega) l
  exact h.imp (fun {a b} h => by simpa using h)
theorem sortI_nodup {l : List Int} (h : l.Nodup) : (sortI l).Nodup := (List.mergeSort_perm l _).nodup_iff.2 h
theorem sortI_lt {l : List Int} (h : l.Nodup) : (sortI l).Pairwise (fun a b => a < b) := by
  have h1 := sortI_le l
  have h2 := sortI_nodup h
  exact (h1.and h2).imp (fun {a b} h => by omega)

inductive Rch (N : List (List Int)) : Int → Int → Prop
  | refl (i : Int) : Rch N i i
  | step {i k j : Int} : k ∈ rd_L3 N i → Rch N k j → Rch N i j
theorem Rch.trans {N : List (List Int)} {i k j : Int} (h : Rch N i k) : Rch N k j → Rch N i j := by
  induction h with
  | refl => exact id
  | step h _ ih => exact fun hj => .step h (ih hj)
theorem Rch.one {N : List (List Int)} {i k : Int} (h : k ∈ rd_L3 N i) : Rch N i k := .step h (.refl k)
/-- What holds of a node and of all that follow. -/
theorem Rch.keeps {N : List (List Int)} {P : Int → Prop} (hP : ∀ i, P i → ∀ k ∈ rd_L3 N i, P k) {i j : Int} (h : Rch N i j) : P i → P j := by
  induction h with
  | refl => exact id
  | step h _ ih => exact fun hi => ih (hP _ hi _ h)
/-- The nodes that a node reaches and that reach it. -/
def IsScc (N : List (List Int)) (c : List Int) : Prop := c.Pairwise (fun a b => a < b) ∧ ∃ r ∈ c, ∀ x, x ∈ c ↔ Rch N r x ∧ Rch N x r

structure TS where
  cnt : Int
  no : List Int
  low : List Int
  on : List Bool
  st : List Int
  out : List (List Int)
def TS.enter (t : TS) (i : Int) : TS := ⟨t.cnt + 1, t.no.set i.toNat (t.cnt + 1), t.low.set i.toNat (t.cnt + 1), t.on.set i.toNat true, t.st ++ [i], t.out⟩
def TS.relax (t : TS) (i x : Int) : TS := { t with low := t.low.set i.toNat (if rd t.low i ≤ x then rd t.low i else x) }
def TS.close (t : TS) (i : Int) : TS := { t with on := offs t.on (t.st.drop (t.st.idxOf i)), st := t.st.take (t.st.idxOf i), out := t.out ++ [sortI (t.st.drop (t.st.idxOf i))] }
def walkL (rec : Int → TS → TS) (i : Int) : List Int → TS → TS
  | [], t => t
  | k :: ks, t => if rd t.no k = 0 then walkL rec i ks ((rec k t).relax i (rd (rec k t).low k)) else if rdOf false t.on k = true then walkL rec i ks (t.relax i (rd t.no k)) else walkL rec i ks t
def walkEnd (i : Int) (t : TS) : TS := if rd t.low i = rd t.no i then t.close i else t
def walkF (N : List (List Int)) : Nat → Int → TS → TS
  | 0, _, t => t
  | d + 1, i, t => walkEnd i (walkL (walkF N d) i (rd_L3 N i) (t.enter i))
def allF (N : List (List Int)) : Nat → Int → TS → TS
  | 0, _, t => t
  | d + 1, i, t => allF N d (i + 1) (if rd t.no i = 0 then walkF N N.length i t else t)
def ts0 (n : Nat) : TS := ⟨0, List.replicate n 0, List.replicate n 0, List.replicate n false, [], []⟩
def tarjan (N : List (List Int)) : List (List Int) := (allF N N.length 0 (ts0 N.length)).out

structure Wf (N : List (List Int)) (n : Nat) (G : Int → Prop) (t : TS) : Prop where
  ln : t.no.length = n
  ll : t.low.length = n
  lo : t.on.length = n
  cw : t.cnt + (t.no.count 0 : Int) = (n : Int)
  nob : ∀ j : Int, 0 ≤ j → j < (n : Int) → 0 ≤ rd t.no j ∧ rd t.no j ≤ t.cnt
  ol : ((t.out.length + t.st.length : Nat) : Int) ≤ t.cnt
  stv : ∀ y ∈ t.st, 0 ≤ y ∧ y < (n : Int) ∧ rd t.no y ≠ 0
  onv : ∀ j : Int, 0 ≤ j → j < (n : Int) → (rdOf false t.on j = true ↔ j ∈ t.st)
  inc : t.st.Pairwise (fun a b => rd t.no a < rd t.no b)
  vis : ∀ j : Int, 0 ≤ j → j < (n : Int) → rd t.no j ≠ 0 → j ∈ t.st ∨ ∃ c ∈ t.out, j ∈ c
  outv : ∀ c ∈ t.out, ∀ j ∈ c, 0 ≤ j ∧ j < (n : Int) ∧ rd t.no j ≠ 0 ∧ j ∉ t.st
  blk : ∀ j : Int, 0 ≤ j → j < (n : Int) → rd t.no j ≠ 0 → ¬ G j → ∀ k ∈ rd_L3 N j, rd t.no k ≠ 0
  cls : ∀ c ∈ t.out, ∀ j ∈ c, ∀ k ∈ rd_L3 N j, ∃ c' ∈ t.out, k ∈ c'
  gst : ∀ g, G g → g ∈ t.st
  up : ∀ y ∈ t.st, ∃ g, G g ∧ rd t.no g ≤ rd t.no y ∧ Rch N y g
  dn : ∀ g, G g → ∀ y ∈ t.st, rd t.no g ≤ rd t.no y → Rch N g y
  scc : ∀ c ∈ t.out, IsScc N c
  dis : t.out.Pairwise (fun a b => ∀ x ∈ a, x ∉ b)

/-- What a call of the walk leaves. -/
structure Post (N : List (List Int)) (n : Nat) (G : Int → Prop) (i : Int) (t t' : TS) : Prop where
  wf : Wf N n G t'
  keep : ∀ j : Int, 0 ≤ j → j < (n : Int) → rd t.no j ≠ 0 → rd t'.no j = rd t.no j
  new : ∀ j : Int, 0 ≤ j → j < (n : Int) → rd t.no j = 0 → rd t'.no j ≠ 0 → t.cnt < rd t'.no j
  lowk : ∀ j : Int, 0 ≤ j → j < (n : Int) → rd t.no j ≠ 0 → rd t'.low j = rd t.low j
  vi : rd t'.no i ≠ 0
  stk : ∃ S, t'.st = t.st ++ S ∧ (∀ y ∈ S, rd t.no y = 0) ∧ ∀ y ∈ S, ∀ k ∈ rd_L3 N y, k ∈ t.st → rd t'.low i ≤ rd t'.no k
  low : rd t'.low i = rd t'.no i ∨ ∃ y ∈ t.st, rd t'.no y = rd t'.low i ∧ Rch N i y
/-- What holds while the successors of i are gone through; b: what was when i was entered. -/
structure LInv (N : List (List Int)) (n : Nat) (G : Int → Prop) (i : Int) (b : TS) (ks : List Int) (t : TS) : Prop where
  wf : Wf N n (fun g => g = i ∨ G g) t
  keep : ∀ j : Int, 0 ≤ j → j < (n : Int) → rd b.no j ≠ 0 → rd t.no j = rd b.no j
  new : ∀ j : Int, 0 ≤ j → j < (n : Int) → rd b.no j = 0 → rd t.no j ≠ 0 → b.cnt < rd t.no j
  lowk : ∀ j : Int, 0 ≤ j → j < (n : Int) → rd b.no j ≠ 0 → rd t.low j = rd b.low j
  vi : rd t.no i ≠ 0
  stk : ∃ S, t.st = b.st ++ i :: S ∧ (∀ y ∈ S, rd b.no y = 0) ∧ ∀ y ∈ S, ∀ k ∈ rd_L3 N y, k ∈ b.st → rd t.low i ≤ rd t.no k
  done : ∀ k ∈ rd_L3 N i, k ∈ ks ∨ (rd t.no k ≠ 0 ∧ (k ∈ b.st → rd t.low i ≤ rd t.no k))
  lle : rd t.low i ≤ rd t.no i
  low : rd t.low i = rd t.no i ∨ ∃ y ∈ b.st, rd t.no y = rd t.low i ∧ Rch N i y

section
variable {N : List (List Int)} {n : Nat} {G : Int → Prop} {i : Int} {b t : TS}
theorem Wf.nodup (h : Wf N n G t) : t.st.Nodup := h.inc.imp (fun {a b} h e => by rw [e] at h; omega)
theorem Wf.cnt0 (h : Wf N n G t) : 0 ≤ t.cnt ∧ t.cnt ≤ (n : Int) := by
  have h1 := h.cw
  have h2 : t.no.count 0 ≤ t.no.length := List.count_le_length
  have h3 := h.ln
  have h4 := h.ol
  omega
theorem Wf.relax (h : Wf N n G t) (x : Int) : Wf N n G (t.relax i x) :=
  ⟨h.ln, by show (List.set _ _ _).length = n; rw [List.length_set]; exact h.ll, h.lo, h.cw, h.nob, h.ol, h.stv, h.onv, h.inc, h.vis, h.outv, h.blk, h.cls, h.gst, h.up, h.dn, h.scc, h.dis⟩
/-- A node is entered. -/
theorem Wf.enter (hN : ∀ j, ∀ k ∈ rd_L3 N j, 0 ≤ k ∧ k < (n : Int)) (h : Wf N n G b) (i0 : 0 ≤ i) (i1 : i < (n : Int)) (hw : rd b.no i = 0) (hg : ∀ g, G g → Rch N g i) : LInv N n G i b (rd_L3 N i) (b.enter i) := by
  have hc := h.cnt0
  have nn : ∀ j, 0 ≤ j → rd (b.enter i).no j = if i = j then b.cnt + 1 else rd b.no j := fun j j0 => tj_rd b.no i j _ i0 (by rw [h.ln]; exact i1) j0
  have lw : ∀ j, 0 ≤ j → rd (b.enter i).low j = if i = j then b.cnt + 1 else rd b.low j := fun j j0 => tj_rd b.low i j _ i0 (by rw [h.ll]; exact i1) j0
  have ni : rd (b.enter i).no i = b.cnt + 1 := by rw [nn i i0, if_pos rfl]
  have li : rd (b.enter i).low i = b.cnt + 1 := by rw [lw i i0, if_pos rfl]
  have nk : ∀ j, 0 ≤ j → rd b.no j ≠ 0 → rd (b.enter i).no j = rd b.no j := fun j j0 hj => by rw [nn j j0, if_neg (by rintro rfl; exact hj hw)]
  have hmem : ∀ y, y ∈ (b.enter i).st ↔ y ∈ b.st ∨ y = i := fun y => by show y ∈ b.st ++ [i] ↔ _; simp
  have nst : ∀ y ∈ b.st, rd (b.enter i).no y = rd b.no y := fun y hy => nk y (h.stv y hy).1 (h.stv y hy).2.2
  have hi : i ∉ b.st := fun hi => (h.stv i hi).2.2 hw
  have nz : ∀ j, 0 ≤ j → (rd (b.enter i).no j ≠ 0 ↔ rd b.no j ≠ 0 ∨ j = i) := fun j j0 => by
    rw [nn j j0]
    by_cases e : i = j
    · rw [if_pos e]; exact ⟨fun _ => .inr e.symm, fun _ => by omega⟩
    · rw [if_neg e]; exact ⟨.inl, fun h => h.elim id (fun h => absurd h.symm e)⟩
  refine ⟨⟨?_, ?_, ?_, ?_, fun j j0 j1 => ?_, ?_, fun y hy => ?_, fun j j0 j1 => ?_, ?_, fun j j0 j1 hj => ?_, fun c hc j hj => ?_, fun j j0 j1 hj hGj k hk => ?_, h.cls, fun g hg' => ?_, fun y hy => ?_, fun g hg' y hy hle => ?_, h.scc, h.dis⟩,
    fun j j0 _ hj => nk j j0 hj, fun j j0 _ hj hj' => ?_, fun j j0 _ hj => ?_, ?_, ⟨[], by show b.st ++ [i] = _; rfl, fun y hy => (List.not_mem_nil hy).elim, fun y hy => (List.not_mem_nil hy).elim⟩, fun k hk => .inl hk, by rw [li, ni]; omega, .inl (by rw [li, ni])⟩
  · show (List.set _ _ _).length = n; rw [List.length_set]; exact h.ln
  · show (List.set _ _ _).length = n; rw [List.length_set]; exact h.ll
  · show (List.set _ _ _).length = n; rw [List.length_set]; exact h.lo
  · have h1 := tj_count_set b.no i (b.cnt + 1) i0 (by rw [h.ln]; exact i1) hw (by omega)
    have h2 := h.cw
    show b.cnt + 1 + ((b.no.set i.toNat (b.cnt + 1)).count 0 : Int) = _
    omega
  · rw [nn j j0]
    show _ ∧ _ ≤ b.cnt + 1
    have := h.nob j j0 j1
    split <;> omega
  · have := h.ol
    show ((b.out.length + (b.st ++ [i]).length : Nat) : Int) ≤ b.cnt + 1
    simp; omega
  · rcases (hmem y).1 hy with hy | rfl
    · have h1 := h.stv y hy
      exact ⟨h1.1, h1.2.1, by rw [nst y hy]; exact h1.2.2⟩
    · exact ⟨i0, i1, by rw [ni]; omega⟩
  · rw [hmem]
    show rdOf false (b.on.set i.toNat true) j = true ↔ _
    rw [tj_sn b.on i j true i0 (by rw [h.lo]; exact i1) j0]
    by_cases e : i = j
    · rw [if_pos e]; simp [e]
    · rw [if_neg e, h.onv j j0 j1]; exact ⟨.inl, fun h => h.elim id (fun h => absurd h.symm e)⟩
  · show (b.st ++ [i]).Pairwise _
    rw [List.pairwise_append]
    refine ⟨List.Pairwise.imp_of_mem (fun {x y} hx hy hxy => by rw [nst x hx, nst y hy]; exact hxy) h.inc, List.pairwise_singleton _ _, fun x hx y hy => ?_⟩
    rw [List.mem_singleton.1 hy, ni, nst x hx]
    have h1 := h.stv x hx
    have := h.nob x h1.1 h1.2.1
    omega
  · rcases (nz j j0).1 hj with h1 | rfl
    · rcases h.vis j j0 j1 h1 with h2 | h2
      · exact .inl ((hmem j).2 (.inl h2))
      · exact .inr h2
    · exact .inl ((hmem _).2 (.inr rfl))
  · obtain ⟨a, b', c', d⟩ := h.outv c hc j hj
    exact ⟨a, b', (nz j a).2 (.inl c'), fun h1 => ((hmem j).1 h1).elim d (fun e => c' (by rw [e]; exact hw))⟩
  · have h1 : rd b.no j ≠ 0 := ((nz j j0).1 hj).resolve_right (fun e => hGj (.inl e))
    exact (nz k (hN j k hk).1).2 (.inl (h.blk j j0 j1 h1 (fun h => hGj (.inr h)) k hk))
  · rcases hg' with rfl | hg'
    · exact (hmem _).2 (.inr rfl)
    · exact (hmem _).2 (.inl (h.gst g hg'))
  · rcases (hmem y).1 hy with hy | rfl
    · obtain ⟨g, h1, h2, h3⟩ := h.up y hy
      exact ⟨g, .inr h1, by rw [nst y hy, nst g (h.gst g h1)]; exact h2, h3⟩
    · exact ⟨y, .inl rfl, Int.le_refl _, .refl _⟩
  · rcases (hmem y).1 hy with hyb | rfl
    · rcases hg' with e | hg'
      · rw [e, ni, nst y hyb] at hle
        have h1 := h.stv y hyb
        have := h.nob y h1.1 h1.2.1
        omega
      · rw [nst y hyb, nst g (h.gst g hg')] at hle
        exact h.dn g hg' y hyb hle
    · rcases hg' with rfl | hg'
      · exact .refl _
      · exact hg g hg'
  · rw [nn j j0] at hj' ⊢
    by_cases e : i = j
    · rw [if_pos e]; omega
    · rw [if_neg e] at hj'; exact absurd hj hj'
  · rw [lw j j0, if_neg (by rintro rfl; exact hj hw)]
  · rw [ni]; omega

theorem LInv.old {ks : List Int} (h : LInv N n G i b ks t) {y : Int} (hy : y ∈ t.st) (hlt : rd t.no y < rd t.no i) : y ∈ b.st := by
  obtain ⟨S, hS, _, _⟩ := h.stk
  rw [hS] at hy
  rcases List.mem_append.1 hy with hy | hy
  · exact hy
  · exfalso
    rcases List.mem_cons.1 hy with rfl | hy
    · omega
    · have h1 := h.wf.inc
      rw [hS, List.pairwise_append, List.pairwise_cons] at h1
      have := h1.2.1.1 y hy
      omega
theorem LInv.seen {ks : List Int} {k : Int} (h : LInv N n G i b (k :: ks) t) (hk : rd t.no k ≠ 0) (hn : k ∉ t.st) : LInv N n G i b ks t := by
  refine ⟨h.wf, h.keep, h.new, h.lowk, h.vi, h.stk, fun x hx => ?_, h.lle, h.low⟩
  rcases h.done x hx with h1 | h1
  · rcases List.mem_cons.1 h1 with rfl | h1
    · refine .inr ⟨hk, fun hx' => absurd ?_ hn⟩
      obtain ⟨S, hS, _⟩ := h.stk
      rw [hS]; exact List.mem_append_left _ hx'
    · exact .inl h1
  · exact .inr h1
theorem LInv.relaxed (hN : ∀ j, ∀ k ∈ rd_L3 N j, 0 ≤ k ∧ k < (n : Int)) (hb : Wf N n G b) (i0 : 0 ≤ i) (i1 : i < (n : Int)) (hw : rd b.no i = 0) {ks : List Int} {k x : Int} (h : LInv N n G i b (k :: ks) t) (hkN : k ∈ rd_L3 N i) (hk : rd t.no k ≠ 0) (hx : k ∈ b.st → x ≤ rd t.no k) (hy : x < rd t.no i → ∃ y ∈ t.st, rd t.no y = x ∧ Rch N k y) : LInv N n G i b ks (t.relax i x) := by
  have li : rd (t.relax i x).low i = if rd t.low i ≤ x then rd t.low i else x := by
    show rd (t.low.set i.toNat _) i = _
    rw [tj_rd t.low i i _ i0 (by rw [h.wf.ll]; exact i1) i0, if_pos rfl]
  have lj : ∀ j, 0 ≤ j → i ≠ j → rd (t.relax i x).low j = rd t.low j := fun j j0 e => by
    show rd (t.low.set i.toNat _) j = _
    rw [tj_rd t.low i j _ i0 (by rw [h.wf.ll]; exact i1) j0, if_neg e]
  have hle : rd (t.relax i x).low i ≤ rd t.low i ∧ rd (t.relax i x).low i ≤ x := by rw [li]; split <;> omega
  obtain ⟨S, hS, hS1, hS2⟩ := h.stk
  refine ⟨h.wf.relax x, h.keep, h.new, fun j j0 j1 hj => ?_, h.vi, ⟨S, hS, hS1, fun y hy k hk hkb => ?_⟩, fun z hz => ?_, ?_, ?_⟩
  · rw [lj j j0 (by rintro rfl; exact hj hw)]; exact h.lowk j j0 j1 hj
  · have := hS2 y hy k hk hkb
    show _ ≤ rd t.no k
    omega
  · show _ ∨ (rd t.no z ≠ 0 ∧ (z ∈ b.st → _ ≤ rd t.no z))
    rcases h.done z hz with h1 | ⟨h1, h2⟩
    · rcases List.mem_cons.1 h1 with rfl | h1
      · refine .inr ⟨hk, fun hb => ?_⟩
        have := hx hb
        omega
      · exact .inl h1
    · refine .inr ⟨h1, fun hb => ?_⟩
      have := h2 hb
      omega
  · have := h.lle
    show _ ≤ rd t.no i
    omega
  · show rd (t.relax i x).low i = rd t.no i ∨ ∃ y ∈ b.st, rd t.no y = rd (t.relax i x).low i ∧ _
    by_cases e : rd t.low i ≤ x
    · rw [li, if_pos e]; exact h.low
    · rw [li, if_neg e]
      have h3 := h.lle
      obtain ⟨y, hy1, hy2, hy3⟩ := hy (by omega)
      exact .inr ⟨y, LInv.old h hy1 (by omega), hy2, .step hkN hy3⟩
theorem LInv.held (hN : ∀ j, ∀ k ∈ rd_L3 N j, 0 ≤ k ∧ k < (n : Int)) (hb : Wf N n G b) (i0 : 0 ≤ i) (i1 : i < (n : Int)) (hw : rd b.no i = 0) {ks : List Int} {k : Int} (h : LInv N n G i b (k :: ks) t) (hkN : k ∈ rd_L3 N i) (hk : k ∈ t.st) : LInv N n G i b ks (t.relax i (rd t.no k)) :=
  LInv.relaxed hN hb i0 i1 hw h hkN (h.wf.stv k hk).2.2 (fun _ => Int.le_refl _) (fun _ => ⟨k, hk, rfl, .refl _⟩)
/-- A call has come back. -/
theorem LInv.called (hN : ∀ j, ∀ k ∈ rd_L3 N j, 0 ≤ k ∧ k < (n : Int)) (hb : Wf N n G b) (i0 : 0 ≤ i) (i1 : i < (n : Int)) (hw : rd b.no i = 0) {ks : List Int} {k : Int} {t1 : TS} (h : LInv N n G i b (k :: ks) t) (hkN : k ∈ rd_L3 N i) (hk : rd t.no k = 0) (hp : Post N n (fun g => g = i ∨ G g) k t t1) : LInv N n G i b ks (t1.relax i (rd t1.low k)) := by
  obtain ⟨k0, k1⟩ := hN i k hkN
  have vb : ∀ j, 0 ≤ j → j < (n : Int) → rd b.no j ≠ 0 → rd t.no j ≠ 0 := fun j j0 j1 hj => by rw [h.keep j j0 j1 hj]; exact hj
  have ki := hp.keep i i0 i1 h.vi
  have lki := hp.lowk i i0 i1 h.vi
  obtain ⟨S, hS, hS1, hS2⟩ := h.stk
  obtain ⟨S', hS', hS1', hS2'⟩ := hp.stk
  have hbt : ∀ y ∈ b.st, y ∈ t.st := fun y hy => by rw [hS]; exact List.mem_append_left _ hy
  have nbk : ∀ y ∈ b.st, rd t1.no y = rd t.no y := fun y hy => by
    have := hb.stv y hy
    exact hp.keep y this.1 this.2.1 (vb y this.1 this.2.1 this.2.2)
  have hkb : k ∉ b.st := fun hkb => by
    have := hb.stv k hkb
    exact vb k k0 k1 this.2.2 hk
  have hcnt : ∀ j, 0 ≤ j → j < (n : Int) → rd b.no j = 0 → rd t.no j = 0 → rd t1.no j ≠ 0 → b.cnt < rd t1.no j := fun j j0 j1 h1 h2 h3 => by
    have h4 := hp.new j j0 j1 h2 h3
    have h5 := h.new i i0 i1 hw h.vi
    have h6 := h.wf.nob i i0 i1
    omega
  -- the state as it came back, with nothing more won
  have h1 : LInv N n G i b (k :: ks) t1 ∨ True := .inr trivial
  have li : rd (t1.relax i (rd t1.low k)).low i = if rd t1.low i ≤ rd t1.low k then rd t1.low i else rd t1.low k := by
    show rd (t1.low.set i.toNat _) i = _
    rw [tj_rd t1.low i i _ i0 (by rw [hp.wf.ll]; exact i1) i0, if_pos rfl]
  have lj : ∀ j, 0 ≤ j → i ≠ j → rd (t1.relax i (rd t1.low k)).low j = rd t1.low j := fun j j0 e => by
    show rd (t1.low.set i.toNat _) j = _
    rw [tj_rd t1.low i j _ i0 (by rw [hp.wf.ll]; exact i1) j0, if_neg e]
  have hle : rd (t1.relax i (rd t1.low k)).low i ≤ rd t.low i ∧ rd (t1.relax i (rd t1.low k)).low i ≤ rd t1.low k := by rw [li, ← lki]; split <;> omega
  refine ⟨hp.wf.relax _, fun j j0 j1 hj => ?_, fun j j0 j1 hj hj' => ?_, fun j j0 j1 hj => ?_, ?_, ⟨S ++ S', ?_, fun y hy => ?_, fun y hy z hz hzb => ?_⟩, fun z hz => ?_, ?_, ?_⟩
  · show rd t1.no j = _
    rw [hp.keep j j0 j1 (vb j j0 j1 hj)]; exact h.keep j j0 j1 hj
  · change rd t1.no j ≠ 0 at hj'
    show b.cnt < rd t1.no j
    by_cases e : rd t.no j = 0
    · exact hcnt j j0 j1 hj e hj'
    · rw [hp.keep j j0 j1 e]; exact h.new j j0 j1 hj e
  · rw [lj j j0 (by rintro rfl; exact hj hw), hp.lowk j j0 j1 (vb j j0 j1 hj)]; exact h.lowk j j0 j1 hj
  · show rd t1.no i ≠ 0
    rw [ki]; exact h.vi
  · show t1.st = _
    rw [hS', hS, List.append_assoc]; rfl
  · rcases List.mem_append.1 hy with hy | hy
    · exact hS1 y hy
    · by_cases e : rd b.no y = 0
      · exact e
      · exfalso
        have hyt : y ∈ t1.st := by rw [hS']; exact List.mem_append_right _ hy
        have := hp.wf.stv y hyt
        exact vb y this.1 this.2.1 e (hS1' y hy)
  · show _ ≤ rd t1.no z
    rw [nbk z hzb]
    rcases List.mem_append.1 hy with hy | hy
    · have := hS2 y hy z hz hzb; omega
    · have := hS2' y hy z hz (hbt z hzb)
      rw [nbk z hzb] at this
      omega
  · show _ ∨ (rd t1.no z ≠ 0 ∧ (z ∈ b.st → _ ≤ rd t1.no z))
    rcases h.done z hz with h1 | ⟨h1, h2⟩
    · rcases List.mem_cons.1 h1 with rfl | h1
      · exact .inr ⟨hp.vi, fun hzb => absurd hzb hkb⟩
      · exact .inl h1
    · have hz' := hN i z hz
      refine .inr ⟨by rw [hp.keep z hz'.1 hz'.2 h1]; exact h1, fun hzb => ?_⟩
      have := h2 hzb
      rw [nbk z hzb]
      omega
  · have := h.lle
    show _ ≤ rd t1.no i
    omega
  · show rd (t1.relax i (rd t1.low k)).low i = rd t1.no i ∨ ∃ y ∈ b.st, rd t1.no y = rd (t1.relax i (rd t1.low k)).low i ∧ _
    by_cases e : rd t1.low i ≤ rd t1.low k
    · rw [li, if_pos e, lki, ki]
      rcases h.low with h1 | ⟨y, hy1, hy2, hy3⟩
      · exact .inl h1
      · exact .inr ⟨y, hy1, by rw [nbk y hy1]; exact hy2, hy3⟩
    · rw [li, if_neg e]
      have h3 := h.lle
      rcases hp.low with h1 | ⟨y, hy1, hy2, hy3⟩
      · exfalso
        have h4 := hp.new k k0 k1 hk hp.vi
        have h5 := h.wf.nob i i0 i1
        omega
      · have hyv := h.wf.stv y hy1
        have hyk := hp.keep y hyv.1 hyv.2.1 hyv.2.2
        have hyb := LInv.old h hy1 (by omega)
        exact .inr ⟨y, hyb, hy2, .step hkN hy3⟩
/-- All successors are gone through. -/
theorem LInv.last (hN : ∀ j, ∀ k ∈ rd_L3 N j, 0 ≤ k ∧ k < (n : Int)) (hb : Wf N n G b) (i0 : 0 ≤ i) (i1 : i < (n : Int)) (hw : rd b.no i = 0) (h : LInv N n G i b [] t) : Post N n G i b (walkEnd i t) := by
  obtain ⟨S, hS, hS1, hS2⟩ := h.stk
  have hdone : ∀ k ∈ rd_L3 N i, rd t.no k ≠ 0 ∧ (k ∈ b.st → rd t.low i ≤ rd t.no k) := fun k hk => (h.done k hk).resolve_left (List.not_mem_nil)
  have hib : i ∉ b.st := fun hi => (hb.stv i hi).2.2 hw
  have hGb : ∀ g, G g → g ∈ b.st := fun g hg => by
    exact hb.gst g hg
  have hmem : ∀ y, y ∈ t.st ↔ y ∈ b.st ∨ y ∈ i :: S := fun y => by rw [hS]; exact List.mem_append
  have hit : i ∈ t.st := (hmem i).2 (.inr List.mem_cons_self)
  have hlt : ∀ y ∈ b.st, rd t.no y < rd t.no i := fun y hy => by
    have h1 := h.wf.inc
    rw [hS, List.pairwise_append] at h1
    exact h1.2.2 y hy i List.mem_cons_self
  have hge : ∀ y ∈ i :: S, rd t.no i ≤ rd t.no y := fun y hy => by
    have h1 := h.wf.inc
    rw [hS, List.pairwise_append, List.pairwise_cons] at h1
    rcases List.mem_cons.1 hy with rfl | hy
    · exact Int.le_refl _
    · have := h1.2.1.1 y hy; omega
  have hbi : ∀ y ∈ i :: S, y ∉ b.st := fun y hy hyb => by
    have h1 := hlt y hyb
    have h2 := hge y hy
    omega
  have hblk : ∀ y ∈ i :: S, ∀ k ∈ rd_L3 N y, rd t.no k ≠ 0 := fun y hy k hk => by
    rcases List.mem_cons.1 hy with rfl | hy'
    · exact (hdone k hk).1
    · have hyt := h.wf.stv y ((hmem y).2 (.inr hy))
      refine h.wf.blk y hyt.1 hyt.2.1 hyt.2.2 (fun hg => ?_) k hk
      rcases hg with rfl | hg
      · have h1 := h.wf.nodup
        rw [hS, List.nodup_append] at h1
        exact (List.nodup_cons.1 h1.2.1).1 hy'
      · exact hbi y hy (hGb y hg)
  have hedge : ∀ y ∈ i :: S, ∀ k ∈ rd_L3 N y, k ∈ b.st → rd t.low i ≤ rd t.no k := fun y hy k hk hkb => by
    rcases List.mem_cons.1 hy with rfl | hy
    · exact (hdone k hk).2 hkb
    · exact hS2 y hy k hk hkb
  unfold walkEnd
  by_cases e : rd t.low i = rd t.no i
  · rw [if_pos e]
    have hidx : t.st.idxOf i = b.st.length := by
      rw [hS, List.idxOf_append, if_neg hib, List.idxOf_cons_self]; omega
    have htake : t.st.take (t.st.idxOf i) = b.st := by rw [hidx, hS, List.take_left]
    have hdrop : t.st.drop (t.st.idxOf i) = i :: S := by rw [hidx, hS, List.drop_left]
    have hst : (t.close i).st = b.st := htake
    have hout : (t.close i).out = t.out ++ [sortI (i :: S)] := by show t.out ++ [sortI (t.st.drop (t.st.idxOf i))] = _; rw [hdrop]
    have hon : (t.close i).on = offs t.on (i :: S) := by show offs t.on (t.st.drop (t.st.idxOf i)) = _; rw [hdrop]
    have hsucc : ∀ y ∈ i :: S, ∀ k ∈ rd_L3 N y, k ∈ i :: S ∨ ∃ c ∈ t.out, k ∈ c := fun y hy k hk => by
      have hk' := hN y k hk
      rcases h.wf.vis k hk'.1 hk'.2 (hblk y hy k hk) with h1 | h1
      · rcases (hmem k).1 h1 with h1 | h1
        · have h2 := hedge y hy k hk h1
          have h3 := hlt k h1
          omega
        · exact .inl h1
      · exact .inr h1
    have hfar : ∀ y ∈ i :: S, ∀ x, Rch N y x → x ∈ i :: S ∨ ∃ c ∈ t.out, x ∈ c := fun y hy x hr => by
      refine Rch.keeps (P := fun x => x ∈ i :: S ∨ ∃ c ∈ t.out, x ∈ c) (fun z hz k hk => ?_) hr (.inl hy)
      rcases hz with hz | ⟨c, hc, hz⟩
      · exact hsucc z hz k hk
      · exact .inr (h.wf.cls c hc z hz k hk)
    have hiy : ∀ y ∈ i :: S, Rch N i y := fun y hy => h.wf.dn i (.inl rfl) y ((hmem y).2 (.inr hy)) (hge y hy)
    have hyi : ∀ y ∈ i :: S, Rch N y i := fun y hy => by
      obtain ⟨g, hg1, hg2, hg3⟩ := h.wf.up y ((hmem y).2 (.inr hy))
      rcases hg1 with rfl | hg1
      · exact hg3
      · exfalso
        rcases hfar y hy g hg3 with h1 | ⟨c, hc, h1⟩
        · exact hbi g h1 (hGb g hg1)
        · exact (h.wf.outv c hc g h1).2.2.2 (h.wf.gst g (.inr hg1))
    have hnd : (i :: S).Nodup := by
      have h1 := h.wf.nodup
      rw [hS, List.nodup_append] at h1
      exact h1.2.1
    have hscc : IsScc N (sortI (i :: S)) := by
      refine ⟨sortI_lt hnd, i, mem_sortI.2 List.mem_cons_self, fun x => ?_⟩
      rw [mem_sortI]
      refine ⟨fun hx => ⟨hiy x hx, hyi x hx⟩, fun ⟨h1, h2⟩ => ?_⟩
      rcases hfar i List.mem_cons_self x h1 with h3 | ⟨c, hc, h3⟩
      · exact h3
      · exfalso
        have : ∃ c ∈ t.out, i ∈ c := Rch.keeps (P := fun x => ∃ c ∈ t.out, x ∈ c) (fun z ⟨c, hc, hz⟩ k hk => h.wf.cls c hc z hz k hk) h2 ⟨c, hc, h3⟩
        obtain ⟨c', hc', h4⟩ := this
        exact (h.wf.outv c' hc' i h4).2.2.2 hit
    have hrange : ∀ k ∈ i :: S, 0 ≤ k ∧ k < (t.on.length : Int) := fun k hk => by
      have := h.wf.stv k ((hmem k).2 (.inr hk))
      rw [h.wf.lo]; exact ⟨this.1, this.2.1⟩
    refine ⟨⟨h.wf.ln, h.wf.ll, by rw [hon, offs_len]; exact h.wf.lo, h.wf.cw, h.wf.nob, ?_, fun y hy => ?_, fun j j0 j1 => ?_, ?_, fun j j0 j1 hj => ?_, fun c hc j hj => ?_, fun j j0 j1 hj hg k hk => ?_, fun c hc j hj k hk => ?_, fun g hg => ?_, fun y hy => ?_, fun g hg y hy hle => ?_, fun c hc => ?_, ?_⟩, h.keep, h.new, h.lowk, h.vi, ⟨[], by rw [hst, List.append_nil], fun y hy => (List.not_mem_nil hy).elim, fun y hy => (List.not_mem_nil hy).elim⟩, .inl e⟩
    · have h1 := h.wf.ol
      rw [hst, hout]
      show _ ≤ t.cnt
      rw [hS] at h1
      simp at h1 ⊢
      omega
    · rw [hst] at hy
      exact h.wf.stv y ((hmem y).2 (.inl hy))
    · rw [hon, hst, offs_at _ _ _ hrange j0, h.wf.onv j j0 j1, hmem]
      exact ⟨fun ⟨h1, h2⟩ => h2.resolve_right h1, fun h1 => ⟨fun h2 => hbi j h2 h1, .inl h1⟩⟩
    · rw [hst]
      have h1 := h.wf.inc
      rw [hS, List.pairwise_append] at h1
      exact h1.1
    · rw [hst, hout]
      rcases h.wf.vis j j0 j1 hj with h1 | ⟨c, hc, h1⟩
      · rcases (hmem j).1 h1 with h1 | h1
        · exact .inl h1
        · exact .inr ⟨_, List.mem_append_right _ (List.mem_singleton.2 rfl), mem_sortI.2 h1⟩
      · exact .inr ⟨c, List.mem_append_left _ hc, h1⟩
    · rw [hout] at hc
      rw [hst]
      rcases List.mem_append.1 hc with hc | hc
      · have := h.wf.outv c hc j hj
        exact ⟨this.1, this.2.1, this.2.2.1, fun hjb => this.2.2.2 ((hmem j).2 (.inl hjb))⟩
      · rw [List.mem_singleton.1 hc, mem_sortI] at hj
        have := h.wf.stv j ((hmem j).2 (.inr hj))
        exact ⟨this.1, this.2.1, this.2.2, hbi j hj⟩
    · by_cases e2 : j = i
      · rw [e2] at hk; exact (hdone k hk).1
      · exact h.wf.blk j j0 j1 hj (fun h => h.elim e2 hg) k hk
    · rw [hout] at hc ⊢
      rcases List.mem_append.1 hc with hc | hc
      · obtain ⟨c', hc', h1⟩ := h.wf.cls c hc j hj k hk
        exact ⟨c', List.mem_append_left _ hc', h1⟩
      · rw [List.mem_singleton.1 hc, mem_sortI] at hj
        rcases hsucc j hj k hk with h1 | ⟨c', hc', h1⟩
        · exact ⟨_, List.mem_append_right _ (List.mem_singleton.2 rfl), mem_sortI.2 h1⟩
        · exact ⟨c', List.mem_append_left _ hc', h1⟩
    · rw [hst]; exact hGb g hg
    · rw [hst] at hy
      obtain ⟨g, hg1, hg2, hg3⟩ := h.wf.up y ((hmem y).2 (.inl hy))
      have := hlt y hy
      rcases hg1 with rfl | hg1
      · omega
      · exact ⟨g, hg1, hg2, hg3⟩
    · rw [hst] at hy
      exact h.wf.dn g (.inr hg) y ((hmem y).2 (.inl hy)) hle
    · rw [hout] at hc
      rcases List.mem_append.1 hc with hc | hc
      · exact h.wf.scc c hc
      · rw [List.mem_singleton.1 hc]; exact hscc
    · rw [hout, List.pairwise_append]
      refine ⟨h.wf.dis, List.pairwise_singleton _ _, fun c hc c' hc' x hx hx' => ?_⟩
      rw [List.mem_singleton.1 hc', mem_sortI] at hx'
      exact (h.wf.outv c hc x hx).2.2.2 ((hmem x).2 (.inr hx'))
  · rw [if_neg e]
    obtain ⟨y0, hy1, hy2, hy3⟩ := h.low.resolve_left e
    have hy0 := hlt y0 hy1
    obtain ⟨g0, hg1, hg2, hg3⟩ := h.wf.up y0 ((hmem y0).2 (.inl hy1))
    have hGg : G g0 := hg1.resolve_left (by rintro rfl; omega)
    refine ⟨⟨h.wf.ln, h.wf.ll, h.wf.lo, h.wf.cw, h.wf.nob, h.wf.ol, h.wf.stv, h.wf.onv, h.wf.inc, h.wf.vis, h.wf.outv, fun j j0 j1 hj hg k hk => ?_, h.wf.cls, fun g hg => h.wf.gst g (.inr hg), fun y hy => ?_, fun g hg y hy hle => h.wf.dn g (.inr hg) y hy hle, h.wf.scc, h.wf.dis⟩, h.keep, h.new, h.lowk, h.vi, ⟨i :: S, hS, fun y hy => ?_, hedge⟩, .inr ⟨y0, hy1, hy2, hy3⟩⟩
    · by_cases e2 : j = i
      · rw [e2] at hk; exact (hdone k hk).1
      · exact h.wf.blk j j0 j1 hj (fun h => h.elim e2 hg) k hk
    · obtain ⟨g, h1, h2, h3⟩ := h.wf.up y hy
      rcases h1 with rfl | h1
      · exact ⟨g0, hGg, by omega, h3.trans (hy3.trans hg3)⟩
      · exact ⟨g, h1, h2, h3⟩
    · rcases List.mem_cons.1 hy with rfl | hy
      · exact hw
      · exact hS1 y hy
theorem Post.whites {t' : TS} (h : Wf N n G t) (hp : Post N n G i t t') : t'.no.count 0 ≤ t.no.count 0 := by
  refine tj_count_le _ _ (by rw [hp.wf.ln, h.ln]) (fun j j0 j1 hj => ?_)
  by_cases e : rd t.no j = 0
  · exact e
  · rw [hp.keep j j0 (by rw [← hp.wf.ln]; exact j1) e] at hj
    exact hj
theorem LInv.whites {ks : List Int} (hb : Wf N n G b) (i0 : 0 ≤ i) (i1 : i < (n : Int)) (hw : rd b.no i = 0) (h : LInv N n G i b ks t) : t.no.count 0 + 1 ≤ b.no.count 0 := by
  have h1 := tj_count_set b.no i 1 i0 (by rw [hb.ln]; exact i1) hw (by omega)
  have h2 := tj_count_le t.no (b.no.set i.toNat 1) (by rw [h.wf.ln, List.length_set, hb.ln]) (fun j j0 j1 hj => by
    rw [tj_rd b.no i j 1 i0 (by rw [hb.ln]; exact i1) j0]
    by_cases e : i = j
    · rw [← e] at hj; exact absurd hj h.vi
    · rw [if_neg e]
      by_cases e2 : rd b.no j = 0
      · exact e2
      · rw [h.keep j j0 (by rw [← h.wf.ln]; exact j1) e2] at hj
        exact hj)
  omega
end

theorem walkF_post {N : List (List Int)} {n : Nat} (hN : ∀ j, ∀ k ∈ rd_L3 N j, 0 ≤ k ∧ k < (n : Int)) : ∀ (d : Nat) (G : Int → Prop) (i : Int) (b : TS), Wf N n G b → 0 ≤ i → i < (n : Int) → rd b.no i = 0 → (∀ g, G g → Rch N g i) → b.no.count 0 ≤ d → Post N n G i b (walkF N d i b) := by
  intro d
  induction d with
  | zero =>
    intro G i b hb i0 i1 hw _ hd
    exfalso
    have := tj_count_set b.no i 1 i0 (by rw [hb.ln]; exact i1) hw (by omega)
    omega
  | succ d ih =>
    intro G i b hb i0 i1 hw hg hd
    unfold walkF
    have key : ∀ (ks : List Int) (t : TS), (∀ k ∈ ks, k ∈ rd_L3 N i) → LInv N n G i b ks t → LInv N n G i b [] (walkL (walkF N d) i ks t) := by
      intro ks
      induction ks with
      | nil => intro t _ h; exact h
      | cons k ks ihk =>
        intro t hks h
        have hkN := hks k List.mem_cons_self
        have hks' : ∀ x ∈ ks, x ∈ rd_L3 N i := fun x hx => hks x (List.mem_cons_of_mem _ hx)
        obtain ⟨k0, k1⟩ := hN i k hkN
        unfold walkL
        by_cases e : rd t.no k = 0
        · rw [if_pos e]
          refine ihk _ hks' (LInv.called hN hb i0 i1 hw h hkN e (ih _ k t h.wf k0 k1 e (fun g hgg => ?_) ?_))
          · have hit : i ∈ t.st := by obtain ⟨S, hS, _⟩ := h.stk; rw [hS]; simp
            refine Rch.trans ?_ (.one hkN)
            rcases hgg with rfl | hgg
            · exact .refl _
            · exact hg g hgg
          · have := h.whites hb i0 i1 hw
            omega
        · rw [if_neg e]
          by_cases e2 : rdOf false t.on k = true
          · rw [if_pos e2]
            exact ihk _ hks' (LInv.held hN hb i0 i1 hw h hkN ((h.wf.onv k k0 k1).1 e2))
          · rw [if_neg e2]
            exact ihk _ hks' (LInv.seen h e (fun hk => e2 ((h.wf.onv k k0 k1).2 hk)))
    exact LInv.last hN hb i0 i1 hw (key _ _ (fun _ h => h) (hb.enter hN i0 i1 hw hg))

theorem tj_rep {n : Nat} {x : Int} {i : Int} (i0 : 0 ≤ i) (i1 : i < (n : Int)) : rd (List.replicate n x) i = x := by
  unfold rd; rw [List.getD_eq_getElem?_getD, List.getElem?_replicate, if_pos (by omega)]; rfl
theorem Wf.start (N : List (List Int)) (n : Nat) : Wf N n (fun _ => False) (ts0 n) := by
  refine ⟨by simp [ts0], by simp [ts0], by simp [ts0], by simp [ts0], fun j j0 j1 => ?_, by simp [ts0], fun y hy => ?_, fun j j0 j1 => ?_, List.Pairwise.nil, fun j j0 j1 hj => ?_, fun c hc => ?_, fun j j0 j1 hj => ?_, fun c hc => ?_, fun g hg => hg.elim, fun y hy => ?_, fun g hg => hg.elim, fun c hc => ?_, List.Pairwise.nil⟩
  · show 0 ≤ rd (List.replicate n 0) j ∧ rd (List.replicate n 0) j ≤ (0 : Int); rw [tj_rep j0 j1]; omega
  · cases hy
  · constructor
    · intro h
      unfold ts0 rdOf at h
      rw [List.getD_eq_getElem?_getD, List.getElem?_replicate, if_pos (by omega)] at h
      simp at h
    · intro h; cases h
  · exact absurd (tj_rep j0 j1) hj
  · cases hc
  · exact absurd (tj_rep j0 j1) hj
  · cases hc
  · cases hy
  · cases hc
/-- While all nodes are gone through, between two calls: the stack is empty. -/
structure AInv (N : List (List Int)) (n i : Nat) (t : TS) : Prop where
  wf : Wf N n (fun _ => False) t
  vis : ∀ j : Int, 0 ≤ j → j < (i : Int) → rd t.no j ≠ 0
theorem AInv.step {N : List (List Int)} {n i : Nat} {t : TS} (hN : ∀ j, ∀ k ∈ rd_L3 N j, 0 ≤ k ∧ k < (n : Int)) (hn : n = N.length) (h : AInv N n i t) (hi : i < n) : AInv N n (i + 1) (if rd t.no (i : Int) = 0 then walkF N N.length (i : Int) t else t) := by
  by_cases e : rd t.no (i : Int) = 0
  · rw [if_pos e]
    have hp := walkF_post hN N.length (fun _ => False) (i : Int) t h.wf (by omega) (by omega) e (fun g hg => hg.elim) (by
      have h1 : t.no.count 0 ≤ t.no.length := List.count_le_length
      have := h.wf.ln
      omega)
    refine ⟨hp.wf, fun j j0 j1 => ?_⟩
    by_cases e2 : j = (i : Int)
    · rw [e2]; exact hp.vi
    · have h1 := h.vis j j0 (by omega)
      rw [hp.keep j j0 (by omega) h1]
      exact h1
  · rw [if_neg e]
    refine ⟨h.wf, fun j j0 j1 => ?_⟩
    by_cases e2 : j = (i : Int)
    · rw [e2]; exact e
    · exact h.vis j j0 (by omega)
theorem allF_inv {N : List (List Int)} {n : Nat} (hN : ∀ j, ∀ k ∈ rd_L3 N j, 0 ≤ k ∧ k < (n : Int)) (hn : n = N.length) : ∀ (d i : Nat) (t : TS), i + d = n → AInv N n i t → AInv N n n (allF N d (i : Int) t) := by
  intro d
  induction d with
  | zero =>
    intro i t hi h
    have e : i = n := by omega
    rw [e] at h ⊢
    exact h
  | succ d ih =>
    intro i t hi h
    unfold allF
    have := ih (i + 1) _ (by omega) (h.step hN hn (by omega))
    rwa [show ((i + 1 : Nat) : Int) = (i : Int) + 1 by omega] at this
/-- What Tarjan's way tells. -/
structure Sccs (N : List (List Int)) (n : Nat) (cs : List (List Int)) : Prop where
  scc : ∀ c ∈ cs, IsScc N c
  rg : ∀ c ∈ cs, ∀ x ∈ c, 0 ≤ x ∧ x < (n : Int)
  dis : cs.Pairwise (fun a b => ∀ x ∈ a, x ∉ b)
  all : ∀ x : Int, 0 ≤ x → x < (n : Int) → ∃ c ∈ cs, x ∈ c
  len : cs.length ≤ n
theorem tarjan_sccs {N : List (List Int)} {n : Nat} (hN : ∀ j, ∀ k ∈ rd_L3 N j, 0 ≤ k ∧ k < (n : Int)) (hn : n = N.length) : Sccs N n (tarjan N) := by
  have h := allF_inv hN hn n 0 (ts0 n) (by omega) ⟨Wf.start N n, fun j j0 j1 => by omega⟩
  unfold tarjan
  rw [← hn]
  change AInv N n n (allF N n 0 (ts0 n)) at h
  generalize allF N n 0 (ts0 n) = t at h
  have hst : t.st = [] := by
    rcases hs : t.st with _ | ⟨y, s⟩
    · rfl
    · obtain ⟨g, hg, _⟩ := h.wf.up y (by rw [hs]; exact List.mem_cons_self)
      exact hg.elim
  refine ⟨h.wf.scc, fun c hc x hx => ⟨(h.wf.outv c hc x hx).1, (h.wf.outv c hc x hx).2.1⟩, h.wf.dis, fun x x0 x1 => ?_, ?_⟩
  · rcases h.wf.vis x x0 x1 (h.vis x x0 x1) with h1 | h1
    · rw [hst] at h1; cases h1
    · exact h1
  · have h1 := h.wf.ol
    have h2 := h.wf.cnt0
    omega
end Go.Proofs.Ytlaneafplmbcnaa.PO

namespace Go.Proofs.Ytlaneafplmbcnaa.PO
open Go.RowKit Go.Proofs.YtlaneafplmbcnaaW.PrintWords Go.Proofs.YtlaneafplmbcnaaW.PrintLast Go.Proofs.YtlaneafplmbcnaaW.PrintMore
set_option linter.unusedVariables false
set_option linter.unusedSimpArgs false

/-- Where the first element of which p holds stands; -1: none. -/
def idxP {α : Type} (p : α → Bool) : List α → Int → Int
  | [], _ => -1
  | e :: l, i => if p e then i else idxP p l (i + 1)
theorem idxP_ge {α : Type} (p : α → Bool) (l : List α) : ∀ i : Int, 0 ≤ i → decide (0 ≤ idxP p l i) = l.any p := by
  induction l with
  | nil => intro i _; simp [idxP]
  | cons e l ih =>
    intro i hi
    simp only [idxP, List.any_cons]
    by_cases hp : p e = true
    · simp [hp, hi]
    · have hf : p e = false := by simpa using hp
      simpa [hf] using ih (i + 1) (by omega)
theorem idxP_spec {α : Type} (p : α → Bool) (l : List α) : ∀ i : Int, 0 ≤ i → l.any p = true → ∃ k : Nat, k < l.length ∧ idxP p l i = i + k ∧ (∀ x, l[k]? = some x → p x = true) ∧ ∀ j : Nat, j < k → ∀ x, l[j]? = some x → p x = false := by
  induction l with
  | nil => intro i _ h; simp at h
  | cons e l ih =>
    intro i hi h
    by_cases hp : p e = true
    · refine ⟨0, by simp, by simp [idxP, hp], fun x hx => ?_, fun j hj => by omega⟩
      simp at hx; rw [← hx]; exact hp
    · have hf : p e = false := by simpa using hp
      obtain ⟨k, h1, h2, h3, h4⟩ := ih (i + 1) (by omega) (by simpa [hf] using h)
      refine ⟨k + 1, by simp; omega, by simp only [idxP, hf, Bool.false_eq_true, if_false]; rw [h2]; omega, fun x hx => h3 x (by simpa using hx), fun j hj x hx => ?_⟩
      cases j with
      | zero => simp at hx; rw [← hx]; exact hf
      | succ j => exact h4 j (by omega) x (by simpa using hx)
/-- What is asked of a predicate on numbers, at the elements of a list. -/
def PredI (g : Nat) (cap : Array Value) (p : Int → Bool) (l : List Int) (w : World) : Prop :=
  ∀ (W : World) (x : Int), x ∈ l → Below w.heap.size w W → Calls Try.prog g (#[.int .i64 x] ++ cap) W fun e w' => e = .returned (.bool (p x)) ∧ Below W.heap.size W w'

set_option maxHeartbeats 4000000 in
set_option maxRecDepth 100000 in
theorem idx53 (g : Nat) (cap : Array Value) (p : Int → Bool) (eg : ∀ args w, (callFunc g args).run Try.prog w = .ok (.enter g args) w) (A : Option Addr) (c : Nat) (l : List Int) (w : World)
    (hr : Kd.C (Kd.int .i64) w A l.length l) (hp : PredI g cap p l w) :
    Calls Try.prog 53 #[.slice A l.length c, .func (.func g) #[] cap] w fun e w' => e = .returned (.int .i64 (idxP p l 0)) ∧ Below w.heap.size w w' := by
  have hm : l.length ≤ 9223372036854775807 := hr.2.1
  have HR := Aside0.mk hr
  clear hr
  have HP := Aside0.mk hp
  clear hp
  go_enter Try.func53, Try.ntmps53
  go_wp2
  go_loopg [5, 8] l.length (fun gg _ s8 wr => ∃ kk : Nat, kk ≤ l.length ∧ l.length - kk ≤ gg ∧ s8 = .int .i64 kk ∧ Aside0 (Below w.heap.size w wr) ∧ Aside0 (idxP p l 0 = idxP p (l.drop kk) kk))
  case atStart => exact ⟨0, Nat.zero_le _, by omega, rfl, ⟨Below.refl _ w⟩, ⟨rfl⟩⟩
  case round =>
    obtain ⟨kk, hkk, hg, rfl, BW, A1⟩ := hrel
    by_cases hlt : kk < l.length
    · have hltz : (kk : Int) < (l.length : Int) := by omega
      obtain ⟨ad, rfl, hx0⟩ := Kd.at_int (Kd.C_below HR.out BW.out) (kk : Int) (by omega) hltz
      rw [Int.toNat_natCast] at hx0
      have hgd : rd l (kk : Int) = l[kk] := by simp [rd, List.getD_eq_getElem?_getD, List.getElem?_eq_getElem hlt]
      have hdr : l.drop kk = l[kk] :: l.drop (kk + 1) := (List.drop_eq_getElem_cons hlt)
      have hmem : rd l (kk : Int) ∈ l := by rw [hgd]; exact List.getElem_mem hlt
      generalize hy : rd l (kk : Int) = y at hx0 hmem
      have E1 := Aside0.mk (show l.drop kk = y :: l.drop (kk + 1) by rw [hdr, ← hgd, hy])
      clear hy hgd hdr
      have hcall := HP.out wr y hmem BW.out
      clear hmem
      cases hq : p y with
      | true =>
        rw [hq] at hcall
        have HCALL := Aside0.mk hcall
        clear hcall
        have E2 := Aside0.mk hq
        clear hq
        go_wp2_with (go_at_fn g; refine HCALL.out.mono ?_; rintro e w' ⟨rfl, hb'⟩)
        go_ret
        refine ⟨?_, below_step BW.out hb'⟩
        rw [A1.out, E1.out]; simp only [idxP, E2.out, if_true]; rfl
      | false =>
        rw [hq] at hcall
        have HCALL := Aside0.mk hcall
        clear hcall
        have E2 := Aside0.mk hq
        clear hq
        go_wp2_with (go_at_fn g; refine HCALL.out.mono ?_; rintro e w' ⟨rfl, hb'⟩)
        go_roundg (l.length - (kk + 1))
        case measure => omega
        case rel =>
          refine ⟨kk + 1, by omega, by omega, by go_num, ⟨below_step BW.out hb'⟩, ⟨?_⟩⟩
          rw [A1.out, E1.out]; show (if p y = true then _ else _) = _
          rw [if_neg (by rw [E2.out]; decide), show ((kk + 1 : Nat) : Int) = (kk : Int) + 1 from by omega]
    · have hltz : ¬ (kk : Int) < (l.length : Int) := by omega
      have E3 : Aside0 (l.drop kk = []) := ⟨List.drop_eq_nil_of_le (by omega)⟩
      go_wp2
      go_ret
      refine ⟨?_, BW.out⟩
      rw [A1.out, E3.out]; rfl

set_option maxHeartbeats 4000000 in
set_option maxRecDepth 100000 in
theorem contF34 (g : Nat) (cap : Array Value) (p : Int → Bool) (eg : ∀ args w, (callFunc g args).run Try.prog w = .ok (.enter g args) w) (A : Option Addr) (c : Nat) (l : List Int) (w : World)
    (hr : Kd.C (Kd.int .i64) w A l.length l) (hp : PredI g cap p l w) :
    Calls Try.prog 34 #[.slice A l.length c, .func (.func g) #[] cap] w fun e w' => e = .returned (.bool (l.any p)) ∧ Below w.heap.size w w' := by
  have h53 := idx53 g cap p eg A c l w hr hp
  have hge := idxP_ge p l 0 (by omega)
  have H53 := Aside0.mk h53
  have HG := Aside0.mk hge
  clear h53 hge hr hp
  go_enter Try.func34, Try.ntmps34
  generalize hi : idxP p l 0 = ii at H53 HG
  have HI := Aside0.mk hi
  clear hi
  go_wp2_with (go_at_call 53; refine H53.out.mono ?_; rintro e w' ⟨rfl, hb'⟩)
  go_ret
  exact ⟨by rw [HG.out]; rfl, hb'⟩

set_option maxHeartbeats 4000000 in
set_option maxRecDepth 100000 in
theorem index41 (x : Int) (A : Option Addr) (c : Nat) (l : List Int) (w : World) (hr : Kd.C (Kd.int .i64) w A l.length l) :
    Calls Try.prog 41 #[.slice A l.length c, .int .i64 x] w fun e w' => e = .returned (.int .i64 (idxP (fun y => decide (x = y)) l 0)) ∧ Below w.heap.size w w' := by
  have hm : l.length ≤ 9223372036854775807 := hr.2.1
  have HR := Aside0.mk hr
  clear hr
  go_enter Try.func41, Try.ntmps41
  go_wp2
  go_loopg [5, 8] l.length (fun gg _ s8 wr => ∃ kk : Nat, kk ≤ l.length ∧ l.length - kk ≤ gg ∧ s8 = .int .i64 kk ∧ Aside0 (Below w.heap.size w wr) ∧ Aside0 (idxP (fun y => decide (x = y)) l 0 = idxP (fun y => decide (x = y)) (l.drop kk) kk))
  case atStart => exact ⟨0, Nat.zero_le _, by omega, rfl, ⟨Below.refl _ w⟩, ⟨rfl⟩⟩
  case round =>
    obtain ⟨kk, hkk, hg, rfl, BW, A1⟩ := hrel
    by_cases hlt : kk < l.length
    · have hltz : (kk : Int) < (l.length : Int) := by omega
      obtain ⟨ad, rfl, hx0⟩ := Kd.at_int (Kd.C_below HR.out BW.out) (kk : Int) (by omega) hltz
      rw [Int.toNat_natCast] at hx0
      have hgd : rd l (kk : Int) = l[kk] := by simp [rd, List.getD_eq_getElem?_getD, List.getElem?_eq_getElem hlt]
      have hdr : l.drop kk = l[kk] :: l.drop (kk + 1) := (List.drop_eq_getElem_cons hlt)
      generalize hy : rd l (kk : Int) = y at hx0
      have E1 := Aside0.mk (show l.drop kk = y :: l.drop (kk + 1) by rw [hdr, ← hgd, hy])
      clear hy hgd hdr
      by_cases hq : x = y
      · have d1 : (x == y) = true := by simpa using hq
        have E2 := Aside0.mk hq
        clear hq
        go_wp2
        go_ret
        refine ⟨?_, BW.out⟩
        rw [A1.out, E1.out]; simp only [idxP, E2.out, decide_true, if_true]; rfl
      · have d1 : (x == y) = false := by simpa using hq
        have E2 := Aside0.mk hq
        clear hq
        go_wp2
        go_roundg (l.length - (kk + 1))
        case measure => omega
        case rel =>
          refine ⟨kk + 1, by omega, by omega, by go_num, BW, ⟨?_⟩⟩
          rw [A1.out, E1.out]; show (if decide (x = y) = true then _ else _) = _
          rw [if_neg (by simpa using E2.out), show ((kk + 1 : Nat) : Int) = (kk : Int) + 1 from by omega]
    · have hltz : ¬ (kk : Int) < (l.length : Int) := by omega
      have E3 : Aside0 (l.drop kk = []) := ⟨List.drop_eq_nil_of_le (by omega)⟩
      go_wp2
      go_ret
      refine ⟨?_, BW.out⟩
      rw [A1.out, E3.out]; rfl

theorem any_contains (x : Int) (l : List Int) : l.any (fun y => decide (x = y)) = l.contains x := by
  induction l with
  | nil => rfl
  | cons a l ih =>
    simp only [List.any_cons, List.contains_cons, ih]
    congr 1
set_option maxHeartbeats 4000000 in
set_option maxRecDepth 100000 in
theorem cont37 (x : Int) (A : Option Addr) (c : Nat) (l : List Int) (w : World) (hr : Kd.C (Kd.int .i64) w A l.length l) (b : Bool) (hb : l.contains x = b) :
    Calls Try.prog 37 #[.slice A l.length c, .int .i64 x] w fun e w' => e = .returned (.bool b) ∧ Below w.heap.size w w' := by
  have h41 := index41 x A c l w hr
  have hge := idxP_ge (fun y => decide (x = y)) l 0 (by omega)
  rw [any_contains, hb] at hge
  have H41 := Aside0.mk h41
  have HG := Aside0.mk hge
  clear h41 hge hr hb
  go_enter Try.func37, Try.ntmps37
  generalize hi : idxP (fun y => decide (x = y)) l 0 = ii at H41 HG
  have HI := Aside0.mk hi
  clear hi
  go_wp2_with (go_at_call 41; refine H41.out.mono ?_; rintro e w' ⟨rfl, hb'⟩)
  go_ret
  exact ⟨by rw [← HG.out]; rfl, hb'⟩

/-- What is asked of a predicate on rows, at the elements of a list of rows that is read. -/
def PredR (g : Nat) (cap : Array Value) (p : List Int → Bool) (l : List (List Int)) (w : World) : Prop :=
  ∀ (W : World) (b : List Int) (A : Option Addr) (c : Nat), b ∈ l → Below w.heap.size w W → Kd.C (Kd.int .i64) W A b.length b → Calls Try.prog g (#[.slice A b.length c] ++ cap) W fun e w' => e = .returned (.bool (p b)) ∧ Below W.heap.size W w'
set_option maxHeartbeats 4000000 in
set_option maxRecDepth 100000 in
theorem idx32 (g : Nat) (cap : Array Value) (p : List Int → Bool) (eg : ∀ args w, (callFunc g args).run Try.prog w = .ok (.enter g args) w) (A : Option Addr) (c : Nat) (l : List (List Int)) (w : World)
    (hr : Kd.C (Kd.slice 3 (Kd.int .i64)) w A l.length l) (hp : PredR g cap p l w) :
    Calls Try.prog 32 #[.slice A l.length c, .func (.func g) #[] cap] w fun e w' => e = .returned (.int .i64 (idxP p l 0)) ∧ Below w.heap.size w w' := by
  have hm : l.length ≤ 9223372036854775807 := hr.2.1
  have HR := Aside0.mk hr
  clear hr
  have HP := Aside0.mk hp
  clear hp
  go_enter Try.func32, Try.ntmps32
  go_wp2
  go_loopg [5, 8] l.length (fun gg _ s8 wr => ∃ kk : Nat, kk ≤ l.length ∧ l.length - kk ≤ gg ∧ s8 = .int .i64 kk ∧ Aside0 (Below w.heap.size w wr) ∧ Aside0 (idxP p l 0 = idxP p (l.drop kk) kk))
  case atStart => exact ⟨0, Nat.zero_le _, by omega, rfl, ⟨Below.refl _ w⟩, ⟨rfl⟩⟩
  case round =>
    obtain ⟨kk, hkk, hg, rfl, BW, A1⟩ := hrel
    by_cases hlt : kk < l.length
    · have hltz : (kk : Int) < (l.length : Int) := by omega
      obtain ⟨ad, A0, c0, rfl, hx0, hl0, hC0⟩ := at_L3 (Kd.C_below HR.out BW.out) (kk : Int) (by omega) hltz
      rw [Int.toNat_natCast] at hx0
      have hgd : rd_L3 l (kk : Int) = l[kk] := by simp [rd_L3, List.getD_eq_getElem?_getD, List.getElem?_eq_getElem hlt]
      have hdr : l.drop kk = l[kk] :: l.drop (kk + 1) := (List.drop_eq_getElem_cons hlt)
      have hmem : rd_L3 l (kk : Int) ∈ l := by rw [hgd]; exact List.getElem_mem hlt
      generalize hy : rd_L3 l (kk : Int) = y at hx0 hmem hC0 hl0
      have E1 := Aside0.mk (show l.drop kk = y :: l.drop (kk + 1) by rw [hdr, ← hgd, hy])
      clear hy hgd hdr hl0
      have hcall := HP.out wr y A0 c0 hmem BW.out hC0
      clear hmem hC0
      cases hq : p y with
      | true =>
        rw [hq] at hcall
        have HCALL := Aside0.mk hcall
        clear hcall
        have E2 := Aside0.mk hq
        clear hq
        go_wp2_with (go_at_fn g; refine HCALL.out.mono ?_; rintro e w' ⟨rfl, hb'⟩)
        go_ret
        refine ⟨?_, below_step BW.out hb'⟩
        rw [A1.out, E1.out]; simp only [idxP, E2.out, if_true]; rfl
      | false =>
        rw [hq] at hcall
        have HCALL := Aside0.mk hcall
        clear hcall
        have E2 := Aside0.mk hq
        clear hq
        go_wp2_with (go_at_fn g; refine HCALL.out.mono ?_; rintro e w' ⟨rfl, hb'⟩)
        go_roundg (l.length - (kk + 1))
        case measure => omega
        case rel =>
          refine ⟨kk + 1, by omega, by omega, by go_num, ⟨below_step BW.out hb'⟩, ⟨?_⟩⟩
          rw [A1.out, E1.out]; show (if p y = true then _ else _) = _
          rw [if_neg (by rw [E2.out]; decide), show ((kk + 1 : Nat) : Int) = (kk : Int) + 1 from by omega]
    · have hltz : ¬ (kk : Int) < (l.length : Int) := by omega
      have E3 : Aside0 (l.drop kk = []) := ⟨List.drop_eq_nil_of_le (by omega)⟩
      go_wp2
      go_ret
      refine ⟨?_, BW.out⟩
      rw [A1.out, E3.out]; rfl
end Go.Proofs.Ytlaneafplmbcnaa.PO

namespace Go.Proofs.Ytlaneafplmbcnaa.PO
open Go.RowKit Go.Proofs.YtlaneafplmbcnaaW.PrintWords Go.Proofs.YtlaneafplmbcnaaW.PrintLast Go.Proofs.YtlaneafplmbcnaaW.PrintMore
set_option linter.unusedVariables false
set_option linter.unusedSimpArgs false

/-- A need that is neither there nor of the block. -/
def lackB (th : List Bool) (b : List Int) (k : Int) : Bool := !(rdOf false th k) && !(b.contains k)
/-- Does an equation lack a need? -/
def lackE (N : List (List Int)) (th : List Bool) (b : List Int) (i : Int) : Bool := (rd_L3 N i).any (lackB th b)
/-- May a block come now? -/
def okB (N : List (List Int)) (th : List Bool) (b : List Int) : Bool := !(b.any (lackE N th b))
theorem en36 : ∀ args w, (callFunc 36 args).run Try.prog w = .ok (.enter 36 args) w := enters_of Try.func36 (by kernel_rfl) rfl
theorem en35 : ∀ args w, (callFunc 35 args).run Try.prog w = .ok (.enter 35 args) w := enters_of Try.func35 (by kernel_rfl) rfl
theorem en33 : ∀ args w, (callFunc 33 args).run Try.prog w = .ok (.enter 33 args) w := enters_of Try.func33 (by kernel_rfl) rfl

set_option maxHeartbeats 2000000 in
set_option maxRecDepth 100000 in
theorem cl36 (k : Int) (T B : Addr) (At Ab : Option Addr) (ct cb : Nat) (th : List Bool) (b : List Int) (w : World) (k0 : 0 ≤ k) (k1 : k < (th.length : Int)) (ht : w.cell? T = some (.slice At th.length ct)) (hC : Kd.C Kd.bool w At th.length th)
    (hb : w.cell? B = some (.slice Ab b.length cb)) (hCb : Kd.C (Kd.int .i64) w Ab b.length b) :
    Calls Try.prog 36 #[.int .i64 k, .pointer (some T), .pointer (some B)] w fun e w' => e = .returned (.bool (lackB th b k)) ∧ Below w.heap.size w w' := by
  obtain ⟨ad, rfl, hx⟩ := Kd.at_bool hC k k0 k1
  have p1 := eq_true k0
  have p2 := eq_true k1
  generalize hr : lackB th b k = r
  unfold lackB at hr
  by_cases h1 : rdOf false th k = true
  · rw [h1] at hx hr
    simp only [Bool.not_true, Bool.false_and] at hr
    subst hr
    clear h1 hC hCb k0 k1
    go_enter Try.func36, Try.ntmps36
    go_wp2
    go_ret
    exact ⟨rfl, Below.refl _ _⟩
  · have h1' : rdOf false th k = false := by simpa using h1
    rw [h1'] at hx hr
    simp only [Bool.not_false, Bool.true_and] at hr
    have h37 := cont37 k Ab cb b w hCb (b.contains k) rfl
    generalize b.contains k = q at hr h37
    subst hr
    have H37 := Aside0.mk h37
    clear h1 h1' hC hCb k0 k1 h37
    go_enter Try.func36, Try.ntmps36
    go_wp2_with (go_at_call 37; refine H37.out.mono ?_; rintro e w' ⟨rfl, hb'⟩)
    go_ret
    exact ⟨rfl, hb'⟩

set_option maxHeartbeats 2000000 in
set_option maxRecDepth 100000 in
theorem cl35 (i : Int) (NA T B : Addr) (A At Ab : Option Addr) (c ct cb : Nat) (N : List (List Int)) (th : List Bool) (b : List Int) (w : World) (i0 : 0 ≤ i) (i1 : i < (N.length : Int)) (hN : ∀ k ∈ rd_L3 N i, 0 ≤ k ∧ k < (th.length : Int))
    (hn : w.cell? NA = some (.slice A N.length c)) (hCN : Kd.C (Kd.slice 3 (Kd.int .i64)) w A N.length N) (ht : w.cell? T = some (.slice At th.length ct)) (hC : Kd.C Kd.bool w At th.length th)
    (hb : w.cell? B = some (.slice Ab b.length cb)) (hCb : Kd.C (Kd.int .i64) w Ab b.length b) :
    Calls Try.prog 35 #[.int .i64 i, .pointer (some NA), .pointer (some T), .pointer (some B)] w fun e w' => e = .returned (.bool (lackE N th b i)) ∧ Below w.heap.size w w' := by
  obtain ⟨ad, A0, c0, rfl, hx, hl, hC0⟩ := at_L3 hCN i i0 i1
  have p1 := eq_true i0
  have p2 := eq_true i1
  have h34 := contF34 36 #[.pointer (some T), .pointer (some B)] (lackB th b) en36 A0 c0 (rd_L3 N i) w hC0 (fun W x hx hB => by
    have := hN x hx
    exact cl36 x T B At Ab ct cb th b W this.1 this.2 ((hB.cell (World.block_lt_of_cell? w _ ht)).trans ht) (Kd.C_below hC hB) ((hB.cell (World.block_lt_of_cell? w _ hb)).trans hb) (Kd.C_below hCb hB))
  have e : (rd_L3 N i).any (lackB th b) = lackE N th b i := rfl
  rw [e] at h34
  generalize lackE N th b i = r at h34
  generalize rd_L3 N i = row at hx h34
  have H34 := Aside0.mk h34
  clear e h34 hC hCb hCN hN hb ht hl hC0 i0 i1
  go_enter Try.func35, Try.ntmps35
  go_wp2_with (go_at_call 34; refine H34.out.mono ?_; rintro e w' ⟨rfl, hb'⟩)
  go_ret
  exact ⟨rfl, hb'⟩

set_option maxHeartbeats 2000000 in
set_option maxRecDepth 100000 in
theorem cl33 (NA T : Addr) (A At Ab : Option Addr) (c ct cb : Nat) (N : List (List Int)) (th : List Bool) (b : List Int) (w : World) (hbr : ∀ i ∈ b, 0 ≤ i ∧ i < (N.length : Int)) (hN : ∀ i, ∀ k ∈ rd_L3 N i, 0 ≤ k ∧ k < (th.length : Int))
    (hn : w.cell? NA = some (.slice A N.length c)) (hCN : Kd.C (Kd.slice 3 (Kd.int .i64)) w A N.length N) (ht : w.cell? T = some (.slice At th.length ct)) (hC : Kd.C Kd.bool w At th.length th) (hCb : Kd.C (Kd.int .i64) w Ab b.length b) :
    Calls Try.prog 33 #[.slice Ab b.length cb, .pointer (some NA), .pointer (some T)] w fun e w' => e = .returned (.bool (okB N th b)) ∧ Below w.heap.size w w' := by
  have hB0 : Below w.heap.size w (w.alloc (.cells #[.slice Ab b.length cb] 23)) := below_alloc (Below.refl _ _) _
  have h34 := contF34 35 #[.pointer (some NA), .pointer (some T), .pointer (some ⟨w.heap.size, 0, none⟩)] (lackE N th b) en35 Ab cb b (w.alloc (.cells #[.slice Ab b.length cb] 23)) (Kd.C_below hCb hB0) (fun W x hx hB => by
    have h1 := hbr x hx
    have hB1 : Below w.heap.size w W := below_step hB0 hB
    refine cl35 x NA T ⟨w.heap.size, 0, none⟩ A At Ab c ct cb N th b W h1.1 h1.2 (hN x) ((hB1.cell (World.block_lt_of_cell? w _ hn)).trans hn) (Kd.C_below hCN hB1) ((hB1.cell (World.block_lt_of_cell? w _ ht)).trans ht) (Kd.C_below hC hB1) ((hB.cell (p := ⟨w.heap.size, 0, none⟩) (by simp)).trans (by simp)) (Kd.C_below hCb hB1))
  have e : (!(b.any (lackE N th b))) = okB N th b := rfl
  generalize hq : b.any (lackE N th b) = q at h34 e
  generalize okB N th b = r at e
  subst e
  have H34 := Aside0.mk h34
  have HB0 := Aside0.mk hB0
  clear hq h34 hC hCb hCN hN ht hn hbr hB0
  go_enter Try.func33, Try.ntmps33
  go_wp2_with (go_at_call 34; refine H34.out.mono ?_; rintro e w' ⟨rfl, hb'⟩)
  go_ret
  exact ⟨rfl, below_step HB0.out hb'⟩
end Go.Proofs.Ytlaneafplmbcnaa.PO

namespace Go.Proofs.Ytlaneafplmbcnaa.PO
open Go.RowKit Go.Proofs.YtlaneafplmbcnaaW.PrintWords Go.Proofs.YtlaneafplmbcnaaW.PrintLast Go.Proofs.YtlaneafplmbcnaaW.PrintMore
set_option linter.unusedVariables false
set_option linter.unusedSimpArgs false

/-- Where the captured variables lie, and the rows that are never moved. -/
structure Bx where
  c : Nat
  no : Nat
  lo : Nat
  on : Nat
  st : Nat
  nd : Nat
  wk : Nat
  ou : Nat
  gN : Nat
  gL : Nat
  gO : Nat
  cN : Nat
  cL : Nat
  cO : Nat
def bx (k : Nat) : Value := .pointer (some ⟨k, 0, none⟩)
/-- The walk's own value. -/
def Bx.fn (X : Bx) : Value := .func (.func 40) #[] #[bx X.c, bx X.no, bx X.lo, bx X.on, bx X.st, bx X.nd, bx X.wk, bx X.ou]
/-- What is kept apart. -/
structure Bx.Ok (X : Bx) (base : Nat) : Prop where
  bc : base ≤ X.c
  bno : base ≤ X.no
  blo : base ≤ X.lo
  bon : base ≤ X.on
  bst : base ≤ X.st
  bnd : base ≤ X.nd
  bwk : base ≤ X.wk
  bou : base ≤ X.ou
  cN : X.c ≠ X.gN
  cL : X.c ≠ X.gL
  NL : X.gN ≠ X.gL
  nl : X.no ≠ X.lo
  ns : X.no ≠ X.st
  ls : X.lo ≠ X.st
  no : X.nd ≠ X.ou
/-- The world in which the walk goes on. -/
structure Tw (W0 W : World) (X : Bx) (A : Option Addr) (c n : Nat) (vs vo : Value) (t : TS) : Prop where
  ok : X.Ok W0.heap.size
  below : Below W0.heap.size W0 W
  bc : W.heap[X.c]? = some (.cells #[.int .i64 t.cnt] 3 (0, 0))
  bno : W.heap[X.no]? = some (.cells #[.slice (some ⟨X.gN, 0, none⟩) n X.cN] 23 (0, 0))
  blo : W.heap[X.lo]? = some (.cells #[.slice (some ⟨X.gL, 0, none⟩) n X.cL] 23 (0, 0))
  bon : W.heap[X.on]? = some (.cells #[.slice (some ⟨X.gO, 0, none⟩) n X.cO] 52 (0, 0))
  bst : W.heap[X.st]? = some (.cells #[vs] 23 (0, 0))
  bnd : W.heap[X.nd]? = some (.cells #[.slice A n c] 37 (0, 0))
  bwk : W.heap[X.wk]? = some (.cells #[X.fn] 64 (0, 0))
  bou : W.heap[X.ou]? = some (.cells #[vo] 37 (0, 0))
  rN : Kd.R (Kd.int .i64) 3 W W0.heap.size (fun k => k = X.gN) (.slice (some ⟨X.gN, 0, none⟩) n X.cN) t.no
  rL : Kd.R (Kd.int .i64) 3 W W0.heap.size (fun k => k = X.gL) (.slice (some ⟨X.gL, 0, none⟩) n X.cL) t.low
  rO : Kd.R Kd.bool 4 W W0.heap.size (fun k => k = X.gO) (.slice (some ⟨X.gO, 0, none⟩) n X.cO) t.on
  rS : Kd.R (Kd.int .i64) 3 W W0.heap.size (fun k => k ≠ X.c ∧ k ≠ X.gN ∧ k ≠ X.gL) vs t.st
  rU : Kd.S (Kd.slice 3 (Kd.int .i64)) 23 W W0.heap.size (fun k => k ≠ X.c ∧ k ≠ X.gN ∧ k ≠ X.gL ∧ k ≠ X.no ∧ k ≠ X.lo ∧ k ≠ X.st ∧ some k ≠ vs.ownBlock) vo t.out

theorem hv_other (W : World) (p : Addr) (v : Value) (b : Nat) (hb : b ≠ p.block) : (W.setCell p v).heap[b]? = W.heap[b]? := Below.heap_setCell W p v b hb
theorem ty_ne {W : World} {b g : Nat} {c c' : Array Value} {t t' : Nat} (h : W.heap[b]? = some (.cells c t (0, 0))) (h' : W.heap[g]? = some (.cells c' t' (0, 0))) (ht : t ≠ t') : b ≠ g := by
  rintro rfl
  rw [h] at h'
  injection h' with h'
  injection h' with _ h'
  exact ht h'
section
variable {W0 W : World} {X : Bx} {A : Option Addr} {c n : Nat} {vs vo : Value} {t : TS}
theorem Tw.drewN (h : Tw W0 W X A c n vs vo t) (m : Nat) : Tw W0 (W.drewN m) X A c n vs vo t :=
  ⟨h.ok, pw_below_drewN h.below m, h.bc, h.bno, h.blo, h.bon, h.bst, h.bnd, h.bwk, h.bou, Kd.R_drewN h.rN m, Kd.R_drewN h.rL m, Kd.R_drewN h.rO m, Kd.R_drewN h.rS m, Kd.S_drewN h.rU m⟩
theorem Tw.drew (h : Tw W0 W X A c n vs vo t) : Tw W0 W.drew X A c n vs vo t :=
  ⟨h.ok, below_drew1 h.below, h.bc, h.bno, h.blo, h.bon, h.bst, h.bnd, h.bwk, h.bou, Kd.R_drew h.rN, Kd.R_drew h.rL, Kd.R_drew h.rO, Kd.R_drew h.rS, Kd.S_drew h.rU⟩
/-- Blocks have been made, nothing was turned. -/
theorem Tw.grown (h : Tw W0 W X A c n vs vo t) {W1 : World} (hb : Below W.heap.size W W1) : Tw W0 W1 X A c n vs vo t := by
  have k : ∀ {b : Nat} {o : Obj}, W.heap[b]? = some o → W1.heap[b]? = some o := fun hb' => (hb.block _ (Array.getElem?_eq_some_iff.1 hb').1).trans hb'
  exact ⟨h.ok, below_step h.below hb, k h.bc, k h.bno, k h.blo, k h.bon, k h.bst, k h.bnd, k h.bwk, k h.bou, Kd.R_below h.rN hb, Kd.R_below h.rL hb, Kd.R_below h.rO hb, Kd.R_below h.rS hb, Kd.S_below h.rU hb⟩
theorem Tw.tyN (h : Tw W0 W X A c n vs vo t) (hn : 0 < t.no.length) : W0.heap.size ≤ X.gN ∧ ∃ cs, W.heap[X.gN]? = some (.cells cs 3 (0, 0)) := by
  obtain ⟨g, c', e, hb, hl, hg⟩ := Kd.R_form h.rN hn
  have : g = X.gN := by injection e with e _ _; injection e with e; injection e with e; exact e.symm
  subst this; exact ⟨hb, hg⟩
theorem Tw.tyL (h : Tw W0 W X A c n vs vo t) (hn : 0 < t.low.length) : W0.heap.size ≤ X.gL ∧ ∃ cs, W.heap[X.gL]? = some (.cells cs 3 (0, 0)) := by
  obtain ⟨g, c', e, hb, hl, hg⟩ := Kd.R_form h.rL hn
  have : g = X.gL := by injection e with e _ _; injection e with e; injection e with e; exact e.symm
  subst this; exact ⟨hb, hg⟩
theorem Tw.tyO (h : Tw W0 W X A c n vs vo t) (hn : 0 < t.on.length) : W0.heap.size ≤ X.gO ∧ ∃ cs, W.heap[X.gO]? = some (.cells cs 4 (0, 0)) := by
  obtain ⟨g, c', e, hb, hl, hg⟩ := Kd.R_form h.rO hn
  have : g = X.gO := by injection e with e _ _; injection e with e; injection e with e; exact e.symm
  subst this; exact ⟨hb, hg⟩
/-- The count is stored. -/
theorem Tw.setC (h : Tw W0 W X A c n vs vo t) (x : Int) : Tw W0 (W.setCell ⟨X.c, 0, none⟩ (.int .i64 x)) X A c n vs vo { t with cnt := x } := by
  have o := h.ok
  have k : ∀ {b : Nat} {cs : Array Value} {T : Nat}, W.heap[b]? = some (.cells cs T (0, 0)) → T ≠ 3 → (W.setCell ⟨X.c, 0, none⟩ (.int .i64 x)).heap[b]? = some (.cells cs T (0, 0)) := fun hb hT => (hv_other W _ _ _ (ty_ne hb h.bc hT)).trans hb
  exact ⟨o, below_set h.below o.bc, blk_put (cs := #[.int .i64 t.cnt]) h.bc 0 _ rfl, k h.bno (by decide), k h.blo (by decide), k h.bon (by decide), k h.bst (by decide), k h.bnd (by decide), k h.bwk (by decide), k h.bou (by decide),
    Kd.R_far h.rN (fun q hq => by rw [hq]; exact fun e => o.cN e.symm) _, Kd.R_far h.rL (fun q hq => by rw [hq]; exact fun e => o.cL e.symm) _,
    Kd.R_set h.rO h.bc (by decide) 0 _, Kd.R_far h.rS (fun q hq => hq.1) _, Kd.S_far h.rU (fun q hq => hq.1) _⟩
theorem Tw.setN (h : Tw W0 W X A c n vs vo t) (hn : 0 < t.no.length) (j : Int) (x : Int) : Tw W0 (W.setCell ⟨X.gN, j.toNat, none⟩ (.int .i64 x)) X A c n vs vo { t with no := t.no.set j.toNat x } := by
  have o := h.ok
  obtain ⟨hb, cs', hg⟩ := h.tyN hn
  have k : ∀ {b : Nat} {cs : Array Value} {T : Nat}, W.heap[b]? = some (.cells cs T (0, 0)) → T ≠ 3 → (W.setCell ⟨X.gN, j.toNat, none⟩ (.int .i64 x)).heap[b]? = some (.cells cs T (0, 0)) := fun hb hT => (hv_other W _ _ _ (ty_ne hb hg hT)).trans hb
  exact ⟨o, below_set h.below hb, (hv_other W _ _ _ o.cN).trans h.bc, k h.bno (by decide), k h.blo (by decide), k h.bon (by decide), k h.bst (by decide), k h.bnd (by decide), k h.bwk (by decide), k h.bou (by decide),
    (Kd.R_putg h.rN j x).1, Kd.R_far h.rL (fun q hq => by rw [hq]; exact fun e => o.NL e.symm) _, Kd.R_set h.rO hg (by decide) _ _, Kd.R_far h.rS (fun q hq => hq.2.1) _, Kd.S_far h.rU (fun q hq => hq.2.1) _⟩
theorem Tw.setL (h : Tw W0 W X A c n vs vo t) (hn : 0 < t.low.length) (j : Int) (x : Int) : Tw W0 (W.setCell ⟨X.gL, j.toNat, none⟩ (.int .i64 x)) X A c n vs vo { t with low := t.low.set j.toNat x } := by
  have o := h.ok
  obtain ⟨hb, cs', hg⟩ := h.tyL hn
  have k : ∀ {b : Nat} {cs : Array Value} {T : Nat}, W.heap[b]? = some (.cells cs T (0, 0)) → T ≠ 3 → (W.setCell ⟨X.gL, j.toNat, none⟩ (.int .i64 x)).heap[b]? = some (.cells cs T (0, 0)) := fun hb hT => (hv_other W _ _ _ (ty_ne hb hg hT)).trans hb
  exact ⟨o, below_set h.below hb, (hv_other W _ _ _ o.cL).trans h.bc, k h.bno (by decide), k h.blo (by decide), k h.bon (by decide), k h.bst (by decide), k h.bnd (by decide), k h.bwk (by decide), k h.bou (by decide),
    Kd.R_far h.rN (fun q hq => by rw [hq]; exact o.NL) _, (Kd.R_putg h.rL j x).1, Kd.R_set h.rO hg (by decide) _ _, Kd.R_far h.rS (fun q hq => hq.2.2) _, Kd.S_far h.rU (fun q hq => hq.2.2.1) _⟩
theorem Tw.setO (h : Tw W0 W X A c n vs vo t) (hn : 0 < t.on.length) (j : Int) (x : Bool) : Tw W0 (W.setCell ⟨X.gO, j.toNat, none⟩ (.bool x)) X A c n vs vo { t with on := t.on.set j.toNat x } := by
  have o := h.ok
  obtain ⟨hb, cs', hg⟩ := h.tyO hn
  have k : ∀ {b : Nat} {cs : Array Value} {T : Nat}, W.heap[b]? = some (.cells cs T (0, 0)) → T ≠ 4 → (W.setCell ⟨X.gO, j.toNat, none⟩ (.bool x)).heap[b]? = some (.cells cs T (0, 0)) := fun hb hT => (hv_other W _ _ _ (ty_ne hb hg hT)).trans hb
  exact ⟨o, below_set h.below hb, k h.bc (by decide), k h.bno (by decide), k h.blo (by decide), k h.bon (by decide), k h.bst (by decide), k h.bnd (by decide), k h.bwk (by decide), k h.bou (by decide),
    Kd.R_set h.rN hg (by decide) _ _, Kd.R_set h.rL hg (by decide) _ _, (Kd.R_putg h.rO j x).1, Kd.R_set h.rS hg (by decide) _ _, Kd.S_set h.rU hg (by decide) _ _⟩
end
end Go.Proofs.Ytlaneafplmbcnaa.PO

namespace Go.Proofs.Ytlaneafplmbcnaa.PO
open Go.RowKit Go.Proofs.YtlaneafplmbcnaaW.PrintWords Go.Proofs.YtlaneafplmbcnaaW.PrintLast Go.Proofs.YtlaneafplmbcnaaW.PrintMore
set_option linter.unusedVariables false
set_option linter.unusedSimpArgs false

/-- What an equation reaches is there, or reaches it. -/
def FreeE (N : List (List Int)) (th : Int → Prop) (i : Int) : Prop := ∀ k, Rch N i k → th k ∨ Rch N k i
structure IsNext (N : List (List Int)) (n : Nat) (th : Int → Prop) (b : List Int) (h : Int) : Prop where
  scc : IsScc N b
  hd : b.head? = some h
  h0 : 0 ≤ h
  h1 : h < (n : Int)
  nt : ¬ th h
  fr : FreeE N th h
  lt : ∀ i : Int, 0 ≤ i → i < (n : Int) → ¬ th i → FreeE N th i → h ≤ i
/-- The blocks in their order. -/
inductive Ord (N : List (List Int)) (n : Nat) (told : List Int) : (Int → Prop) → List S30 → Prop
  | done {th : Int → Prop} : (∀ i : Int, 0 ≤ i → i < (n : Int) → th i) → Ord N n told th []
  | step {th th' : Int → Prop} {b : List Int} {h : Int} {rest : List S30} : IsNext N n th b h → (∀ i : Int, 0 ≤ i → i < (n : Int) → (th' i ↔ th i ∨ i ∈ b)) → Ord N n told th' rest → Ord N n told th (⟨b, sortI (b.map (rd told))⟩ :: rest)

theorem head_mem {b : List Int} {h : Int} (e : b.head? = some h) : h ∈ b := by
  cases b with
  | nil => cases e
  | cons a b => simp at e; rw [e]; exact List.mem_cons_self
theorem head_le {b : List Int} {h : Int} (hs : b.Pairwise (fun a b => a < b)) (e : b.head? = some h) : ∀ x ∈ b, h ≤ x := by
  cases b with
  | nil => cases e
  | cons a b =>
    simp at e
    subst e
    intro x hx
    rcases List.mem_cons.1 hx with rfl | hx
    · exact Int.le_refl _
    · have := (List.pairwise_cons.1 hs).1 x hx; omega
/-- Two rising lists of the same numbers are one. -/
theorem rising_eq : ∀ (a b : List Int), a.Pairwise (fun x y => x < y) → b.Pairwise (fun x y => x < y) → (∀ x, x ∈ a ↔ x ∈ b) → a = b := by
  intro a
  induction a with
  | nil =>
    intro b _ _ h
    cases b with
    | nil => rfl
    | cons y b => exact absurd ((h y).2 List.mem_cons_self) List.not_mem_nil
  | cons x a ih =>
    intro b ha hb h
    cases b with
    | nil => exact absurd ((h x).1 List.mem_cons_self) List.not_mem_nil
    | cons y b =>
      have ha' := List.pairwise_cons.1 ha
      have hb' := List.pairwise_cons.1 hb
      have e : x = y := by
        rcases List.mem_cons.1 ((h x).1 List.mem_cons_self) with e | e
        · exact e
        · rcases List.mem_cons.1 ((h y).2 List.mem_cons_self) with e' | e'
          · exact e'.symm
          · have h1 := ha'.1 y e'
            have h2 := hb'.1 x e
            omega
      subst e
      rw [ih b ha'.2 hb'.2 (fun z => ⟨fun hz => by
        rcases List.mem_cons.1 ((h z).1 (List.mem_cons_of_mem _ hz)) with e | e
        · have := ha'.1 z hz; omega
        · exact e, fun hz => by
        rcases List.mem_cons.1 ((h z).2 (List.mem_cons_of_mem _ hz)) with e | e
        · have := hb'.1 z hz; omega
        · exact e⟩)]
theorem IsScc.mem_iff {N : List (List Int)} {b : List Int} (h : IsScc N b) {x y : Int} (hx : x ∈ b) : y ∈ b ↔ Rch N x y ∧ Rch N y x := by
  obtain ⟨_, r, hr, hm⟩ := h
  obtain ⟨h1, h2⟩ := (hm x).1 hx
  rw [hm y]
  exact ⟨fun ⟨a, b⟩ => ⟨h2.trans a, b.trans h1⟩, fun ⟨a, b⟩ => ⟨h1.trans a, b.trans h2⟩⟩
theorem IsScc.eq {N : List (List Int)} {b b' : List Int} (h : IsScc N b) (h' : IsScc N b') {x : Int} (hx : x ∈ b) (hx' : x ∈ b') : b = b' :=
  rising_eq b b' h.1 h'.1 (fun y => by rw [h.mem_iff hx, h'.mem_iff hx'])
theorem Rch.range {N : List (List Int)} {n : Nat} (hN : ∀ j, ∀ k ∈ rd_L3 N j, 0 ≤ k ∧ k < (n : Int)) {i k : Int} (h : Rch N i k) (hi : 0 ≤ i ∧ i < (n : Int)) : 0 ≤ k ∧ k < (n : Int) :=
  Rch.keeps (P := fun x => 0 ≤ x ∧ x < (n : Int)) (fun i _ k hk => hN i k hk) h hi
theorem FreeE.congr {N : List (List Int)} {n : Nat} (hN : ∀ j, ∀ k ∈ rd_L3 N j, 0 ≤ k ∧ k < (n : Int)) {th th' : Int → Prop} (hth : ∀ i : Int, 0 ≤ i → i < (n : Int) → (th i ↔ th' i)) {i : Int} (i0 : 0 ≤ i) (i1 : i < (n : Int)) (h : FreeE N th i) : FreeE N th' i := fun k hk => by
  have := hk.range hN ⟨i0, i1⟩
  exact (h k hk).imp (hth k this.1 this.2).1 id
/-- One rule, one order. -/
theorem Ord.one {N : List (List Int)} {n : Nat} {told : List Int} (hN : ∀ j, ∀ k ∈ rd_L3 N j, 0 ≤ k ∧ k < (n : Int)) {th : Int → Prop} {x : List S30} (h : Ord N n told th x) : ∀ {th' : Int → Prop} {y : List S30}, (∀ i : Int, 0 ≤ i → i < (n : Int) → (th i ↔ th' i)) → Ord N n told th' y → x = y := by
  induction h with
  | done hd =>
    intro th' y hth h'
    cases h' with
    | done _ => rfl
    | step hn _ _ => exact absurd ((hth _ hn.h0 hn.h1).1 (hd _ hn.h0 hn.h1)) hn.nt
  | @step th1 th2 b h rest hn ht hr ih =>
    intro th' y hth h'
    cases h' with
    | done hd => exact absurd ((hth _ hn.h0 hn.h1).2 (hd _ hn.h0 hn.h1)) hn.nt
    | @step _ th3 b' h' rest' hn' ht' hr' =>
      have hth' : ∀ i : Int, 0 ≤ i → i < (n : Int) → (th' i ↔ th1 i) := fun i a b => (hth i a b).symm
      have e1 : h = h' := Int.le_antisymm (hn.lt h' hn'.h0 hn'.h1 (fun q => hn'.nt ((hth _ hn'.h0 hn'.h1).1 q)) (FreeE.congr hN hth' hn'.h0 hn'.h1 hn'.fr)) (hn'.lt h hn.h0 hn.h1 (fun q => hn.nt ((hth _ hn.h0 hn.h1).2 q)) (FreeE.congr hN hth hn.h0 hn.h1 hn.fr))
      subst e1
      have e2 := hn.scc.eq hn'.scc (head_mem hn.hd) (head_mem hn'.hd)
      subst e2
      rw [ih (fun i a b => by rw [ht i a b, ht' i a b, hth i a b]) hr']

theorem reach_less {N : List (List Int)} {n : Nat} (hN : ∀ j, ∀ k ∈ rd_L3 N j, 0 ≤ k ∧ k < (n : Int)) : ∃ μ : Int → Nat, ∀ i j : Int, 0 ≤ i → i < (n : Int) → 0 ≤ j → j < (n : Int) → Rch N i j → ¬ Rch N j i → μ j < μ i := by
  classical
  have mr : ∀ x : Int, x ∈ (List.range n).map (fun k : Nat => (k : Int)) ↔ 0 ≤ x ∧ x < (n : Int) := fun x => by
    constructor
    · intro h
      obtain ⟨y, hy, rfl⟩ := List.mem_map.1 h
      have := List.mem_range.1 hy
      omega
    · rintro ⟨a, b⟩
      exact List.mem_map.2 ⟨x.toNat, List.mem_range.2 (by omega), by omega⟩
  have nd : ((List.range n).map (fun k : Nat => (k : Int))).Nodup := by
    unfold List.Nodup
    rw [List.pairwise_map]
    exact (List.nodup_range (n := n)).imp (fun {a b} h e => h (by omega))
  refine ⟨fun i => (((List.range n).map (fun k : Nat => (k : Int))).filter (fun x => decide (Rch N i x))).length, fun i j i0 i1 j0 j1 h hn => ?_⟩
  have h1 := tj_nodup_le (i :: (((List.range n).map (fun k : Nat => (k : Int))).filter (fun x => decide (Rch N j x)))) (((List.range n).map (fun k : Nat => (k : Int))).filter (fun x => decide (Rch N i x)))
    (List.nodup_cons.2 ⟨fun hm => hn (of_decide_eq_true (List.mem_filter.1 hm).2), List.Pairwise.filter _ nd⟩) (fun x hx => by
      rcases List.mem_cons.1 hx with rfl | hx
      · exact List.mem_filter.2 ⟨(mr _).2 ⟨i0, i1⟩, decide_eq_true (.refl _)⟩
      · obtain ⟨a, b⟩ := List.mem_filter.1 hx
        exact List.mem_filter.2 ⟨a, decide_eq_true (h.trans (of_decide_eq_true b))⟩)
  rw [List.length_cons] at h1
  exact Nat.lt_of_succ_le h1
theorem least_of {α : Type} (μ : α → Nat) : ∀ (l : List α), l ≠ [] → ∃ b ∈ l, ∀ b' ∈ l, μ b ≤ μ b' := by
  intro l
  induction l with
  | nil => intro h; exact absurd rfl h
  | cons a l ih =>
    intro _
    cases l with
    | nil => exact ⟨a, List.mem_cons_self, fun b' hb' => by rw [List.mem_singleton.1 hb']; exact Nat.le_refl _⟩
    | cons c l =>
      obtain ⟨b, hb, hm⟩ := ih (by simp)
      by_cases e : μ a ≤ μ b
      · exact ⟨a, List.mem_cons_self, fun b' hb' => by
          rcases List.mem_cons.1 hb' with rfl | hb'
          · exact Nat.le_refl _
          · exact Nat.le_trans e (hm b' hb')⟩
      · exact ⟨b, List.mem_cons_of_mem _ hb, fun b' hb' => by
          rcases List.mem_cons.1 hb' with rfl | hb'
          · omega
          · exact hm b' hb'⟩
/-- Of what is not there, some are free. -/
theorem some_free {N : List (List Int)} {n : Nat} (hN : ∀ j, ∀ k ∈ rd_L3 N j, 0 ≤ k ∧ k < (n : Int)) {th : Int → Prop} {i : Int} (i0 : 0 ≤ i) (i1 : i < (n : Int)) (hi : ¬ th i) : ∃ f : Int, 0 ≤ f ∧ f < (n : Int) ∧ ¬ th f ∧ FreeE N th f := by
  classical
  obtain ⟨μ, hμ⟩ := reach_less hN
  have mr : ∀ x : Int, x ∈ ((List.range n).map (fun k : Nat => (k : Int))).filter (fun x => decide (¬ th x)) ↔ (0 ≤ x ∧ x < (n : Int)) ∧ ¬ th x := fun x => by
    rw [List.mem_filter, decide_eq_true_iff]
    constructor
    · rintro ⟨h, h'⟩
      obtain ⟨y, hy, rfl⟩ := List.mem_map.1 h
      have := List.mem_range.1 hy
      exact ⟨by omega, h'⟩
    · rintro ⟨⟨a, b⟩, c⟩
      exact ⟨List.mem_map.2 ⟨x.toNat, List.mem_range.2 (by omega), by omega⟩, c⟩
  obtain ⟨f, hf, hm⟩ := least_of μ (((List.range n).map (fun k : Nat => (k : Int))).filter (fun x => decide (¬ th x))) (fun e => by
    have := (mr i).2 ⟨⟨i0, i1⟩, hi⟩
    rw [e] at this
    cases this)
  obtain ⟨⟨f0, f1⟩, f2⟩ := (mr f).1 hf
  refine ⟨f, f0, f1, f2, fun k hk => ?_⟩
  by_cases ht : th k
  · exact .inl ht
  · right
    by_cases hr : Rch N k f
    · exact hr
    · exfalso
      have hkr := hk.range hN ⟨f0, f1⟩
      have h1 := hμ f k f0 f1 hkr.1 hkr.2 hk hr
      have h2 := hm k ((mr k).2 ⟨hkr, ht⟩)
      omega

def thSet (th : List Bool) (b : List Int) : List Bool := b.foldl (fun s i => s.set i.toNat true) th
theorem thSet_len (b : List Int) : ∀ th, (thSet th b).length = th.length := by
  induction b with
  | nil => intro th; rfl
  | cons k b ih => intro th; show (thSet _ b).length = _; rw [ih]; simp
theorem thSet_at (b : List Int) : ∀ (th : List Bool) (j : Int), (∀ k ∈ b, 0 ≤ k ∧ k < (th.length : Int)) → 0 ≤ j → (rdOf false (thSet th b) j = true ↔ rdOf false th j = true ∨ j ∈ b) := by
  induction b with
  | nil => intro th j _ _; simp [thSet]
  | cons k b ih =>
    intro th j h j0
    have hk := h k List.mem_cons_self
    show rdOf false (thSet (th.set k.toNat true) b) j = true ↔ _
    rw [ih (th.set k.toNat true) j (fun x hx => by have := h x (List.mem_cons_of_mem _ hx); simp; omega) j0, tj_sn th k j true hk.1 hk.2 j0]
    by_cases e : k = j
    · subst e; simp
    · rw [if_neg e]
      simp [List.mem_cons, show ¬ j = k from fun h => e h.symm]
/-- Block by block, as the program takes them. -/
def ordL (told : List Int) (N : List (List Int)) : Nat → List Bool → List (List Int) → List S30
  | 0, _, _ => []
  | d + 1, th, bs => ⟨rd_L3 bs (idxP (okB N th) bs 0), sortI ((rd_L3 bs (idxP (okB N th) bs 0)).map (rd told))⟩ :: ordL told N d (thSet th (rd_L3 bs (idxP (okB N th) bs 0))) (bs.eraseIdx (idxP (okB N th) bs 0).toNat)
/-- What holds while blocks are taken. -/
structure OInv (N : List (List Int)) (n : Nat) (th : List Bool) (bs : List (List Int)) : Prop where
  tl : th.length = n
  bl : bs.length ≤ n
  scc : ∀ b ∈ bs, IsScc N b
  rg : ∀ b ∈ bs, ∀ x ∈ b, 0 ≤ x ∧ x < (n : Int)
  nt : ∀ b ∈ bs, ∀ x ∈ b, rdOf false th x = false
  all : ∀ x : Int, 0 ≤ x → x < (n : Int) → rdOf false th x = true ∨ ∃ b ∈ bs, x ∈ b
  srt : bs.Pairwise (fun a b => ∀ x ∈ a.head?, ∀ y ∈ b.head?, x < y)
  cls : ∀ i : Int, 0 ≤ i → i < (n : Int) → rdOf false th i = true → ∀ k ∈ rd_L3 N i, rdOf false th k = true
theorem IsScc.head {N : List (List Int)} {b : List Int} (h : IsScc N b) : ∃ x, b.head? = some x := by
  obtain ⟨_, r, hr, _⟩ := h
  cases b with
  | nil => cases hr
  | cons a b => exact ⟨a, rfl⟩
theorem okB_iff {N : List (List Int)} {th : List Bool} {b : List Int} : okB N th b = true ↔ ∀ i ∈ b, ∀ k ∈ rd_L3 N i, rdOf false th k = true ∨ k ∈ b := by
  unfold okB lackE lackB
  rw [Bool.not_eq_true', List.any_eq_false]
  constructor
  · intro h i hi k hk
    have h1 := h i hi
    rw [Bool.not_eq_true, List.any_eq_false] at h1
    have h2 := h1 k hk
    simp only [Bool.and_eq_true, Bool.not_eq_true', not_and, Bool.not_eq_false] at h2
    by_cases e : rdOf false th k = true
    · exact .inl e
    · right
      have := h2 (by simpa using e)
      simpa using this
  · intro h i hi
    rw [Bool.not_eq_true, List.any_eq_false]
    intro k hk
    simp only [Bool.and_eq_true, Bool.not_eq_true', not_and, Bool.not_eq_false]
    intro e
    rcases h i hi k hk with h1 | h1
    · rw [h1] at e; cases e
    · simpa using h1
theorem OInv.free {N : List (List Int)} {n : Nat} {th : List Bool} {bs : List (List Int)} (hN : ∀ j, ∀ k ∈ rd_L3 N j, 0 ≤ k ∧ k < (n : Int)) (h : OInv N n th bs) {b : List Int} (hb : b ∈ bs) {i : Int} (hi : i ∈ b) : okB N th b = true ↔ FreeE N (fun x => rdOf false th x = true) i := by
  rw [okB_iff]
  have hs := h.scc b hb
  constructor
  · intro ho k hk
    have : (rdOf false th k = true ∧ 0 ≤ k ∧ k < (n : Int)) ∨ k ∈ b := Rch.keeps (P := fun x => (rdOf false th x = true ∧ 0 ≤ x ∧ x < (n : Int)) ∨ x ∈ b) (fun x hx y hy => by
      rcases hx with ⟨hx, x0, x1⟩ | hx
      · exact .inl ⟨h.cls x x0 x1 hx y hy, (hN x y hy).1, (hN x y hy).2⟩
      · rcases ho x hx y hy with h1 | h1
        · exact .inl ⟨h1, (hN x y hy).1, (hN x y hy).2⟩
        · exact .inr h1) hk (.inr hi)
    rcases this with h1 | h1
    · exact .inl h1.1
    · exact .inr ((hs.mem_iff hi).1 h1).2
  · intro hf x hx k hk
    have h1 := ((hs.mem_iff hi).1 hx).1
    have h2 : Rch N i k := h1.trans (.one hk)
    rcases hf k h2 with h3 | h3
    · exact .inl h3
    · exact .inr ((hs.mem_iff hi).2 ⟨h2, h3⟩)
theorem OInv.any {N : List (List Int)} {n : Nat} {th : List Bool} {bs : List (List Int)} (hN : ∀ j, ∀ k ∈ rd_L3 N j, 0 ≤ k ∧ k < (n : Int)) (h : OInv N n th bs) (hne : bs ≠ []) : bs.any (okB N th) = true := by
  obtain ⟨b, rest, rfl⟩ : ∃ b rest, bs = b :: rest := by
    cases bs with
    | nil => exact absurd rfl hne
    | cons b rest => exact ⟨b, rest, rfl⟩
  obtain ⟨x, hx⟩ := (h.scc b List.mem_cons_self).head
  have hxm := head_mem hx
  have hxr := h.rg b List.mem_cons_self x hxm
  have hxn := h.nt b List.mem_cons_self x hxm
  obtain ⟨f, f0, f1, f2, f3⟩ := some_free hN (th := fun x => rdOf false th x = true) hxr.1 hxr.2 (by simp [hxn])
  rcases h.all f f0 f1 with h1 | ⟨b', hb', h1⟩
  · exact absurd h1 f2
  · exact List.any_eq_true.2 ⟨b', hb', (h.free hN hb' h1).2 f3⟩
/-- One is taken. -/
theorem OInv.step {N : List (List Int)} {n : Nat} {th : List Bool} {bs : List (List Int)} (hN : ∀ j, ∀ k ∈ rd_L3 N j, 0 ≤ k ∧ k < (n : Int)) (h : OInv N n th bs) (hne : bs ≠ []) :
    ∃ k : Nat, k < bs.length ∧ idxP (okB N th) bs 0 = (k : Int) ∧ (∃ hd, IsNext N n (fun x => rdOf false th x = true) (rd_L3 bs (k : Int)) hd) ∧ OInv N n (thSet th (rd_L3 bs (k : Int))) (bs.eraseIdx k) ∧ rd_L3 bs (k : Int) ∈ bs := by
  obtain ⟨k, hk, hki, hk1, hk2⟩ := idxP_spec (okB N th) bs 0 (Int.le_refl _) (h.any hN hne)
  have hb : rd_L3 bs (k : Int) = bs[k] := by simp [rd_L3, List.getD_eq_getElem?_getD, List.getElem?_eq_getElem hk]
  have hbm : bs[k] ∈ bs := List.getElem_mem hk
  have hok : okB N th bs[k] = true := hk1 _ (List.getElem?_eq_getElem hk)
  refine ⟨k, hk, by rw [hki]; omega, ?_⟩
  rw [hb]
  generalize hbb : bs[k] = b at hbm hok
  have hs := h.scc b hbm
  obtain ⟨hd, hhd⟩ := hs.head
  have hdm := head_mem hhd
  have hdr := h.rg b hbm hd hdm
  have hpw := List.pairwise_iff_getElem.1 h.srt
  have apart : ∀ (j : Nat) (hj : j < bs.length), j ≠ k → ∀ x ∈ bs[j], x ∉ b := fun j hj hjk x hx hxb => by
    have e := (h.scc _ (List.getElem_mem hj)).eq hs hx hxb
    rcases Nat.lt_or_gt_of_ne hjk with q | q
    · have := hpw j k hj hk q hd (by rw [e]; exact hhd) hd (by rw [hbb]; exact hhd)
      omega
    · have := hpw k j hk hj q hd (by rw [hbb]; exact hhd) hd (by rw [e]; exact hhd)
      omega
  have hin : ∀ x ∈ bs.eraseIdx k, ∃ j, ∃ hj : j < bs.length, j ≠ k ∧ bs[j] = x := fun x hx => by
    obtain ⟨j, hj, hjk, he⟩ := List.mem_eraseIdx_iff_getElem.1 hx
    exact ⟨j, hj, hjk, he⟩
  have hbrg : ∀ x ∈ b, 0 ≤ x ∧ x < (th.length : Int) := fun x hx => by rw [h.tl]; exact h.rg b hbm x hx
  refine ⟨⟨hd, hs, hhd, hdr.1, hdr.2, by simp [h.nt b hbm hd hdm], (h.free hN hbm hdm).1 hok, fun i i0 i1 hi hf => ?_⟩, ⟨?_, ?_, fun x hx => ?_, fun x hx => ?_, fun x hx y hy => ?_, fun x x0 x1 => ?_, ?_, fun i i0 i1 hi y hy => ?_⟩, hbm⟩
  · rcases h.all i i0 i1 with h1 | ⟨b', hb', h1⟩
    · exact absurd h1 hi
    · have hok' := (h.free hN hb' h1).2 hf
      obtain ⟨j, hj, rfl⟩ := List.getElem_of_mem hb'
      obtain ⟨hd', hhd'⟩ := (h.scc _ hb').head
      have hle := head_le (h.scc _ hb').1 hhd' i h1
      rcases Nat.lt_trichotomy j k with q | q | q
      · have := hk2 j q _ (List.getElem?_eq_getElem hj)
        rw [this] at hok'
        cases hok'
      · subst q
        rw [hbb] at hhd'
        rw [hhd] at hhd'
        injection hhd' with e
        omega
      · have := hpw k j hk hj q hd (by rw [hbb]; exact hhd) hd' hhd'
        omega
  · rw [thSet_len]; exact h.tl
  · rw [List.length_eraseIdx]; have := h.bl; split <;> omega
  · obtain ⟨j, hj, _, rfl⟩ := hin x hx
    exact h.scc _ (List.getElem_mem hj)
  · obtain ⟨j, hj, _, rfl⟩ := hin x hx
    exact h.rg _ (List.getElem_mem hj)
  · obtain ⟨j, hj, hjk, rfl⟩ := hin x hx
    have hy0 := h.rg _ (List.getElem_mem hj) y hy
    have h1 := h.nt _ (List.getElem_mem hj) y hy
    have h2 := apart j hj hjk y hy
    by_cases e : rdOf false (thSet th b) y = true
    · rcases (thSet_at b th y hbrg hy0.1).1 e with q | q
      · rw [h1] at q; cases q
      · exact absurd q h2
    · simpa using e
  · rcases h.all x x0 x1 with h1 | ⟨b', hb', h1⟩
    · exact .inl ((thSet_at b th x hbrg x0).2 (.inl h1))
    · obtain ⟨j, hj, rfl⟩ := List.getElem_of_mem hb'
      by_cases q : j = k
      · subst q
        rw [hbb] at h1
        exact .inl ((thSet_at b th x hbrg x0).2 (.inr h1))
      · exact .inr ⟨_, List.mem_eraseIdx_iff_getElem.2 ⟨j, hj, q, rfl⟩, h1⟩
  · exact h.srt.sublist (List.eraseIdx_sublist _ _)
  · have hy0 := hN i y hy
    rcases (thSet_at b th i hbrg i0).1 hi with q | q
    · exact (thSet_at b th y hbrg hy0.1).2 (.inl (h.cls i i0 i1 q y hy))
    · exact (thSet_at b th y hbrg hy0.1).2 ((okB_iff.1 hok) i q y hy)
theorem ordL_ord {N : List (List Int)} {n : Nat} (told : List Int) (hN : ∀ j, ∀ k ∈ rd_L3 N j, 0 ≤ k ∧ k < (n : Int)) : ∀ (d : Nat) (th : List Bool) (bs : List (List Int)), bs.length = d → OInv N n th bs → Ord N n told (fun x => rdOf false th x = true) (ordL told N d th bs) := by
  intro d
  induction d with
  | zero =>
    intro th bs hl h
    have : bs = [] := List.length_eq_zero_iff.1 hl
    subst this
    refine .done (fun i i0 i1 => ?_)
    rcases h.all i i0 i1 with h1 | ⟨b, hb, _⟩
    · exact h1
    · cases hb
  | succ d ih =>
    intro th bs hl h
    obtain ⟨k, hk, hki, ⟨hd, hn⟩, ho, hm⟩ := h.step hN (fun e => by rw [e] at hl; simp at hl)
    unfold ordL
    rw [hki, Int.toNat_natCast]
    refine .step hn (fun i i0 i1 => ?_) (ih _ _ (by rw [List.length_eraseIdx, if_pos hk]; omega) ho)
    exact thSet_at _ th i (fun x hx => by rw [h.tl]; exact h.rg _ hm x hx) i0
/-- By their first ones. -/
def hdLt (a b : List Int) : Bool := decide (a.headD 0 ≤ b.headD 0)
theorem OInv.start {N : List (List Int)} {n : Nat} {cs bs : List (List Int)} (hs : Sccs N n cs) (hp : bs.Perm cs) (hb : bs.Pairwise (fun a b => hdLt a b = true)) : OInv N n (List.replicate n false) bs := by
  have hf : ∀ x : Int, rdOf false (List.replicate n false) x = false := fun x => by
    unfold rdOf
    rw [List.getD_eq_getElem?_getD, List.getElem?_replicate]
    split <;> rfl
  refine ⟨by simp, by rw [hp.length_eq]; exact hs.len, fun b h => hs.scc b (hp.mem_iff.1 h), fun b h => hs.rg b (hp.mem_iff.1 h), fun b _ x _ => hf x, fun x x0 x1 => ?_, ?_, fun i _ _ h => by rw [hf] at h; cases h⟩
  · obtain ⟨c, hc, hx⟩ := hs.all x x0 x1
    exact .inr ⟨c, hp.mem_iff.2 hc, hx⟩
  · have hd : bs.Pairwise (fun a b => ∀ x ∈ a, x ∉ b) := hp.symm.pairwise hs.dis (fun {a b} h x hx hx' => h x hx' hx)
    refine (hb.and hd).imp_of_mem (fun {a b} ha hb ⟨h1, h2⟩ x hx y hy => ?_)
    have e1 : a.headD 0 = x := by
      cases a with
      | nil => cases hx
      | cons z a => simp at hx; simp [hx]
    have e2 : b.headD 0 = y := by
      cases b with
      | nil => cases hy
      | cons z b => simp at hy; simp [hy]
    have h3 := of_decide_eq_true h1
    rw [e1, e2] at h3
    have h4 : x ≠ y := fun e => h2 x (head_mem hx) (by rw [e]; exact head_mem hy)
    omega
end Go.Proofs.Ytlaneafplmbcnaa.PO
