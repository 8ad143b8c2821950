/- Several texts of this claim, one behind the other. -/
import Derived.Test.YtlaneafplmbcnaaHe
import Derived.StillTailTactics
import Derived.BigRegion
import Derived.Test.YtlaneafplmbcnaaHc
import Derived.Test.YtlaneafplmbcnaaHf
namespace Go.Proofs
open Go.Shelf
theorem Try.slices_SortFunc_none (p : Option Addr) (cap : Nat) (fv : Value) (w : World) :
    Calls Try.prog 30 #[.slice p 0 cap, fv] w fun e w' => e = .returned (.tuple #[]) ∧ w' = w := AnyF.slices_SortFunc_none { Try.laysSlF6_f30 with } p cap fv w
end Go.Proofs
namespace Go.Proofs.Ytlaneafplmbcnaa.PO
open Go.RowKit Go.Proofs.YtlaneafplmbcnaaW.PrintWords Go.Proofs.YtlaneafplmbcnaaW.PrintLast Go.Proofs.YtlaneafplmbcnaaW.PrintMore
set_option linter.unusedVariables false
set_option linter.unusedSimpArgs false

/-- The blocks' row: is tells which block lies where; V tells each block's own value. -/
structure Bl (W : World) (base g cap : Nat) (ok : Nat → Prop) (f : Nat → Nat) (V : Nat → Value) (cs : List (List Int)) (is : List Nat) : Prop where
  row : W.ownsRow base 23 1 (.slice (some ⟨g, 0, none⟩) is.length cap) is.length (is.map V)
  lt : ∀ j ∈ is, j < cs.length
  one : ∀ j, (V j).oneCell' = true
  zr : V cs.length = .slice none 0 0
  el : ∀ j, j < cs.length → Kd.R (Kd.int .i64) 3 W base (fun k => f k = j ∧ k ≠ g ∧ ok k) (V j) (cs.getD j [])
section
variable {W W1 : World} {base g cap : Nat} {ok : Nat → Prop} {f : Nat → Nat} {V : Nat → Value} {cs : List (List Int)} {is : List Nat}
theorem Bl.step (h : Bl W base g cap ok f V cs is) (hg : W1.heap[g]? = W.heap[g]?) (hk : ∀ k, k < W.heap.size → f k < cs.length → k ≠ g → ok k → W1.heap[k]? = W.heap[k]?) : Bl W1 base g cap ok f V cs is := by
  refine ⟨own_move h.row (fun k e => ?_), h.lt, h.one, h.zr, fun j hj => Kd.R_step (h.el j hj) (fun k e hlt => hk k hlt (by rw [e.1]; exact hj) e.2.1 e.2.2)⟩
  have : g = k := by simpa [Value.ownBlock] using e
  rw [← this]; exact hg
theorem Bl.lt_g (h : Bl W base g cap ok f V cs is) : g < W.heap.size := by
  obtain ⟨c, hc⟩ := own_typed h.row g (by simp [Value.ownBlock])
  exact (Array.getElem?_eq_some_iff.1 hc).1
theorem Bl.below (h : Bl W base g cap ok f V cs is) (hb : Below W.heap.size W W1) : Bl W1 base g cap ok f V cs is := h.step (hb.block _ h.lt_g) (fun k hk _ _ _ => hb.block k hk)
theorem Bl.far (h : Bl W base g cap ok f V cs is) {p : Addr} (hp : p.block ≠ g) (hk : ok p.block → f p.block < cs.length → False) (u : Value) : Bl (W.setCell p u) base g cap ok f V cs is :=
  h.step (Below.heap_setCell W p u g (fun e => hp e.symm)) (fun k _ hf _ ho => Below.heap_setCell W p u k (fun e => hk (e ▸ ho) (e ▸ hf)))
theorem Bl.R (h : Bl W base g cap ok f V cs is) : Kd.R (Kd.slice 3 (Kd.int .i64)) 23 W base (fun k => True) (.slice (some ⟨g, 0, none⟩) is.length cap) (is.map fun j => cs.getD j []) := by
  refine ⟨fun _ _ => trivial, is.map V, by rw [List.length_map]; exact h.row, by rw [List.length_map, List.length_map]; exact (Nat.mul_one _).symm, fun j p hj => ?_⟩
  rw [List.getElem?_map] at hj
  obtain ⟨i, hi, rfl⟩ := Option.map_eq_some_iff.1 hj
  have hc : ((is.map V).drop (j * 1)).take 1 = [V i] := by
    have h1 : (is.map V)[j]? = some (V i) := by rw [List.getElem?_map, hi]; rfl
    obtain ⟨hlt, h2⟩ := List.getElem?_eq_some_iff.1 h1
    rw [Nat.mul_one, List.drop_eq_getElem_cons hlt, h2]
    rfl
  rw [show (Kd.slice 3 (Kd.int .i64)).sz = 1 from rfl, hc]
  exact ⟨V i, rfl, Kd.R_mono (h.el i (h.lt i (List.mem_of_getElem? hi))) (fun k hk => ⟨trivial, fun e => hk.2.1 (by simpa [Value.ownBlock] using e)⟩)⟩
theorem Bl.C (h : Bl W base g cap ok f V cs is) : is.length ≤ cap ∧ Kd.C (Kd.slice 3 (Kd.int .i64)) W (some ⟨g, 0, none⟩) is.length (is.map fun j => cs.getD j []) := by
  have h1 := (Kd.R_reads' h.R).2
  rw [List.length_map] at h1
  exact h1
/-- A row that is one's own is told as its elements. -/
theorem Bl.of_S {v : Value} (h : Kd.S (Kd.slice 3 (Kd.int .i64)) 23 W base ok v cs) (hp : 0 < cs.length) : ∃ g cap f V, v = .slice (some ⟨g, 0, none⟩) cs.length cap ∧ Bl W base g cap ok f V cs (List.range cs.length) := by
  obtain ⟨g, cap, rfl, hb, hg, _⟩ := Kd.S_form h hp
  obtain ⟨f, h0, inner, ho, hr⟩ := h
  rw [List.length_zipIdx] at ho
  have hl : inner.length = cs.length := by have := hr.1; rw [List.length_zipIdx] at this; simpa using this.trans (Nat.mul_one _)
  have he : ∀ j, j < cs.length → Kd.R (Kd.int .i64) 3 W base (fun k => f k = j ∧ k ≠ g ∧ ok k) (inner.getD j (.slice none 0 0)) (cs.getD j []) := fun j hj => by
    have h1 := hr.2 j (cs[j], j) (Kd.zip_at (List.getElem?_eq_getElem hj))
    obtain ⟨v, e, hR⟩ := h1
    have hlt : j < inner.length := by omega
    rw [show (Kd.tag f (Kd.slice 3 (Kd.int .i64))).sz = 1 from rfl, Nat.mul_one, List.drop_eq_getElem_cons hlt] at e
    have e1 : inner[j] = v := (List.cons.inj e).1
    rw [List.getD_eq_getElem?_getD, List.getElem?_eq_getElem hlt, List.getD_eq_getElem?_getD, List.getElem?_eq_getElem hj, Option.getD_some, Option.getD_some, e1]
    exact Kd.R_mono hR (fun k hk => ⟨hk.2, fun e => hk.1.2 (by rw [e]; rfl), hk.1.1⟩)
  refine ⟨g, cap, f, fun j => inner.getD j (.slice none 0 0), rfl, ?_, fun j hj => List.mem_range.1 hj, fun j => ?_, ?_, he⟩
  · have e : (List.range cs.length).map (fun j => inner.getD j (.slice none 0 0)) = inner := by
      apply List.ext_getElem
      · simp [hl]
      · intro j h1 h2
        simp [List.getD_eq_getElem?_getD, List.getElem?_eq_getElem h2]
    rw [e, List.length_range]
    exact ho
  · by_cases hj : j < cs.length
    · exact (Kd.R_val (he j hj)).2
    · simp [List.getD_eq_getElem?_getD, List.getElem?_eq_none (show inner.length ≤ j by omega), Value.oneCell']
  · simp [List.getD_eq_getElem?_getD, List.getElem?_eq_none (show inner.length ≤ cs.length by omega)]
/-- The row is put anew. -/
theorem Bl.put (h : Bl W base g cap ok f V cs is) {js : List Nat} (hl : js.length = is.length) (hj : ∀ j ∈ js, j < cs.length ∨ j = cs.length) {q : Nat} {os : Array Obj} :
    (Go.Sort.grow (Go.Sort.putRow V (Go.Sort.ahead W q) g 0 js.toArray) os).ownsRow base 23 1 (.slice (some ⟨g, 0, none⟩) js.length cap) js.length (js.map V) ∧ W.grownBy (Go.Sort.grow (Go.Sort.putRow V (Go.Sort.ahead W q) g 0 js.toArray) os) (some g) ∧
    ∀ j, j < cs.length → Kd.R (Kd.int .i64) 3 (Go.Sort.grow (Go.Sort.putRow V (Go.Sort.ahead W q) g 0 js.toArray) os) base (fun k => f k = j ∧ k ≠ g ∧ ok k) (V j) (cs.getD j []) := by
  obtain ⟨h1, h2⟩ := ownsRow_grow (q := q) (os := os) h.row hl
  rw [hl]
  exact ⟨h1, h2, fun j hj => Kd.R_grown (h.el j hj) h2 (fun k hk e => hk.2.1 (by injection e))⟩
theorem own_less {n m : Nat} {xs : List Value} {e : Nat} (h : W.ownsRow base e 1 (.slice (some ⟨g, 0, none⟩) n cap) n xs) (hm : m ≤ n) : W.ownsRow base e 1 (.slice (some ⟨g, 0, none⟩) m cap) m (xs.take m) := by
  obtain ⟨h1, h2⟩ := h
  refine ⟨by rw [List.length_take]; omega, .inr ?_⟩
  rcases h2 with ⟨e0, _⟩ | ⟨g', cap', cur, e0, hb, hg, hn, hc, hs, ht⟩
  · cases e0
  · injection e0 with e1 _ e3
    injection e1 with e1
    injection e1 with e1
    subst e1; subst e3
    exact ⟨g, cap, cur, rfl, hb, hg, by omega, hc, hs, by rw [← ht, List.take_take]; congr 1; omega⟩
end

theorem en31 : ∀ args w, (callFunc 31 args).run Try.prog w = .ok (.enter 31 args) w := enters_of Try.func31 (by kernel_rfl) rfl
set_option maxHeartbeats 2000000 in
set_option maxRecDepth 100000 in
theorem cl31 (A B : Addr) (na ca nb cb : Nat) (p q : Int) (w : World) (ha : 0 < na) (hb : 0 < nb) (h1 : w.cell? A = some (.int .i64 p)) (h2 : w.cell? B = some (.int .i64 q)) (hp : 0 ≤ p ∧ p < 64) (hq : 0 ≤ q ∧ q < 64) :
    Calls Try.prog 31 #[.slice (some A) na ca, .slice (some B) nb cb] w fun e w' => e = .returned (.int .i64 (p - q)) ∧ w' = w.drew := by
  have w1 : IntKind.i64.wrap (p - q) = p - q := by unfold IntKind.wrap IntKind.bits IntKind.signed; simp; omega
  have p1 : ((0 : Int) < (na : Int)) = True := eq_true (by omega)
  have p2 : ((0 : Int) < (nb : Int)) = True := eq_true (by omega)
  have a1 : (A.add 0) = A := by simp [Addr.add]
  have a2 : (B.add 0) = B := by simp [Addr.add]
  go_enter Try.func31, Try.ntmps31
  go_wp2_with (fail)
  go_region
  all_goals (go_wp2; go_ret; exact ⟨rfl, rfl⟩)

def head (cs : List (List Int)) (j : Nat) : Int := (cs.getD j []).headD 0
/-- By their first ones. -/
def hdLe (a b : List Int) : Bool := decide (a.headD 0 ≤ b.headD 0)
theorem sort30 {W : World} {base g cap : Nat} {ok : Nat → Prop} {f : Nat → Nat} {V : Nat → Value} {cs : List (List Int)} (h : Bl W base g cap ok f V cs (List.range cs.length)) (h0 : 0 < cs.length) (h64 : cs.length ≤ 64)
    (hne : ∀ c ∈ cs, c ≠ []) (hrg : ∀ c ∈ cs, ∀ x ∈ c, 0 ≤ x ∧ x < 64) (hd : ∀ i j, i < cs.length → j < cs.length → head cs i = head cs j → i = j) :
    Calls Try.prog 30 #[.slice (some ⟨g, 0, none⟩) cs.length cap, .func (.func 31) #[] #[]] W fun e w' => e = .returned (.tuple #[]) ∧ W.grownBy w' (some g) ∧
      ∃ is, is.Perm (List.range cs.length) ∧ (is.map fun j => cs.getD j []) = cs.mergeSort hdLe ∧ Bl w' base g cap ok f V cs is := by
  haveI : Inhabited (Fin cs.length) := ⟨⟨0, h0⟩⟩
  have hmem : ∀ j, j < cs.length → cs.getD j [] ∈ cs := fun j hj => by
    rw [List.getD_eq_getElem?_getD, List.getElem?_eq_getElem hj]; exact List.getElem_mem hj
  have hh : ∀ j, j < cs.length → 0 ≤ head cs j ∧ head cs j < 64 := fun j hj => by
    have h1 := hmem j hj
    have h2 := hne _ h1
    unfold head
    cases hc : cs.getD j [] with
    | nil => exact absurd hc h2
    | cons x l => exact hrg _ h1 x (by rw [hc]; exact List.mem_cons_self)
  -- where the first one lies
  have hcell : ∀ (U : World) (j : Nat), j < cs.length → (∀ k, k < W.heap.size → k ≠ g → U.heap[k]? = W.heap[k]?) → ∃ ad na ca, V j = .slice (some ad) na ca ∧ 0 < na ∧ U.cell? ad = some (.int .i64 (head cs j)) := fun U j hj hU => by
    have hR := h.el j hj
    have hpos : 0 < (cs.getD j []).length := List.length_pos_iff.2 (hne _ (hmem j hj))
    have hR' : Kd.R (Kd.int .i64) 3 U base (fun k => f k = j ∧ k ≠ g ∧ ok k) (V j) (cs.getD j []) := Kd.R_step hR (fun k e hlt => hU k hlt e.2.1)
    obtain ⟨g', c', e, _, _, _⟩ := Kd.R_form hR' hpos
    rw [e] at hR'
    obtain ⟨h1, _⟩ := Kd.R_celln 0 hR' 0 (by omega) (by omega)
    refine ⟨_, _, _, e, hpos, ?_⟩
    rw [show (0 : Int).toNat = 0 from rfl] at h1
    rw [h1]
    unfold head rdOf
    cases cs.getD j [] with
    | nil => rfl
    | cons x l => rfl
  let enc : Fin cs.length → Value := fun i => V i.val
  let cf : Fin cs.length → Fin cs.length → Int := fun i j => head cs i.val - head cs j.val
  have e1 : ((List.finRange cs.length).map enc) = (List.range cs.length).map V := by
    apply List.ext_getElem
    · simp
    · intro j h1 h2
      simp [enc]
  have hrow := h.row
  rw [List.length_range, ← e1] at hrow
  obtain ⟨g', cap', e0, hb, hg, _, _, hlen, hH⟩ := Go.Lib.holds_of_ownsRow hrow (by intro h; cases h)
  injection e0 with e2 _ e3
  injection e2 with e2
  injection e2 with e2
  subst e2; subst e3
  have hcmp : CmpLays1 Try.prog 31 #[] enc cf g 0 (List.finRange cs.length).toArray.size W := fun m os dk hdk x y => by
    have hU : ∀ k, k < W.heap.size → k ≠ g → (sortWorld enc W g 0 m dk os).heap[k]? = W.heap[k]? := fun k hk hne => by
      have h2 := (ownsRow_grow (q := m) (os := os) hrow (ys := dk.toList) (by rw [Array.length_toList, hdk]; simp)).2
      rw [Array.toArray_toList] at h2
      exact h2.block k hk (fun e => hne (by injection e))
    obtain ⟨a1, n1, c1, e1, p1, q1⟩ := hcell _ x.val x.isLt hU
    obtain ⟨a2, n2, c2, e2, p2, q2⟩ := hcell _ y.val y.isLt hU
    show Calls _ _ (#[V x.val, V y.val] ++ #[]) _ _
    rw [e1, e2]
    refine (cl31 a1 a2 n1 c1 n2 c2 _ _ _ p1 p2 q1 q2 (hh _ x.isLt) (hh _ y.isLt)).mono fun e w' ⟨he, hw⟩ => ⟨he, 1, #[], by rw [hw, Go.Sort.grow_empty]; rfl⟩
  have hO : Go.Sort.SWO (ltOf cf) := by
    refine ⟨fun x => ?_, fun x y z h1 h2 => ?_, fun x y z h1 h2 => ?_⟩
    · exact decide_eq_false (by simp only [cf]; omega)
    · have h1 := of_decide_eq_true h1
      have h2 := of_decide_eq_true h2
      exact decide_eq_true (by simp only [cf] at h1 h2 ⊢; omega)
    · have h1 := of_decide_eq_false h1
      have h2 := of_decide_eq_false h2
      exact decide_eq_false (by simp only [cf] at h1 h2 ⊢; omega)
  have hs := Try.slices_SortFunc_total enc (fun x => h.one x.val) cf hO 31 #[] g 0 cap (List.finRange cs.length).toArray W en31 hcmp hH hg (by simp; omega) (fun x y h1 h2 => by
    have h1 := of_decide_eq_false h1
    have h2 := of_decide_eq_false h2
    exact Fin.ext (hd _ _ x.isLt y.isLt (by simp only [cf] at h1 h2; omega)))
  have hsz : (List.finRange cs.length).toArray.size = cs.length := by simp
  rw [hsz] at hs
  refine hs.mono fun e w' ⟨he, n, os, hw⟩ => ?_
  subst hw
  show _ ∧ _ ∧ _
  have hl : ((List.finRange cs.length).mergeSort fun x y => !(ltOf cf) y x).length = cs.length := by rw [List.length_mergeSort, List.length_finRange]
  have hp := List.mergeSort_perm (List.finRange cs.length) (fun x y => !(ltOf cf) y x)
  have hmap : (((List.finRange cs.length).mergeSort fun x y => !(ltOf cf) y x).map fun i => cs.getD i.val []) = cs.mergeSort hdLe := by
    rw [List.map_mergeSort (s := hdLe)]
    · congr 1
      apply List.ext_getElem
      · simp
      · intro j h1 h2
        simp [List.getD_eq_getElem?_getD, List.getElem?_eq_getElem h2]
    · intro a _ b _
      by_cases hx : head cs a.val ≤ head cs b.val
      · rw [show (ltOf cf) b a = false from decide_eq_false (by simp only [cf]; omega)]
        exact (decide_eq_true hx).symm
      · rw [show (ltOf cf) b a = true from decide_eq_true (by simp only [cf]; omega)]
        exact (decide_eq_false hx).symm
  have hfin : (List.finRange cs.length).map Fin.val = List.range cs.length := by
    apply List.ext_getElem
    · simp
    · intro j h1 h2
      simp
  unfold sortWorld
  generalize hys : ((List.finRange cs.length).mergeSort fun x y => !(ltOf cf) y x) = ys at hl hp hmap
  obtain ⟨h1, h2⟩ := ownsRow_grow (q := n) (os := os) hrow hl
  refine ⟨he, h2, ys.map Fin.val, by rw [← hfin]; exact hp.map _, by rw [List.map_map]; exact hmap, ?_, fun j hj => ?_, h.one, h.zr, fun j hj => Kd.R_grown (h.el j hj) h2 (fun k hk e => hk.2.1 (by injection e))⟩
  · rw [List.length_map, List.map_map, hl]
    exact h1
  · obtain ⟨i, _, rfl⟩ := List.mem_map.1 hj
    exact i.isLt

set_option maxRecDepth 100000 in
theorem zero23 (w : World) : (zeroValue 23).run Try.prog w = .ok (.slice none 0 0) w := Try.zeroValue23 w
set_option maxRecDepth 100000 in
theorem del39 {W : World} {base g cap : Nat} {ok : Nat → Prop} {f : Nat → Nat} {V : Nat → Value} {cs : List (List Int)} {is : List Nat} (h : Bl W base g cap ok f V cs is) (i : Nat) (hi : i < is.length) (hcap : cap ≤ 9223372036854775807) :
    Calls Try.prog 39 #[.slice (some ⟨g, 0, none⟩) is.length cap, .int .i64 i, .int .i64 ((i : Int) + 1)] W fun e w' => e = .returned (.slice (some ⟨g, 0, none⟩) (is.eraseIdx i).length cap) ∧ W.grownBy w' (some g) ∧ Bl w' base g cap ok f V cs (is.eraseIdx i) := by
  obtain ⟨i0, hi0, hz⟩ := Option.map_eq_some_iff.1 info23
  have hz1 : i0.size = 1 := congrArg (fun p => p.2.1) hz
  obtain ⟨g', cap', e0, hb, hg, hnc, _, hlen, hH⟩ := Go.Lib.holds_of_ownsRow h.row (by intro h; cases h)
  injection e0 with e2 _ e3
  injection e2 with e2
  injection e2 with e2
  subst e2; subst e3
  have hd := Try.slices_Delete V h.one cs.length (fun w => by rw [h.zr]; exact zero23 w) i0 hi0 hz1 g 0 cap i (i + 1) is.toArray W hH (by simpa using hnc) hcap (by omega) (show i + 1 ≤ is.length from hi)
  have el : is.eraseIdx i = is.take i ++ is.drop (i + 1) := List.eraseIdx_eq_take_drop_succ ..
  have hle : (is.eraseIdx i).length = is.length - 1 := by rw [List.length_eraseIdx, if_pos hi]
  have hjl : (is.take i ++ is.drop (i + 1) ++ [cs.length]).length = is.length := by rw [← el, List.length_append, hle]; simp; omega
  rw [show is.toArray.size = is.length from rfl] at hd
  have e5 : ((i + 1 : Nat) : Int) = (i : Int) + 1 := by omega
  rw [e5] at hd
  refine hd.mono fun e w' ⟨he, q, hw⟩ => ?_
  have e6 : i + 1 - i = 1 := by omega
  rw [e6] at he hw
  have hw' : w' = Go.Sort.grow (Go.Sort.putRow V (Go.Sort.ahead W q) g 0 (is.take i ++ is.drop (i + 1) ++ [cs.length]).toArray) #[] := by rw [Go.Sort.grow_empty]; exact hw
  subst hw'
  obtain ⟨h1, h2⟩ := ownsRow_grow (q := q) (os := #[]) h.row hjl
  refine ⟨by rw [hle]; exact he, h2, ?_, fun j hj => h.lt j (List.mem_of_mem_eraseIdx hj), h.one, h.zr, fun j hj => Kd.R_grown (h.el j hj) h2 (fun k hk e => hk.2.1 (by injection e))⟩
  have h3 := own_less h1 (m := (is.eraseIdx i).length) (by omega)
  rw [show ((is.take i ++ is.drop (i + 1) ++ [cs.length]).map V).take (is.eraseIdx i).length = (is.eraseIdx i).map V from by
    rw [← el, List.map_append, List.take_append_of_le_length (by simp)]
    exact List.take_of_length_le (by simp)] at h3
  exact h3
end Go.Proofs.Ytlaneafplmbcnaa.PO

namespace Go.Proofs.Ytlaneafplmbcnaa.PO
open Go.RowKit Go.Proofs.YtlaneafplmbcnaaW.PrintWords Go.Proofs.YtlaneafplmbcnaaW.PrintLast Go.Proofs.YtlaneafplmbcnaaW.PrintMore
set_option linter.unusedVariables false
set_option linter.unusedSimpArgs false
/-- The row of what is there. -/
structure Th (W : World) (base : Nat) (bT g c n : Nat) (th : List Bool) : Prop where
  box : W.heap[bT]? = some (.cells #[.slice (some ⟨g, 0, none⟩) n c] 52 (0, 0))
  row : Kd.R Kd.bool 4 W base (fun k => k = g) (.slice (some ⟨g, 0, none⟩) n c) th
  ty : ∃ cs, W.heap[g]? = some (.cells cs 4 (0, 0))
  bb : base ≤ bT
  bg : base ≤ g
  len : th.length = n
theorem Bl.bound {W : World} {base g cap : Nat} {ok : Nat → Prop} {f : Nat → Nat} {V : Nat → Value} {cs : List (List Int)} {is : List Nat} (h : Bl W base g cap ok f V cs is) : Bl W base g cap (fun k => k < W.heap.size) f V cs is :=
  ⟨h.row, h.lt, h.one, h.zr, fun j hj => Kd.R_mono (Kd.R_bound (h.el j hj)) (fun k hk => ⟨hk.1.1, hk.1.2.1, hk.2.2.1⟩)⟩
theorem below_row {U W w1 : World} (h : Below U.heap.size U W) {row : Option Nat} (hg : W.grownBy w1 row) (hr : ∀ k, row = some k → U.heap.size ≤ k) : Below U.heap.size U w1 :=
  ⟨hg.os.trans h.os, hg.tape.trans h.tape, hg.output.trans h.output, Nat.le_trans h.size hg.size, fun k hk => (hg.block k (Nat.lt_of_lt_of_le hk h.size) (fun e => by have := hr k e.symm; omega)).trans (h.block k hk)⟩
/-- What holds between two blocks. -/
structure Ow (wt W : World) (S0 g cap : Nat) (f : Nat → Nat) (V : Nat → Value) (cs : List (List Int)) (is : List Nat) (bT gT cT n bN : Nat) (A2 : Option Addr) (c2 : Nat) (th : List Bool) (vo : Value) (out : List S30) : Prop where
  bl : Bl W wt.heap.size g cap (fun k => k < S0) f V cs is
  th : Th W wt.heap.size bT gT cT n th
  nb : W.heap[bN]? = some (.cells #[.slice A2 n c2] 37 (0, 0))
  below : Below wt.heap.size wt W
  out : Kd.S k30 30 W wt.heap.size (fun k => ¬ (k < S0 ∧ f k ∈ is) ∧ k ≠ g) vo out
  s0 : S0 ≤ W.heap.size
  bb : wt.heap.size ≤ bN
  nd : is.Nodup
section
variable {wt W W1 : World} {S0 g cap bT gT cT n bN c2 : Nat} {f : Nat → Nat} {V : Nat → Value} {cs : List (List Int)} {is : List Nat} {A2 : Option Addr} {th : List Bool} {vo : Value} {out : List S30}
theorem Bl.cell {base : Nat} {ok : Nat → Prop} (h : Bl W base g cap ok f V cs is) {j i : Nat} (hj : is[j]? = some i) : W.cell? ⟨g, j, none⟩ = some (V i) := by
  obtain ⟨g', cap', e0, _, _, _, _, _, hH⟩ := Go.Lib.holds_of_ownsRow h.row (by intro h; cases h)
  injection e0 with e2 _ e3
  injection e2 with e2
  injection e2 with e2
  subst e2
  obtain ⟨hlt, he⟩ := List.getElem?_eq_some_iff.1 hj
  have h1 := (hH j hlt).1
  rw [Nat.zero_add] at h1
  rw [h1]
  congr 2
  simp [hlt, he]
theorem Ow.down (h : Ow wt W S0 g cap f V cs is bT gT cT n bN A2 c2 th vo out) (hb : Below W.heap.size W W1) : Ow wt W1 S0 g cap f V cs is bT gT cT n bN A2 c2 th vo out := by
  have k : ∀ {b : Nat} {o : Obj}, W.heap[b]? = some o → W1.heap[b]? = some o := fun hb' => (hb.block _ (Array.getElem?_eq_some_iff.1 hb').1).trans hb'
  obtain ⟨cs3, h3⟩ := h.th.ty
  exact ⟨h.bl.below hb, ⟨k h.th.box, Kd.R_below h.th.row hb, ⟨cs3, k h3⟩, h.th.bb, h.th.bg, h.th.len⟩, k h.nb, below_step h.below hb, Kd.S_below h.out hb, Nat.le_trans h.s0 hb.size, h.bb, h.nd⟩
end
/-- What holds while a block's own are gone through (w2: what was ahead of it). -/
structure Ib (wt w2 W : World) (bB bT gT cT n : Nat) (Vi : Value) (th : List Bool) (vv : Value) (vars : List Int) : Prop where
  keep : ∀ k, k < bB → k ≠ gT → W.heap[k]? = w2.heap[k]?
  size : bB < W.heap.size
  below : Below wt.heap.size wt W
  th : Th W wt.heap.size bT gT cT n th
  box : W.heap[bB]? = some (.cells #[Vi, vv] 30 (0, 0))
  vars : Kd.R (Kd.int .i64) 3 W wt.heap.size (fun k => bB < k) vv vars
/-- What every step of the drawing append keeps (Wd: the world ahead of it). -/
structure P7 (wt Wd : World) (bB : Nat) (vv v46 : Value) (xs : List Int) (w : World) : Prop where
  row : Kd.R (Kd.int .i64) 3 w wt.heap.size (fun k => bB < k) v46 xs
  below : Below wt.heap.size wt w
  grown : Wd.grownBy w vv.ownBlock
structure In11 (F : Value → Value → Value → Value → Value → Value → Value → Value → Value → Act) (wt Wd : World) (bB : Nat) (x y : Int) (q : Addr) (n c1 : Nat) (vv : Value) (vars : List Int) (l : Array Bool) (a : Act) (w : World) : Prop where
  size : l.size = 10
  d6 : l.getD 6 false = true → l.getD 5 false = true
  d7 : l.getD 7 false = true → l.getD 1 false = true ∧ l.getD 6 false = true
  d9 : l.getD 9 false = true → l.getD 7 false = true ∧ l.getD 8 false = true
  ex : ∃ v39 v40 v41 v42 v43 v44 v45 v46 v47, a = F v39 v40 v41 v42 v43 v44 v45 v46 v47 ∧ (l.getD 0 false = true → v39 = .pointer (some ⟨bB, 1, none⟩)) ∧ (l.getD 1 false = true → v40 = vv) ∧
    (l.getD 2 false = true → v41 = .slice (some q) n c1) ∧ (l.getD 3 false = true → v42 = .int .i64 x) ∧ (l.getD 4 false = true → v43 = .pointer (some (q.add x.toNat))) ∧ (l.getD 5 false = true → v44 = .int .i64 y) ∧
    (l.getD 6 false = true → v45 = .slice (some ⟨Wd.heap.size, 0, none⟩) 1 1) ∧ (l.getD 8 false = true → v47 = .pointer (some ⟨bB, 1, none⟩)) ∧
    ((l.getD 6 false = false ∧ l.getD 7 false = false ∧ l.getD 9 false = false ∧ w = Wd) ∨ (l.getD 6 false = true ∧ l.getD 7 false = false ∧ l.getD 9 false = false ∧ w = Wd.alloc (.cells #[.int .i64 y] 3)) ∨
     (l.getD 6 false = true ∧ l.getD 7 false = true ∧ l.getD 9 false = false ∧ P7 wt Wd bB vv v46 (vars ++ [y]) w) ∨
     (l.getD 6 false = true ∧ l.getD 7 false = true ∧ l.getD 9 false = true ∧ ∃ w7, P7 wt Wd bB vv v46 (vars ++ [y]) w7 ∧ w = w7.setCell ⟨bB, 1, none⟩ v46))
theorem set_true' {l : Array Bool} {i : Nat} (h : i < l.size) : (l.setIfInBounds i true).getD i false = true := by simp [Array.getD, h]
theorem set_other {l : Array Bool} {i j : Nat} (h : i ≠ j) {b : Bool} (hb : l.getD j false = b) : (l.setIfInBounds i true).getD j false = b := by rw [getD_set_ne false h, hb]
theorem not_yet {ops : Array Oper} {md : Region.Mode} {l : Array Bool} {i : Nat} (hi : i ∈ Region.ready md ops l) : l.getD i false = false := by
  cases h : l.getD i false with
  | false => rfl
  | true => exact (ready_not hi h).elim
section
variable {wt w2 W W1 : World} {bB bT gT cT n : Nat} {Vi vv : Value} {th : List Bool} {vars : List Int}
theorem Th.move {base g c : Nat} (h : Th W base bT g c n th) (hb : W1.heap[bT]? = W.heap[bT]?) (hg : W1.heap[g]? = W.heap[g]?) : Th W1 base bT g c n th := by
  obtain ⟨cs, h3⟩ := h.ty
  exact ⟨hb.trans h.box, Kd.R_step h.row (fun k e _ => by rw [e]; exact hg), ⟨cs, hg.trans h3⟩, h.bb, h.bg, h.len⟩
theorem Th.put {base g c : Nat} (h : Th W base bT g c n th) (x : Int) (b : Bool) : Th (W.setCell ⟨g, x.toNat, none⟩ (.bool b)) base bT g c n (th.set x.toNat b) := by
  obtain ⟨cs, h3⟩ := h.ty
  have hr := (Kd.R_putg h.row x b).1
  exact ⟨(hv_other W _ _ _ (ty_ne h.box h3 (by decide))).trans h.box, hr, Kd.R_typed hr g rfl, h.bb, h.bg, by rw [List.length_set]; exact h.len⟩
theorem Th.drew {base g c : Nat} (h : Th W base bT g c n th) : Th W.drew base bT g c n th := h.move rfl rfl
theorem Ib.there (h : Ib wt w2 W bB bT gT cT n Vi th vv vars) (x : Int) (b : Bool) : Ib wt w2 (W.setCell ⟨gT, x.toNat, none⟩ (.bool b)).drew bB bT gT cT n Vi (th.set x.toNat b) vv vars := by
  obtain ⟨cs, h3⟩ := h.th.ty
  exact ⟨fun k hk hne => (hv_other W _ _ _ hne).trans (h.keep k hk hne), by show bB < (W.setCell _ _).heap.size; rw [World.size_setCell]; exact h.size, below_drew1 (below_set h.below h.th.bg), (h.th.put x b).drew,
    (hv_other W _ _ _ (ty_ne h.box h3 (by decide))).trans h.box, Kd.R_drew (Kd.R_set h.vars h3 (by decide) _ _)⟩
theorem Ib.grow (h : Ib wt w2 W bB bT gT cT n Vi th vv vars) (hbT : bT < bB) (hgT : gT < bB) (hg : W.grownBy W1 vv.ownBlock) : (∀ k, k < bB → k ≠ gT → W1.heap[k]? = w2.heap[k]?) ∧ bB < W1.heap.size ∧ Th W1 wt.heap.size bT gT cT n th ∧ W1.heap[bB]? = some (.cells #[Vi, vv] 30 (0, 0)) := by
  have hs := h.size
  have k : ∀ k, k ≤ bB → W1.heap[k]? = W.heap[k]? := fun k hk => hg.block k (by omega) (fun e => by have := h.vars.1 k e.symm; omega)
  exact ⟨fun k' hk hne => (k k' (by omega)).trans (h.keep k' hk hne), Nat.lt_of_lt_of_le hs hg.size, h.th.move (k _ (by omega)) (k _ (by omega)), (k _ (Nat.le_refl _)).trans h.box⟩
theorem thSet_snoc (th : List Bool) (b : List Int) (x : Int) : thSet th (b ++ [x]) = (thSet th b).set x.toNat true := by unfold thSet; rw [List.foldl_append]; rfl
theorem Bl.move {base g cap : Nat} {ok : Nat → Prop} {f : Nat → Nat} {V : Nat → Value} {cs : List (List Int)} {is : List Nat} (h : Bl W base g cap ok f V cs is) (hg : W1.heap[g]? = W.heap[g]?) (hk : ∀ k c, W.heap[k]? = some (.cells c 3 (0, 0)) → k ≠ g → ok k → W1.heap[k]? = W.heap[k]?) : Bl W1 base g cap ok f V cs is := by
  refine ⟨own_move h.row (fun k e => ?_), h.lt, h.one, h.zr, fun j hj => Kd.R_mono (Kd.R_step (Kd.R_bound (h.el j hj)) (fun k e hlt => ?_)) (fun k e => e.1)⟩
  · have : g = k := by simpa [Value.ownBlock] using e
    rw [← this]; exact hg
  · obtain ⟨e1, _, _, q, hq, c, hc⟩ := e
    have hq3 : q = 3 := by simpa [Kd.int, Kd.scalar] using hq
    subst hq3
    exact hk k c hc e1.2.1 e1.2.2
end
section
variable {wt w2 w5 w8 w9 : World} {S0 g cap bT gT cT n bN c2 bB : Nat} {f : Nat → Nat} {V : Nat → Value} {cs : List (List Int)} {is is' : List Nat} {A2 : Option Addr} {th th' : List Bool} {vo v8 Vi vv : Value} {out out' : List S30} {vars vars' : List Int} {ok5 : Nat → Prop}
theorem Ib.sorted (h : Ib wt w2 w5 bB bT gT cT n Vi th vv vars) (hbT : bT < bB) (hgT : gT < bB) (hb : wt.heap.size ≤ bB) (hg : w5.grownBy w8 vv.ownBlock) (hR : Kd.R (Kd.int .i64) 3 w8 wt.heap.size (fun k => bB < k) vv vars') : Ib wt w2 w8 bB bT gT cT n Vi th vv vars' := by
  obtain ⟨h1, h2, h3, h4⟩ := h.grow hbT hgT hg
  exact ⟨h1, h2, below_row h.below hg (fun k hk => by have := hR.1 k hk; omega), h3, h4, hR⟩
theorem Ow.pos (h : Ow wt w2 S0 g cap f V cs is bT gT cT n bN A2 c2 th vo out) : bT < w2.heap.size ∧ gT < w2.heap.size ∧ wt.heap.size ≤ w2.heap.size ∧ S0 ≤ w2.heap.size ∧ g < w2.heap.size ∧ bN < w2.heap.size ∧ g ≠ gT ∧ bN ≠ gT := by
  obtain ⟨c3, h3⟩ := h.th.ty
  obtain ⟨c4, h4⟩ := own_typed h.bl.row g (by simp [Value.ownBlock])
  exact ⟨(Array.getElem?_eq_some_iff.1 h.th.box).1, (Array.getElem?_eq_some_iff.1 h3).1, h.below.size, h.s0, h.bl.lt_g, (Array.getElem?_eq_some_iff.1 h.nb).1, ty_ne h4 h3 (by decide), ty_ne h.nb h3 (by decide)⟩
theorem Ow.five (h : Ow wt w2 S0 g cap f V cs is bT gT cT n bN A2 c2 th vo out) (hB : bB = w2.heap.size) (hi : Ib wt w2 w5 bB bT gT cT n Vi th' vv vars) : Kd.S k30 30 w5 wt.heap.size (fun k => (¬ (k < S0 ∧ f k ∈ is) ∧ k ≠ g) ∧ k < bB) vo out := by
  obtain ⟨c3, h3⟩ := h.th.ty
  have h1 := Kd.S_types (Kd.S_mono (Kd.S_bound h.out) (ok' := fun k => (¬ (k < S0 ∧ f k ∈ is) ∧ k ≠ g) ∧ k < bB) (fun k hk => ⟨hk.1, by have := hk.2.2.1; omega⟩)) h3 (by decide)
  exact Kd.S_mono (Kd.S_step h1 (fun k hk _ => hi.keep k hk.1.2 hk.2)) (fun k hk => hk.1)
theorem Ow.eight (h : Ow wt w2 S0 g cap f V cs is bT gT cT n bN A2 c2 th vo out) (hB : bB = w2.heap.size) (hi : Ib wt w2 w5 bB bT gT cT n Vi th' vv vars) (hg : w5.grownBy w8 vo.ownBlock) :
    Bl w8 wt.heap.size g cap (fun k => k < S0) f V cs is ∧ Th w8 wt.heap.size bT gT cT n th' ∧ w8.heap[bN]? = some (.cells #[.slice A2 n c2] 37 (0, 0)) := by
  obtain ⟨p1, p2, p3, p4, p5, p6, p7, p8⟩ := h.pos
  have hs5 := h.five hB hi
  obtain ⟨c3, h3⟩ := h.th.ty
  have bl5 : Bl w5 wt.heap.size g cap (fun k => k < S0) f V cs is := h.bl.move (hi.keep g (by omega) p7) (fun k c hc _ _ => hi.keep k (by have := (Array.getElem?_eq_some_iff.1 hc).1; omega) (ty_ne hc h3 (by decide)))
  have nb5 := (hi.keep bN (by omega) p8).trans h.nb
  obtain ⟨c4, h4⟩ := own_typed bl5.row g (by simp [Value.ownBlock])
  obtain ⟨c5, h5⟩ := hi.th.ty
  have g8 : ∀ {k : Nat} {c : Array Value} {t : Nat}, w5.heap[k]? = some (.cells c t (0, 0)) → t ≠ 30 → w8.heap[k]? = w5.heap[k]? := fun hk ht => hg.block _ (Array.getElem?_eq_some_iff.1 hk).1 (Kd.S_ne hs5 hk (fun e => ht e.symm))
  exact ⟨bl5.move (g8 h4 (by decide)) (fun k c hc _ _ => g8 hc (by decide)), hi.th.move (g8 hi.th.box (by decide)) (g8 h5 (by decide)), (g8 nb5 (by decide)).trans nb5⟩
theorem Ow.nine (hbl : Bl w8 wt.heap.size g cap (fun k => k < S0) f V cs is) (hth : Th w8 wt.heap.size bT gT cT n th') (hnb : w8.heap[bN]? = some (.cells #[.slice A2 n c2] 37 (0, 0))) (hb8 : Below wt.heap.size wt w8) (hs0 : S0 ≤ w8.heap.size) (hbb : wt.heap.size ≤ bN)
    (ho : Kd.S k30 30 w8 wt.heap.size (fun k => ¬ (k < S0 ∧ f k ∈ is') ∧ k ≠ g) v8 out') (hg : w8.grownBy w9 (some g)) (hbl9 : Bl w9 wt.heap.size g cap (fun k => k < S0) f V cs is') (hnd : is'.Nodup) : Ow wt w9 S0 g cap f V cs is' bT gT cT n bN A2 c2 th' v8 out' := by
  obtain ⟨c4, h4⟩ := own_typed hbl.row g (by simp [Value.ownBlock])
  obtain ⟨c5, h5⟩ := hth.ty
  have g9 : ∀ {k : Nat} {c : Array Value} {t : Nat}, w8.heap[k]? = some (.cells c t (0, 0)) → t ≠ 23 → w9.heap[k]? = w8.heap[k]? := fun hk ht => hg.block _ (Array.getElem?_eq_some_iff.1 hk).1 (fun e => ty_ne hk h4 ht (by injection e))
  exact ⟨hbl9, hth.move (g9 hth.box (by decide)) (g9 h5 (by decide)), (g9 hnb (by decide)).trans hnb, below_row hb8 hg (fun k hk => by injection hk with hk; rw [← hk]; exact Kd.R_base hbl.R g rfl), Kd.S_grown ho hg (fun k hk e => hk.2 (by injection e)), Nat.le_trans hs0 hg.size, hbb, hnd⟩
end
theorem nd_erase {js : List Nat} {a i : Nat} (h : js.Nodup) (hi : js[a]? = some i) : i ∉ js.eraseIdx a := by
  obtain ⟨hlt, he⟩ := List.getElem?_eq_some_iff.1 hi
  have e : js = js.take a ++ i :: js.drop (a + 1) := by rw [← he, ← List.drop_eq_getElem_cons hlt, List.take_append_drop]
  rw [e] at h
  have h1 := (List.perm_middle.nodup_iff).1 h
  rw [List.eraseIdx_eq_take_drop_succ]
  exact (List.nodup_cons.1 h1).1
theorem erase_map {js : List Nat} {a : Nat} {F : Nat → List Int} : (js.map F).eraseIdx a = (js.eraseIdx a).map F := by
  rw [List.eraseIdx_eq_take_drop_succ, List.eraseIdx_eq_take_drop_succ, List.map_append, List.map_take, List.map_drop]
theorem ordL_one {told : List Int} {N : List (List Int)} {d : Nat} {th : List Bool} {bs : List (List Int)} {a : Nat} {c : List Int} (hix : idxP (okB N th) bs 0 = (a : Int)) (hc : rd_L3 bs (a : Int) = c) : ordL told N (d + 1) th bs = ⟨c, sortI (c.map (rd told))⟩ :: ordL told N d (thSet th c) (bs.eraseIdx a) := by
  rw [ordL, hix, hc, Int.toNat_natCast]
theorem scc_ne {N : List (List Int)} {n : Nat} {cs : List (List Int)} (h : Sccs N n cs) : ∀ c ∈ cs, c ≠ [] := fun c hc e => by
  obtain ⟨_, r, hr, _⟩ := h.scc c hc
  rw [e] at hr; cases hr
theorem scc_head {N : List (List Int)} {n : Nat} {cs : List (List Int)} (h : Sccs N n cs) : ∀ i j, i < cs.length → j < cs.length → head cs i = head cs j → i = j := by
  have hm : ∀ i, i < cs.length → ∃ c, cs[i]? = some c ∧ head cs i ∈ c := fun i hi => by
    refine ⟨cs[i], List.getElem?_eq_getElem hi, ?_⟩
    have h1 := scc_ne h _ (List.getElem_mem hi)
    unfold head
    rw [List.getD_eq_getElem?_getD, List.getElem?_eq_getElem hi, Option.getD_some]
    cases hc : cs[i] with
    | nil => exact absurd hc h1
    | cons x l => exact List.mem_cons_self
  have key : ∀ i j, i < cs.length → j < cs.length → i < j → head cs i ≠ head cs j := fun i j hi hj hij e => by
    obtain ⟨c, hc, h1⟩ := hm i hi
    obtain ⟨c', hc', h2⟩ := hm j hj
    obtain ⟨_, rfl⟩ := List.getElem?_eq_some_iff.1 hc
    obtain ⟨_, rfl⟩ := List.getElem?_eq_some_iff.1 hc'
    exact List.pairwise_iff_getElem.1 h.dis i j hi hj hij _ h1 (e ▸ h2)
  intro i j hi hj e
  rcases Nat.lt_trichotomy i j with h1 | h1 | h1
  · exact absurd e (key i j hi hj h1)
  · exact h1
  · exact absurd e.symm (key j i hj hi h1)
set_option maxHeartbeats 2000000 in
set_option maxRecDepth 100000 in
theorem ord17p (told : List Int) (N cs : List (List Int)) (A1 : Option Addr) (c1 : Nat) (A2 : Option Addr) (c2 : Nat) (v : Value) (n : Nat) (wt w : World) (hn : n = N.length) (h64 : n ≤ 64) (htl : told.length = n) (hb : Below wt.heap.size wt w)
    (hT : Kd.C (Kd.int .i64) wt A1 told.length told) (hc1 : told.length ≤ c1) (hNC : Kd.C (Kd.slice 3 (Kd.int .i64)) wt A2 N.length N) (hc2 : N.length ≤ c2) (hNr : ∀ j, ∀ k ∈ rd_L3 N j, 0 ≤ k ∧ k < (n : Int)) (hS : Sccs N n cs)
    (hB : Kd.S (Kd.slice 3 (Kd.int .i64)) 23 w wt.heap.size (fun _ => True) v cs) (h0 : 0 < cs.length) :
    Calls Try.prog 17 #[.slice A1 told.length c1, .slice A2 N.length c2, v] w fun e w' => ∃ v', e = .returned v' ∧ Kd.S k30 30 w' wt.heap.size (fun _ => True) v' (ordL told N cs.length (List.replicate n false) (cs.mergeSort hdLe)) ∧ Below wt.heap.size wt w' := by
  obtain ⟨g, cap, f, V, rfl, hBl⟩ := Bl.of_S hB h0
  have hcap : cap ≤ 9223372036854775807 := by
    obtain ⟨g', cap', e0, _, _, _, h, _⟩ := Go.Lib.holds_of_ownsRow hBl.row (by intro h; cases h)
    injection e0 with _ _ e3
    rw [e3]; exact h
  have HBL := Aside0.mk hBl
  have HB := Aside0.mk hb
  have HT := Aside0.mk hT
  have HNC := Aside0.mk hNC
  have HNR := Aside0.mk hNr
  have HS := Aside0.mk hS
  have HN := Aside0.mk hn
  have HC := Aside0.mk (And.intro hc1 (And.intro hc2 hcap))
  clear hB hBl hb hT hNC hNr hS hc1 hc2 hcap
  rw [← hn] at HNC ⊢
  rw [htl] at HT ⊢
  clear hn
  obtain ⟨total, htot⟩ : ∃ total, ordL told N cs.length (List.replicate n false) (cs.mergeSort hdLe) = total := ⟨_, rfl⟩
  rw [htot]
  have HTOT := Aside0.mk htot
  clear htot
  go_enter Try.func17, Try.ntmps17
  have hcsl : cs.length ≤ 64 := Nat.le_trans HS.out.len h64
  go_wp2_with (first | ((with_reducible refine gate_dst (N := 15) rfl ?_); refine Kd.R_make Kd.bool _ 4 rfl (N := 15) rfl 52 _ _ rfl (n : Int) rfl rfl Try.underlying52 (.bool false) 1 info4b rfl (by decide) (by omega) false (ok := fun _ => True) (okp := fun _ => True) rfl (fun _ hk => hk) trivial (by omega) (by omega) (Below.refl _ _) (Nat.le_refl _) ?_; intro vS w6 ho_ hb6 hg_ hnew_; obtain ⟨gT, hob, hge⟩ := hnew_; obtain ⟨cT, rfl, hRB⟩ := made_formB ho_ hob; have HRB := Aside0.mk hRB; have HB6 := Aside0.mk hb6; have HGE := Aside0.mk hge; clear ho_ hob hb6 hg_ hge hRB) | (go_at_call 30; refine (sort30 (HBL.out.bound.below (below_step (below_alloc (Below.refl _ _) _) (below_step HB6.out (below_alloc (Below.refl _ _) _)))) h0 hcsl (scc_ne HS.out) (fun c hc x hx => by have := HS.out.rg c hc x hx; omega) (scc_head HS.out)).mono ?_; rintro e w7 ⟨rfl, hg7, is, hperm, hmap, hbl7⟩; have HG7 := Aside0.mk hg7; have HPM := Aside0.mk hperm; have HMP := Aside0.mk hmap; have HBL7 := Aside0.mk hbl7; clear hg7 hperm hmap hbl7))
  have hsz0 : (w.alloc (.cells #[.slice A2 n c2] 37)).heap.size = w.heap.size + 1 := Array.size_push ..
  have hsz1 : (w6.alloc (.cells #[.slice (some ⟨gT, 0, none⟩) n cT] 52)).heap.size = w6.heap.size + 1 := Array.size_push ..
  have HO := Aside0.mk (show Ow wt w7 w.heap.size g cap f V cs is w6.heap.size gT cT n w.heap.size A2 c2 (List.replicate n false) (.slice none 0 0) [] from by
    have z1 := HB6.out.size
    have z2 := HG7.out.size
    have z3 := HB.out.size
    have z4 := HRB.out.lt
    have z5 := HBL.out.lt_g
    have z6 := HGE.out
    have hgT : ∀ {k : Nat} {o : Obj}, (w6.alloc (.cells #[.slice (some ⟨gT, 0, none⟩) n cT] 52)).heap[k]? = some o → k ≠ g → w7.heap[k]? = some o := fun hk hne => (HG7.out.block _ (Array.getElem?_eq_some_iff.1 hk).1 (fun e => hne (by injection e))).trans hk
    obtain ⟨hr1, hr2, cs3, hr3⟩ := HRB.out.keep (W1 := w6.alloc (.cells #[.slice (some ⟨gT, 0, none⟩) n cT] 52)) (alloc_old z4)
    have hr4 := hgT hr3 (by omega)
    refine ⟨HBL7.out, ⟨hgT alloc_new (by omega), Kd.R_lower (Kd.R_grown hr2 HG7.out (fun k hk e => by rw [hk] at e; injection e with e; omega)) (by omega), ⟨cs3, hr4⟩, by omega, by omega, by simp⟩, ?_, ?_, Kd.S_nil _ _ _ _ _, by omega, by omega, (HPM.out.nodup_iff).2 List.nodup_range⟩
    · exact hgT ((alloc_old (by omega)).trans ((HB6.out.block _ (by omega)).trans alloc_new)) (by omega)
    · exact below_row (below_step (below_step (below_step HB.out (below_alloc (Below.refl _ _) _)) HB6.out) (below_alloc (Below.refl _ _) _)) HG7.out (fun k hk => by injection hk with hk; rw [← hk]; exact Kd.R_base HBL.out.R g rfl))
  have HPL := Aside0.mk HPM.out.length_eq
  have HE := Aside0.mk (show [] ++ ordL told N is.length (List.replicate n false) (is.map fun j => cs.getD j []) = ordL told N cs.length (List.replicate n false) (cs.mergeSort hdLe) by
    rw [List.nil_append, HMP.out, HPL.out, List.length_range])
  have HI := Aside0.mk (show OInv N n (List.replicate n false) (is.map fun j => cs.getD j []) by
    rw [HMP.out]
    exact OInv.start HS.out (List.mergeSort_perm _ _) (List.pairwise_mergeSort (le := hdLe) (fun a b c h1 h2 => by
      have h1 := of_decide_eq_true h1
      have h2 := of_decide_eq_true h2
      exact decide_eq_true (by omega)) (fun a b => by
      show (decide _ || decide _) = true
      rcases Int.le_total (a.headD 0) (b.headD 0) with h | h
      · rw [decide_eq_true h]; rfl
      · rw [decide_eq_true h, Bool.or_true]) cs))
  have hle : is.length = cs.length := by rw [HPL.out, List.length_range]
  rw [HTOT.out] at HE
  rw [← hle]
  have hb1 : w.heap.size ≤ w7.heap.size := HO.out.s0
  obtain ⟨S0, hS0⟩ : ∃ S0, S0 = w.heap.size := ⟨_, rfl⟩
  obtain ⟨bT, hbT⟩ : ∃ bT, bT = w6.heap.size := ⟨_, rfl⟩
  obtain ⟨bN, hbN⟩ : ∃ bN, bN = w.heap.size := ⟨_, rfl⟩
  have HO1 := Aside0.mk (show Ow wt w7 S0 g cap f V cs is bT gT cT n bN A2 c2 (List.replicate n false) (.slice none 0 0) [] by rw [hS0, hbT, hbN]; exact HO.out)
  rw [← hbT, ← hbN]
  have his : is.length ≤ 64 := by rw [hle]; exact hcsl
  clear HBL HB HRB HB6 HGE HG7 HPM HMP HBL7 HPL HO hsz0 hsz1 hle hb1 hS0 hbT hbN HS
  go_loopg [2, 8] is.length (fun gg v2 v8 W' => ∃ (js : List Nat) (th : List Bool) (out : List S30) (vo : Value), v2 = .slice (some ⟨g, 0, none⟩) js.length cap ∧ v8 = vo ∧ js.length ≤ gg ∧ js.length ≤ 64 ∧ Aside0 (Ow wt W' S0 g cap f V cs js bT gT cT n bN A2 c2 th vo out) ∧ Aside0 (OInv N n th (js.map fun j => cs.getD j [])) ∧ Aside0 (out ++ ordL told N js.length th (js.map fun j => cs.getD j []) = total) ∧ Aside0 (out.length + js.length ≤ 64))
  case atStart => exact ⟨is, List.replicate n false, [], .slice none 0 0, rfl, rfl, by omega, his, HO1, HI, HE, ⟨by simp; exact his⟩⟩
  case round =>
    clear HO1 HE HI
    obtain ⟨js, th, out, vo, rfl, rfl, hjg, hj64, HO, HI, HE, HOL⟩ := hrel
    by_cases hlt : 0 < js.length
    · have hltz : (0 : Int) < (js.length : Int) := by omega
      have hc := HO.out.bl.C
      have h32 := idx32 33 #[.pointer (some ⟨bN, 0, none⟩), .pointer (some ⟨bT, 0, none⟩)] (okB N th) en33 (some ⟨g, 0, none⟩) cap (js.map fun j => cs.getD j []) wr (by rw [List.length_map]; exact hc.2) (fun U b A c hbm hU hCb => by
        have hT := HO.out.th
        have hB := below_step HO.out.below hU
        exact cl33 ⟨bN, 0, none⟩ ⟨bT, 0, none⟩ A2 (some ⟨gT, 0, none⟩) A c2 cT c N th b U (fun i hi => by have := HI.out.rg b hbm i hi; rw [← HN.out]; exact this) (fun i k hk => by have := HNR.out i k hk; rw [hT.len]; exact this)
          (by rw [← HN.out]; exact (hU.cell (World.block_lt_of_cell? wr _ (blk_cell HO.out.nb 0))).trans (blk_cell HO.out.nb 0)) (by rw [← HN.out]; exact Kd.C_below HNC.out hB)
          (by rw [hT.len]; exact (hU.cell (World.block_lt_of_cell? wr _ (blk_cell hT.box 0))).trans (blk_cell hT.box 0)) (by have := (Kd.R_reads' hT.row); rw [← this.1]; exact Kd.C_below (by rw [this.1]; exact this.2.2) hU) hCb)
      rw [List.length_map] at h32
      have hany := HI.out.any HNR.out (fun e => by have := List.map_eq_nil_iff.1 e; rw [this] at hlt; simp at hlt)
      obtain ⟨at', hat, hix, hok, -⟩ := idxP_spec (okB N th) (js.map fun j => cs.getD j []) 0 (by omega) hany
      rw [List.length_map] at hat
      rw [Int.zero_add] at hix
      rw [hix] at h32
      have H32 := Aside0.mk h32
      obtain ⟨i, hji⟩ : ∃ i, js[at']? = some i := ⟨_, List.getElem?_eq_getElem hat⟩
      have hil := HO.out.bl.lt i (List.mem_of_getElem? hji)
      obtain ⟨Ai, ci, hVi⟩ := Kd.R_slice (HO.out.bl.el i hil)
      obtain ⟨c, hce⟩ : ∃ c, c = cs.getD i [] := ⟨_, rfl⟩
      rw [← hce] at hVi
      have HCE := Aside0.mk hce
      have HVI := Aside0.mk hVi
      clear hce
      have HJI := Aside0.mk hji
      have HIL := Aside0.mk hil
      have HIX := Aside0.mk hix
      clear h32 hany hix hok hc hVi hji hil
      go_wp2_with (go_at_call 32; refine H32.out.mono ?_; rintro e w2 ⟨rfl, hb2⟩; have HB2 := Aside0.mk (HO.out.down hb2); have hcl := HB2.out.bl.cell HJI.out; rw [HVI.out] at hcl; clear hb2)
      obtain ⟨bB, hbB⟩ : ∃ bB, bB = w2.heap.size := ⟨_, rfl⟩
      rw [← hbB]
      have HBB := Aside0.mk hbB
      have HIB := Aside0.mk (show Ib wt w2 (w2.alloc (.cells #[.slice Ai c.length ci, .slice none 0 0] 30)) bB bT gT cT n (.slice Ai c.length ci) (thSet th (c.take 0)) (.slice none 0 0) ((c.take 0).map (rd told)) from by
        have hd := HB2.out.down (below_alloc (Below.refl _ _) (.cells #[.slice Ai c.length ci, .slice none 0 0] 30))
        exact ⟨fun k hk _ => alloc_old (by omega), by rw [hbB]; show _ < (w2.heap.push _).size; rw [Array.size_push]; omega, hd.below, by rw [List.take_zero]; exact hd.th, by rw [hbB]; exact alloc_new, by rw [List.take_zero]; exact Kd.R_nil _ _ _ _ _⟩)
      have HRC := Aside0.mk (show Kd.R (Kd.int .i64) 3 w2 wt.heap.size (fun k => f k = i ∧ k ≠ g ∧ k < S0) (.slice Ai c.length ci) c from by
        have := HB2.out.bl.el i HIL.out
        rw [HVI.out, ← HCE.out] at this
        exact this)
      have HCM := Aside0.mk (show (∀ x ∈ c, 0 ≤ x ∧ x < (n : Int)) ∧ c.length ≤ 64 from by
        have hcm : c ∈ js.map (fun j => cs.getD j []) := List.mem_map.2 ⟨i, List.mem_of_getElem? HJI.out, HCE.out.symm⟩
        refine ⟨HI.out.rg c hcm, ?_⟩
        have h1 := tj_nodup_le c ((List.range n).map (fun k : Nat => (k : Int))) ((HI.out.scc c hcm).1.imp (fun h e => by omega)) (fun x hx => by
          have := HI.out.rg c hcm x hx
          exact List.mem_map.2 ⟨x.toNat, List.mem_range.2 (by omega), by omega⟩)
        rw [List.length_map, List.length_range] at h1
        omega)
      have hmc : c.length ≤ 9223372036854775807 := by have := HCM.out.2; omega
      clear hbB hcl
      go_loopg [32] c.length (fun gg v32 W' => ∃ (kk : Nat) (vv : Value), v32 = .int .i64 kk ∧ kk ≤ c.length ∧ c.length - kk ≤ gg ∧ Aside0 (Ib wt w2 W' bB bT gT cT n (.slice Ai c.length ci) (thSet th (c.take kk)) vv ((c.take kk).map (rd told))))
      case atStart => exact ⟨0, _, rfl, Nat.zero_le _, by omega, HIB⟩
      case round =>
        clear HIB
        obtain ⟨kk, vv, rfl, hkk, hgk, HIB⟩ := hrel
        by_cases hlk : kk < c.length
        · have hltk : (kk : Int) < (c.length : Int) := by omega
          have hRw := HRC.out
          have hRw := Kd.R_step (w1 := wr) (Kd.R_types hRw (g := gT) HB2.out.th.ty.choose_spec (by decide)) (fun k e hk => HIB.out.keep k (by have := HB2.out.s0; have := HBB.out; have := e.1.2.2; omega) e.2)
          obtain ⟨ax, eax, hx⟩ := Kd.at_int (Kd.R_reads' hRw).2.2 (kk : Int) (by omega) hltk
          subst eax
          rw [Int.toNat_natCast] at hx
          have hxr : rd c (kk : Int) = c[kk] := by simp [rd, List.getD_eq_getElem?_getD, List.getElem?_eq_getElem hlk]
          have hxm := HCM.out.1 c[kk] (List.getElem_mem hlk)
          have hts := List.take_succ_eq_append_getElem hlk
          rw [← hxr] at hxm hts
          generalize rd c (kk : Int) = x at hx hxm hts
          have HTS := Aside0.mk hts
          obtain ⟨hx0, hx1⟩ := hxm
          have hs1 := blk_cell HIB.out.th.box 0
          obtain ⟨hO1, hO2⟩ := Kd.R_celln false HIB.out.th.row x hx0 hx1
          have q1 := eq_true hx0
          have q2 := eq_true hx1
          clear hxr hts hRw
          go_wp2_with (fail)
          rename_i K_ hK_
          obtain ⟨Wd, hWd⟩ : ∃ Wd, Wd = (wr.setCell ⟨gT, x.toNat, none⟩ (.bool true)).drew := ⟨_, rfl⟩
          have hIB1 : Ib wt w2 Wd bB bT gT cT n (.slice (some ax) c.length ci) ((thSet th (c.take kk)).set x.toNat true) vv ((c.take kk).map (rd told)) := by
            rw [hWd]; exact HIB.out.there x true
          obtain ⟨q, eq, hy⟩ := Kd.at_int (Kd.C_below HT.out hIB1.below) x hx0 hx1
          subst eq
          generalize hyy : rd told x = y at hy
          generalize hvars : (c.take kk).map (rd told) = vars at hIB1
          obtain ⟨Av, cv, hvv⟩ := Kd.R_slice hIB1.vars
          subst hvv
          have HWD := Aside0.mk hWd
          have HYV := Aside0.mk hy
          have HYY := Aside0.mk hyy
          have HVS := Aside0.mk hvars
          have HCV := Aside0.mk (show Wd.cell? ⟨bB, 1, none⟩ = some (.slice Av vars.length cv) from blk_cell hIB1.box 1)
          have HVV := Aside0.mk hIB1.vars
          have HDB := Aside0.mk hIB1.below
          have HDW := Aside0.mk (show True ∧ bB < Wd.heap.size from ⟨trivial, hIB1.size⟩)
          have HVL := Aside0.mk (show vars.length ≤ 64 by rw [← HVS.out, List.length_map, List.length_take]; have := HCM.out.2; omega)
          have HBX := Aside0.mk (show ∀ {w7 : World}, Wd.grownBy w7 (Value.slice Av vars.length cv).ownBlock → w7.heap[bB]? = some (.cells #[.slice (some ax) c.length ci, .slice Av vars.length cv] 30 (0, 0)) from fun hg => (hg.block _ hIB1.size (fun e => by have := hIB1.vars.1 bB e.symm; omega)).trans hIB1.box)
          have HIB1 := Aside0.mk hIB1
          clear hIB1 hWd hy hyy hvars hO1 hO2 hs1 hx HIB q1 q2
          refine wp_region_any rfl (wpAny_keeps (Inv := In11 (fun v39 v40 v41 v42 v43 v44 v45 v46 v47 => { tmps := #[.slice (some q) n c1, .slice A2 n c2, .slice (some ⟨g, 0, none⟩) js.length cap, undef, .pointer (some ⟨bN, 0, none⟩), undef, .slice none 0 0, .pointer (some ⟨bT, 0, none⟩), u8, .int .i64 at', .pointer (some ⟨bB, 0, none⟩), undef, .int .i64 x, .slice A2 n c2, .int .i64 n, .slice (some ⟨gT, 0, none⟩) n cT, .slice (some ⟨g, 0, none⟩) is.length cap, .tuple #[], .slice (some ⟨g, 0, none⟩) js.length cap, .int .i64 js.length, .bool true, .slice (some ⟨g, 0, none⟩) js.length cap, .func (.func 33) #[] #[.pointer (some ⟨bN, 0, none⟩), .pointer (some ⟨bT, 0, none⟩)], .int .i64 at', .slice (some ⟨g, 0, none⟩) js.length cap, .int .i64 at', .pointer (some ⟨g, at', none⟩), .slice (some ax) c.length ci, .agg #[.slice (some ax) c.length ci, .slice none 0 0], .pointer (some ⟨bB, 0, none⟩), .slice (some ax) c.length ci, .int .i64 c.length, .int .i64 kk, .bool true, .pointer (some (ax.add kk)), .int .i64 x, .slice (some ⟨gT, 0, none⟩) n cT, .int .i64 x, .pointer (some ⟨gT, x.toNat, none⟩), v39, v40, v41, v42, v43, v44, v45, v46, v47, u48, u49, u50, u51, u52, u53, u54, u55, u56, u57, u58, u59, u60, undef], defers := [] }) wt Wd bB x y q n c1 (.slice Av vars.length cv) vars) ?he ?hs _ _ _ _ ?h0 (by decide))
          case h0 =>
            have L : ∀ (m j : Nat), (Array.replicate m false).getD j false = true → False := fun m j h => by
              by_cases hj : j < m <;> simp [Array.getD, hj] at h
            have L' : ∀ (m j : Nat), (Array.replicate m false).getD j false = false := fun m j => by
              cases h : (Array.replicate m false).getD j false with
              | false => rfl
              | true => exact (L m j h).elim
            exact ⟨by rw [Array.size_replicate]; rfl, fun h => (L _ _ h).elim, fun h => (L _ _ h).elim, fun h => (L _ _ h).elim, u39, u40, u41, u42, u43, u44, u45, u46, u47, rfl, fun h => (L _ _ h).elim, fun h => (L _ _ h).elim, fun h => (L _ _ h).elim, fun h => (L _ _ h).elim, fun h => (L _ _ h).elim, fun h => (L _ _ h).elim, fun h => (L _ _ h).elim, fun h => (L _ _ h).elim, .inl ⟨L' _ _, L' _ _, L' _ _, HWD.out.symm⟩⟩
          case he =>
            intro l a w' ⟨hsz, hd6, hd7, hd9, v39, v40, v41, v42, v43, v44, v45, v46, v47, ha, _, _, _, _, _, _, _, _, hph⟩ hr
            subst ha
            have hall := ready_all hr hsz rfl
            have hp : ∃ w7, P7 wt Wd bB (.slice Av vars.length cv) v46 (vars ++ [y]) w7 ∧ w' = w7.setCell ⟨bB, 1, none⟩ v46 := by
              rcases hph with ⟨p6, p7, p9, pw⟩ | ⟨p6, p7, p9, pw⟩ | ⟨p6, p7, p9, pw⟩ | ⟨p6, p7, p9, pw⟩
              · rw [hall 6 (by decide)] at p6; cases p6
              · rw [hall 7 (by decide)] at p7; cases p7
              · rw [hall 9 (by decide)] at p9; cases p9
              · exact pw
            obtain ⟨w7, hp, hw⟩ := hp
            have hIB2 : Ib wt w2 w' bB bT gT cT n (.slice (some ax) c.length ci) (thSet th (c.take (kk + 1))) v46 ((c.take (kk + 1)).map (rd told)) := by
              have h1 := HIB1.out.grow (by have := HB2.out.th.box; have := (Array.getElem?_eq_some_iff.1 this).1; have := HBB.out; omega) (by obtain ⟨_, h⟩ := HB2.out.th.ty; have := (Array.getElem?_eq_some_iff.1 h).1; have := HBB.out; omega) hp.grown
              have hb0 : wt.heap.size ≤ bB := by have := HB2.out.below.size; have := HBB.out; omega
              have ne : ∀ k, k < bB → (w7.setCell ⟨bB, 1, none⟩ v46).heap[k]? = w7.heap[k]? := fun k hk => hv_other w7 _ _ k (by show k ≠ bB; omega)
              have lT : bT < bB := by have := HB2.out.th.box; have := (Array.getElem?_eq_some_iff.1 this).1; have := HBB.out; omega
              have lg : gT < bB := by obtain ⟨_, h⟩ := HB2.out.th.ty; have := (Array.getElem?_eq_some_iff.1 h).1; have := HBB.out; omega
              subst hw
              rw [HTS.out, thSet_snoc, List.map_append, HVS.out, List.map_cons, List.map_nil, HYY.out]
              exact ⟨fun k hk hne => (ne k hk).trans (h1.1 k hk hne), by rw [World.size_setCell]; exact h1.2.1, below_set hp.below hb0, h1.2.2.1.move (ne _ lT) (ne _ lg), blk_put (cs := #[.slice (some ax) c.length ci, .slice Av vars.length cv]) h1.2.2.2 1 _ rfl, Kd.R_far (p := ⟨bB, 1, none⟩) hp.row (fun k hk => by show k ≠ bB; omega) _⟩
            have HIB2 := Aside0.mk hIB2
            clear hIB2 hp hw hall hsz hr hd6 hd7 hd9
            refine hK_ _ _ ?_
            go_wp2
            go_roundg (c.length - (kk + 1))
            case measure => omega
            case rel => exact ⟨kk + 1, v46, by go_num, by omega, by omega, HIB2⟩
          case hs =>
            clear hK_
            intro l a w' ⟨hsz, hd6, hd7, hd9, v39, v40, v41, v42, v43, v44, v45, v46, v47, ha, h0, h1, h2, h3, h4, h5, h6, h8, hph⟩ i hi
            subst ha
            have hlt : i < 10 := ready_lt hi
            rcases (by omega : i = 0 ∨ i = 1 ∨ i = 2 ∨ i = 3 ∨ i = 4 ∨ i = 5 ∨ i = 6 ∨ i = 7 ∨ i = 8 ∨ i = 9) with rfl | rfl | rfl | rfl | rfl | rfl | rfl | rfl | rfl | rfl
            · refine wpOp_of rfl rfl ?_
              unfold Oper.wp
              rw [run_field1 _ _ _ _ rfl rfl]
              refine ⟨(Array.size_setIfInBounds ..).trans hsz, fun h => getD_set_true (hd6 (set_old h (by decide))), fun h => ⟨getD_set_true (hd7 (set_old h (by decide))).1, getD_set_true (hd7 (set_old h (by decide))).2⟩, fun h => ⟨getD_set_true (hd9 (set_old h (by decide))).1, getD_set_true (hd9 (set_old h (by decide))).2⟩, _, _, _, _, _, _, _, _, _, rfl, fun _ => rfl, fun h => h1 (set_old h (by decide)), fun h => h2 (set_old h (by decide)), fun h => h3 (set_old h (by decide)), fun h => h4 (set_old h (by decide)), fun h => h5 (set_old h (by decide)), fun h => h6 (set_old h (by decide)), fun h => h8 (set_old h (by decide)), ?_⟩
              rcases hph with ⟨p6, p7, p9, pw⟩ | ⟨p6, p7, p9, pw⟩ | ⟨p6, p7, p9, pw⟩ | ⟨p6, p7, p9, pw⟩
              · exact .inl ⟨set_other (by decide) p6, set_other (by decide) p7, set_other (by decide) p9, pw⟩
              · exact .inr (.inl ⟨set_other (by decide) p6, set_other (by decide) p7, set_other (by decide) p9, pw⟩)
              · exact .inr (.inr (.inl ⟨set_other (by decide) p6, set_other (by decide) p7, set_other (by decide) p9, pw⟩))
              · exact .inr (.inr (.inr ⟨set_other (by decide) p6, set_other (by decide) p7, set_other (by decide) p9, pw⟩))
            · obtain rfl := h0 (ready_dep 0 hi rfl)
              have hn := not_yet hi
              have hcv : w'.cell? ⟨bB, 1, none⟩ = some (.slice Av (vars.length) cv) := by
                rcases hph with ⟨p6, p7, p9, pw⟩ | ⟨p6, p7, p9, pw⟩ | ⟨p6, p7, p9, pw⟩ | ⟨p6, p7, p9, pw⟩
                · rw [pw]; exact HCV.out
                · rw [pw]; exact (World.cell?_alloc_lt _ _ _ (World.block_lt_of_cell? _ _ HCV.out)).trans HCV.out
                · rw [(hd7 p7).1] at hn; cases hn
                · rw [(hd7 p7).1] at hn; cases hn
              refine wpOp_of rfl rfl ?_
              unfold Oper.wp
              rw [run_load23 _ _ _ _ rfl rfl hcv]
              refine ⟨(Array.size_setIfInBounds ..).trans hsz, fun h => getD_set_true (hd6 (set_old h (by decide))), fun h => ⟨getD_set_true (hd7 (set_old h (by decide))).1, getD_set_true (hd7 (set_old h (by decide))).2⟩, fun h => ⟨getD_set_true (hd9 (set_old h (by decide))).1, getD_set_true (hd9 (set_old h (by decide))).2⟩, _, _, _, _, _, _, _, _, _, rfl, fun h => h0 (set_old h (by decide)), fun _ => rfl, fun h => h2 (set_old h (by decide)), fun h => h3 (set_old h (by decide)), fun h => h4 (set_old h (by decide)), fun h => h5 (set_old h (by decide)), fun h => h6 (set_old h (by decide)), fun h => h8 (set_old h (by decide)), ?_⟩
              rcases hph with ⟨p6, p7, p9, pw⟩ | ⟨p6, p7, p9, pw⟩ | ⟨p6, p7, p9, pw⟩ | ⟨p6, p7, p9, pw⟩
              · exact .inl ⟨set_other (by decide) p6, set_other (by decide) p7, set_other (by decide) p9, pw⟩
              · exact .inr (.inl ⟨set_other (by decide) p6, set_other (by decide) p7, set_other (by decide) p9, pw⟩)
              · exact .inr (.inr (.inl ⟨set_other (by decide) p6, set_other (by decide) p7, set_other (by decide) p9, pw⟩))
              · exact .inr (.inr (.inr ⟨set_other (by decide) p6, set_other (by decide) p7, set_other (by decide) p9, pw⟩))
            · refine wpOp_of rfl rfl ?_
              unfold Oper.wp
              rw [BigFrame.run_move _ rfl]
              refine ⟨(Array.size_setIfInBounds ..).trans hsz, fun h => getD_set_true (hd6 (set_old h (by decide))), fun h => ⟨getD_set_true (hd7 (set_old h (by decide))).1, getD_set_true (hd7 (set_old h (by decide))).2⟩, fun h => ⟨getD_set_true (hd9 (set_old h (by decide))).1, getD_set_true (hd9 (set_old h (by decide))).2⟩, _, _, _, _, _, _, _, _, _, rfl, fun h => h0 (set_old h (by decide)), fun h => h1 (set_old h (by decide)), fun _ => rfl, fun h => h3 (set_old h (by decide)), fun h => h4 (set_old h (by decide)), fun h => h5 (set_old h (by decide)), fun h => h6 (set_old h (by decide)), fun h => h8 (set_old h (by decide)), ?_⟩
              rcases hph with ⟨p6, p7, p9, pw⟩ | ⟨p6, p7, p9, pw⟩ | ⟨p6, p7, p9, pw⟩ | ⟨p6, p7, p9, pw⟩
              · exact .inl ⟨set_other (by decide) p6, set_other (by decide) p7, set_other (by decide) p9, pw⟩
              · exact .inr (.inl ⟨set_other (by decide) p6, set_other (by decide) p7, set_other (by decide) p9, pw⟩)
              · exact .inr (.inr (.inl ⟨set_other (by decide) p6, set_other (by decide) p7, set_other (by decide) p9, pw⟩))
              · exact .inr (.inr (.inr ⟨set_other (by decide) p6, set_other (by decide) p7, set_other (by decide) p9, pw⟩))
            · refine wpOp_of rfl rfl ?_
              unfold Oper.wp
              rw [BigFrame.run_move _ rfl]
              refine ⟨(Array.size_setIfInBounds ..).trans hsz, fun h => getD_set_true (hd6 (set_old h (by decide))), fun h => ⟨getD_set_true (hd7 (set_old h (by decide))).1, getD_set_true (hd7 (set_old h (by decide))).2⟩, fun h => ⟨getD_set_true (hd9 (set_old h (by decide))).1, getD_set_true (hd9 (set_old h (by decide))).2⟩, _, _, _, _, _, _, _, _, _, rfl, fun h => h0 (set_old h (by decide)), fun h => h1 (set_old h (by decide)), fun h => h2 (set_old h (by decide)), fun _ => rfl, fun h => h4 (set_old h (by decide)), fun h => h5 (set_old h (by decide)), fun h => h6 (set_old h (by decide)), fun h => h8 (set_old h (by decide)), ?_⟩
              rcases hph with ⟨p6, p7, p9, pw⟩ | ⟨p6, p7, p9, pw⟩ | ⟨p6, p7, p9, pw⟩ | ⟨p6, p7, p9, pw⟩
              · exact .inl ⟨set_other (by decide) p6, set_other (by decide) p7, set_other (by decide) p9, pw⟩
              · exact .inr (.inl ⟨set_other (by decide) p6, set_other (by decide) p7, set_other (by decide) p9, pw⟩)
              · exact .inr (.inr (.inl ⟨set_other (by decide) p6, set_other (by decide) p7, set_other (by decide) p9, pw⟩))
              · exact .inr (.inr (.inr ⟨set_other (by decide) p6, set_other (by decide) p7, set_other (by decide) p9, pw⟩))
            · obtain rfl := h2 (ready_dep 2 hi rfl)
              obtain rfl := h3 (ready_dep 3 hi rfl)
              refine wpOp_of rfl rfl ?_
              unfold Oper.wp
              rw [run_index23 _ _ _ _ _ rfl rfl rfl hx0 hx1]
              refine ⟨(Array.size_setIfInBounds ..).trans hsz, fun h => getD_set_true (hd6 (set_old h (by decide))), fun h => ⟨getD_set_true (hd7 (set_old h (by decide))).1, getD_set_true (hd7 (set_old h (by decide))).2⟩, fun h => ⟨getD_set_true (hd9 (set_old h (by decide))).1, getD_set_true (hd9 (set_old h (by decide))).2⟩, _, _, _, _, _, _, _, _, _, rfl, fun h => h0 (set_old h (by decide)), fun h => h1 (set_old h (by decide)), fun h => h2 (set_old h (by decide)), fun h => h3 (set_old h (by decide)), fun _ => rfl, fun h => h5 (set_old h (by decide)), fun h => h6 (set_old h (by decide)), fun h => h8 (set_old h (by decide)), ?_⟩
              rcases hph with ⟨p6, p7, p9, pw⟩ | ⟨p6, p7, p9, pw⟩ | ⟨p6, p7, p9, pw⟩ | ⟨p6, p7, p9, pw⟩
              · exact .inl ⟨set_other (by decide) p6, set_other (by decide) p7, set_other (by decide) p9, pw⟩
              · exact .inr (.inl ⟨set_other (by decide) p6, set_other (by decide) p7, set_other (by decide) p9, pw⟩)
              · exact .inr (.inr (.inl ⟨set_other (by decide) p6, set_other (by decide) p7, set_other (by decide) p9, pw⟩))
              · exact .inr (.inr (.inr ⟨set_other (by decide) p6, set_other (by decide) p7, set_other (by decide) p9, pw⟩))
            · obtain rfl := h4 (ready_dep 4 hi rfl)
              have hn := not_yet hi
              have hcv : w'.cell? (q.add x.toNat) = some (.int .i64 y) := by
                rcases hph with ⟨p6, p7, p9, pw⟩ | ⟨p6, p7, p9, pw⟩ | ⟨p6, p7, p9, pw⟩ | ⟨p6, p7, p9, pw⟩
                · rw [pw]; exact HYV.out
                all_goals (rw [hd6 p6] at hn; cases hn)
              refine wpOp_of rfl rfl ?_
              unfold Oper.wp
              rw [run_load3 _ _ _ _ rfl rfl hcv]
              refine ⟨(Array.size_setIfInBounds ..).trans hsz, fun h => getD_set_true (hd6 (set_old h (by decide))), fun h => ⟨getD_set_true (hd7 (set_old h (by decide))).1, getD_set_true (hd7 (set_old h (by decide))).2⟩, fun h => ⟨getD_set_true (hd9 (set_old h (by decide))).1, getD_set_true (hd9 (set_old h (by decide))).2⟩, _, _, _, _, _, _, _, _, _, rfl, fun h => h0 (set_old h (by decide)), fun h => h1 (set_old h (by decide)), fun h => h2 (set_old h (by decide)), fun h => h3 (set_old h (by decide)), fun h => h4 (set_old h (by decide)), fun _ => rfl, fun h => h6 (set_old h (by decide)), fun h => h8 (set_old h (by decide)), ?_⟩
              rcases hph with ⟨p6, p7, p9, pw⟩ | ⟨p6, p7, p9, pw⟩ | ⟨p6, p7, p9, pw⟩ | ⟨p6, p7, p9, pw⟩
              · exact .inl ⟨set_other (by decide) p6, set_other (by decide) p7, set_other (by decide) p9, pw⟩
              · exact .inr (.inl ⟨set_other (by decide) p6, set_other (by decide) p7, set_other (by decide) p9, pw⟩)
              · exact .inr (.inr (.inl ⟨set_other (by decide) p6, set_other (by decide) p7, set_other (by decide) p9, pw⟩))
              · exact .inr (.inr (.inr ⟨set_other (by decide) p6, set_other (by decide) p7, set_other (by decide) p9, pw⟩))
            · obtain rfl := h5 (ready_dep 5 hi rfl)
              have hn := not_yet hi
              have p7 : l.getD 7 false = false := by
                cases h : l.getD 7 false with
                | false => rfl
                | true => rw [(hd7 h).2] at hn; cases hn
              have p9 : l.getD 9 false = false := by
                cases h : l.getD 9 false with
                | false => rfl
                | true => rw [(hd9 h).1] at p7; cases p7
              have pw : w' = Wd := by
                rcases hph with ⟨p6, p7', p9, pw⟩ | ⟨p6, p7', p9, pw⟩ | ⟨p6, p7', p9, pw⟩ | ⟨p6, p7', p9, pw⟩
                · exact pw
                all_goals (rw [p6] at hn; cases hn)
              subst pw
              refine wpOp_of rfl rfl ?_
              unfold Oper.wp
              rw [run_build23 _ _ _ _ rfl rfl]
              refine ⟨(Array.size_setIfInBounds ..).trans hsz, fun h => getD_set_true (ready_dep 5 hi rfl), fun h => ⟨getD_set_true (hd7 (set_old h (by decide))).1, getD_set_true (hd7 (set_old h (by decide))).2⟩, fun h => ⟨getD_set_true (hd9 (set_old h (by decide))).1, getD_set_true (hd9 (set_old h (by decide))).2⟩, _, _, _, _, _, _, _, _, _, rfl, fun h => h0 (set_old h (by decide)), fun h => h1 (set_old h (by decide)), fun h => h2 (set_old h (by decide)), fun h => h3 (set_old h (by decide)), fun h => h4 (set_old h (by decide)), fun h => h5 (set_old h (by decide)), fun _ => rfl, fun h => h8 (set_old h (by decide)), .inr (.inl ⟨set_true' (by omega), set_other (by decide) p7, set_other (by decide) p9, rfl⟩)⟩
            · obtain rfl := h1 (ready_dep 1 hi rfl)
              obtain rfl := h6 (ready_dep 6 hi rfl)
              have hn := not_yet hi
              have p6 : l.getD 6 false = true := ready_dep 6 hi rfl
              have p9 : l.getD 9 false = false := by
                cases h : l.getD 9 false with
                | false => rfl
                | true => rw [(hd9 h).1] at hn; cases hn
              have pw : w' = Wd.alloc (.cells #[.int .i64 y] 3) := by
                rcases hph with ⟨p6', p7', p9, pw⟩ | ⟨p6', p7', p9, pw⟩ | ⟨p6', p7', p9, pw⟩ | ⟨p6', p7', p9, pw⟩
                · rw [p6'] at p6; cases p6
                · exact pw
                all_goals (rw [p7'] at hn; cases hn)
              subst pw
              refine wpOp_if rfl (Kd.R_append_step (Kd.int .i64) (w0 := wt) (W := Wd) wt.heap.size (by rfl) (.tmp 40) (.tmp 45) 23 3 (.int .i64 0) 8 rfl Try.underlying23 info3 rfl (by decide) (by omega) (.slice Av vars.length cv) vars y [.int .i64 y] (fun k => bB < k) (fun _ => False) rfl rfl rfl (fun _ hk => hk.elim) (fun k hk => by have := HDW.out.2; omega) HVV.out HDB.out (below_size HDB.out) (by have := HVL.out; omega) ?_)
              intro v1 w1 ho hb1 hg hat
              refine ⟨(Array.size_setIfInBounds ..).trans hsz, fun h => getD_set_true (hd6 (set_old h (by decide))), fun h => ⟨getD_set_true (ready_dep 1 hi rfl), getD_set_true (ready_dep 6 hi rfl)⟩, fun h => ⟨getD_set_true (hd9 (set_old h (by decide))).1, getD_set_true (hd9 (set_old h (by decide))).2⟩, _, _, _, _, _, _, _, _, _, rfl, fun h => h0 (set_old h (by decide)), fun h => h1 (set_old h (by decide)), fun h => h2 (set_old h (by decide)), fun h => h3 (set_old h (by decide)), fun h => h4 (set_old h (by decide)), fun h => h5 (set_old h (by decide)), fun h => h6 (set_old h (by decide)), fun h => h8 (set_old h (by decide)), .inr (.inr (.inl ⟨set_other (by decide) p6, set_true' (by omega), set_other (by decide) p9, ⟨ho, hb1, hg⟩⟩))⟩
            · refine wpOp_of rfl rfl ?_
              unfold Oper.wp
              rw [run_field1 _ _ _ _ rfl rfl]
              refine ⟨(Array.size_setIfInBounds ..).trans hsz, fun h => getD_set_true (hd6 (set_old h (by decide))), fun h => ⟨getD_set_true (hd7 (set_old h (by decide))).1, getD_set_true (hd7 (set_old h (by decide))).2⟩, fun h => ⟨getD_set_true (hd9 (set_old h (by decide))).1, getD_set_true (hd9 (set_old h (by decide))).2⟩, _, _, _, _, _, _, _, _, _, rfl, fun h => h0 (set_old h (by decide)), fun h => h1 (set_old h (by decide)), fun h => h2 (set_old h (by decide)), fun h => h3 (set_old h (by decide)), fun h => h4 (set_old h (by decide)), fun h => h5 (set_old h (by decide)), fun h => h6 (set_old h (by decide)), fun _ => rfl, ?_⟩
              rcases hph with ⟨p6, p7, p9, pw⟩ | ⟨p6, p7, p9, pw⟩ | ⟨p6, p7, p9, pw⟩ | ⟨p6, p7, p9, pw⟩
              · exact .inl ⟨set_other (by decide) p6, set_other (by decide) p7, set_other (by decide) p9, pw⟩
              · exact .inr (.inl ⟨set_other (by decide) p6, set_other (by decide) p7, set_other (by decide) p9, pw⟩)
              · exact .inr (.inr (.inl ⟨set_other (by decide) p6, set_other (by decide) p7, set_other (by decide) p9, pw⟩))
              · exact .inr (.inr (.inr ⟨set_other (by decide) p6, set_other (by decide) p7, set_other (by decide) p9, pw⟩))
            · obtain rfl := h8 (ready_dep 8 hi rfl)
              have hn := not_yet hi
              have p7 : l.getD 7 false = true := ready_dep 7 hi rfl
              have hp : l.getD 6 false = true ∧ P7 wt Wd bB (.slice Av vars.length cv) v46 (vars ++ [y]) w' := by
                rcases hph with ⟨p6', p7', p9, pw⟩ | ⟨p6', p7', p9, pw⟩ | ⟨p6', p7', p9, pw⟩ | ⟨p6', p7', p9, pw⟩
                · rw [p7'] at p7; cases p7
                · rw [p7'] at p7; cases p7
                · exact ⟨p6', pw⟩
                · rw [p9] at hn; cases hn
              obtain ⟨p6, hp⟩ := hp
              obtain ⟨A7, c7, rfl⟩ := Kd.R_slice hp.row
              have hbx := HBX.out hp.grown
              refine wpOp_of rfl rfl ?_
              unfold Oper.wp
              rw [run_store23' _ _ _ _ _ rfl rfl rfl (blk_cell hbx 1) (blk_frozen hbx 1)]
              refine ⟨(Array.size_setIfInBounds ..).trans hsz, fun h => getD_set_true (hd6 (set_old h (by decide))), fun h => ⟨getD_set_true (hd7 (set_old h (by decide))).1, getD_set_true (hd7 (set_old h (by decide))).2⟩, fun h => ⟨getD_set_true (ready_dep 7 hi rfl), getD_set_true (ready_dep 8 hi rfl)⟩, _, _, _, _, _, _, _, _, _, rfl, fun h => h0 (set_old h (by decide)), fun h => h1 (set_old h (by decide)), fun h => h2 (set_old h (by decide)), fun h => h3 (set_old h (by decide)), fun h => h4 (set_old h (by decide)), fun h => h5 (set_old h (by decide)), fun h => h6 (set_old h (by decide)), fun _ => rfl, .inr (.inr (.inr ⟨set_other (by decide) p6, set_other (by decide) p7, set_true' (by omega), w', hp, rfl⟩))⟩
        · have hltk : ¬ (kk : Int) < (c.length : Int) := by omega
          have htk : c.take kk = c := List.take_of_length_le (by omega)
          rw [htk] at HIB
          clear htk
          obtain ⟨vars, hvars⟩ : ∃ vars, vars = c.map (rd told) := ⟨_, rfl⟩
          rw [← hvars] at HIB
          have HVS := Aside0.mk hvars
          have hvl : vars.length ≤ 64 := by rw [hvars, List.length_map]; exact HCM.out.2
          have hvl' : vars.length ≤ 9223372036854775807 := by omega
          obtain ⟨Av, cv, hvv⟩ := Kd.R_slice HIB.out.vars
          subst hvv
          have hcv : wr.cell? ⟨bB, 1, none⟩ = some (.slice Av vars.length cv) := blk_cell HIB.out.box 1
          have LT := Aside0.mk HB2.out.pos
          have w9_ : IntKind.i64.wrap ((at' : Int) + 1) = (at' : Int) + 1 := by unfold IntKind.wrap IntKind.bits IntKind.signed; simp; omega
          have HJM := Aside0.mk (List.mem_of_getElem? HJI.out)
          clear hvars
          have HNI := Aside0.mk (nd_erase HB2.out.nd HJI.out)
          have HPM := Aside0.mk (show ∀ w5 : World, Ib wt w2 w5 bB bT gT cT n (.slice Ai c.length ci) (thSet th c) (.slice Av vars.length cv) (sortI vars) → k30.M w5 wt.heap.size (fun k => (k < S0 ∧ f k = i ∧ k ≠ g) ∨ bB < k) (⟨c, sortI vars⟩ : S30) [.slice Ai c.length ci, .slice Av vars.length cv] from fun w5 h5 => by
            refine k30_mkM w5 wt.heap.size _ ⟨c, sortI vars⟩ ?_ ?_
            · have hr := Kd.R_types HRC.out (g := gT) HB2.out.th.ty.choose_spec (by decide)
              exact Kd.R_mono (Kd.R_step hr (fun k e hk => h5.keep k (by have := HBB.out; omega) e.2)) (fun k e => .inl ⟨e.1.2.2, e.1.1, e.1.2.1⟩)
            · exact Kd.R_mono h5.vars (fun k hk => .inr hk))
          have HPK := Aside0.mk (show ∀ w5 : World, Ib wt w2 w5 bB bT gT cT n (.slice Ai c.length ci) (thSet th c) (.slice Av vars.length cv) (sortI vars) → ∀ k, ((k < S0 ∧ f k = i ∧ k ≠ g) ∨ bB < k) → (¬ (k < S0 ∧ f k ∈ js.eraseIdx at') ∧ k ≠ g) ∧ some k ≠ u8.ownBlock from fun w5 h5 k hk => by
            have hown := (Kd.S_R (HB2.out.five HBB.out h5)).1
            have lt := LT.out
            have hbb := HBB.out
            rcases hk with ⟨h1, h2, h3⟩ | h
            · exact ⟨⟨fun h => HNI.out (h2 ▸ h.2), h3⟩, fun e => (hown k e.symm).1.1 ⟨h1, h2 ▸ HJM.out⟩⟩
            · exact ⟨⟨fun h' => by omega, by omega⟩, fun e => by have := (hown k e.symm).2; omega⟩)
          have HPO := Aside0.mk (show ∀ w5 : World, Ib wt w2 w5 bB bT gT cT n (.slice Ai c.length ci) (thSet th c) (.slice Av vars.length cv) (sortI vars) → Kd.S k30 30 w5 wt.heap.size (fun k => (¬ (k < S0 ∧ f k ∈ js.eraseIdx at') ∧ k ≠ g) ∧ ¬ ((k < S0 ∧ f k = i ∧ k ≠ g) ∨ bB < k)) u8 out from fun w5 h5 =>
            Kd.S_mono (HB2.out.five HBB.out h5) (fun k hk => ⟨⟨fun h => hk.1.1 ⟨h.1, List.mem_of_mem_eraseIdx h.2⟩, hk.1.2⟩, fun h => by
              rcases h with ⟨h1, h2, h3⟩ | h
              · exact hk.1.1 ⟨h1, h2 ▸ HJM.out⟩
              · have := hk.2; omega⟩))
          go_wp2_with (first | (go_at_call 38; refine (sort38 HIB.out.vars (by omega)).mono ?_; rintro e w5 ⟨rfl, hR5, hg5⟩; have HIB5 := Aside0.mk (HIB.out.sorted (by have := LT.out; have := HBB.out; omega) (by have := LT.out; have := HBB.out; omega) (by have := LT.out; have := HBB.out; omega) hg5 hR5); have hc0 : w5.cell? ⟨bB, 0, none⟩ = some (.slice Ai c.length ci) := blk_cell HIB5.out.box 0; have hc1 : w5.cell? ⟨bB, 1, none⟩ = some (.slice Av vars.length cv) := blk_cell HIB5.out.box 1; clear hR5 hg5 hcv HIB) | ((with_reducible refine gate_builtin (b := .append) (xs := #[.tmp 52, .tmp 54]) rfl ?_); at_builtin; refine Kd.S_append k30 (w0 := wt) wt.heap.size rfl (.tmp 52) (.tmp 54) 24 30 (.agg #[.slice none 0 0, .slice none 0 0]) 48 rfl Try.underlying24 info30 rfl (by decide) (by omega) u8 out (⟨c, sortI vars⟩ : S30) [.slice Ai c.length ci, .slice Av vars.length cv] (fun k => ¬ (k < S0 ∧ f k ∈ js.eraseIdx at') ∧ k ≠ g) (fun k => (k < S0 ∧ f k = i ∧ k ≠ g) ∨ bB < k) rfl rfl ?aP ?aK ?aF ?aO ?aB ?aS ?aL ?_; (case aP => exact HPM.out w5 HIB5.out); (case aK => exact HPK.out w5 HIB5.out); (case aF => exact fun k hk => by have := HIB5.out.size; have := LT.out; have := HBB.out; exact ⟨fun h => by omega, by omega⟩); (case aO => exact HPO.out w5 HIB5.out); (case aB => exact HIB5.out.below); (case aS => exact below_size HIB5.out.below); (case aL => have := HOL.out; omega); intro v8 w8 ho hb hg hat8; have HE8 := Aside0.mk (HB2.out.eight HBB.out HIB5.out hg); have HO8 := Aside0.mk ho; have HB8 := Aside0.mk hb; have HS8 := Aside0.mk hg.size; clear ho hb hg hat8 hc0 hc1) | (go_at_call 39; refine (del39 HE8.out.1 at' hat HC.out.2.2).mono ?_; rintro e w9 ⟨rfl, hg9, hbl9⟩; have HO9 := Aside0.mk (Ow.nine HE8.out.1 HE8.out.2.1 HE8.out.2.2 HB8.out (by have := HS8.out; have := HIB5.out.size; have := LT.out; have := HBB.out; omega) HB2.out.bb HO8.out hg9 hbl9 (HB2.out.nd.sublist (List.eraseIdx_sublist ..))); clear hg9 hbl9))
          have hrl : (js.eraseIdx at').length + 1 = js.length := by rw [List.length_eraseIdx, if_pos hat]; omega
          have HRD := Aside0.mk (show rd_L3 (js.map fun j => cs.getD j []) (at' : Int) = c by
            unfold rd_L3
            rw [Int.toNat_natCast, List.getD_eq_getElem?_getD, List.getElem?_map, HJI.out, HCE.out]
            rfl)
          have HI' := Aside0.mk (show OInv N n (thSet th c) ((js.eraseIdx at').map fun j => cs.getD j []) by
            obtain ⟨k, hk, hki, _, ho, _⟩ := HI.out.step HNR.out (fun e => by have := List.map_eq_nil_iff.1 e; rw [this] at hlt; simp at hlt)
            rw [HIX.out] at hki
            have hk' : k = at' := by omega
            subst hk'
            rw [HRD.out, erase_map] at ho
            exact ho)
          have HE' := Aside0.mk (show (out ++ [(⟨c, sortI vars⟩ : S30)]) ++ ordL told N (js.eraseIdx at').length (thSet th c) ((js.eraseIdx at').map fun j => cs.getD j []) = total by
            have h := HE.out
            rw [← hrl, ordL_one HIX.out HRD.out, erase_map, ← HVS.out] at h
            rw [← h, List.append_assoc]
            rfl)
          go_roundg (js.eraseIdx at').length
          case measure => omega
          case rel => exact ⟨js.eraseIdx at', thSet th c, out ++ [⟨c, sortI vars⟩], v8, rfl, rfl, Nat.le_refl _, by omega, HO9, HI', HE', ⟨by have := HOL.out; rw [List.length_append]; simp; omega⟩⟩
    · have hltz : ¬ (0 : Int) < (js.length : Int) := by omega
      have e0 : js.length = 0 := by omega
      have HOUT := Aside0.mk (show out = total by
        have := HE.out
        rw [e0] at this
        rw [← this]; show out = out ++ []; rw [List.append_nil])
      obtain ⟨A9, c9, e9⟩ := Kd.S_slice HO.out.out
      subst e9
      clear e0
      go_wp2
      go_ret
      refine ⟨_, rfl, ?_, HO.out.below⟩
      rw [← HOUT.out]
      exact Kd.S_mono HO.out.out (fun _ _ => trivial)
end Go.Proofs.Ytlaneafplmbcnaa.PO
