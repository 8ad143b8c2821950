/- Texts of this claim, one behind the other (Ls Pl Ct St Kw Fm Bz So Ig Ck Cq). -/
import Derived.Test.YtoonahobmlnflaaVu10
import Derived.Laws.CopyRow
import Derived.Test.YtoonahobmlnflaaVu11
import Derived.Test.YtoonahobmlnflaaVu6
import Derived.Laws.EntriesVeiled
import Derived.StillTailTactics
import Derived.BigRegion
import Derived.Recover
import Derived.Lib.SlicesCompact
import Derived.Laws.StructEq
import Derived.Shelf.Abstract
import Derived.Test.YtoonahobmlnflaaVu8
namespace Go.Proofs.Ytoonahobmlnflaa.PC
open Go.RowKit Go.Shelf Go.Proofs.YtoonahobmlnflaaW.PrintWords Go.Proofs.YtoonahobmlnflaaW.PrintLast Go.Proofs.YtoonahobmlnflaaW.PrintMore
set_option linter.unusedVariables false
set_option linter.unusedSimpArgs false
/-- Only one block is another one. -/
structure OneB (g : Nat) (w W : World) : Prop where
  os : W.os = w.os
  tape : W.tape = w.tape
  output : W.output = w.output
  size : W.heap.size = w.heap.size
  other : ∀ k, k ≠ g → W.heap[k]? = w.heap[k]?
theorem OneB.below {g n : Nat} {w W : World} (h : OneB g w W) (hn : n ≤ g) : Below n w W := ⟨h.os, h.tape, h.output, by rw [h.size]; exact Nat.le_refl _, fun k hk => h.other k (by omega)⟩
theorem OneB.blk {g k : Nat} {w W : World} {o : Obj} (h : OneB g w W) (hx : w.heap[k]? = some o) (hk : k ≠ g) : W.heap[k]? = some o := (h.other k hk).trans hx
theorem oneB_setRow (w : World) (g : Nat) (cs : Array Value) : OneB g w (w.setRow g cs) := ⟨rfl, rfl, rfl, setRow_size w g cs, fun k hk => setRow_other w g k cs hk⟩
theorem oneB_setCell (w : World) (a : Addr) (v : Value) : OneB a.block w (w.setCell a v) := ⟨rfl, rfl, rfl, by simp, fun k hk => Below.heap_setCell w a v k hk⟩
section
variable {P : Program} {ops : Array Oper} {Q : Exit → Act → World → Prop} {rest : List Oper} {a : Act} {w : World} {d : Option Tmp} {t t0 ty : TypeId} {pos : String} {after : Array Edge}
theorem exec_store_at {p v : Operand} {g o : Nat} {cur c' : Array Value} (hp : a.eval p = .pointer (some ⟨g, o, none⟩)) (hv : a.eval v = .agg c') (hx : w.heap[g]? = some (.cells cur t0 (0, 0))) (hi : (P.info? t).map (·.size) = some c'.size) (ho : o + c'.size ≤ cur.size) (h1 : c'.all (·.oneCell') = true) :
    (execOp a.eval ⟨d, .store t p v, ty, pos, after, none⟩).run P w = .ok .skip (w.setRow g (cur.toList.take o ++ c'.toList ++ cur.toList.drop (o + c'.size)).toArray) := by
  have h2 := run_storeCells_at (P := P) g o t0 c'.toList 0 cur w hx (by simpa using ho) (fun v hv => (Array.all_eq_true_iff_forall_mem.1 h1) v (by simpa using hv))
  have h3 : (storeVar t ⟨g, o, none⟩ (.agg c')).run P w = .ok () (w.setRow g (cur.toList.take o ++ c'.toList ++ cur.toList.drop (o + c'.size)).toArray) := by
    cases hq : P.info? t with
    | none => simp [hq] at hi
    | some i =>
      have hs : c'.size = i.size := by simp [hq] at hi; omega
      have h2' := h2
      simp only [Nat.add_zero, Array.length_toList] at h2'
      simp [storeVar, sizeOf, typeInfo, hq, Value.cells, hs]
      simpa [hs] using h2'
  simp only [execOp, hp, hv, Instr.storeAt, Instr.sureAddr, Sem.run_bind, Sem.run_pure, Result.andThen, h3]
theorem ev_store_at {p v : Tmp} {g o : Nat} {cur c' cur' : Array Value} (hp : a.eval (.tmp p) = .pointer (some ⟨g, o, none⟩)) (hv : a.eval (.tmp v) = .agg c') (hx : w.heap[g]? = some (.cells cur t0 (0, 0))) (hi : (P.info? t).map (·.size) = some c'.size) (ho : o + c'.size ≤ cur.size) (h1 : c'.all (·.oneCell') = true)
    (hcur : (cur.toList.take o ++ c'.toList ++ cur.toList.drop (o + c'.size)).toArray = cur')
    (h : ∀ W1, W1.heap[g]? = some (.cells cur' t0 (0, 0)) → OneB g w W1 → wpList P ops Q rest a W1) :
    wpList P ops Q (⟨none, .store t (.tmp p) (.tmp v), ty, pos, after, none⟩ :: rest) a w :=
  store_event rfl rfl rfl (exec_store_at hp hv hx hi ho h1) (fun w' e => by subst e; subst hcur; exact h _ (setRow_heap w g cur _ t0 (0, 0) hx) (oneB_setRow w g _))
end
end Go.Proofs.Ytoonahobmlnflaa.PC
namespace Go.Proofs.Ytoonahobmlnflaa.PC
open Go.RowKit Go.Shelf Go.Proofs.YtoonahobmlnflaaW.PrintWords Go.Proofs.YtoonahobmlnflaaW.PrintLast Go.Proofs.YtoonahobmlnflaaW.PrintMore
set_option linter.unusedVariables false
set_option linter.unusedSimpArgs false
/-- What the dimension's cells are after some rounds. -/
def plainTo : Nat → Array Value
  | 0 => #[.int .i64 0, .int .i64 0, .int .i64 0, .int .i64 0, .int .i64 0, .int .i64 0, .int .i64 0, .int .i64 0, .int .i64 0, .int .i64 0, .int .i64 0, .int .i64 0, .int .i64 0, .int .i64 0]
  | 1 => #[.int .i64 0, .int .i64 1, .int .i64 0, .int .i64 0, .int .i64 0, .int .i64 0, .int .i64 0, .int .i64 0, .int .i64 0, .int .i64 0, .int .i64 0, .int .i64 0, .int .i64 0, .int .i64 0]
  | 2 => #[.int .i64 0, .int .i64 1, .int .i64 0, .int .i64 1, .int .i64 0, .int .i64 0, .int .i64 0, .int .i64 0, .int .i64 0, .int .i64 0, .int .i64 0, .int .i64 0, .int .i64 0, .int .i64 0]
  | 3 => #[.int .i64 0, .int .i64 1, .int .i64 0, .int .i64 1, .int .i64 0, .int .i64 1, .int .i64 0, .int .i64 0, .int .i64 0, .int .i64 0, .int .i64 0, .int .i64 0, .int .i64 0, .int .i64 0]
  | 4 => #[.int .i64 0, .int .i64 1, .int .i64 0, .int .i64 1, .int .i64 0, .int .i64 1, .int .i64 0, .int .i64 1, .int .i64 0, .int .i64 0, .int .i64 0, .int .i64 0, .int .i64 0, .int .i64 0]
  | 5 => #[.int .i64 0, .int .i64 1, .int .i64 0, .int .i64 1, .int .i64 0, .int .i64 1, .int .i64 0, .int .i64 1, .int .i64 0, .int .i64 1, .int .i64 0, .int .i64 0, .int .i64 0, .int .i64 0]
  | 6 => #[.int .i64 0, .int .i64 1, .int .i64 0, .int .i64 1, .int .i64 0, .int .i64 1, .int .i64 0, .int .i64 1, .int .i64 0, .int .i64 1, .int .i64 0, .int .i64 1, .int .i64 0, .int .i64 0]
  | _ => #[.int .i64 0, .int .i64 1, .int .i64 0, .int .i64 1, .int .i64 0, .int .i64 1, .int .i64 0, .int .i64 1, .int .i64 0, .int .i64 1, .int .i64 0, .int .i64 1, .int .i64 0, .int .i64 1]
set_option maxHeartbeats 4000000 in
set_option maxRecDepth 100000 in
theorem plain41 (w : World) : Calls Try.prog 41 #[] w fun e w' => e = .returned (.agg #[.int .i64 0, .int .i64 1, .int .i64 0, .int .i64 1, .int .i64 0, .int .i64 1, .int .i64 0, .int .i64 1, .int .i64 0, .int .i64 1, .int .i64 0, .int .i64 1, .int .i64 0, .int .i64 1]) ∧ Below w.heap.size w w' := by
  have hu33 := Try.underlying33
  have hu30 := Try.underlying30
  have hu35 := Try.underlying35
  have hx0 := heap_alloc_last w (.cells #[.int .i64 0, .int .i64 0, .int .i64 0, .int .i64 0, .int .i64 0, .int .i64 0, .int .i64 0, .int .i64 0, .int .i64 0, .int .i64 0, .int .i64 0, .int .i64 0, .int .i64 0, .int .i64 0] 35)
  have hx1 := heap_alloc_last (w.alloc (.cells #[.int .i64 0, .int .i64 0, .int .i64 0, .int .i64 0, .int .i64 0, .int .i64 0, .int .i64 0, .int .i64 0, .int .i64 0, .int .i64 0, .int .i64 0, .int .i64 0, .int .i64 0, .int .i64 0] 35)) (.cells #[.int .i64 0, .int .i64 0, .int .i64 0, .int .i64 0, .int .i64 0, .int .i64 0, .int .i64 0, .int .i64 0, .int .i64 0, .int .i64 0, .int .i64 0, .int .i64 0, .int .i64 0, .int .i64 0] 35)
  have hb := below_alloc (below_alloc (Below.refl w.heap.size w) (.cells #[.int .i64 0, .int .i64 0, .int .i64 0, .int .i64 0, .int .i64 0, .int .i64 0, .int .i64 0, .int .i64 0, .int .i64 0, .int .i64 0, .int .i64 0, .int .i64 0, .int .i64 0, .int .i64 0] 35)) (.cells #[.int .i64 0, .int .i64 0, .int .i64 0, .int .i64 0, .int .i64 0, .int .i64 0, .int .i64 0, .int .i64 0, .int .i64 0, .int .i64 0, .int .i64 0, .int .i64 0, .int .i64 0, .int .i64 0] 35)
  have hx0' := blk_alloc hx0 (.cells #[.int .i64 0, .int .i64 0, .int .i64 0, .int .i64 0, .int .i64 0, .int .i64 0, .int .i64 0, .int .i64 0, .int .i64 0, .int .i64 0, .int .i64 0, .int .i64 0, .int .i64 0, .int .i64 0] 35)
  clear hx0
  have HB := Aside0.mk hb
  have HX0 := Aside0.mk hx0'
  have HX1 := Aside0.mk hx1
  clear hb hx0' hx1
  go_enter Try.func41, Try.ntmps41
  go_wp2
  have hg : (w.alloc (.cells #[.int .i64 0, .int .i64 0, .int .i64 0, .int .i64 0, .int .i64 0, .int .i64 0, .int .i64 0, .int .i64 0, .int .i64 0, .int .i64 0, .int .i64 0, .int .i64 0, .int .i64 0, .int .i64 0] 35)).heap.size = w.heap.size + 1 := by simp
  rw [hg] at HX1
  try rw [hg]
  generalize (w.alloc (.cells #[.int .i64 0, .int .i64 0, .int .i64 0, .int .i64 0, .int .i64 0, .int .i64 0, .int .i64 0, .int .i64 0, .int .i64 0, .int .i64 0, .int .i64 0, .int .i64 0, .int .i64 0, .int .i64 0] 35)).alloc (.cells #[.int .i64 0, .int .i64 0, .int .i64 0, .int .i64 0, .int .i64 0, .int .i64 0, .int .i64 0, .int .i64 0, .int .i64 0, .int .i64 0, .int .i64 0, .int .i64 0, .int .i64 0, .int .i64 0] 35) = W1 at HB HX0 HX1 ⊢
  go_loopw [3] (fun i wr => ∃ j : Nat, i = .int .i64 (j : Int) ∧ Aside0 (j ≤ 7) ∧ Aside0 (Below w.heap.size w wr) ∧ Aside0 (wr.heap[w.heap.size]? = some (.cells #[.int .i64 0, .int .i64 0, .int .i64 0, .int .i64 0, .int .i64 0, .int .i64 0, .int .i64 0, .int .i64 0, .int .i64 0, .int .i64 0, .int .i64 0, .int .i64 0, .int .i64 0, .int .i64 0] 35 (0, 0))) ∧ Aside0 (wr.heap[w.heap.size + 1]? = some (.cells (plainTo j) 35 (0, 0)))) (fun i _ => 7 - (intOf i).toNat)
  case atStart => exact ⟨0, rfl, ⟨by omega⟩, HB, HX0, HX1⟩
  case round =>
    obtain ⟨j, rfl, HJ, HB', HX0', HX1'⟩ := hrel
    clear HB HX0 HX1
    rcases (show j = 0 ∨ j = 1 ∨ j = 2 ∨ j = 3 ∨ j = 4 ∨ j = 5 ∨ j = 6 ∨ j = 7 by have := HJ.out; omega) with rfl | rfl | rfl | rfl | rfl | rfl | rfl | rfl
    · have hx : wr.heap[w.heap.size + 1]? = some (.cells #[.int .i64 0, .int .i64 0, .int .i64 0, .int .i64 0, .int .i64 0, .int .i64 0, .int .i64 0, .int .i64 0, .int .i64 0, .int .i64 0, .int .i64 0, .int .i64 0, .int .i64 0, .int .i64 0] 35 (0, 0)) := HX1'.out
      have hz := (blk_cell hx 1).trans (show _ = some (.int .i64 0) from rfl)
      have hf := blk_frozen hx 1
      have hs : (wr.setCell ⟨w.heap.size + 1, 1, none⟩ (.int .i64 1)).heap[w.heap.size + 1]? = some (.cells (plainTo 1) 35 (0, 0)) := blk_set hx 1 (.int .i64 1)
      have hs0 := blk_far (p := ⟨w.heap.size + 1, 1, none⟩) HX0'.out (by simp) (.int .i64 1)
      have hsb := below_set (g := w.heap.size + 1) (j := 1) (v := .int .i64 1) HB'.out (by omega)
      have HS := Aside0.mk hs
      have HS0 := Aside0.mk hs0
      have HSB := Aside0.mk hsb
      clear hs hs0 hsb hx HX1' HJ
      go_wp2
      exact ⟨⟨1, rfl, ⟨by omega⟩, HSB, HS0, HS⟩, by simp [intOf]⟩
    · have hx : wr.heap[w.heap.size + 1]? = some (.cells #[.int .i64 0, .int .i64 1, .int .i64 0, .int .i64 0, .int .i64 0, .int .i64 0, .int .i64 0, .int .i64 0, .int .i64 0, .int .i64 0, .int .i64 0, .int .i64 0, .int .i64 0, .int .i64 0] 35 (0, 0)) := HX1'.out
      have hz := (blk_cell hx 3).trans (show _ = some (.int .i64 0) from rfl)
      have hf := blk_frozen hx 3
      have hs : (wr.setCell ⟨w.heap.size + 1, 3, none⟩ (.int .i64 1)).heap[w.heap.size + 1]? = some (.cells (plainTo 2) 35 (0, 0)) := blk_set hx 3 (.int .i64 1)
      have hs0 := blk_far (p := ⟨w.heap.size + 1, 3, none⟩) HX0'.out (by simp) (.int .i64 1)
      have hsb := below_set (g := w.heap.size + 1) (j := 3) (v := .int .i64 1) HB'.out (by omega)
      have HS := Aside0.mk hs
      have HS0 := Aside0.mk hs0
      have HSB := Aside0.mk hsb
      clear hs hs0 hsb hx HX1' HJ
      go_wp2
      exact ⟨⟨2, rfl, ⟨by omega⟩, HSB, HS0, HS⟩, by simp [intOf]⟩
    · have hx : wr.heap[w.heap.size + 1]? = some (.cells #[.int .i64 0, .int .i64 1, .int .i64 0, .int .i64 1, .int .i64 0, .int .i64 0, .int .i64 0, .int .i64 0, .int .i64 0, .int .i64 0, .int .i64 0, .int .i64 0, .int .i64 0, .int .i64 0] 35 (0, 0)) := HX1'.out
      have hz := (blk_cell hx 5).trans (show _ = some (.int .i64 0) from rfl)
      have hf := blk_frozen hx 5
      have hs : (wr.setCell ⟨w.heap.size + 1, 5, none⟩ (.int .i64 1)).heap[w.heap.size + 1]? = some (.cells (plainTo 3) 35 (0, 0)) := blk_set hx 5 (.int .i64 1)
      have hs0 := blk_far (p := ⟨w.heap.size + 1, 5, none⟩) HX0'.out (by simp) (.int .i64 1)
      have hsb := below_set (g := w.heap.size + 1) (j := 5) (v := .int .i64 1) HB'.out (by omega)
      have HS := Aside0.mk hs
      have HS0 := Aside0.mk hs0
      have HSB := Aside0.mk hsb
      clear hs hs0 hsb hx HX1' HJ
      go_wp2
      exact ⟨⟨3, rfl, ⟨by omega⟩, HSB, HS0, HS⟩, by simp [intOf]⟩
    · have hx : wr.heap[w.heap.size + 1]? = some (.cells #[.int .i64 0, .int .i64 1, .int .i64 0, .int .i64 1, .int .i64 0, .int .i64 1, .int .i64 0, .int .i64 0, .int .i64 0, .int .i64 0, .int .i64 0, .int .i64 0, .int .i64 0, .int .i64 0] 35 (0, 0)) := HX1'.out
      have hz := (blk_cell hx 7).trans (show _ = some (.int .i64 0) from rfl)
      have hf := blk_frozen hx 7
      have hs : (wr.setCell ⟨w.heap.size + 1, 7, none⟩ (.int .i64 1)).heap[w.heap.size + 1]? = some (.cells (plainTo 4) 35 (0, 0)) := blk_set hx 7 (.int .i64 1)
      have hs0 := blk_far (p := ⟨w.heap.size + 1, 7, none⟩) HX0'.out (by simp) (.int .i64 1)
      have hsb := below_set (g := w.heap.size + 1) (j := 7) (v := .int .i64 1) HB'.out (by omega)
      have HS := Aside0.mk hs
      have HS0 := Aside0.mk hs0
      have HSB := Aside0.mk hsb
      clear hs hs0 hsb hx HX1' HJ
      go_wp2
      exact ⟨⟨4, rfl, ⟨by omega⟩, HSB, HS0, HS⟩, by simp [intOf]⟩
    · have hx : wr.heap[w.heap.size + 1]? = some (.cells #[.int .i64 0, .int .i64 1, .int .i64 0, .int .i64 1, .int .i64 0, .int .i64 1, .int .i64 0, .int .i64 1, .int .i64 0, .int .i64 0, .int .i64 0, .int .i64 0, .int .i64 0, .int .i64 0] 35 (0, 0)) := HX1'.out
      have hz := (blk_cell hx 9).trans (show _ = some (.int .i64 0) from rfl)
      have hf := blk_frozen hx 9
      have hs : (wr.setCell ⟨w.heap.size + 1, 9, none⟩ (.int .i64 1)).heap[w.heap.size + 1]? = some (.cells (plainTo 5) 35 (0, 0)) := blk_set hx 9 (.int .i64 1)
      have hs0 := blk_far (p := ⟨w.heap.size + 1, 9, none⟩) HX0'.out (by simp) (.int .i64 1)
      have hsb := below_set (g := w.heap.size + 1) (j := 9) (v := .int .i64 1) HB'.out (by omega)
      have HS := Aside0.mk hs
      have HS0 := Aside0.mk hs0
      have HSB := Aside0.mk hsb
      clear hs hs0 hsb hx HX1' HJ
      go_wp2
      exact ⟨⟨5, rfl, ⟨by omega⟩, HSB, HS0, HS⟩, by simp [intOf]⟩
    · have hx : wr.heap[w.heap.size + 1]? = some (.cells #[.int .i64 0, .int .i64 1, .int .i64 0, .int .i64 1, .int .i64 0, .int .i64 1, .int .i64 0, .int .i64 1, .int .i64 0, .int .i64 1, .int .i64 0, .int .i64 0, .int .i64 0, .int .i64 0] 35 (0, 0)) := HX1'.out
      have hz := (blk_cell hx 11).trans (show _ = some (.int .i64 0) from rfl)
      have hf := blk_frozen hx 11
      have hs : (wr.setCell ⟨w.heap.size + 1, 11, none⟩ (.int .i64 1)).heap[w.heap.size + 1]? = some (.cells (plainTo 6) 35 (0, 0)) := blk_set hx 11 (.int .i64 1)
      have hs0 := blk_far (p := ⟨w.heap.size + 1, 11, none⟩) HX0'.out (by simp) (.int .i64 1)
      have hsb := below_set (g := w.heap.size + 1) (j := 11) (v := .int .i64 1) HB'.out (by omega)
      have HS := Aside0.mk hs
      have HS0 := Aside0.mk hs0
      have HSB := Aside0.mk hsb
      clear hs hs0 hsb hx HX1' HJ
      go_wp2
      exact ⟨⟨6, rfl, ⟨by omega⟩, HSB, HS0, HS⟩, by simp [intOf]⟩
    · have hx : wr.heap[w.heap.size + 1]? = some (.cells #[.int .i64 0, .int .i64 1, .int .i64 0, .int .i64 1, .int .i64 0, .int .i64 1, .int .i64 0, .int .i64 1, .int .i64 0, .int .i64 1, .int .i64 0, .int .i64 1, .int .i64 0, .int .i64 0] 35 (0, 0)) := HX1'.out
      have hz := (blk_cell hx 13).trans (show _ = some (.int .i64 0) from rfl)
      have hf := blk_frozen hx 13
      have hs : (wr.setCell ⟨w.heap.size + 1, 13, none⟩ (.int .i64 1)).heap[w.heap.size + 1]? = some (.cells (plainTo 7) 35 (0, 0)) := blk_set hx 13 (.int .i64 1)
      have hs0 := blk_far (p := ⟨w.heap.size + 1, 13, none⟩) HX0'.out (by simp) (.int .i64 1)
      have hsb := below_set (g := w.heap.size + 1) (j := 13) (v := .int .i64 1) HB'.out (by omega)
      have HS := Aside0.mk hs
      have HS0 := Aside0.mk hs0
      have HSB := Aside0.mk hsb
      clear hs hs0 hsb hx HX1' HJ
      go_wp2
      exact ⟨⟨7, rfl, ⟨by omega⟩, HSB, HS0, HS⟩, by simp [intOf]⟩
    · have hx : wr.heap[w.heap.size + 1]? = some (.cells #[.int .i64 0, .int .i64 1, .int .i64 0, .int .i64 1, .int .i64 0, .int .i64 1, .int .i64 0, .int .i64 1, .int .i64 0, .int .i64 1, .int .i64 0, .int .i64 1, .int .i64 0, .int .i64 1] 35 (0, 0)) := HX1'.out
      have hx0 := HX0'.out
      have z0 := (blk_cell hx 0).trans (show _ = some (.int .i64 0) from rfl)
      have z1 := (blk_cell hx 1).trans (show _ = some (.int .i64 1) from rfl)
      have z2 := (blk_cell hx 2).trans (show _ = some (.int .i64 0) from rfl)
      have z3 := (blk_cell hx 3).trans (show _ = some (.int .i64 1) from rfl)
      have z4 := (blk_cell hx 4).trans (show _ = some (.int .i64 0) from rfl)
      have z5 := (blk_cell hx 5).trans (show _ = some (.int .i64 1) from rfl)
      have z6 := (blk_cell hx 6).trans (show _ = some (.int .i64 0) from rfl)
      have z7 := (blk_cell hx 7).trans (show _ = some (.int .i64 1) from rfl)
      have z8 := (blk_cell hx 8).trans (show _ = some (.int .i64 0) from rfl)
      have z9 := (blk_cell hx 9).trans (show _ = some (.int .i64 1) from rfl)
      have z10 := (blk_cell hx 10).trans (show _ = some (.int .i64 0) from rfl)
      have z11 := (blk_cell hx 11).trans (show _ = some (.int .i64 1) from rfl)
      have z12 := (blk_cell hx 12).trans (show _ = some (.int .i64 0) from rfl)
      have z13 := (blk_cell hx 13).trans (show _ = some (.int .i64 1) from rfl)
      go_wp2_with (with_reducible refine gate_store 35 ?_; refine ev_store_at (t := 35) (c' := #[.int .i64 0, .int .i64 1, .int .i64 0, .int .i64 1, .int .i64 0, .int .i64 1, .int .i64 0, .int .i64 1, .int .i64 0, .int .i64 1, .int .i64 0, .int .i64 1, .int .i64 0, .int .i64 1]) (cur' := #[.int .i64 0, .int .i64 1, .int .i64 0, .int .i64 1, .int .i64 0, .int .i64 1, .int .i64 0, .int .i64 1, .int .i64 0, .int .i64 1, .int .i64 0, .int .i64 1, .int .i64 0, .int .i64 1]) rfl rfl hx0 (by kernel_rfl) (by simp) (by kernel_rfl) rfl ?_; intro W2 hx2 h1; have HX2 := Aside0.mk hx2; have H1 := Aside0.mk h1; clear hx2 h1)
      exact bodyPost_ret (results_cell_row (p := 0) (ty := 35) rfl _ _ w.heap.size 35 _ (0, 0) _ rfl HX2.out hu35 rfl (by kernel_rfl)) rfl ⟨rfl, HB'.out.trans (H1.out.below (Nat.le_refl _))⟩
end Go.Proofs.Ytoonahobmlnflaa.PC

namespace Go.Proofs.Ytoonahobmlnflaa.PC
open Go.RowKit Go.Shelf Go.Proofs.YtoonahobmlnflaaW.PrintWords Go.Proofs.YtoonahobmlnflaaW.PrintLast Go.Proofs.YtoonahobmlnflaaW.PrintMore
set_option linter.unusedVariables false
set_option linter.unusedSimpArgs false

/-- Where the first element of which p holds stands; -1: none. -/
def idxP {α : Type} (p : α → Bool) : List α → Int → Int
  | [], _ => -1
  | e :: l, i => if p e then i else idxP p l (i + 1)
theorem idxP_ge {α : Type} (p : α → Bool) (l : List α) : ∀ i : Int, 0 ≤ i → decide (0 ≤ idxP p l i) = l.any p := by
  induction l with
  | nil => intro i _; simp [idxP]
  | cons e l ih =>
    intro i hi
    simp only [idxP, List.any_cons]
    by_cases hp : p e = true
    · simp [hp, hi]
    · have hf : p e = false := by simpa using hp
      simpa [hf] using ih (i + 1) (by omega)
theorem idxP_spec {α : Type} (p : α → Bool) (l : List α) : ∀ i : Int, 0 ≤ i → l.any p = true → ∃ k : Nat, k < l.length ∧ idxP p l i = i + k ∧ (∀ x, l[k]? = some x → p x = true) ∧ ∀ j : Nat, j < k → ∀ x, l[j]? = some x → p x = false := by
  induction l with
  | nil => intro i _ h; simp at h
  | cons e l ih =>
    intro i hi h
    by_cases hp : p e = true
    · refine ⟨0, by simp, by simp [idxP, hp], fun x hx => ?_, fun j hj => by omega⟩
      simp at hx; rw [← hx]; exact hp
    · have hf : p e = false := by simpa using hp
      obtain ⟨k, h1, h2, h3, h4⟩ := ih (i + 1) (by omega) (by simpa [hf] using h)
      refine ⟨k + 1, by simp; omega, by simp only [idxP, hf, Bool.false_eq_true, if_false]; rw [h2]; omega, fun x hx => h3 x (by simpa using hx), fun j hj x hx => ?_⟩
      cases j with
      | zero => simp at hx; rw [← hx]; exact hf
      | succ j => exact h4 j (by omega) x (by simpa using hx)
/-- What is asked of a predicate on numbers, at the elements of a list. -/
def PredI (g : Nat) (cap : Array Value) (p : Int → Bool) (l : List Int) (w : World) : Prop :=
  ∀ (W : World) (x : Int), x ∈ l → Below w.heap.size w W → Calls Try.prog g (#[.int .i64 x] ++ cap) W fun e w' => e = .returned (.bool (p x)) ∧ Below W.heap.size W w'

set_option maxHeartbeats 4000000 in
set_option maxRecDepth 100000 in
theorem idx70 (g : Nat) (cap : Array Value) (p : Int → Bool) (eg : ∀ args w, (callFunc g args).run Try.prog w = .ok (.enter g args) w) (A : Option Addr) (c : Nat) (l : List Int) (w : World)
    (hr : Kd.C (Kd.int .i64) w A l.length l) (hp : PredI g cap p l w) :
    Calls Try.prog 70 #[.slice A l.length c, .func (.func g) #[] cap] w fun e w' => e = .returned (.int .i64 (idxP p l 0)) ∧ Below w.heap.size w w' := by
  have hm : l.length ≤ 9223372036854775807 := hr.2.1
  have HR := Aside0.mk hr
  clear hr
  have HP := Aside0.mk hp
  clear hp
  go_enter Try.func70, Try.ntmps70
  go_wp2
  go_loopg [5, 8] l.length (fun gg _ s8 wr => ∃ kk : Nat, kk ≤ l.length ∧ l.length - kk ≤ gg ∧ s8 = .int .i64 kk ∧ Aside0 (Below w.heap.size w wr) ∧ Aside0 (idxP p l 0 = idxP p (l.drop kk) kk))
  case atStart => exact ⟨0, Nat.zero_le _, by omega, rfl, ⟨Below.refl _ w⟩, ⟨rfl⟩⟩
  case round =>
    obtain ⟨kk, hkk, hg, rfl, BW, A1⟩ := hrel
    by_cases hlt : kk < l.length
    · have hltz : (kk : Int) < (l.length : Int) := by omega
      obtain ⟨ad, rfl, hx0⟩ := Kd.at_int (Kd.C_below HR.out BW.out) (kk : Int) (by omega) hltz
      rw [Int.toNat_natCast] at hx0
      have hgd : rd l (kk : Int) = l[kk] := by simp [rd, List.getD_eq_getElem?_getD, List.getElem?_eq_getElem hlt]
      have hdr : l.drop kk = l[kk] :: l.drop (kk + 1) := (List.drop_eq_getElem_cons hlt)
      have hmem : rd l (kk : Int) ∈ l := by rw [hgd]; exact List.getElem_mem hlt
      generalize hy : rd l (kk : Int) = y at hx0 hmem
      have E1 := Aside0.mk (show l.drop kk = y :: l.drop (kk + 1) by rw [hdr, ← hgd, hy])
      clear hy hgd hdr
      have hcall := HP.out wr y hmem BW.out
      clear hmem
      cases hq : p y with
      | true =>
        rw [hq] at hcall
        have HCALL := Aside0.mk hcall
        clear hcall
        have E2 := Aside0.mk hq
        clear hq
        go_wp2_with (go_at_fn g; refine HCALL.out.mono ?_; rintro e w' ⟨rfl, hb'⟩)
        go_ret
        refine ⟨?_, below_step BW.out hb'⟩
        rw [A1.out, E1.out]; simp only [idxP, E2.out, if_true]; rfl
      | false =>
        rw [hq] at hcall
        have HCALL := Aside0.mk hcall
        clear hcall
        have E2 := Aside0.mk hq
        clear hq
        go_wp2_with (go_at_fn g; refine HCALL.out.mono ?_; rintro e w' ⟨rfl, hb'⟩)
        go_roundg (l.length - (kk + 1))
        case measure => omega
        case rel =>
          refine ⟨kk + 1, by omega, by omega, by go_num, ⟨below_step BW.out hb'⟩, ⟨?_⟩⟩
          rw [A1.out, E1.out]; show (if p y = true then _ else _) = _
          rw [if_neg (by rw [E2.out]; decide), show ((kk + 1 : Nat) : Int) = (kk : Int) + 1 from by omega]
    · have hltz : ¬ (kk : Int) < (l.length : Int) := by omega
      have E3 : Aside0 (l.drop kk = []) := ⟨List.drop_eq_nil_of_le (by omega)⟩
      go_wp2
      go_ret
      refine ⟨?_, BW.out⟩
      rw [A1.out, E3.out]; rfl

set_option maxHeartbeats 4000000 in
set_option maxRecDepth 100000 in
theorem contF42 (g : Nat) (cap : Array Value) (p : Int → Bool) (eg : ∀ args w, (callFunc g args).run Try.prog w = .ok (.enter g args) w) (A : Option Addr) (c : Nat) (l : List Int) (w : World)
    (hr : Kd.C (Kd.int .i64) w A l.length l) (hp : PredI g cap p l w) :
    Calls Try.prog 42 #[.slice A l.length c, .func (.func g) #[] cap] w fun e w' => e = .returned (.bool (l.any p)) ∧ Below w.heap.size w w' := by
  have h70 := idx70 g cap p eg A c l w hr hp
  have hge := idxP_ge p l 0 (by omega)
  have H70 := Aside0.mk h70
  have HG := Aside0.mk hge
  clear h70 hge hr hp
  go_enter Try.func42, Try.ntmps42
  generalize hi : idxP p l 0 = ii at H70 HG
  have HI := Aside0.mk hi
  clear hi
  go_wp2_with (go_at_call 70; refine H70.out.mono ?_; rintro e w' ⟨rfl, hb'⟩)
  go_ret
  exact ⟨by rw [HG.out]; rfl, hb'⟩

/-- Is a root none of a graph's nodes? -/
def outN (n : Nat) (r : Int) : Bool := decide (r < 0) || decide ((n : Int) ≤ r)
set_option maxHeartbeats 4000000 in
set_option maxRecDepth 100000 in
theorem out43 (x : Int) (g : Nat) (A : Option Addr) (n c : Nat) (W : World) (hg : W.heap[g]? = some (.cells #[.slice A n c] 22 (0, 0))) :
    Calls Try.prog 43 #[.int .i64 x, .pointer (some ⟨g, 0, none⟩)] W fun e w' => e = .returned (.bool (outN n x)) ∧ Below W.heap.size W w' := by
  have hz := (blk_cell hg 0).trans (show _ = some (.slice A n c) from rfl)
  have HB := Aside0.mk (Below.refl W.heap.size W)
  clear hg
  by_cases h1 : x < 0
  · have d1 : decide (x < 0) = true := decide_eq_true h1
    have HO := Aside0.mk (show outN n x = true by unfold outN; rw [d1]; rfl)
    go_enter Try.func43, Try.ntmps43
    go_wp2
    go_ret
    exact ⟨by rw [HO.out]; rfl, HB.out⟩
  · have d1 : decide (x < 0) = false := decide_eq_false h1
    have HO := Aside0.mk (show outN n x = decide ((n : Int) ≤ x) by unfold outN; rw [d1]; rfl)
    go_enter Try.func43, Try.ntmps43
    go_wp2
    go_ret
    exact ⟨by rw [HO.out]; rfl, HB.out⟩
end Go.Proofs.Ytoonahobmlnflaa.PC
namespace Go.Proofs.Ytoonahobmlnflaa.PC
open Go.RowKit Go.Shelf Go.Proofs.YtoonahobmlnflaaW.PrintWords Go.Proofs.YtoonahobmlnflaaW.PrintLast Go.Proofs.YtoonahobmlnflaaW.PrintMore
set_option linter.unusedVariables false
set_option linter.unusedSimpArgs false
def start63.T3 : Bool × List (List Nat × List Nat) := (true, [([], []), ([0], [0]), ([1], [1]), ([2], [2]), ([3], [3]), ([], []), ([5], [5]), ([6], [6]), ([7], [7]), ([8], [8]), ([4, 9], [4, 9]), ([10], [10]), ([11], [11]), ([12, 11, 11], [11, 12]), ([13, 11], [11, 13]), ([11, 14], [11, 14])])
def start63.B3 : List Nat := [0, 1, 3, 7, 15, 0, 32, 96, 224, 480, 1023, 2047, 4095, 8191, 16383, 32767]
theorem start63.tab3 : rtab .any (opsOf Try.f63 3) = start63.T3 := by kernel_rfl
theorem start63.bits3 : waitsOk start63.T3.2 start63.B3 = true := by kernel_rfl
def start63.T14 : Bool × List (List Nat × List Nat) := (true, [([], []), ([0], [0]), ([1], [1]), ([2, 1], [1, 2]), ([3, 1], [1, 3]), ([4, 1], [1, 4]), ([1], [1]), ([5, 6, 1], [1, 5, 6]), ([7, 1], [1, 7]), ([8, 1], [1, 8]), ([9, 1], [1, 9]), ([1, 10], [1, 10]), ([11, 1], [11]), ([12], [12]), ([13, 12], [12, 13]), ([14, 12], [12, 14]), ([15, 12], [12, 15]), ([12], [12]), ([16, 17, 12], [12, 16, 17]), ([18, 12], [12, 18]), ([19, 12], [12, 19]), ([20, 12], [12, 20]), ([12], [12]), ([22, 12], [12, 22]), ([23, 12], [12, 23]), ([24, 12], [12, 24]), ([25, 12], [12, 25]), ([21, 26, 12], [12, 21, 26]), ([12, 27], [12, 27])])
def start63.B14 : List Nat := [0, 1, 3, 7, 15, 31, 3, 127, 255, 511, 1023, 2047, 4095, 8191, 16383, 32767, 65535, 8191, 262143, 524287, 1048575, 2097151, 8191, 4202495, 12591103, 29368319, 62922751, 134217727, 268435455]
theorem start63.tab14 : rtab .any (opsOf Try.f63 14) = start63.T14 := by kernel_rfl
theorem start63.bits14 : waitsOk start63.T14.2 start63.B14 = true := by kernel_rfl
theorem right_plain (w : World) : Calls Try.prog 91 #[.agg #[.int .i64 0, .int .i64 1, .int .i64 0, .int .i64 1, .int .i64 0, .int .i64 1, .int .i64 0, .int .i64 1, .int .i64 0, .int .i64 1, .int .i64 0, .int .i64 1, .int .i64 0, .int .i64 1]] w fun e w' => e = .returned (.bool true) ∧ Below w.heap.size w w' :=
  unit_Right.calls 0 1 0 1 0 1 0 1 0 1 0 1 0 1 true w (by kernel_rfl)
theorem ops_of_graph {nodes : List S37} (h : graphB nodes = true) : OpsOK nodes ∧ nodes.length ≤ 4000 := by
  unfold graphB at h
  rw [Bool.and_eq_true, decide_eq_true_iff] at h
  refine ⟨fun i i0 i1 => ?_, h.2⟩
  have h1 := h.1
  unfold okTo at h1
  rw [List.all_eq_true] at h1
  have h2 := h1 i.toNat (List.mem_range.2 (by omega))
  rw [show ((i.toNat : Nat) : Int) = i by omega] at h2
  unfold okN at h2
  simp only [Bool.and_eq_true, Bool.or_eq_true, decide_eq_true_eq] at h2
  obtain ⟨⟨⟨⟨⟨_, h3⟩, h4⟩, _⟩, _⟩, _⟩ := h2
  exact ⟨fun hk => by omega, fun hk => by omega⟩
theorem needS_none (nodes : List S37) (n : Nat) (i : Nat) : needS nodes (List.replicate n false) i = List.replicate n false := by
  have e : rdOf false (List.replicate n false) (i : Int) = false := by unfold rdOf; rw [List.getD_eq_getElem?_getD, List.getElem?_replicate]; split <;> rfl
  unfold needS
  rw [e]
  simp
theorem needB_nil (nodes : List S37) : needB nodes [] = List.replicate nodes.length false := by
  unfold needB
  rw [List.foldl_nil]
  generalize dn nodes.length 0 = l
  induction l with
  | nil => rfl
  | cons a l ih => rw [List.foldl_cons, needS_none]; exact ih
theorem rd_no (n : Nat) (j : Int) : rdOf false (List.replicate n false) j = false := by unfold rdOf; rw [List.getD_eq_getElem?_getD, List.getElem?_replicate]; split <;> rfl
theorem en90 (args : Array Value) (w : World) : (callFunc 90 args).run Try.prog w = .ok (.enter 90 args) w := enters_of Try.func90 (by kernel_rfl) rfl args w
set_option maxHeartbeats 4000000 in
set_option maxRecDepth 100000 in
theorem start63 (nodes : List S37) (A : Option Addr) (c gF : Nat) (w : World) (hC : Kd.C k37 w A nodes.length nodes) (hc : nodes.length ≤ c) (hI : ∀ x ∈ nodes, NodeI x)
    (hF : w.heap[gF]? = some (.cells #[.slice A nodes.length c, .slice none 0 0, .slice none 0 0, .slice none 0 0, .int .i64 0, .int .i64 0, .int .i64 0, .int .i64 0, .int .i64 0, .int .i64 0, .int .i64 0, .int .i64 0, .int .i64 0, .int .i64 0, .int .i64 0, .int .i64 0, .int .i64 0, .int .i64 0, .slice none 0 0, .slice none 0 0, .slice none 0 0, .slice none 0 0] 120 (0, 0))) :
    Calls Try.prog 63 #[.pointer (some ⟨gF, 0, none⟩), .slice none 0 0, .agg #[.int .i64 0, .int .i64 1, .int .i64 0, .int .i64 1, .int .i64 0, .int .i64 1, .int .i64 0, .int .i64 1, .int .i64 0, .int .i64 1, .int .i64 0, .int .i64 1, .int .i64 0, .int .i64 1]] w fun e w' => e = .returned (.int .i64 (if graphB nodes then 0 else 170)) ∧ Below w.heap.size w w' := by
  have hu35 := Try.underlying35
  have hu120 := Try.underlying120
  have hm := Kd.C_max hC
  have hlF := blk_lt hF
  have hx3 := heap_alloc_last w (.cells #[.pointer (some ⟨gF, 0, none⟩)] 114)
  have hx5 := heap_alloc_last (w.alloc (.cells #[.pointer (some ⟨gF, 0, none⟩)] 114)) (.cells #[.int .i64 0, .int .i64 1, .int .i64 0, .int .i64 1, .int .i64 0, .int .i64 1, .int .i64 0, .int .i64 1, .int .i64 0, .int .i64 1, .int .i64 0, .int .i64 1, .int .i64 0, .int .i64 1] 35)
  rw [World.size_alloc] at hx5
  have hx3' := blk_alloc hx3 (.cells #[.int .i64 0, .int .i64 1, .int .i64 0, .int .i64 1, .int .i64 0, .int .i64 1, .int .i64 0, .int .i64 1, .int .i64 0, .int .i64 1, .int .i64 0, .int .i64 1, .int .i64 0, .int .i64 1] 35)
  have hF' := blk_alloc (blk_alloc hF (.cells #[.pointer (some ⟨gF, 0, none⟩)] 114)) (.cells #[.int .i64 0, .int .i64 1, .int .i64 0, .int .i64 1, .int .i64 0, .int .i64 1, .int .i64 0, .int .i64 1, .int .i64 0, .int .i64 1, .int .i64 0, .int .i64 1, .int .i64 0, .int .i64 1] 35)
  have hb := below_alloc (below_alloc (Below.refl w.heap.size w) (.cells #[.pointer (some ⟨gF, 0, none⟩)] 114)) (.cells #[.int .i64 0, .int .i64 1, .int .i64 0, .int .i64 1, .int .i64 0, .int .i64 1, .int .i64 0, .int .i64 1, .int .i64 0, .int .i64 1, .int .i64 0, .int .i64 1, .int .i64 0, .int .i64 1] 35)
  have hC' := Kd.C_below hC hb
  have HB := Aside0.mk hb
  have HC := Aside0.mk hC
  have HI := Aside0.mk hI
  have HF := Aside0.mk hF'
  have HX3 := Aside0.mk hx3'
  have HX5 := Aside0.mk hx5
  have HLF := Aside0.mk hlF
  clear hC hC' hI hF hF' hb hx3 hx3' hx5 hlF
  have z1 := (blk_cell HF.out 0).trans (show _ = some (.slice A nodes.length c) from rfl)
  have HS := Aside0.mk (show gF < w.heap.size + 2 by have := HLF.out; omega)
  have hsz : ((w.alloc (.cells #[.pointer (some ⟨gF, 0, none⟩)] 114)).alloc (.cells #[.int .i64 0, .int .i64 1, .int .i64 0, .int .i64 1, .int .i64 0, .int .i64 1, .int .i64 0, .int .i64 1, .int .i64 0, .int .i64 1, .int .i64 0, .int .i64 1, .int .i64 0, .int .i64 1] 35)).heap.size = w.heap.size + 2 := by simp
  have hg := graph89 nodes A c ((w.alloc (.cells #[.pointer (some ⟨gF, 0, none⟩)] 114)).alloc (.cells #[.int .i64 0, .int .i64 1, .int .i64 0, .int .i64 1, .int .i64 0, .int .i64 1, .int .i64 0, .int .i64 1, .int .i64 0, .int .i64 1, .int .i64 0, .int .i64 1, .int .i64 0, .int .i64 1] 35)) (Kd.C_below HC.out HB.out) hc HI.out
  have HG := Aside0.mk hg
  have HSZ := Aside0.mk hsz
  clear hg hsz
  go_enter Try.func63, Try.ntmps63
  cases hgb : graphB nodes with
  | false =>
    rw [hgb] at HG
    clear hgb
    go_wp2_with (go_at_call 89; refine HG.out.mono ?_; rintro e w7 ⟨rfl, hd⟩; have HB7 := Aside0.mk (below_step HB.out hd); clear hd)
    go_ret
    exact ⟨rfl, HB7.out⟩
  | true =>
    rw [hgb] at HG
    have HGB := Aside0.mk hgb
    clear hgb
    go_wp2_with (first | (go_at_call 89; refine HG.out.mono ?_; rintro e w7 ⟨rfl, hd⟩; have HB7 := Aside0.mk (below_step HB.out hd); have HF7 := Aside0.mk (blk_below HF.out hd); have HX37 := Aside0.mk (blk_below HX3.out hd); have HX57 := Aside0.mk (blk_below HX5.out hd); have HZ7 := Aside0.mk hd.size; clear hd HB HF HX3 HX5) | (go_at_call 42; refine (contF42 90 #[.pointer (some ⟨w.heap.size, 0, none⟩)] (fun _ => false) en90 none 0 [] _ (Kd.C_nil _ _) (fun W x hx => by cases hx)).mono ?_; rintro e w8 ⟨rfl, hd⟩; have HB8 := Aside0.mk (below_step HB7.out hd); have HF8 := Aside0.mk (blk_below HF7.out hd); have HX38 := Aside0.mk (blk_below HX37.out hd); have HX58 := Aside0.mk (blk_below HX57.out hd); have HZ8 := Aside0.mk (Nat.le_trans HZ7.out hd.size); clear hd HB7 HF7 HX37 HX57 HZ7))
    have HX39 := Aside0.mk (blk_drew HX38.out)
    have HX59 := Aside0.mk (blk_drew HX58.out)
    have HF9 := Aside0.mk (blk_drew HF8.out)
    have HB9 := Aside0.mk (below_drew1 HB8.out)
    have HZ9 := Aside0.mk (show _ ≤ w8.drew.heap.size from HZ8.out)
    clear HX38 HX58 HF8 HB8 HZ8
    refine start_ (n := 16) (S := fun w' => w'.cell? ⟨w.heap.size, 0, none⟩ = some (.pointer (some ⟨gF, 0, none⟩)) ∧ w'.cell? ⟨gF, 1, none⟩ = some (.slice none 0 0) ∧ w'.cell? ⟨gF, 2, none⟩ = some (.slice none 0 0) ∧ w'.cell? ⟨w.heap.size + 1, 0, none⟩ = some (.int .i64 0) ∧ w'.cell? ⟨w.heap.size + 1, 1, none⟩ = some (.int .i64 1) ∧ w'.cell? ⟨w.heap.size + 1, 2, none⟩ = some (.int .i64 0) ∧ w'.cell? ⟨w.heap.size + 1, 3, none⟩ = some (.int .i64 1) ∧ w'.cell? ⟨w.heap.size + 1, 4, none⟩ = some (.int .i64 0) ∧ w'.cell? ⟨w.heap.size + 1, 5, none⟩ = some (.int .i64 1) ∧ w'.cell? ⟨w.heap.size + 1, 6, none⟩ = some (.int .i64 0) ∧ w'.cell? ⟨w.heap.size + 1, 7, none⟩ = some (.int .i64 1) ∧ w'.cell? ⟨w.heap.size + 1, 8, none⟩ = some (.int .i64 0) ∧ w'.cell? ⟨w.heap.size + 1, 9, none⟩ = some (.int .i64 1) ∧ w'.cell? ⟨w.heap.size + 1, 10, none⟩ = some (.int .i64 0) ∧ w'.cell? ⟨w.heap.size + 1, 11, none⟩ = some (.int .i64 1) ∧ w'.cell? ⟨w.heap.size + 1, 12, none⟩ = some (.int .i64 0) ∧ w'.cell? ⟨w.heap.size + 1, 13, none⟩ = some (.int .i64 1)) (ds := []) (msk 16 0) (by kernel_rfl) rfl rfl ⟨(blk_cell HX39.out 0).trans rfl, (blk_cell HF9.out 1).trans rfl, (blk_cell HF9.out 2).trans rfl, (blk_cell HX59.out 0).trans rfl, (blk_cell HX59.out 1).trans rfl, (blk_cell HX59.out 2).trans rfl, (blk_cell HX59.out 3).trans rfl, (blk_cell HX59.out 4).trans rfl, (blk_cell HX59.out 5).trans rfl, (blk_cell HX59.out 6).trans rfl, (blk_cell HX59.out 7).trans rfl, (blk_cell HX59.out 8).trans rfl, (blk_cell HX59.out 9).trans rfl, (blk_cell HX59.out 10).trans rfl, (blk_cell HX59.out 11).trans rfl, (blk_cell HX59.out 12).trans rfl, (blk_cell HX59.out 13).trans rfl⟩ (fun hHeld => ?_); refine with_tabW start63.tab3 start63.bits3 (fun HT_ HW_ => ?_)
    generalize w8.drew = w9 at HX39 HX59 HF9 HB9 HZ9 hHeld ⊢
    refine tk_ 0 22 (msk 16 1) HT_.out HW_.out hHeld ?_ ?_ ?_ ?_ ?_
    rotate_left
    · rintro w' ⟨s0, s1, s2, s3, s4, s5, s6, s7, s8, s9, s10, s11, s12, s13, s14, s15, s16⟩; go_simp; with_reducible rfl
    rotate_left
    · simp only [Act.put, sq, i64_w, i32_w]; rfl
    refine pu_ 1 23 (msk 16 3) HT_.out ?_ ?_ ?_ ?_ ?_
    rotate_left
    · intro w'; go_simp; with_reducible rfl
    rotate_left
    · simp only [Act.put, sq, i64_w, i32_w]; rfl
    refine pu_ 2 24 (msk 16 7) HT_.out ?_ ?_ ?_ ?_ ?_
    rotate_left
    · intro w'; go_simp; with_reducible rfl
    rotate_left
    · simp only [Act.put, sq, i64_w, i32_w]; rfl
    refine tk_ 3 25 (msk 16 15) HT_.out HW_.out hHeld ?_ ?_ ?_ ?_ ?_
    rotate_left
    · rintro w' ⟨s0, s1, s2, s3, s4, s5, s6, s7, s8, s9, s10, s11, s12, s13, s14, s15, s16⟩; go_simp; with_reducible rfl
    rotate_left
    · simp only [Act.put, sq, i64_w, i32_w]; rfl
    refine pu_ 4 26 (msk 16 31) HT_.out ?_ ?_ ?_ ?_ ?_
    rotate_left
    · intro w'; go_simp; with_reducible rfl
    rotate_left
    · simp only [Act.put, sq, i64_w, i32_w]; rfl
    refine tk_ 5 27 (msk 16 63) HT_.out HW_.out hHeld ?_ ?_ ?_ ?_ ?_
    rotate_left
    · rintro w' ⟨s0, s1, s2, s3, s4, s5, s6, s7, s8, s9, s10, s11, s12, s13, s14, s15, s16⟩; go_simp; with_reducible rfl
    rotate_left
    · simp only [Act.put, sq, i64_w, i32_w]; rfl
    refine pu_ 6 28 (msk 16 127) HT_.out ?_ ?_ ?_ ?_ ?_
    rotate_left
    · intro w'; go_simp; with_reducible rfl
    rotate_left
    · simp only [Act.put, sq, i64_w, i32_w]; rfl
    refine pu_ 7 29 (msk 16 255) HT_.out ?_ ?_ ?_ ?_ ?_
    rotate_left
    · intro w'; go_simp; with_reducible rfl
    rotate_left
    · simp only [Act.put, sq, i64_w, i32_w]; rfl
    refine tk_ 8 30 (msk 16 511) HT_.out HW_.out hHeld ?_ ?_ ?_ ?_ ?_
    rotate_left
    · rintro w' ⟨s0, s1, s2, s3, s4, s5, s6, s7, s8, s9, s10, s11, s12, s13, s14, s15, s16⟩; go_simp; with_reducible rfl
    rotate_left
    · simp only [Act.put, sq, i64_w, i32_w]; rfl
    refine pu_ 9 31 (msk 16 1023) HT_.out ?_ ?_ ?_ ?_ ?_
    rotate_left
    · intro w'; go_simp; with_reducible rfl
    rotate_left
    · simp only [Act.put, sq, i64_w, i32_w]; rfl
    refine pu_ 10 32 (msk 16 2047) HT_.out ?_ ?_ ?_ ?_ ?_
    rotate_left
    · intro w'; go_simp; with_reducible rfl
    rotate_left
    · simp only [Act.put, sq, i64_w, i32_w]; rfl
    refine pu_ 11 33 (msk 16 4095) HT_.out ?_ ?_ ?_ ?_ ?_
    rotate_left
    · intro w'; go_simp; with_reducible rfl
    rotate_left
    · simp only [Act.put, sq, i64_w, i32_w]; rfl
    refine tk_ 12 34 (msk 16 8191) HT_.out HW_.out hHeld ?_ ?_ ?_ ?_ ?_
    rotate_left
    · rintro w' ⟨s0, s1, s2, s3, s4, s5, s6, s7, s8, s9, s10, s11, s12, s13, s14, s15, s16⟩; go_simp; with_reducible rfl
    rotate_left
    · simp only [Act.put, sq, i64_w, i32_w]; rfl
    refine one_ (i := 13) (N := some 35) (msk 16 16383) rfl rfl (one_of HT_.out (by kernel_rfl)) (by decide) (fun K hK => ?_)
    refine goes_ Try.func91 (by kernel_rfl) rfl #[.agg #[.int .i64 0, .int .i64 1, .int .i64 0, .int .i64 1, .int .i64 0, .int .i64 1, .int .i64 0, .int .i64 1, .int .i64 0, .int .i64 1, .int .i64 0, .int .i64 1, .int .i64 0, .int .i64 1]] (by rfl) rfl rfl (by (try simp only [List.map_toArray, List.map_cons, List.map_nil]); first | done | rfl) ?_
    refine (right_plain _).mono ?_
    rintro e w10 ⟨rfl, hd⟩
    refine ⟨_, rfl, ?_⟩
    have HX3a := Aside0.mk (blk_below HX39.out hd)
    have HX5a := Aside0.mk (blk_below HX59.out hd)
    have HFa := Aside0.mk (blk_below HF9.out hd)
    have HBa := Aside0.mk (below_step HB9.out hd)
    have HZa := Aside0.mk (Nat.le_trans HZ9.out hd.size)
    clear hd HX39 HX59 HF9 HB9 HZ9
    refine hK.out _ _ ⟨(blk_cell HX3a.out 0).trans rfl, (blk_cell HFa.out 1).trans rfl, (blk_cell HFa.out 2).trans rfl, (blk_cell HX5a.out 0).trans rfl, (blk_cell HX5a.out 1).trans rfl, (blk_cell HX5a.out 2).trans rfl, (blk_cell HX5a.out 3).trans rfl, (blk_cell HX5a.out 4).trans rfl, (blk_cell HX5a.out 5).trans rfl, (blk_cell HX5a.out 6).trans rfl, (blk_cell HX5a.out 7).trans rfl, (blk_cell HX5a.out 8).trans rfl, (blk_cell HX5a.out 9).trans rfl, (blk_cell HX5a.out 10).trans rfl, (blk_cell HX5a.out 11).trans rfl, (blk_cell HX5a.out 12).trans rfl, (blk_cell HX5a.out 13).trans rfl⟩ (fun hHeld => ?_)
    clear hK K
    refine norm_ (a' := ?_) ?_ ?_
    rotate_left
    · show Act.put _ (some 35) _ = _
      simp only [Act.put, sq, i64_w, i32_w]
      rfl
    refine pu_ 14 36 (msk 16 32767) HT_.out ?_ ?_ ?_ ?_ ?_
    rotate_left
    · intro w'; go_simp; with_reducible rfl
    rotate_left
    · simp only [Act.put, sq, i64_w, i32_w]; rfl
    refine pu_ 15 37 (msk 16 65535) HT_.out ?_ ?_ ?_ ?_ ?_
    rotate_left
    · intro w'; go_simp; with_reducible rfl
    rotate_left
    · simp only [Act.put, sq, i64_w, i32_w]; rfl
    refine done_ (done_of HT_.out (by kernel_rfl)) ?_
    go_wp2
    go_loopw [43] (fun i wr => i = .int .i64 0 ∧ wr = w10) (fun i _ => 0)
    case atStart => exact ⟨rfl, rfl⟩
    case round =>
      obtain ⟨rfl, rfl⟩ := hrel
      obtain ⟨hok, hl4⟩ := ops_of_graph HGB.out
      have zF := (blk_cell HFa.out 0).trans (show _ = some (.slice A nodes.length c) from rfl)
      have zX := (blk_cell HX3a.out 0).trans (show _ = some (.pointer (some ⟨gF, 0, none⟩)) from rfl)
      have hn := needed66 nodes [] A c none 0 wr (Kd.C_below HC.out HBa.out) hc (Kd.C_nil _ _) (Nat.le_refl _) (fun r hr => by cases hr) hok (by omega)
      rw [needB_nil] at hn
      have HN := Aside0.mk hn
      clear hn hok HGB
      go_wp2_with (go_at_call 66; refine HN.out.mono ?_; rintro e w11 ⟨v, rfl, ho, hd⟩; obtain ⟨Av, cv, ev⟩ := Kd.R_slice ho; subst ev; rw [List.length_replicate] at ho; have HO := Aside0.mk ho; have HBb := Aside0.mk (below_step HBa.out hd); have HXb := Aside0.mk (blk_below HX3a.out hd); clear ho hd HBa HX3a HFa HX5a HZa zF zX)
      generalize wr.heap.size = B0 at HO
      go_loopw [68] (fun i wr2 => ∃ j : Nat, i = .int .i64 (j : Int) ∧ Aside0 (j ≤ nodes.length) ∧ Aside0 (Below w.heap.size w wr2) ∧ Aside0 (Kd.bool.R 4 wr2 B0 (fun _ => True) (.slice Av nodes.length cv) (List.replicate nodes.length false))) (fun i _ => nodes.length - (intOf i).toNat)
      case atStart => exact ⟨0, rfl, ⟨Nat.zero_le _⟩, HBb, HO⟩
      case round =>
        obtain ⟨j, rfl, HJ, HBr, HOr⟩ := hrel
        clear HO HBb HXb
        by_cases hlt : j < nodes.length
        · obtain ⟨go, co, eo, gb, gl, cl, HGo⟩ := Kd.R_form HOr.out (by rw [List.length_replicate]; omega)
          injection eo with ea en ec
          subst ea
          obtain ⟨zc, _⟩ := Kd.R_celln false HOr.out (j : Int) (by omega) (by omega)
          rw [rd_no, Int.toNat_natCast] at zc
          clear gb gl cl HGo en ec
          have HLT := Aside0.mk hlt
          have hltz : (j : Int) < (nodes.length : Int) := by omega
          have hj0 : (0 : Int) ≤ (j : Int) := by omega
          have HW := Aside0.mk (show wrap64 ((j : Int) + 1) = ((j + 1 : Nat) : Int) by unfold wrap64; have := HLT.out; omega)
          have fin : ∀ W : World, Below w.heap.size w W → Kd.bool.R 4 W B0 (fun x => True) (Value.slice (some ⟨go, 0, none⟩) nodes.length cv) (List.replicate nodes.length false) → (∃ j_1 : Nat, Value.int .i64 (wrap64 ((j : Int) + 1)) = .int .i64 (j_1 : Int) ∧ Aside0 (j_1 ≤ nodes.length) ∧ Aside0 (Below w.heap.size w W) ∧ Aside0 (Kd.bool.R 4 W B0 (fun x => True) (Value.slice (some ⟨go, 0, none⟩) nodes.length cv) (List.replicate nodes.length false))) ∧ nodes.length - (intOf (.int .i64 (wrap64 ((j : Int) + 1)))).toNat < nodes.length - (intOf (.int .i64 (j : Int))).toNat := by
            intro W h1 h2
            rw [HW.out]
            refine ⟨⟨j + 1, rfl, ⟨hlt⟩, ⟨h1⟩, ⟨h2⟩⟩, ?_⟩
            simp only [intOf]
            omega
          have FIN := Aside0.mk fin
          clear hlt fin
          replace hltz := eq_true hltz
          replace hj0 := eq_true hj0
          go_wp2
          refine start_ (n := 29) (S := fun _ => True) (ds := []) (msk 29 0) (by kernel_rfl) rfl rfl trivial (fun hHeld => ?_); refine with_tabW start63.tab14 start63.bits14 (fun HT_ HW_ => ?_)
          refine pu_ 0 73 (msk 29 1) HT_.out ?_ ?_ ?_ ?_ ?_
          rotate_left
          · intro w'; go_simp; with_reducible rfl
          rotate_left
          · simp only [Act.put, sq, i64_w, i32_w]; rfl
          refine pu_ 1 74 (msk 29 3) HT_.out ?_ ?_ ?_ ?_ ?_
          rotate_left
          · intro w'; go_simp; with_reducible rfl
          rotate_left
          · simp only [Act.put, sq, i64_w, i32_w]; rfl
          refine pv_ 2 75 (msk 29 7) HT_.out ?_ ?_ ?_
          rotate_left
          · simp only [Act.put, sq, i64_w, i32_w]; rfl
          refine pv_ 3 76 (msk 29 15) HT_.out ?_ ?_ ?_
          rotate_left
          · simp only [Act.put, sq, i64_w, i32_w]; rfl
          refine pv_ 4 77 (msk 29 31) HT_.out ?_ ?_ ?_
          rotate_left
          · simp only [Act.put, sq, i64_w, i32_w]; rfl
          refine pv_ 5 78 (msk 29 63) HT_.out ?_ ?_ ?_
          rotate_left
          · simp only [Act.put, sq, i64_w, i32_w]; rfl
          refine pv_ 6 79 (msk 29 127) HT_.out ?_ ?_ ?_
          rotate_left
          · simp only [Act.put, sq, i64_w, i32_w]; rfl
          refine pv_ 7 80 (msk 29 255) HT_.out ?_ ?_ ?_
          rotate_left
          · simp only [Act.put, sq, i64_w, i32_w]; rfl
          refine pv_ 8 81 (msk 29 511) HT_.out ?_ ?_ ?_
          rotate_left
          · simp only [Act.put, sq, i64_w, i32_w]; rfl
          refine pv_ 9 82 (msk 29 1023) HT_.out ?_ ?_ ?_
          rotate_left
          · simp only [Act.put, sq, i64_w, i32_w]; rfl
          refine pv_ 10 83 (msk 29 2047) HT_.out ?_ ?_ ?_
          rotate_left
          · simp only [Act.put, sq, i64_w, i32_w]; rfl
          refine pu_ 11 84 (msk 29 4095) HT_.out ?_ ?_ ?_ ?_ ?_
          rotate_left
          · intro w'; go_simp; with_reducible rfl
          rotate_left
          · simp only [Act.put, sq, i64_w, i32_w]; rfl
          refine pu_ 12 85 (msk 29 8191) HT_.out ?_ ?_ ?_ ?_ ?_
          rotate_left
          · intro w'; go_simp; with_reducible rfl
          rotate_left
          · simp only [Act.put, sq, i64_w, i32_w]; rfl
          refine pv_ 13 86 (msk 29 16383) HT_.out ?_ ?_ ?_
          rotate_left
          · simp only [Act.put, sq, i64_w, i32_w]; rfl
          refine pv_ 14 87 (msk 29 32767) HT_.out ?_ ?_ ?_
          rotate_left
          · simp only [Act.put, sq, i64_w, i32_w]; rfl
          refine pv_ 15 88 (msk 29 65535) HT_.out ?_ ?_ ?_
          rotate_left
          · simp only [Act.put, sq, i64_w, i32_w]; rfl
          refine pv_ 16 89 (msk 29 131071) HT_.out ?_ ?_ ?_
          rotate_left
          · simp only [Act.put, sq, i64_w, i32_w]; rfl
          refine pv_ 17 90 (msk 29 262143) HT_.out ?_ ?_ ?_
          rotate_left
          · simp only [Act.put, sq, i64_w, i32_w]; rfl
          refine pv_ 18 91 (msk 29 524287) HT_.out ?_ ?_ ?_
          rotate_left
          · simp only [Act.put, sq, i64_w, i32_w]; rfl
          refine pv_ 19 92 (msk 29 1048575) HT_.out ?_ ?_ ?_
          rotate_left
          · simp only [Act.put, sq, i64_w, i32_w]; rfl
          refine pv_ 20 93 (msk 29 2097151) HT_.out ?_ ?_ ?_
          rotate_left
          · simp only [Act.put, sq, i64_w, i32_w]; rfl
          refine pv_ 21 94 (msk 29 4194303) HT_.out ?_ ?_ ?_
          rotate_left
          · simp only [Act.put, sq, i64_w, i32_w]; rfl
          refine pv_ 22 95 (msk 29 8388607) HT_.out ?_ ?_ ?_
          rotate_left
          · simp only [Act.put, sq, i64_w, i32_w]; rfl
          refine pv_ 23 96 (msk 29 16777215) HT_.out ?_ ?_ ?_
          rotate_left
          · simp only [Act.put, sq, i64_w, i32_w]; rfl
          refine pv_ 24 97 (msk 29 33554431) HT_.out ?_ ?_ ?_
          rotate_left
          · simp only [Act.put, sq, i64_w, i32_w]; rfl
          refine pv_ 25 98 (msk 29 67108863) HT_.out ?_ ?_ ?_
          rotate_left
          · simp only [Act.put, sq, i64_w, i32_w]; rfl
          refine pv_ 26 99 (msk 29 134217727) HT_.out ?_ ?_ ?_
          rotate_left
          · simp only [Act.put, sq, i64_w, i32_w]; rfl
          refine pv_ 27 100 (msk 29 268435455) HT_.out ?_ ?_ ?_
          rotate_left
          · simp only [Act.put, sq, i64_w, i32_w]; rfl
          refine pu_ 28 101 (msk 29 536870911) HT_.out ?_ ?_ ?_ ?_ ?_
          rotate_left
          · intro w'; go_simp; with_reducible rfl
          rotate_left
          · simp only [Act.put, sq, i64_w, i32_w]; rfl
          refine done_ (done_of HT_.out (by kernel_rfl)) ?_
          go_wp2
          exact FIN.out _ (below_drew1 HBr.out) (Kd.R_drew HOr.out)
        · have hltz : ¬ (j : Int) < (nodes.length : Int) := by omega
          clear hlt
          go_wp2
          go_ret
          exact ⟨rfl, HBr.out⟩
end Go.Proofs.Ytoonahobmlnflaa.PC
namespace Go.Proofs.Ytoonahobmlnflaa.PC
open Go.RowKit Go.Shelf Go.Proofs.YtoonahobmlnflaaW.PrintWords Go.Proofs.YtoonahobmlnflaaW.PrintLast Go.Proofs.YtoonahobmlnflaaW.PrintMore
set_option linter.unusedVariables false
set_option linter.unusedSimpArgs false
section
variable {P : Program} {ops : Array Oper} {Q : Exit → Act → World → Prop} {md : Region.Mode}
/-- A region that draws its order, by what every step keeps. -/
theorem wpAny_keeps {Inv : Array Bool → Act → World → Prop} (he : ∀ l a w, Inv l a w → Region.ready md ops l = [] → Q .normal a w)
    (hs : ∀ l a w, Inv l a w → ∀ i ∈ Region.ready md ops l, wpOp P ops Q i (Inv (l.setIfInBounds i true)) a w) :
    ∀ (fuel : Nat) (l : Array Bool) (a : Act) (w : World), Inv l a w → l.toList.count false ≤ fuel → wpAny P md ops Q fuel l a w := by
  have key : ∀ (l : Array Bool) (i : Nat), i ∈ Region.ready md ops l → l.toList.count false = (l.setIfInBounds i true).toList.count false + 1 := by
    intro l i hi
    obtain ⟨h1, _⟩ := mem_ready.1 hi
    by_cases hlt : i < l.size
    · have hlt' : i < l.toList.length := by simpa using hlt
      have h2 : l.toList[i] = false := by simpa [Array.getD, hlt] using h1
      rw [Array.toList_setIfInBounds]
      have hc := List.count_set (l := l.toList) (a := true) (b := false) hlt'
      rw [h2] at hc
      have : 0 < l.toList.count false := List.count_pos_iff.2 (h2 ▸ List.getElem_mem hlt')
      rw [if_pos (by rfl), if_neg (by decide)] at hc
      omega
    · simp [Array.getD, hlt] at h1
  intro fuel
  induction fuel with
  | zero =>
    intro l a w h hc
    have hr : Region.ready md ops l = [] := List.eq_nil_iff_forall_not_mem.2 fun i hi => by have := key l i hi; omega
    exact ⟨hr, he l a w h hr⟩
  | succ fuel ih =>
    intro l a w h hc
    refine ⟨fun hr => he l a w h hr, fun i hi => wpOp_mono (fun a' w' h' => ih _ a' w' h' ?_) (hs l a w h i hi)⟩
    have := key l i hi
    omega
theorem wpOp_of {i : Nat} {K : Act → World → Prop} {a : Act} {w : World} {o : Oper} (ho : ops[i]? = some o) (hg : o.guard = none) (h : Oper.wp P o a w K Q) : wpOp P ops Q i K a w := by
  unfold wpOp
  rw [ho]
  simp only
  rw [if_pos (by unfold Region.wanted; rw [hg])]
  exact Or.inl h
theorem wpOp_if {i : Nat} {K : Act → World → Prop} {a : Act} {w : World} {o : Oper} (ho : ops[i]? = some o) (h : if Region.wanted o (yielded ops a.tmps) = true then Oper.wp P o a w K Q else K (a.put o.dst undef) w) : wpOp P ops Q i K a w := by
  unfold wpOp
  rw [ho]
  simp only
  split
  · rw [if_pos (by assumption)] at h; exact Or.inl h
  · rw [if_neg (by assumption)] at h; exact h
theorem ready_lt {l : Array Bool} {i : Nat} (hi : i ∈ Region.ready md ops l) : i < ops.size := by
  obtain ⟨_, o, ho, _⟩ := mem_ready.1 hi
  exact (Array.getElem?_eq_some_iff.1 ho).1
theorem ready_dep {l : Array Bool} {i : Nat} (j : Nat) (hi : i ∈ Region.ready md ops l) (h : ((ops[i]?).map fun o => o.after.toList.any fun e => Region.binds md e && e.on == j) = some true) : l.getD j false = true := by
  obtain ⟨_, o, ho, hall⟩ := mem_ready.1 hi
  rw [ho] at h
  simp only [Option.map_some, Option.some.injEq, List.any_eq_true, Bool.and_eq_true, beq_iff_eq] at h
  obtain ⟨e, he, hb, rfl⟩ := h
  exact hall e (Array.mem_def.2 he) hb
theorem ready_all {l : Array Bool} (hr : Region.ready md ops l = []) (hsz : l.size = ops.size) (hb : ((List.range ops.size).all fun j => (ops[j]?).all fun o => o.after.toList.all fun e => decide (e.on < j)) = true) : ∀ j, j < ops.size → l.getD j false = true := by
  intro j
  induction j using Nat.strongRecOn with
  | _ j ih =>
    intro hj
    have h1 := List.all_eq_true.1 hb j (List.mem_range.2 hj)
    rw [Array.getElem?_eq_getElem hj, Option.all_some] at h1
    by_cases hl : l.getD j false = true
    · exact hl
    · exfalso
      have : j ∈ Region.ready md ops l := by
        refine mem_ready.2 ⟨?_, ops[j], Array.getElem?_eq_getElem hj, fun e he _ => ?_⟩
        · have hlt : j < l.size := by omega
          simp [Array.getD, hlt] at hl ⊢
          exact hl
        · have := List.all_eq_true.1 h1 e (Array.mem_def.1 he)
          have hlt := of_decide_eq_true this
          exact ih _ hlt (by omega)
      rw [hr] at this
      cases this
theorem set_old {l : Array Bool} {i j : Nat} (h : (l.setIfInBounds i true).getD j false = true) (hne : i ≠ j) : l.getD j false = true := by
  rwa [getD_set_ne false hne] at h
end
section
variable {ops : Array Oper} {md : Region.Mode} {l : Array Bool} {i : Nat}
theorem ready_not (hi : i ∈ Region.ready md ops l) (h : l.getD i false = true) : False := by
  obtain ⟨h1, _⟩ := mem_ready.1 hi
  by_cases hlt : i < l.size
  · simp [Array.getD, hlt] at h h1
    rw [h1] at h
    cases h
  · simp [Array.getD, hlt] at h1
end
end Go.Proofs.Ytoonahobmlnflaa.PC
namespace Go.Proofs.Ytoonahobmlnflaa.PC
open Go.RowKit Go.Shelf Go.Proofs.YtoonahobmlnflaaW.PrintWords Go.Proofs.YtoonahobmlnflaaW.PrintLast Go.Proofs.YtoonahobmlnflaaW.PrintMore
set_option linter.unusedVariables false
set_option linter.unusedSimpArgs false
/-- The frame while the form is made. -/
def fr65 (n₀ : Nat) (v3 v5 v6 v7 v8 : Value) : Act := { tmps := #[.int .i64 0, undef, .pointer (some ⟨n₀, 0, none⟩), v3, undef, v5, v6, v7, v8, undef, undef, undef, undef, undef, undef, undef, undef, undef, undef, undef, undef, undef], defers := [] }
/-- What every step keeps. -/
def In65 (w : World) (l : Array Bool) (a : Act) (W : World) : Prop :=
  l.size = 6 ∧ (l.getD 5 false = true → l.getD 4 false = true) ∧ ∃ v3 v5 v6 v7 v8, a = fr65 w.heap.size v3 v5 v6 v7 v8 ∧ Below w.heap.size w W ∧ W.heap[w.heap.size]? = some (.cells #[.slice none 0 0, .int .i64 0, .int .i64 0, .int .i64 0, .int .i64 0, .int .i64 0, .int .i64 0, .int .i64 0, .int .i64 0, .int .i64 0, .int .i64 0, .int .i64 0, .int .i64 0, .int .i64 0, .int .i64 0] 117 (0, 0)) ∧
    (l.getD 0 false = true → v5 = .int .i64 0) ∧ (l.getD 1 false = true → ∃ g : Nat, v6 = .slice (some ⟨g, 0, none⟩) 0 0) ∧ (l.getD 2 false = true → v7 = .agg #[.int .i64 0, .int .i64 1, .int .i64 0, .int .i64 1, .int .i64 0, .int .i64 1, .int .i64 0, .int .i64 1, .int .i64 0, .int .i64 1, .int .i64 0, .int .i64 1, .int .i64 0, .int .i64 1]) ∧
    (l.getD 3 false = true → ∃ g : Nat, v8 = .agg #[.slice (some ⟨g, 0, none⟩) 0 0, .int .i64 0, .int .i64 1, .int .i64 0, .int .i64 1, .int .i64 0, .int .i64 1, .int .i64 0, .int .i64 1, .int .i64 0, .int .i64 1, .int .i64 0, .int .i64 1, .int .i64 0, .int .i64 1]) ∧
    (l.getD 4 false = true → ∃ g3 : Nat, v3 = .pointer (some ⟨g3, 0, none⟩) ∧ w.heap.size < g3 ∧ ∃ cs : Array Value, cs.size = 15 ∧ W.heap[g3]? = some (.cells cs 117 (0, 0)) ∧ (l.getD 5 false = true → ∃ g : Nat, cs = #[.slice (some ⟨g, 0, none⟩) 0 0, .int .i64 0, .int .i64 1, .int .i64 0, .int .i64 1, .int .i64 0, .int .i64 1, .int .i64 0, .int .i64 1, .int .i64 0, .int .i64 1, .int .i64 0, .int .i64 1, .int .i64 0, .int .i64 1]))
section
variable {P : Program} {o : Oper} {a : Act} {W W1 : World} {v : Value} {K : Act → World → Prop} {Q : Exit → Act → World → Prop}
theorem wp_value (hr : (execOp a.eval o).run P W = .ok (.value v) W1) (h : K (a.put o.dst v) W1) : Oper.wp P o a W K Q := by unfold Oper.wp; rw [hr]; exact h
theorem wp_skip (hr : (execOp a.eval o).run P W = .ok .skip W1) (h : K (a.put o.dst undef) W1) : Oper.wp P o a W K Q := by unfold Oper.wp; rw [hr]; exact h
end
set_option maxHeartbeats 4000000 in
set_option maxRecDepth 100000 in
theorem form65 (w : World) : Calls Try.prog 65 #[.int .i64 0] w fun e w' => (∃ g : Nat, e = .returned (.agg #[.slice (some ⟨g, 0, none⟩) 0 0, .int .i64 0, .int .i64 1, .int .i64 0, .int .i64 1, .int .i64 0, .int .i64 1, .int .i64 0, .int .i64 1, .int .i64 0, .int .i64 1, .int .i64 0, .int .i64 1, .int .i64 0, .int .i64 1])) ∧ Below w.heap.size w w' := by
  have hu117 := Try.underlying117
  have hx0 := heap_alloc_last w (.cells #[.slice none 0 0, .int .i64 0, .int .i64 0, .int .i64 0, .int .i64 0, .int .i64 0, .int .i64 0, .int .i64 0, .int .i64 0, .int .i64 0, .int .i64 0, .int .i64 0, .int .i64 0, .int .i64 0, .int .i64 0] 117)
  have hb := below_alloc (Below.refl w.heap.size w) (.cells #[.slice none 0 0, .int .i64 0, .int .i64 0, .int .i64 0, .int .i64 0, .int .i64 0, .int .i64 0, .int .i64 0, .int .i64 0, .int .i64 0, .int .i64 0, .int .i64 0, .int .i64 0, .int .i64 0, .int .i64 0] 117)
  have HX := Aside0.mk hx0
  have HB := Aside0.mk hb
  clear hx0 hb
  go_enter Try.func65, Try.ntmps65
  go_wp2
  rename_i hK_
  have LN : ∀ (m j : Nat), (Array.replicate m false).getD j false = true → False := fun m j h => by
    by_cases hj : j < m <;> simp [Array.getD, hj] at h
  refine wp_region_any rfl (wpAny_keeps (Inv := In65 w) ?he ?hs _ _ _ _ ?h0 (by decide))
  case h0 =>
    exact ⟨by rw [Array.size_replicate]; rfl, fun h => (LN _ _ h).elim, undef, undef, undef, undef, undef, rfl, below_drew1 HB.out, blk_drew HX.out, fun h => (LN _ _ h).elim, fun h => (LN _ _ h).elim, fun h => (LN _ _ h).elim, fun h => (LN _ _ h).elim, fun h => (LN _ _ h).elim⟩
  case hs =>
    intro l a W ⟨hsz, hd5, v3, v5, v6, v7, v8, ha, hB, hX, h0, h1, h2, h3, h4⟩ i hi
    subst ha
    have hlt : i < 6 := ready_lt hi
    have h5no : i = 4 → l.getD 5 false = true → False := fun e h => by subst e; exact ready_not hi (hd5 h)
    rcases (by omega : i = 0 ∨ i = 1 ∨ i = 2 ∨ i = 3 ∨ i = 4 ∨ i = 5) with rfl | rfl | rfl | rfl | rfl | rfl
    · refine wpOp_of rfl rfl ?_
      unfold Oper.wp
      rw [BigFrame.run_move _ rfl]
      exact ⟨(Array.size_setIfInBounds ..).trans hsz, fun h => getD_set_true (hd5 (set_old h (by decide))), v3, _, v6, v7, v8, rfl, hB, hX, fun _ => rfl, fun h => h1 (set_old h (by decide)), fun h => h2 (set_old h (by decide)), fun h => h3 (set_old h (by decide)), fun h => by
        obtain ⟨g3, e, hg, cs, hc, hh, h5⟩ := h4 (set_old h (by decide)); exact ⟨g3, e, hg, cs, hc, hh, fun h => h5 (set_old h (by decide))⟩⟩
    · obtain rfl := h0 (ready_dep 0 hi rfl)
      refine wpOp_of rfl rfl (wp_value (v := .slice (some ⟨W.heap.size, 0, none⟩) 0 0) (W1 := W.alloc (.cells #[] 30)) (by kernel_rfl) ?_)
      exact ⟨(Array.size_setIfInBounds ..).trans hsz, fun h => getD_set_true (hd5 (set_old h (by decide))), v3, _, _, v7, v8, rfl, hB.alloc hB.size _, blk_alloc hX _, fun _ => rfl, fun _ => ⟨_, rfl⟩, fun h => h2 (set_old h (by decide)), fun h => h3 (set_old h (by decide)), fun h => by
        obtain ⟨g3, e, hg, cs, hc, hh, h5⟩ := h4 (set_old h (by decide)); exact ⟨g3, e, hg, cs, hc, blk_alloc hh _, fun h => h5 (set_old h (by decide))⟩⟩
    · refine wpOp_if rfl (goes_ Try.func41 (by kernel_rfl) rfl #[] (by rfl) rfl rfl (by (try simp only [List.map_toArray, List.map_nil]); first | done | rfl) ?_)
      refine (plain41 W).mono ?_
      rintro e W7 ⟨rfl, hd⟩
      refine ⟨_, rfl, ?_⟩
      exact ⟨(Array.size_setIfInBounds ..).trans hsz, fun h => getD_set_true (hd5 (set_old h (by decide))), v3, v5, v6, _, v8, rfl, below_step hB hd, blk_below hX hd, fun h => h0 (set_old h (by decide)), fun h => h1 (set_old h (by decide)), fun _ => rfl, fun h => h3 (set_old h (by decide)), fun h => by
        obtain ⟨g3, e, hg, cs, hc, hh, h5⟩ := h4 (set_old h (by decide)); exact ⟨g3, e, hg, cs, hc, blk_below hh hd, fun h => h5 (set_old h (by decide))⟩⟩
    · obtain ⟨g, rfl⟩ := h1 (ready_dep 1 hi rfl)
      obtain rfl := h2 (ready_dep 2 hi rfl)
      refine wpOp_of rfl rfl (wp_value (v := .agg #[.slice (some ⟨g, 0, none⟩) 0 0, .int .i64 0, .int .i64 1, .int .i64 0, .int .i64 1, .int .i64 0, .int .i64 1, .int .i64 0, .int .i64 1, .int .i64 0, .int .i64 1, .int .i64 0, .int .i64 1, .int .i64 0, .int .i64 1]) (W1 := W) (by kernel_rfl) ?_)
      exact ⟨(Array.size_setIfInBounds ..).trans hsz, fun h => getD_set_true (hd5 (set_old h (by decide))), v3, v5, _, _, _, rfl, hB, hX, fun h => h0 (set_old h (by decide)), fun _ => ⟨g, rfl⟩, fun _ => rfl, fun _ => ⟨g, rfl⟩, fun h => by
        obtain ⟨g3, e, hg, cs, hc, hh, h5⟩ := h4 (set_old h (by decide)); exact ⟨g3, e, hg, cs, hc, hh, fun h => h5 (set_old h (by decide))⟩⟩
    · refine wpOp_of rfl rfl (wp_value (v := .pointer (some ⟨W.heap.size, 0, none⟩)) (W1 := W.alloc (.cells #[.slice none 0 0, .int .i64 0, .int .i64 0, .int .i64 0, .int .i64 0, .int .i64 0, .int .i64 0, .int .i64 0, .int .i64 0, .int .i64 0, .int .i64 0, .int .i64 0, .int .i64 0, .int .i64 0, .int .i64 0] 117)) (by kernel_rfl) ?_)
      exact ⟨(Array.size_setIfInBounds ..).trans hsz, fun h => getD_set_true (hd5 (set_old h (by decide))), _, v5, v6, v7, v8, rfl, hB.alloc hB.size _, blk_alloc hX _, fun h => h0 (set_old h (by decide)), fun h => h1 (set_old h (by decide)), fun h => h2 (set_old h (by decide)), fun h => h3 (set_old h (by decide)), fun _ => ⟨W.heap.size, rfl, blk_lt hX, _, rfl, heap_alloc_last _ _, fun h => by
        have h5 := set_old h (by decide : (4 : Nat) ≠ 5)
        exact (h5no rfl h5).elim⟩⟩
    · obtain ⟨g, rfl⟩ := h3 (ready_dep 3 hi rfl)
      obtain ⟨g3, rfl, hg, cs, hc, hh, _⟩ := h4 (ready_dep 4 hi rfl)
      refine wpOp_of rfl rfl (wp_skip (exec_store_at (t := 117) (p := .tmp 3) (v := .tmp 8) (g := g3) (o := 0) (cur := cs) (c' := #[.slice (some ⟨g, 0, none⟩) 0 0, .int .i64 0, .int .i64 1, .int .i64 0, .int .i64 1, .int .i64 0, .int .i64 1, .int .i64 0, .int .i64 1, .int .i64 0, .int .i64 1, .int .i64 0, .int .i64 1, .int .i64 0, .int .i64 1]) rfl rfl hh (by kernel_rfl) (by simp [hc]) (by kernel_rfl)) ?_)
      refine ⟨(Array.size_setIfInBounds ..).trans hsz, fun _ => getD_set_true (ready_dep 4 hi rfl), _, v5, v6, v7, _, rfl, ?_, ?_, fun h => h0 (set_old h (by decide)), fun h => h1 (set_old h (by decide)), fun h => h2 (set_old h (by decide)), fun _ => ⟨g, rfl⟩, fun _ => ⟨g3, rfl, hg, _, ?_, setRow_heap W g3 cs _ 117 (0, 0) hh, fun _ => ⟨g, ?_⟩⟩⟩
      · exact hB.trans ((oneB_setRow W g3 _).below (by omega))
      · exact (oneB_setRow W g3 _).blk hX (by omega)
      · simp [hc]
      · simp [List.drop_eq_nil_of_le (show cs.toList.length ≤ 15 by simp [hc])]
  case he =>
    intro l a W ⟨hsz, hd5, v3, v5, v6, v7, v8, ha, hB, hX, h0, h1, h2, h3, h4⟩ hr
    subst ha
    have hall := ready_all hr hsz rfl
    obtain ⟨g3, rfl, hg, cs, hc, hh, h5⟩ := h4 (hall 4 (by decide))
    obtain ⟨g, rfl⟩ := h5 (hall 5 (by decide))
    clear hr hsz hd5 h0 h1 h2 h3 h4 h5 hall hc
    have zs := (blk_cell hh 0).trans (show _ = some (.slice (some ⟨g, 0, none⟩) 0 0) from rfl)
    have HH := Aside0.mk hh
    have HXX := Aside0.mk hX
    have HBB := Aside0.mk hB
    clear hh hX hB
    clear HX HB
    refine hK_ _ _ ?_
    unfold fr65
    go_wp2
    go_loopw [12] (fun i wr => i = .int .i64 0 ∧ wr = W) (fun i _ => 0)
    case atStart => exact ⟨rfl, rfl⟩
    case round =>
      obtain ⟨rfl, rfl⟩ := hrel
      go_wp2_with (first | (with_reducible refine gate_load 117 ?_; refine ev_load (t := 117) (ad := ⟨g3, 0, none⟩) (cs := [.slice (some ⟨g, 0, none⟩) 0 0, .int .i64 0, .int .i64 1, .int .i64 0, .int .i64 1, .int .i64 0, .int .i64 1, .int .i64 0, .int .i64 1, .int .i64 0, .int .i64 1, .int .i64 0, .int .i64 1, .int .i64 0, .int .i64 1]) rfl (by kernel_rfl) (by kernel_rfl) (blk_load HH.out 0 _ rfl) ?_) | (with_reducible refine gate_store 117 ?_; refine ev_store_at (t := 117) (c' := #[.slice (some ⟨g, 0, none⟩) 0 0, .int .i64 0, .int .i64 1, .int .i64 0, .int .i64 1, .int .i64 0, .int .i64 1, .int .i64 0, .int .i64 1, .int .i64 0, .int .i64 1, .int .i64 0, .int .i64 1, .int .i64 0, .int .i64 1]) (cur' := #[.slice (some ⟨g, 0, none⟩) 0 0, .int .i64 0, .int .i64 1, .int .i64 0, .int .i64 1, .int .i64 0, .int .i64 1, .int .i64 0, .int .i64 1, .int .i64 0, .int .i64 1, .int .i64 0, .int .i64 1, .int .i64 0, .int .i64 1]) rfl rfl HXX.out (by kernel_rfl) (by simp) (by kernel_rfl) rfl ?_; intro W2 hx2 h1; have HX2 := Aside0.mk hx2; have H1 := Aside0.mk h1; clear hx2 h1))
      exact bodyPost_ret (results_cell_row (p := 2) (ty := 117) rfl _ _ w.heap.size 117 _ (0, 0) _ rfl HX2.out hu117 rfl (by kernel_rfl)) rfl ⟨⟨g, rfl⟩, HBB.out.trans (H1.out.below (Nat.le_refl _))⟩
end Go.Proofs.Ytoonahobmlnflaa.PC
namespace Go.Proofs.Ytoonahobmlnflaa.PC
open Go.RowKit Go.Shelf Go.Proofs.YtoonahobmlnflaaW.PrintWords Go.Proofs.YtoonahobmlnflaaW.PrintLast Go.Proofs.YtoonahobmlnflaaW.PrintMore
set_option linter.unusedVariables false
set_option linter.unusedSimpArgs false
attribute [local go_sem] Oper.semAt_some
set_option maxRecDepth 100000 in
set_option maxHeartbeats 4000000 in
theorem back120_in (F : Fence) (n : Nat) (h120 : F.fn 120) (hro : F.round = none) (l Bs : Nat) (W : World) (hBs : W.cell? ⟨Bs, 0, none⟩ = some (.slice none 0 0)) :
    CallsIn F n Try.prog 120 #[.func (.yield l) #[] #[], .pointer (some ⟨Bs, 0, none⟩)] W fun e W' => (∃ v, e = .returned v) ∧ W' = W := by
  refine callsIn_of_wp Try.func120 rfl h120 ?_ hro
  simp only [Try.ntmps120, List.size_toArray, List.length_cons, List.length_nil, Nat.reduceAdd, Nat.reduceSub, Array.replicate_succ, Array.replicate_zero, List.push_toArray, List.append_toArray, List.nil_append, List.cons_append]
  gi_wp2
  gi_loopw [3] (fun i wr => i = .int .i64 (-1) ∧ wr = W) (fun i _ => 0)
  case atStart => exact ⟨by rfl, rfl⟩
  case round =>
    obtain ⟨rfl, rfl⟩ := hrel
    gi_wp2
    go_end0
    exact ⟨⟨_, rfl⟩, rfl⟩
theorem back100_in (F : Fence) (n : Nat) (h100 : F.fn 100) (hro : F.round = none) (a : Option Addr) (len cap : Nat) (w : World) :
    CallsIn F n Try.prog 100 #[.slice a len cap] w fun e w' => e = .returned (.func (.func 120) #[] #[.pointer (some ⟨w.heap.size, 0, none⟩)]) ∧ w' = w.alloc (.cells #[.slice a len cap] 118) := by
  refine callsIn_of_wp Try.func100 rfl h100 ?_ hro
  simp only [Try.ntmps100, List.size_toArray, List.length_cons, List.length_nil, Nat.reduceAdd, Nat.reduceSub, Array.replicate_succ, Array.replicate_zero, List.push_toArray, List.append_toArray, List.nil_append, List.cons_append]
  gi_wp2
  go_ret
  exact ⟨rfl, rfl⟩
theorem back0_stops (F : Fence) (n : Nat) (h120 : F.fn 120) (hro : F.round = none) (Bs n₀ : Nat) (w0 : World) (hBs : w0.heap[Bs]? = some (.cells #[.slice none 0 0] 118 (0, 0))) :
    SeqStopsK F n Try.prog 120 #[.pointer (some ⟨Bs, 0, none⟩)] (fun x : Fin 0 => #[undef, undef]) (KpB n₀ Bs) (fun ys => ys = []) (fun _ => True) 0 w0 := fun l J Jx W hW _ _ hY h0 => by
  have hlt := (Array.getElem?_eq_some_iff.1 hBs).1
  have hc : W.cell? ⟨Bs, 0, none⟩ = some (.slice none 0 0) := blk_cell ((hW.block Bs hlt).trans hBs) 0
  refine (back120_in F n h120 hro l Bs W hc).mono ?_
  rintro e W' ⟨he, rfl⟩
  exact ⟨he, .inl ⟨[], rfl, h0⟩⟩
end Go.Proofs.Ytoonahobmlnflaa.PC
namespace Go.Proofs.Ytoonahobmlnflaa.PC
open Go.RowKit Go.Shelf Go.Proofs.YtoonahobmlnflaaW.PrintWords Go.Proofs.YtoonahobmlnflaaW.PrintLast Go.Proofs.YtoonahobmlnflaaW.PrintMore
set_option linter.unusedVariables false
set_option linter.unusedSimpArgs false
attribute [local go_sem] Oper.semAt_some
set_option maxRecDepth 100000 in
theorem run_mk90 (W : World) : (Instr.makeSlice 90 (.int .i64 0) (.int .i64 0)).run Try.prog W = .ok (.slice (some ⟨W.heap.size, 0, none⟩) 0 0) (W.alloc (.cells #[] 35)) := by kernel_rfl
attribute [local go_sem] run_mk90
set_option maxHeartbeats 4000000 in
set_option maxRecDepth 100000 in
theorem solved69 (gF : Nat) (cs : Array Value) (w : World) (hF : w.heap[gF]? = some (.cells cs 120 (0, 0))) (h1 : cs[1]? = some (.slice none 0 0)) (h20 : cs[20]? = some (.slice none 0 0)) :
    Calls Try.prog 69 #[.pointer (some ⟨gF, 0, none⟩)] w fun e w' => (∃ A : Option Addr, e = .returned (.slice A 0 0)) ∧ Below w.heap.size w w' := by
  have hu120 := Try.underlying120
  have hx := heap_alloc_last w (.cells #[.pointer (some ⟨gF, 0, none⟩)] 114)
  have hF' := blk_alloc hF (.cells #[.pointer (some ⟨gF, 0, none⟩)] 114)
  have hb := below_alloc (Below.refl w.heap.size w) (.cells #[.pointer (some ⟨gF, 0, none⟩)] 114)
  have z1 := (blk_cell hF' 1).trans h1
  have HX := Aside0.mk hx
  have HF := Aside0.mk hF'
  have HB := Aside0.mk hb
  have H20 := Aside0.mk h20
  have HLF := Aside0.mk (blk_lt hF)
  clear hx hF' hb h1 h20 hF
  refine callsIn_wide.1 (callsIn_of_wp_marks (n := 9) Try.func69 rfl trivial ?_ rfl)
  simp only [Try.ntmps69, List.size_toArray, List.length_cons, List.length_nil, Nat.reduceAdd, Nat.reduceSub, Array.replicate_succ, Array.replicate_zero, List.push_toArray, List.append_toArray, List.nil_append, List.cons_append]
  refine wpIn_wide.2 ?_
  have hb3 := below_alloc (below_alloc HB.out (.cells #[] 35)) (.cells #[.slice (some ⟨w.heap.size + 1, 0, none⟩) 0 0] 90)
  have hx3 := heap_alloc_last ((w.alloc (.cells #[.pointer (some ⟨gF, 0, none⟩)] 114)).alloc (.cells #[] 35)) (.cells #[.slice (some ⟨w.heap.size + 1, 0, none⟩) 0 0] 90)
  rw [World.size_alloc, World.size_alloc] at hx3
  have hxa := blk_alloc (blk_alloc HX.out (.cells #[] 35)) (.cells #[.slice (some ⟨w.heap.size + 1, 0, none⟩) 0 0] 90)
  have hfa := blk_alloc (blk_alloc HF.out (.cells #[] 35)) (.cells #[.slice (some ⟨w.heap.size + 1, 0, none⟩) 0 0] 90)
  have HB3 := Aside0.mk hb3
  have HX3 := Aside0.mk hx3
  have HXA := Aside0.mk hxa
  have HFA := Aside0.mk hfa
  clear hb3 hx3 hxa hfa HB HX HF
  go_wp2
  generalize ((w.alloc (.cells #[.pointer (some ⟨gF, 0, none⟩)] 114)).alloc (.cells #[] 35)).alloc (.cells #[.slice (some ⟨w.heap.size + 1, 0, none⟩) 0 0] 90) = W1 at HB3 HX3 HXA HFA ⊢
  go_loopw [18] (fun i wr => i = .int .i64 0 ∧ wr = W1) (fun i _ => 0)
  case atStart => exact ⟨rfl, rfl⟩
  case round =>
    obtain ⟨rfl, rfl⟩ := hrel
    have zF := (blk_cell HFA.out 20).trans H20.out
    have zX := (blk_cell HXA.out 0).trans (show _ = some (.pointer (some ⟨gF, 0, none⟩)) from rfl)
    go_wp2_with (go_at_call 100; refine (callsIn_wide.1 (back100_in Fence.wide 9 trivial rfl none 0 0 _)).mono ?_; rintro e w' ⟨rfl, rfl⟩)
    have hbs := heap_alloc_last wr (.cells #[.slice none 0 0] 118)
    have hB2 := below_alloc HB3.out (.cells #[.slice none 0 0] 118)
    have hX2 := blk_alloc HX3.out (.cells #[.slice none 0 0] 118)
    have hs2 : wr.heap.size < (wr.alloc (.cells #[.slice none 0 0] 118)).heap.size := by simp
    have hgb2 : w.heap.size + 1 + 1 < wr.heap.size := blk_lt HX3.out
    have hbw : w.heap.size ≤ wr.heap.size := HB3.out.size
    clear HB3 HX3 HXA HFA zF zX
    generalize wr.alloc (.cells #[.slice none 0 0] 118) = W0 at hbs hB2 hX2 hs2 ⊢
    generalize wr.heap.size = Bs at hbs hs2 hgb2 hbw ⊢
    refine (wpIn_wide (n := 9)).1 ?_
    refine wpIn_rangeFunc_ownH (α := Fin 0) rfl (by omega) (gf := 120) (lb := #[.pointer (some ⟨Bs, 0, none⟩)]) rfl trivial (enters_of Try.func120 (by kernel_rfl) rfl)
      (back0_stops Fence.wide 8 trivial rfl Bs w.heap.size W0 hbs) KpB.t
      (fun W l o o' hl h ho hw => ⟨belowK_b hB2.size W l o o' hl h ho hw, World.putObj_heap_other (by omega)⟩) (Below.refl _ _) (fun _ => rfl)
      (fun pre W => W.heap[w.heap.size + 1 + 1]? = some (.cells #[.slice (some ⟨w.heap.size + 1, 0, none⟩) 0 0] 90 (0, 0)) ∧ Below w.heap.size w W ∧ W0.heap.size ≤ W.heap.size)
      (fun _ _ _ => False)
      (fun s X Y row hs hg hr => ⟨(hg.block _ (blk_lt hs.1) (fun e => by have := (hr _ e.symm).1; omega)).trans hs.1, hs.2.1.grown hg (by have := hs.2.1.size; have := hB2.size; omega) (fun k e => by have := (hr k e).1; have := hB2.size; omega), Nat.le_trans hs.2.2 hg.size⟩)
      (fun _ _ _ _ _ hs _ _ => hs)
      ⟨hX2, hB2, Nat.le_refl _⟩
      (fun x a' W => False)
      (fun x a' s X Y row hs hg hr => hs) ?assign ?body ?done ?stop
    case assign => exact fun l pre x => x.elim0
    case body => exact fun l pre x => x.elim0
    case done =>
      rintro D ys W hD hys ⟨hi1, hi2, hi3⟩ hK
      have HI2 := Aside0.mk hi2
      have zr := (blk_cell hi1 0).trans (show _ = some (.slice (some ⟨w.heap.size + 1, 0, none⟩) 0 0) from rfl)
      clear hi1 hi2 hi3 hys
      gi_wp2
      go_wp2
      refine ⟨by simp, .inl ⟨_, _, rfl, run_takeDeferred hK, ?_⟩⟩
      refine ⟨_, results_tmp rfl _ _ _, ⟨_, rfl⟩, ?_⟩
      exact HI2.out.trans (belowK_b (w := W0) hB2.size W D _ _ hD hK rfl rfl)
    case stop =>
      rintro D cc pre W _ _ h _
      exact h.elim
end Go.Proofs.Ytoonahobmlnflaa.PC
namespace Go.Proofs.Ytoonahobmlnflaa.PC
open Go.RowKit Go.Shelf Go.Proofs.YtoonahobmlnflaaW.PrintWords Go.Proofs.YtoonahobmlnflaaW.PrintLast Go.Proofs.YtoonahobmlnflaaW.PrintMore
set_option linter.unusedVariables false
set_option linter.unusedSimpArgs false
set_option maxRecDepth 100000 in
theorem idle64 (p q : Addr) (w : World) : CallsD Try.prog 64 #[.pointer (some p), .pointer (some q)] .returning w fun e u' w' => e = .returned (.tuple #[]) ∧ u' = .returning ∧ w' = w := by
  refine callsD_of_wpS Try.func64 rfl fun c₀ cs hu => ?_
  apply wpS_seq
  apply wpS_region
  simp [wpOpsS, go_sem, recoverD, hu, Try.ntmps64, Exit.thenS]
  apply wpS_seq
  apply wpS_region
  simp [wpOpsS, go_sem, recoverD, hu, Try.ntmps64, Exit.thenS]
  refine wpS_cond (t := false) (by simp [Act.eval, Array.replicate]) ?_
  simp only [Bool.false_eq_true, if_false]
  refine wpS_of_wp (Go.wp_skip ?_)
  cases c₀
  simp_all [bodyPostS, results, Try.results64]
/-- What is known of Infer's own blocks. -/
structure IFx (w W : World) (C : Array Value) : Prop where
  F : W.heap[w.heap.size + 1 + 1 + 1]? = some (.cells C 120 (0, 0))
  x9 : W.heap[w.heap.size]? = some (.cells #[.int .i64 0, .int .i64 1, .int .i64 0, .int .i64 1, .int .i64 0, .int .i64 1, .int .i64 0, .int .i64 1, .int .i64 0, .int .i64 1, .int .i64 0, .int .i64 1, .int .i64 0, .int .i64 1] 35 (0, 0))
  x10 : W.heap[w.heap.size + 1]? = some (.cells #[.slice none 0 0] 90 (0, 0))
  x11 : W.heap[w.heap.size + 1 + 1]? = some (.cells #[.int .i64 0] 25 (0, 0))
  B : Below w.heap.size w W
theorem IFx.step {w W W' : World} {C : Array Value} (h : IFx w W C) (hd : Below W.heap.size W W') : IFx w W' C := ⟨blk_below h.F hd, blk_below h.x9 hd, blk_below h.x10 hd, blk_below h.x11 hd, below_step h.B hd⟩
theorem IFx.one {w W W' : World} {C C' : Array Value} (h : IFx w W C) (hd : OneB (w.heap.size + 1 + 1 + 1) W W') (hF : W'.heap[w.heap.size + 1 + 1 + 1]? = some (.cells C' 120 (0, 0))) : IFx w W' C' :=
  ⟨hF, hd.blk h.x9 (by omega), hd.blk h.x10 (by omega), hd.blk h.x11 (by omega), h.B.trans (hd.below (by omega))⟩
set_option maxRecDepth 100000 in
theorem run_mk118 (n : Nat) (hn : n ≤ 4000) : ∃ cs : Array Value, ∀ W : World, (Instr.makeSlice 118 (.int .i64 (n : Int)) (.int .i64 (n : Int))).run Try.prog W = .ok (.slice (some ⟨W.heap.size, 0, none⟩) n n) (W.alloc (.cells cs 117)) := by
  have hi : (Try.prog.info? 117).map (fun i => (i.zero, i.bytes)) = some (some (.agg #[.slice none 0 0, .int .i64 0, .int .i64 0, .int .i64 0, .int .i64 0, .int .i64 0, .int .i64 0, .int .i64 0, .int .i64 0, .int .i64 0, .int .i64 0, .int .i64 0, .int .i64 0, .int .i64 0, .int .i64 0]), 136) := by kernel_rfl
  obtain ⟨i, hi, hz⟩ := Option.map_eq_some_iff.1 hi
  simp only [Prod.mk.injEq] at hz
  refine ⟨madeCells (Value.agg #[.slice none 0 0, .int .i64 0, .int .i64 0, .int .i64 0, .int .i64 0, .int .i64 0, .int .i64 0, .int .i64 0, .int .i64 0, .int .i64 0, .int .i64 0, .int .i64 0, .int .i64 0, .int .i64 0, .int .i64 0]).cells (n * i.size), fun W => ?_⟩
  have h := run_make (P := Try.prog) W 118 117 i _ (by kernel_rfl) hi hz.1 .i64 .i64 (n : Int) (n : Int) (by omega) (by omega) (by rw [hz.2]; omega) (by omega)
  simp only [Int.toNat_natCast] at h
  exact h
set_option maxHeartbeats 4000000 in
set_option maxRecDepth 100000 in
theorem infer40 (nodes : List S37) (A : Option Addr) (c : Nat) (w : World) (hC : Kd.C k37 w A nodes.length nodes) (hc : nodes.length ≤ c) (hI : ∀ x ∈ nodes, NodeI x) :
    Calls Try.prog 40 #[.slice A nodes.length c, .slice none 0 0, .slice none 0 0, .slice none 0 0, .agg #[.int .i64 0, .int .i64 1, .int .i64 0, .int .i64 1, .int .i64 0, .int .i64 1, .int .i64 0, .int .i64 1, .int .i64 0, .int .i64 1, .int .i64 0, .int .i64 1, .int .i64 0, .int .i64 1]] w fun e w' => (∃ A' : Option Addr, e = .returned (.tuple #[.slice A' 0 0, .int .i64 (if graphB nodes then 0 else 170)])) ∧ Below w.heap.size w w' := by
  have hmf : ∀ (fn : Fn) (first cap : Array Value) (w : World), (Instr.makeFunc fn first cap).run Try.prog w = .ok (.func fn first cap) w := fun _ _ _ _ => rfl
  have hu35 := Try.underlying35
  have hu120 := Try.underlying120
  have hu117 := Try.underlying117
  have HC := Aside0.mk hC
  have HI := Aside0.mk hI
  clear hC hI
  have hx9 := blk_alloc (blk_alloc (blk_alloc (heap_alloc_last w (.cells #[.int .i64 0, .int .i64 1, .int .i64 0, .int .i64 1, .int .i64 0, .int .i64 1, .int .i64 0, .int .i64 1, .int .i64 0, .int .i64 1, .int .i64 0, .int .i64 1, .int .i64 0, .int .i64 1] 35)) (.cells #[.slice none 0 0] 90)) (.cells #[.int .i64 0] 25)) (.cells #[.slice A nodes.length c, .slice none 0 0, .slice none 0 0, .slice none 0 0, .int .i64 0, .int .i64 0, .int .i64 0, .int .i64 0, .int .i64 0, .int .i64 0, .int .i64 0, .int .i64 0, .int .i64 0, .int .i64 0, .int .i64 0, .int .i64 0, .int .i64 0, .int .i64 0, .slice none 0 0, .slice none 0 0, .slice none 0 0, .slice none 0 0] 120)
  have hx10 := blk_alloc (blk_alloc (heap_alloc_last (w.alloc (.cells #[.int .i64 0, .int .i64 1, .int .i64 0, .int .i64 1, .int .i64 0, .int .i64 1, .int .i64 0, .int .i64 1, .int .i64 0, .int .i64 1, .int .i64 0, .int .i64 1, .int .i64 0, .int .i64 1] 35)) (.cells #[.slice none 0 0] 90)) (.cells #[.int .i64 0] 25)) (.cells #[.slice A nodes.length c, .slice none 0 0, .slice none 0 0, .slice none 0 0, .int .i64 0, .int .i64 0, .int .i64 0, .int .i64 0, .int .i64 0, .int .i64 0, .int .i64 0, .int .i64 0, .int .i64 0, .int .i64 0, .int .i64 0, .int .i64 0, .int .i64 0, .int .i64 0, .slice none 0 0, .slice none 0 0, .slice none 0 0, .slice none 0 0] 120)
  have hx11 := blk_alloc (heap_alloc_last ((w.alloc (.cells #[.int .i64 0, .int .i64 1, .int .i64 0, .int .i64 1, .int .i64 0, .int .i64 1, .int .i64 0, .int .i64 1, .int .i64 0, .int .i64 1, .int .i64 0, .int .i64 1, .int .i64 0, .int .i64 1] 35)).alloc (.cells #[.slice none 0 0] 90)) (.cells #[.int .i64 0] 25)) (.cells #[.slice A nodes.length c, .slice none 0 0, .slice none 0 0, .slice none 0 0, .int .i64 0, .int .i64 0, .int .i64 0, .int .i64 0, .int .i64 0, .int .i64 0, .int .i64 0, .int .i64 0, .int .i64 0, .int .i64 0, .int .i64 0, .int .i64 0, .int .i64 0, .int .i64 0, .slice none 0 0, .slice none 0 0, .slice none 0 0, .slice none 0 0] 120)
  have hxF := heap_alloc_last (((w.alloc (.cells #[.int .i64 0, .int .i64 1, .int .i64 0, .int .i64 1, .int .i64 0, .int .i64 1, .int .i64 0, .int .i64 1, .int .i64 0, .int .i64 1, .int .i64 0, .int .i64 1, .int .i64 0, .int .i64 1] 35)).alloc (.cells #[.slice none 0 0] 90)).alloc (.cells #[.int .i64 0] 25)) (.cells #[.slice A nodes.length c, .slice none 0 0, .slice none 0 0, .slice none 0 0, .int .i64 0, .int .i64 0, .int .i64 0, .int .i64 0, .int .i64 0, .int .i64 0, .int .i64 0, .int .i64 0, .int .i64 0, .int .i64 0, .int .i64 0, .int .i64 0, .int .i64 0, .int .i64 0, .slice none 0 0, .slice none 0 0, .slice none 0 0, .slice none 0 0] 120)
  have hb := below_alloc (below_alloc (below_alloc (below_alloc (Below.refl w.heap.size w) (.cells #[.int .i64 0, .int .i64 1, .int .i64 0, .int .i64 1, .int .i64 0, .int .i64 1, .int .i64 0, .int .i64 1, .int .i64 0, .int .i64 1, .int .i64 0, .int .i64 1, .int .i64 0, .int .i64 1] 35)) (.cells #[.slice none 0 0] 90)) (.cells #[.int .i64 0] 25)) (.cells #[.slice A nodes.length c, .slice none 0 0, .slice none 0 0, .slice none 0 0, .int .i64 0, .int .i64 0, .int .i64 0, .int .i64 0, .int .i64 0, .int .i64 0, .int .i64 0, .int .i64 0, .int .i64 0, .int .i64 0, .int .i64 0, .int .i64 0, .int .i64 0, .int .i64 0, .slice none 0 0, .slice none 0 0, .slice none 0 0, .slice none 0 0] 120)
  simp only [World.size_alloc] at hx10 hx11 hxF
  have hst := start63 nodes A c (w.heap.size + 1 + 1 + 1) ((((w.alloc (.cells #[.int .i64 0, .int .i64 1, .int .i64 0, .int .i64 1, .int .i64 0, .int .i64 1, .int .i64 0, .int .i64 1, .int .i64 0, .int .i64 1, .int .i64 0, .int .i64 1, .int .i64 0, .int .i64 1] 35)).alloc (.cells #[.slice none 0 0] 90)).alloc (.cells #[.int .i64 0] 25)).alloc (.cells #[.slice A nodes.length c, .slice none 0 0, .slice none 0 0, .slice none 0 0, .int .i64 0, .int .i64 0, .int .i64 0, .int .i64 0, .int .i64 0, .int .i64 0, .int .i64 0, .int .i64 0, .int .i64 0, .int .i64 0, .int .i64 0, .int .i64 0, .int .i64 0, .int .i64 0, .slice none 0 0, .slice none 0 0, .slice none 0 0, .slice none 0 0] 120)) (Kd.C_below HC.out hb) hc HI.out hxF
  have HST := Aside0.mk hst
  have HB := Aside0.mk hb
  have HX9 := Aside0.mk hx9
  have HX10 := Aside0.mk hx10
  have HX11 := Aside0.mk hx11
  have HXF := Aside0.mk hxF
  clear hst hb hx9 hx10 hx11 hxF
  go_enter_defers Try.func40, Try.ntmps40
  cases hgb : graphB nodes with
  | false =>
    rw [hgb] at HST
    clear hgb
    go_wp2_with (go_at_call 63; refine HST.out.mono ?_; rintro e w7 ⟨rfl, hd⟩; have HB7 := Aside0.mk (below_step HB.out hd); have h10 := blk_below HX10.out hd; have h11 := blk_below HX11.out hd; have z10 := (blk_cell h10 0).trans (show _ = some (.slice none 0 0) from rfl); have z11 := (blk_cell h11 0).trans (show _ = some (.int .i64 0) from rfl); have f10 := blk_frozen h10 0; have f11 := blk_frozen h11 0; have H10 := Aside0.mk h10; have H11 := Aside0.mk h11; clear h10 h11 hd)
    have h10' := blk_far (p := ⟨w.heap.size + 1 + 1, 0, none⟩) (blk_set H10.out 0 (.slice none 0 0)) (by simp) (.int .i64 170)
    have h11' := blk_set (blk_far (p := ⟨w.heap.size + 1, 0, none⟩) H11.out (by simp) (.slice none 0 0)) 0 (.int .i64 170)
    have y10 := (blk_cell h10' 0).trans (show _ = some (.slice none 0 0) from rfl)
    have y11 := (blk_cell h11' 0).trans (show _ = some (.int .i64 170) from rfl)
    have hbb : Below w.heap.size w ((w7.setCell { block := w.heap.size + 1, off := 0 } (Value.slice none 0 0)).setCell { block := w.heap.size + 1 + 1, off := 0 } (Value.int IntKind.i64 170)) := below_set (below_set HB7.out (by omega)) (by omega)
    have HBB := Aside0.mk hbb
    clear hbb h10' h11'
    simp [bodyPostD, Leaves, settle, results, Try.results40, go_sem, y10, y11]
    exact HBB.out
  | true =>
    rw [hgb] at HST
    have HOK := Aside0.mk (ops_of_graph hgb).1
    have HL := Aside0.mk (ops_of_graph hgb).2
    have HSLEN := Aside0.mk (Kd.C_max HC.out)
    clear hgb
    obtain ⟨mk, hmk⟩ := run_mk118 nodes.length HL.out
    have HMK := Aside0.mk hmk
    clear hmk
    go_wp2_with (first | (go_at_call 63; refine HST.out.mono ?_; rintro e w7 ⟨rfl, hd⟩; have X7 := Aside0.mk (show IFx w w7 #[.slice A nodes.length c, .slice none 0 0, .slice none 0 0, .slice none 0 0, .int .i64 0, .int .i64 0, .int .i64 0, .int .i64 0, .int .i64 0, .int .i64 0, .int .i64 0, .int .i64 0, .int .i64 0, .int .i64 0, .int .i64 0, .int .i64 0, .int .i64 0, .int .i64 0, .slice none 0 0, .slice none 0 0, .slice none 0 0, .slice none 0 0] from IFx.step ⟨HXF.out, HX9.out, HX10.out, HX11.out, HB.out⟩ hd); clear hd HXF HX9 HX10 HX11 HB HST) | (go_at_call 65; refine (form65 w7).mono ?_; rintro e w8 ⟨⟨g, rfl⟩, hd⟩; have X8 := Aside0.mk (X7.out.step hd); clear hd X7) | (with_reducible refine gate_store 117 ?_; refine ev_store_at (g := w.heap.size + 1 + 1 + 1) (o := 3) (t0 := 120) (c' := #[.slice (some ⟨g, 0, none⟩) 0 0, .int .i64 0, .int .i64 1, .int .i64 0, .int .i64 1, .int .i64 0, .int .i64 1, .int .i64 0, .int .i64 1, .int .i64 0, .int .i64 1, .int .i64 0, .int .i64 1, .int .i64 0, .int .i64 1]) (cur := #[.slice A nodes.length c, .slice none 0 0, .slice none 0 0, .slice none 0 0, .int .i64 0, .int .i64 0, .int .i64 0, .int .i64 0, .int .i64 0, .int .i64 0, .int .i64 0, .int .i64 0, .int .i64 0, .int .i64 0, .int .i64 0, .int .i64 0, .int .i64 0, .int .i64 0, .slice none 0 0, .slice none 0 0, .slice none 0 0, .slice none 0 0]) (cur' := #[.slice A nodes.length c, .slice none 0 0, .slice none 0 0, .slice (some ⟨g, 0, none⟩) 0 0, .int .i64 0, .int .i64 1, .int .i64 0, .int .i64 1, .int .i64 0, .int .i64 1, .int .i64 0, .int .i64 1, .int .i64 0, .int .i64 1, .int .i64 0, .int .i64 1, .int .i64 0, .int .i64 1, .slice none 0 0, .slice none 0 0, .slice none 0 0, .slice none 0 0]) rfl rfl X8.out.F (by kernel_rfl) (by simp) (by kernel_rfl) (by kernel_rfl) ?_; intro w9 hF9 ho9; have X9 := Aside0.mk (X8.out.one ho9 hF9); clear hF9 ho9 X8) | (with_reducible refine gate_load 35 ?_; refine ev_load (t := 35) (ad := ⟨w.heap.size, 0, none⟩) (cs := [.int .i64 0, .int .i64 1, .int .i64 0, .int .i64 1, .int .i64 0, .int .i64 1, .int .i64 0, .int .i64 1, .int .i64 0, .int .i64 1, .int .i64 0, .int .i64 1, .int .i64 0, .int .i64 1]) rfl (by kernel_rfl) (by kernel_rfl) (blk_load X9.out.x9 0 _ rfl) ?_) | (with_reducible refine gate_store 35 ?_; refine ev_store_at (g := w.heap.size + 1 + 1 + 1) (o := 4) (t0 := 120) (c' := #[.int .i64 0, .int .i64 1, .int .i64 0, .int .i64 1, .int .i64 0, .int .i64 1, .int .i64 0, .int .i64 1, .int .i64 0, .int .i64 1, .int .i64 0, .int .i64 1, .int .i64 0, .int .i64 1]) (cur := #[.slice A nodes.length c, .slice none 0 0, .slice none 0 0, .slice (some ⟨g, 0, none⟩) 0 0, .int .i64 0, .int .i64 1, .int .i64 0, .int .i64 1, .int .i64 0, .int .i64 1, .int .i64 0, .int .i64 1, .int .i64 0, .int .i64 1, .int .i64 0, .int .i64 1, .int .i64 0, .int .i64 1, .slice none 0 0, .slice none 0 0, .slice none 0 0, .slice none 0 0]) (cur' := #[.slice A nodes.length c, .slice none 0 0, .slice none 0 0, .slice (some ⟨g, 0, none⟩) 0 0, .int .i64 0, .int .i64 1, .int .i64 0, .int .i64 1, .int .i64 0, .int .i64 1, .int .i64 0, .int .i64 1, .int .i64 0, .int .i64 1, .int .i64 0, .int .i64 1, .int .i64 0, .int .i64 1, .slice none 0 0, .slice none 0 0, .slice none 0 0, .slice none 0 0]) rfl rfl X9.out.F (by kernel_rfl) (by simp) (by kernel_rfl) (by kernel_rfl) ?_; intro w10 hF10 ho10; have X10 := Aside0.mk (X9.out.one ho10 hF10); clear hF10 ho10 X9) | (with_reducible refine gate_dst (N := 45) rfl ?_; refine Kd.event_run rfl (w1 := w10.alloc (.cells mk 117)) (v := .slice (some ⟨w10.heap.size, 0, none⟩) nodes.length nodes.length) ?hr ?_; (case hr => have hmk := HMK.out; go_simp); have X11 := Aside0.mk (X10.out.step (below_alloc (Below.refl _ _) (.cells mk 117))); generalize w10.alloc (.cells mk 117) = w11 at X11 ⊢; generalize w10.heap.size = g10; clear X10; have z18 := (blk_cell X11.out.F 18).trans (show _ = some (.slice none 0 0) from rfl); have f18 := blk_frozen X11.out.F 18) | (with_reducible refine gate_store 118 ?_; refine store_event (w1 := w11.setCell ⟨w.heap.size + 1 + 1 + 1, 18, none⟩ (.slice (some ⟨g10, 0, none⟩) nodes.length nodes.length)) rfl rfl rfl ?hr ?_; (case hr => go_simp); intro w12 hw12; have X12 := Aside0.mk (X11.out.one (oneB_setCell w11 ⟨w.heap.size + 1 + 1 + 1, 18, none⟩ (.slice (some ⟨g10, 0, none⟩) nodes.length nodes.length)) (blk_set X11.out.F 18 _)); rw [← hw12] at X12; clear hw12 X11 z18 f18) | (go_at_call 66; refine (needed66 nodes [] A c none 0 w12 (Kd.C_below HC.out X12.out.B) hc (Kd.C_nil _ _) (by simp) (by simp) HOK.out (by have := HL.out; omega)).mono ?_; rintro e w13 ⟨v, rfl, hR, hd⟩; rw [needB_nil] at hR; have X13 := Aside0.mk (X12.out.step hd); obtain ⟨Av, cv, ev⟩ := Kd.R_slice hR; subst ev; have HO := Aside0.mk hR; clear hd hR X12))
    go_loopw [52] (fun i wr => ∃ (j : Int), 0 ≤ j ∧ j ≤ (nodes.length : Int) ∧ i = .int .i64 j ∧ wr = w13) (fun i _ => nodes.length - (intOf i).toNat)
    case atStart => exact ⟨0, Int.le_refl _, by omega, rfl, rfl⟩
    case round =>
      obtain ⟨j, j0, j1, rfl, rfl⟩ := hrel
      by_cases hlt : j < (nodes.length : Int)
      · obtain ⟨go, co, eo, gb, gl, cl, HG⟩ := Kd.R_form HO.out (by rw [List.length_replicate]; omega)
        injection eo with ea en ec
        subst ea
        obtain ⟨hx1, hf1⟩ := Kd.R_celln false (by have := HO.out; rw [List.length_replicate] at this; exact this) j j0 hlt
        rw [rd_no] at hx1
        have HW := Aside0.mk (show wrap64 (j + 1) = j + 1 by unfold wrap64; have := HL.out; omega)
        have HLT := Aside0.mk hlt
        have HJ := Aside0.mk j0
        clear gb gl cl HG en ec
        replace j0 := eq_true j0
        replace hlt := eq_true hlt
        go_wp2
        refine ⟨⟨j + 1, by have := HJ.out; omega, by have := HLT.out; omega, by rw [HW.out], trivial⟩, ?_⟩
        rw [HW.out]
        have := HLT.out
        have := HJ.out
        simp only [intOf]
        omega
      · obtain rfl : j = (nodes.length : Int) := by omega
        clear j0 j1 hlt
        have z19 := (blk_cell X13.out.F 19).trans (show _ = some (.slice none 0 0) from rfl)
        go_wp2
        go_loopw [73] (fun i W => i = .int .i64 0 ∧ W = wr) (fun _ _ => 0)
        case atStart => exact ⟨rfl, rfl⟩
        case round =>
          obtain ⟨rfl, rfl⟩ := hrel
          clear z19
          go_wp2_with (go_at_call 69; refine (solved69 (w.heap.size + 1 + 1 + 1) _ wr X13.out.F rfl rfl).mono ?_; rintro e w14 ⟨⟨A', rfl⟩, hd⟩; have X14 := Aside0.mk (X13.out.step hd); clear hd X13; have z10 := (blk_cell X14.out.x10 0).trans (show _ = some (.slice none 0 0) from rfl); have z11 := (blk_cell X14.out.x11 0).trans (show _ = some (.int .i64 0) from rfl); have f10 := blk_frozen X14.out.x10 0; have f11 := blk_frozen X14.out.x11 0)
          have h10' := blk_set X14.out.x10 0 (.slice A' 0 0)
          have h11' := blk_far (p := ⟨w.heap.size + 1, 0, none⟩) X14.out.x11 (by simp) (.slice A' 0 0)
          have h10'' := blk_far (p := ⟨w.heap.size + 1 + 1, 0, none⟩) h10' (by simp) (.int .i64 0)
          have h11'' := blk_set h11' 0 (.int .i64 0)
          have y10 := (blk_cell h10'' 0).trans (show _ = some (.slice A' 0 0) from rfl)
          have y11 := (blk_cell h11'' 0).trans (show _ = some (.int .i64 0) from rfl)
          have HBB := Aside0.mk (below_set (g := w.heap.size + 1 + 1) (j := 0) (v := .int .i64 0) (below_set (g := w.heap.size + 1) (j := 0) (v := .slice A' 0 0) X14.out.B (by omega)) (by omega))
          clear h10' h11' h10'' h11'' z10 z11 f10 f11 X14
          refine leaves_cons (f := 64) (args := #[.pointer (some ⟨w.heap.size + 1, 0, none⟩), .pointer (some ⟨w.heap.size + 1 + 1, 0, none⟩)]) (by simp) (by simp [go_sem]) ?_
          refine (idle64 _ _ _).mono ?_
          rintro e u' w'' ⟨rfl, rfl, rfl⟩
          simp [bodyPostD, Leaves, settle, results, Try.results40, go_sem, y10, y11]
          exact HBB.out
end Go.Proofs.Ytoonahobmlnflaa.PC
namespace Go.Proofs.Ytoonahobmlnflaa.PC
open Go.RowKit Go.Shelf Go.Proofs.YtoonahobmlnflaaW.PrintWords Go.Proofs.YtoonahobmlnflaaW.PrintLast Go.Proofs.YtoonahobmlnflaaW.PrintMore
set_option linter.unusedVariables false
set_option linter.unusedSimpArgs false
def check20.T1 : Bool × List (List Nat × List Nat) := (true, [([], []), ([], []), ([0, 1, 1], [0, 1]), ([2], [2]), ([3], [3]), ([3], [3]), ([4, 2, 0, 1, 2, 3, 4], [4]), ([5, 6, 0, 1, 2, 3, 4, 5, 6], [5])])
def check20.B1 : List Nat := [0, 0, 3, 7, 15, 15, 31, 127]
theorem check20.tab1 : rtab .any (opsOf Try.f20 1) = check20.T1 := by kernel_rfl
theorem check20.bits1 : waitsOk check20.T1.2 check20.B1 = true := by kernel_rfl
/-- What check tells. -/
def chkE (nodes : List S37) (roots : List Int) : Int := if graphB nodes && !roots.any (outN nodes.length) then 0 else 170
set_option maxHeartbeats 4000000 in
set_option maxRecDepth 100000 in
theorem check20 (nodes : List S37) (roots : List Int) (A : Option Addr) (c : Nat) (A1 : Option Addr) (c1 : Nat) (w : World) (hC : Kd.C k37 w A nodes.length nodes) (hc : nodes.length ≤ c) (hI : ∀ x ∈ nodes, NodeI x) (hR : Kd.C (Kd.int .i64) w A1 roots.length roots) (hc1 : roots.length ≤ c1) :
    Calls Try.prog 20 #[.slice A nodes.length c, .slice A1 roots.length c1] w fun e w' => e = .returned (.int .i64 (chkE nodes roots)) ∧ Below w.heap.size w w' := by
  have hmf : ∀ (fn : Fn) (first cap : Array Value) (w : World), (Instr.makeFunc fn first cap).run Try.prog w = .ok (.func fn first cap) w := fun _ _ _ _ => rfl
  have hx := heap_alloc_last w (.cells #[.slice A nodes.length c] 22)
  have hb := below_alloc (Below.refl w.heap.size w) (.cells #[.slice A nodes.length c] 22)
  have HX0 := Aside0.mk hx
  have HX1 := Aside0.mk (blk_drew hx)
  have HB1 := Aside0.mk (below_drew1 hb)
  have HC := Aside0.mk hC
  have HI := Aside0.mk hI
  have HR := Aside0.mk hR
  clear hx hb hC hI hR
  go_enter Try.func20, Try.ntmps20
  go_wp2
  refine start_ (n := 8) (S := fun w' => w'.cell? ⟨w.heap.size, 0, none⟩ = some (.slice A nodes.length c)) (ds := []) (msk 8 0) (by kernel_rfl) rfl rfl (by exact (blk_cell HX1.out 0).trans rfl) (fun hHeld => ?_); refine with_tabW check20.tab1 check20.bits1 (fun HT_ HW_ => ?_)
  generalize (w.alloc (.cells #[.slice A nodes.length c] 22)).drew = w1 at HX1 HB1 hHeld ⊢
  refine tk_ 0 8 (msk 8 1) HT_.out HW_.out hHeld ?_ ?_ ?_ ?_ ?_
  rotate_left
  · rintro w' s0; go_simp; with_reducible rfl
  rotate_left
  · simp only [Act.put, sq, i64_w, i32_w]; rfl
  refine one_ (i := 1) (N := some 9) (msk 8 3) rfl rfl (one_of HT_.out (by kernel_rfl)) (by decide) (fun K hK => ?_)
  refine goes_ Try.func41 (by kernel_rfl) rfl #[] (by rfl) rfl rfl (by (try simp only [List.map_toArray, List.map_cons, List.map_nil]); first | done | rfl) ?_
  refine (plain41 _).mono ?_
  rintro e w2 ⟨rfl, hd⟩
  refine ⟨_, rfl, ?_⟩
  have HX2 := Aside0.mk (blk_below HX1.out hd)
  have HB2 := Aside0.mk (below_step HB1.out hd)
  clear hd HX1 HB1
  refine hK.out _ _ (by exact (blk_cell HX2.out 0).trans rfl) (fun hHeld => ?_)
  clear hK K
  refine norm_ (a' := ?_) ?_ ?_
  rotate_left
  · show Act.put _ (some 9) _ = _
    simp only [Act.put, sq, i64_w, i32_w]
    rfl
  refine one_ (i := 2) (N := some 10) (msk 8 7) rfl rfl (one_of HT_.out (by kernel_rfl)) (by decide) (fun K hK => ?_)
  refine goes_ Try.func40 (by kernel_rfl) rfl #[.slice A nodes.length c, .slice none 0 0, .slice none 0 0, .slice none 0 0, .agg #[.int .i64 0, .int .i64 1, .int .i64 0, .int .i64 1, .int .i64 0, .int .i64 1, .int .i64 0, .int .i64 1, .int .i64 0, .int .i64 1, .int .i64 0, .int .i64 1, .int .i64 0, .int .i64 1]] (by rfl) rfl rfl (by (try simp only [List.map_toArray, List.map_cons, List.map_nil]); first | done | rfl) ?_
  refine (infer40 nodes A c w2 (Kd.C_below HC.out HB2.out) hc HI.out).mono ?_
  obtain ⟨r, hr⟩ : ∃ r, r = (if graphB nodes then (0 : Int) else 170) := ⟨_, rfl⟩
  rw [← hr]
  have HRR := Aside0.mk hr
  clear hr
  rintro e w3 ⟨⟨A', rfl⟩, hd⟩
  refine ⟨_, rfl, ?_⟩
  have HX3 := Aside0.mk (blk_below HX2.out hd)
  have HB3 := Aside0.mk (below_step HB2.out hd)
  clear hd HX2 HB2
  refine hK.out _ _ (by exact (blk_cell HX3.out 0).trans rfl) (fun hHeld => ?_)
  clear hK K
  refine norm_ (a' := ?_) ?_ ?_
  rotate_left
  · show Act.put _ (some 10) _ = _
    simp only [Act.put, sq, i64_w, i32_w]
    rfl
  refine pu_ 3 7 (msk 8 15) HT_.out ?_ ?_ ?_ ?_ ?_
  rotate_left
  · intro w'; go_simp; with_reducible rfl
  rotate_left
  · simp only [Act.put, sq, i64_w, i32_w]; rfl
  refine pu_ 4 11 (msk 8 31) HT_.out ?_ ?_ ?_ ?_ ?_
  rotate_left
  · intro w'; go_simp; with_reducible rfl
  rotate_left
  · simp only [Act.put, sq, i64_w, i32_w]; rfl
  refine pu_ 5 12 (msk 8 63) HT_.out ?_ ?_ ?_ ?_ ?_
  rotate_left
  · intro w'; go_simp; with_reducible rfl
  rotate_left
  · simp only [Act.put, sq, i64_w, i32_w]; rfl
  refine pu_ 6 5 (msk 8 127) HT_.out ?_ ?_ ?_ ?_ ?_
  rotate_left
  · intro w'; go_simp; with_reducible rfl
  rotate_left
  · simp only [Act.put, sq, i64_w, i32_w]; rfl
  refine pu_ 7 6 (msk 8 255) HT_.out ?_ ?_ ?_ ?_ ?_
  rotate_left
  · intro w'; go_simp; with_reducible rfl
  rotate_left
  · simp only [Act.put, sq, i64_w, i32_w]; rfl
  refine done_ (done_of HT_.out (by kernel_rfl)) ?_
  have z3 := (blk_cell HX3.out 0).trans (show _ = some (.slice A nodes.length c) from rfl)
  cases hgb : graphB nodes with
  | false =>
    clear z3
    obtain rfl : r = 170 := by rw [HRR.out, hgb]; rfl
    go_wp2
    go_ret
    exact ⟨by rw [show chkE nodes roots = 170 by unfold chkE; rw [hgb]; rfl]; rfl, HB3.out⟩
  | true =>
    obtain rfl : r = 0 := by rw [HRR.out, hgb]; rfl
    have en43 : ∀ args w, (callFunc 43 args).run Try.prog w = .ok (.enter 43 args) w := enters_of Try.func43 (by kernel_rfl) rfl
    have hcon := contF42 43 #[.pointer (some ⟨w.heap.size, 0, none⟩)] (outN nodes.length) en43 A1 c1 roots w3 (Kd.C_below HR.out HB3.out) (fun W x hx hW => out43 x w.heap.size A nodes.length c W (blk_below HX3.out hW))
    have HCON := Aside0.mk hcon
    clear hcon en43 z3
    cases hany : roots.any (outN nodes.length) with
    | false =>
      rw [hany] at HCON
      go_wp2_with (go_at_call 42; refine HCON.out.mono ?_; rintro e w4 ⟨rfl, hd⟩; have HB4 := Aside0.mk (below_step HB3.out hd); clear hd)
      go_ret
      exact ⟨by rw [show chkE nodes roots = 0 by unfold chkE; rw [hgb, hany]; rfl]; rfl, HB4.out⟩
    | true =>
      rw [hany] at HCON
      go_wp2_with (go_at_call 42; refine HCON.out.mono ?_; rintro e w4 ⟨rfl, hd⟩; have HB4 := Aside0.mk (below_step HB3.out hd); clear hd)
      go_ret
      exact ⟨by rw [show chkE nodes roots = 170 by unfold chkE; rw [hgb, hany]; rfl]; rfl, HB4.out⟩
end Go.Proofs.Ytoonahobmlnflaa.PC
namespace Go.Proofs.Ytoonahobmlnflaa.PC
open Go.RowKit Go.Shelf Go.Proofs.YtoonahobmlnflaaW.PrintWords Go.Proofs.YtoonahobmlnflaaW.PrintLast Go.Proofs.YtoonahobmlnflaaW.PrintMore
open Go.Lib
set_option linter.unusedVariables false
set_option linter.unusedSimpArgs false
def eqK (x y : Int × Int) : Bool := decide (x = y)
theorem eqK32 (d : Nat) (w : World) (x0 y0 x1 y1 : Int) : (Op.equalIn (d + 2) 32 (.agg #[.int .i64 x0, .int .i64 x1]) (.agg #[.int .i64 y0, .int .i64 y1])).run Try.prog w = .ok (eqK (x0, x1) (y0, y1)) w := by
  rw [eqA32]
  congr 1
  unfold eqK
  by_cases h0 : x0 = y0 <;> by_cases h1 : x1 = y1 <;> simp [h0, h1]
theorem eql32 (w : World) (x0 y0 x1 y1 : Int) : (binOp .eql 32 (.agg #[.int .i64 x0, .int .i64 x1]) (.agg #[.int .i64 y0, .int .i64 y1])).run Try.prog w = .ok (.bool (eqK (x0, x1) (y0, y1))) w := by
  rw [run_eql_struct, eqK32]; rfl
theorem neq32 (w : World) (x0 y0 x1 y1 : Int) : (binOp .neq 32 (.agg #[.int .i64 x0, .int .i64 x1]) (.agg #[.int .i64 y0, .int .i64 y1])).run Try.prog w = .ok (.bool (!eqK (x0, x1) (y0, y1))) w := by
  rw [run_neq_struct, eqK32]; rfl
/-- The elements' cells, in a row. -/
structure Row2 (cs : Array Value) (d : Array (Int × Int)) : Prop where
  sz : d.size * 2 ≤ cs.size
  a : ∀ j, j < d.size → cs[j * 2]? = some (.int .i64 d[j]!.1)
  b : ∀ j, j < d.size → cs[j * 2 + 1]? = some (.int .i64 d[j]!.2)
theorem Row2.size {cs : Array Value} {d : Array (Int × Int)} (h : Row2 cs d) : d.size * 2 ≤ cs.size := h.sz
theorem Row2.put {cs : Array Value} {d : Array (Int × Int)} (h : Row2 cs d) (k : Nat) (hk : k < d.size) (x y : Int) :
    Row2 (cs.toList.take (k * 2) ++ [Value.int .i64 x, Value.int .i64 y] ++ cs.toList.drop (k * 2 + 2)).toArray (d.setIfInBounds k (x, y)) := by
  have hs := h.sz
  have key : ∀ i : Nat, i < cs.size → (cs.toList.take (k * 2) ++ [Value.int .i64 x, .int .i64 y] ++ cs.toList.drop (k * 2 + 2)).toArray[i]? = if i = k * 2 then some (.int .i64 x) else if i = k * 2 + 1 then some (.int .i64 y) else cs[i]? := fun i hi => by
    simp only [List.getElem?_toArray]
    by_cases h1 : i < k * 2
    · rw [List.append_assoc, List.getElem?_append_left (by simp; omega), List.getElem?_take_of_lt h1, if_neg (by omega), if_neg (by omega), Array.getElem?_toList]
    · by_cases h2 : i < k * 2 + 2
      · rw [List.append_assoc, List.getElem?_append_right (by simp; omega), List.length_take, Array.length_toList, Nat.min_eq_left (by omega), List.getElem?_append_left (by simp; omega)]
        rcases Nat.lt_or_ge i (k * 2 + 1) with h3 | h3
        · obtain rfl : i = k * 2 := by omega
          simp
        · obtain rfl : i = k * 2 + 1 := by omega
          simp [show k * 2 + 1 - k * 2 = 1 by omega]
      · rw [List.getElem?_append_right (by simp; omega), if_neg (by omega), if_neg (by omega)]
        simp only [List.length_append, List.length_take, Array.length_toList, List.length_cons, List.length_nil, List.getElem?_drop, Array.getElem?_toList]
        congr 1
        omega
  refine ⟨by simp; omega, fun j hj => ?_, fun j hj => ?_⟩
  all_goals simp only [Array.size_setIfInBounds] at hj
  · rw [key _ (by omega)]
    by_cases e : j = k
    · subst e; simp [Array.getElem!_eq_getD, Array.getD, hk]
    · rw [if_neg (by omega), if_neg (by omega), h.a j hj]
      simp [Array.getElem!_eq_getD, Array.getD, hj, Array.getElem_setIfInBounds, Ne.symm e]
  · rw [key _ (by omega)]
    by_cases e : j = k
    · subst e; simp [Array.getElem!_eq_getD, Array.getD, hk]
    · rw [if_neg (by omega), if_neg (by omega), h.b j hj]
      simp [Array.getElem!_eq_getD, Array.getD, hj, Array.getElem_setIfInBounds, Ne.symm e]
/-- What a later place holds, the first ones stay. -/
theorem Row2.first {cs cs' : Array Value} {d : Array (Int × Int)} (h : Row2 cs d) (l : List (Int × Int)) (hl : l.length ≤ d.size) (hd : ∀ j, j < l.length → l[j]? = some d[j]!) (hs : cs'.size = cs.size) (hc : ∀ i, i < l.length * 2 → cs'[i]? = cs[i]?) : Row2 cs' l.toArray := by
  have hz := h.sz
  have e : ∀ j, j < l.length → l.toArray[j]! = d[j]! := fun j hj => by
    have := hd j hj
    rw [List.getElem?_eq_getElem hj] at this
    injection this with this
    rw [← this]
    simp [Array.getElem!_eq_getD, Array.getD, hj]
  refine ⟨by simp; omega, fun j hj => ?_, fun j hj => ?_⟩
  all_goals simp only [List.size_toArray] at hj
  · rw [hc _ (by omega), e j hj]; exact h.a j (by omega)
  · rw [hc _ (by omega), e j hj]; exact h.b j (by omega)
set_option maxRecDepth 100000 in
theorem run_clear40 (g o m c : Nat) (cs : Array Value) (W : World) (ty : TypeId) (hx : W.heap[g]? = some (.cells cs 32 (0, 0))) (hm : 0 < m) (ho : o + m * 2 ≤ cs.size) :
    ∃ cs' : Array Value, (Builtin.clear_ #[40] ty #[.slice (some ⟨g, o, none⟩) m c]).run Try.prog W = .ok (.tuple #[]) (W.setRow g cs') ∧ cs'.size = cs.size ∧ ∀ i, i < o → cs'[i]? = cs[i]? := by
  have hz : (zeroValue 32).run Try.prog W = .ok (.agg #[.int .i64 0, .int .i64 0]) W := by kernel_rfl
  have hsz : (Builtin.zeroCells #[Value.int .i64 0, .int .i64 0] m).toList.length = m * 2 := by simp [Builtin.zeroCells]
  have hone : ∀ v ∈ (Builtin.zeroCells #[Value.int .i64 0, .int .i64 0] m).toList, v.oneCell' = true := fun v hv => by
    simp only [Builtin.zeroCells, Array.toList_map, List.mem_map] at hv
    obtain ⟨i, _, rfl⟩ := hv
    have : i % 2 = 0 ∨ i % 2 = 1 := by omega
    rcases this with h | h <;> simp [h] <;> rfl
  have hst := run_storeCells_at (P := Try.prog) g o 32 (Builtin.zeroCells #[Value.int .i64 0, .int .i64 0] m).toList 0 cs W hx (by rw [hsz]; omega) hone
  obtain ⟨n, rfl⟩ : ∃ n, m = n + 1 := ⟨m - 1, by omega⟩
  refine ⟨(cs.toList.take (o + 0) ++ (Builtin.zeroCells #[Value.int .i64 0, .int .i64 0] (n + 1)).toList ++ cs.toList.drop (o + 0 + (Builtin.zeroCells #[Value.int .i64 0, .int .i64 0] (n + 1)).toList.length)).toArray, ?_, ?_, ?_⟩
  · simp [Builtin.clear_, run_underlying Try.underlying40, hz]
    have e : Value.cells (.agg #[.int .i64 0, .int .i64 0]) = #[.int .i64 0, .int .i64 0] := rfl
    rw [e, hst]
    simp [Result.andThen]
  · simp only [List.size_toArray, List.length_append, List.length_take, List.length_drop, Array.length_toList, hsz]
    omega
  · intro i hi
    rw [List.getElem?_toArray, List.append_assoc, List.getElem?_append_left (by simp; omega), List.getElem?_take_of_lt (by omega), Array.getElem?_toList]
theorem keeps_at {α : Type} [Inhabited α] [DecidableEq α] {d : Array α} {m p : Nat} (h : p + 1 = m) : keeps d m = decide (d[m]! ≠ d[p]!) := by
  subst h
  unfold keeps
  simp
theorem eqK_f {x y : Int × Int} (h : eqK x y = false) : decide (x ≠ y) = true := by unfold eqK at h; exact decide_eq_true (of_decide_eq_false h)
theorem eqK_t {x y : Int × Int} (h : eqK x y = true) : decide (x ≠ y) = false := by unfold eqK at h; exact decide_eq_false (fun hn => hn (of_decide_eq_true h))
end Go.Proofs.Ytoonahobmlnflaa.PC
