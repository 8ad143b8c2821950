/- Several texts of this claim, one behind the other. -/
import Derived.Shelf.Sort.Plain
import Derived.Shelf.Slices.Clone
import Derived.Shelf.Slices.In.SortNone
import Derived.Shelf.SlicesE.Delete
import Derived.Shelf.SlSortCmp.NoneTotal
import Derived.Test.YtlaneafplmbcnaaProg
import Derived.Test.YtlaneafplmbcnaaHc
import Derived.Sort.OwnSortedInts
import Derived.Lib.OwnBridge
namespace Go.Proofs
open Go.Shelf
def Try.lays189_ren : Go.Shelf.Ren := ⟨fun | 189 => 38 | 125 => 52 | 257 => 54 | 128 => 63 | 129 => 64 | 294 => 65 | 295 => 66 | 296 => 67 | 297 => 68 | 298 => 69 | 299 => 70 | 216 => 71 | 300 => 72 | 301 => 73 | 328 => 79 | 329 => 75 | 330 => 76 | 331 => 80 | 332 => 81 | 215 => 82 | 343 => 84 | n => n, fun | 28 => 23 | 3 => 3 | 46 => 75 | 0 => 0 | 51 => 87 | 53 => 70 | 4 => 4 | 183 => 80 | 182 => 79 | 131 => 84 | 5 => 5 | 9 => 9 | 218 => 95 | 222 => 99 | 228 => 103 | 229 => 104 | n => n, fun | n => n⟩
theorem Try.lays189 : Go.Proofs.Lays.n189 Try.prog Try.lays189_ren := {
  mixed := by kernel_rfl
  f125 := Try.func52.trans (congrArg some (by kernel_rfl))
  f128 := Try.func63.trans (congrArg some (by kernel_rfl))
  f129 := Try.func64.trans (congrArg some (by kernel_rfl))
  f189 := Try.func38.trans (congrArg some (by kernel_rfl))
  f215 := Try.func82.trans (congrArg some (by kernel_rfl))
  f216 := Try.func71.trans (congrArg some (by kernel_rfl))
  f257 := Try.func54.trans (congrArg some (by kernel_rfl))
  f294 := Try.func65.trans (congrArg some (by kernel_rfl))
  f295 := Try.func66.trans (congrArg some (by kernel_rfl))
  f296 := Try.func67.trans (congrArg some (by kernel_rfl))
  f297 := Try.func68.trans (congrArg some (by kernel_rfl))
  f298 := Try.func69.trans (congrArg some (by kernel_rfl))
  f299 := Try.func70.trans (congrArg some (by kernel_rfl))
  f300 := Try.func72.trans (congrArg some (by kernel_rfl))
  f301 := Try.func73.trans (congrArg some (by kernel_rfl))
  f328 := Try.func79.trans (congrArg some (by kernel_rfl))
  f329 := Try.func75.trans (congrArg some (by kernel_rfl))
  f330 := Try.func76.trans (congrArg some (by kernel_rfl))
  f331 := Try.func80.trans (congrArg some (by kernel_rfl))
  f332 := Try.func81.trans (congrArg some (by kernel_rfl))
  f343 := Try.func84.trans (congrArg some (by kernel_rfl))
  t0 := Try.underlying0
  a0 := Try.isAgg0
  z0 := Try.sizeOf0
  v0 := Try.zeroValue0
  t3 := Try.underlying3
  a3 := Try.isAgg3
  z3 := Try.sizeOf3
  v3 := Try.zeroValue3
  t4 := Try.underlying4
  a4 := Try.isAgg4
  z4 := Try.sizeOf4
  v4 := Try.zeroValue4
  t5 := Try.underlying5
  a5 := Try.isAgg5
  z5 := Try.sizeOf5
  v5 := Try.zeroValue5
  t9 := Try.underlying9
  a9 := Try.isAgg9
  z9 := Try.sizeOf9
  v9 := Try.zeroValue9
  t28 := Try.underlying23
  a28 := Try.isAgg23
  z28 := Try.sizeOf23
  v28 := Try.zeroValue23
  t46 := Try.underlying75
  a46 := Try.isAgg75
  z46 := Try.sizeOf75
  v46 := Try.zeroValue75
  t51 := Try.underlying87
  a51 := Try.isAgg87
  z51 := Try.sizeOf87
  v51 := Try.zeroValue87
  t53 := Try.underlying70
  a53 := Try.isAgg70
  z53 := Try.sizeOf70
  v53 := Try.zeroValue70
  t131 := Try.underlying84
  a131 := Try.isAgg84
  z131 := Try.sizeOf84
  v131 := Try.zeroValue84
  t182 := Try.underlying79
  a182 := Try.isAgg79
  z182 := Try.sizeOf79
  v182 := Try.zeroValue79
  t183 := Try.underlying80
  a183 := Try.isAgg80
  z183 := Try.sizeOf80
  v183 := Try.zeroValue80
  t218 := Try.underlying95
  a218 := Try.isAgg95
  z218 := Try.sizeOf95
  v218 := Try.zeroValue95
  t222 := Try.underlying99
  a222 := Try.isAgg99
  z222 := Try.sizeOf99
  v222 := Try.zeroValue99
  t228 := Try.underlying103
  a228 := Try.isAgg103
  z228 := Try.sizeOf103
  v228 := Try.zeroValue103
  t229 := Try.underlying104
  a229 := Try.isAgg104
  z229 := Try.sizeOf104
  v229 := Try.zeroValue104 }
open Go.Sort Go.RowKit in
theorem Try.slices_Sort_int (blk off cap : Nat) (zs : List Int) (w : World) (hH : Holds (Value.int .i64) w blk off zs.toArray) (hblk : blk < w.heap.size) (hsz : zs.length < 4611686018427387904) :
    Calls Try.prog 38 #[.slice (some ⟨blk, off, none⟩) zs.length cap] w fun e w' =>
      e = .returned (.tuple #[]) ∧ ∃ n os, w' = grow (putRow (Value.int .i64) (Sort.ahead w n) blk off (zs.mergeSort fun x y => decide (x ≤ y)).toArray) os := Any.slices_Sort_int Try.lays189 blk off cap zs w hH hblk hsz
def Try.laysNm215_ren : Go.Shelf.Ren := ⟨fun | 15 => 42 | n => n, fun | 22 => 23 | 3 => 3 | 4 => 4 | n => n, fun | n => n⟩
theorem Try.laysNm215 : Go.Proofs.Lays2.n15 Try.prog Try.laysNm215_ren := {
  mixed := by kernel_rfl
  f15 := Try.func42.trans (congrArg some (by kernel_rfl))
  t3 := Try.underlying3
  a3 := Try.isAgg3
  z3 := Try.sizeOf3
  v3 := Try.zeroValue3
  t4 := Try.underlying4
  a4 := Try.isAgg4
  z4 := Try.sizeOf4
  v4 := Try.zeroValue4
  t22 := Try.underlying23
  a22 := Try.isAgg23
  z22 := Try.sizeOf23
  v22 := Try.zeroValue23
  i3 := by kernel_rfl }
open Go.RowKit Go.Lib in
theorem Try.slices_Clone_int (b off n c : Nat) (zs : List Int) (w : World) (hz : n ≤ zs.length) (hbig : n * 8 ≤ 140737488355328) (hc : ∀ j, j < zs.length → w.cell? ⟨b, off + j, none⟩ = some (.int .i64 (zs.getD j 0))) :
    Calls Try.prog 42 #[.slice (some ⟨b, off, none⟩) n c] w fun e w' => ∃ v', e = .returned v' ∧ w'.ownsRow w.heap.size 3 1 v' n ((zs.take n).map (Value.int .i64)) ∧ v' ≠ .slice none 0 0 ∧ Below w.heap.size w w' := Any.slices_Clone_int Try.laysNm215 b off n c zs w hz hbig hc
open Go.RowKit Go.Lib in
theorem Try.slices_Clone_int_nil (n c : Nat) (w : World) :
    Calls Try.prog 42 #[.slice none n c] w fun e w' => e = .returned (.slice none 0 0) ∧ w' = w := Any.slices_Clone_int_nil Try.laysNm215 n c w
open Go.RowKit Go.Lib in
theorem Try.slices_Clone_int_zero (a : Addr) (c : Nat) (w : World) :
    Calls Try.prog 42 #[.slice (some a) 0 c] w fun e w' => ∃ v', e = .returned v' ∧ w'.ownsRow w.heap.size 3 1 v' 0 [] ∧ v' ≠ .slice none 0 0 ∧ Below w.heap.size w w' := Any.slices_Clone_int_zero Try.laysNm215 a c w
def Try.laysNm237_ren : Go.Shelf.Ren := ⟨fun | 37 => 82 | n => n, fun | 3 => 3 | 4 => 4 | n => n, fun | n => n⟩
theorem Try.laysNm237 : Go.Proofs.Lays2.n37 Try.prog Try.laysNm237_ren := {
  mixed := by kernel_rfl
  f37 := Try.func82.trans (congrArg some (by kernel_rfl))
  t3 := Try.underlying3
  a3 := Try.isAgg3
  z3 := Try.sizeOf3
  v3 := Try.zeroValue3
  t4 := Try.underlying4
  a4 := Try.isAgg4
  z4 := Try.sizeOf4
  v4 := Try.zeroValue4 }
def Try.laysNm231_ren : Go.Shelf.Ren := ⟨fun | 31 => 71 | 37 => 82 | n => n, fun | 3 => 3 | 4 => 4 | n => n, fun | n => n⟩
theorem Try.laysNm231 : Go.Proofs.Lays2.n31 Try.prog Try.laysNm231_ren := {
  mixed := by kernel_rfl
  f31 := Try.func71.trans (congrArg some (by kernel_rfl))
  f37 := Try.func82.trans (congrArg some (by kernel_rfl))
  t3 := Try.underlying3
  a3 := Try.isAgg3
  z3 := Try.sizeOf3
  v3 := Try.zeroValue3
  t4 := Try.underlying4
  a4 := Try.isAgg4
  z4 := Try.sizeOf4
  v4 := Try.zeroValue4 }
open Go.RowKit Go.Sort in
theorem Try.slices_Sort_int_none (p : Option Addr) (cap : Nat) (w : World) :
    Calls Try.prog 38 #[.slice p 0 cap] w fun e w' => e = .returned (.tuple #[]) ∧ w' = w := Any.slices_Sort_int_none Try.lays189 p cap w
def Try.laysSlE45_f39_ren : Go.Shelf.Ren := ⟨fun | 45 => 39 | n => n, fun | 22 => 37 | 23 => 23 | 3 => 3 | 4 => 4 | 0 => 0 | n => n, fun | n => n⟩
theorem Try.laysSlE45_f39 : Go.Proofs.SlLaysE.n45 Try.prog Try.laysSlE45_f39_ren := {
  mixed := by kernel_rfl
  f45 := ⟨Try.f39.name, by decide, Try.func39.trans (congrArg some (by kernel_rfl))⟩
  t0 := Try.underlying0
  a0 := Try.isAgg0
  z0 := Try.sizeOf0
  v0 := Try.zeroValue0
  t3 := Try.underlying3
  a3 := Try.isAgg3
  z3 := Try.sizeOf3
  v3 := Try.zeroValue3
  t4 := Try.underlying4
  a4 := Try.isAgg4
  z4 := Try.sizeOf4
  v4 := Try.zeroValue4
  t22 := Try.underlying37
  a22 := Try.isAgg37
  z22 := Try.sizeOf37
  v22 := Try.zeroValue37
  a23 := Try.isAgg23
  z23 := Try.sizeOf23 }
open Go.RowKit Go.Lib Go.Sort in
theorem Try.slices_Delete {α : Type} [Inhabited α] (enc : α → Value) (h1 : OneCell enc) (zr : α) (v23 : ∀ w, (zeroValue 23).run Try.prog w = .ok (enc zr) w) (i0 : TypeInfo) (hi0 : Try.prog.info? 23 = some i0) (hz1 : i0.size = 1) (blk off cap i j : Nat) (d : Array α) (w : World) (hH : Holds enc w blk off d) (hcap : d.size ≤ cap) (hm : cap ≤ 9223372036854775807) (hij : i ≤ j) (hj : j ≤ d.size) :
    Calls Try.prog 39 #[.slice (some ⟨blk, off, none⟩) d.size cap, .int .i64 i, .int .i64 j] w fun e w' => e = .returned (.slice (some ⟨blk, off, none⟩) (d.size - (j - i)) cap) ∧ ∃ q, w' = putRow enc (Sort.ahead w q) blk off (d.toList.take i ++ d.toList.drop j ++ List.replicate (j - i) zr).toArray := AnyE.slices_Delete Try.laysSlE45_f39 enc h1 zr v23 i0 hi0 hz1 blk off cap i j d w hH hcap hm hij hj
def Try.laysSlF6_f30_ren : Go.Shelf.Ren := ⟨fun | 6 => 30 | 15 => 52 | 14 => 51 | 28 => 63 | 29 => 64 | 20 => 55 | 21 => 56 | 22 => 57 | 23 => 58 | 24 => 59 | 25 => 60 | 26 => 61 | 27 => 62 | 46 => 74 | 47 => 75 | 48 => 76 | 49 => 77 | 50 => 78 | 57 => 83 | n => n, fun | 22 => 37 | 24 => 23 | 25 => 56 | 3 => 3 | 39 => 75 | 0 => 0 | 53 => 87 | 55 => 70 | 4 => 4 | 46 => 80 | 45 => 79 | 50 => 84 | 5 => 5 | 9 => 9 | 66 => 95 | 70 => 99 | 76 => 103 | 77 => 104 | n => n, fun | n => n⟩
theorem Try.laysSlF6_f30 : Go.Proofs.SlLaysF.n6 Try.prog Try.laysSlF6_f30_ren := {
  mixed := by kernel_rfl
  f6 := ⟨Try.f30.name, by decide, Try.func30.trans (congrArg some (by kernel_rfl))⟩
  f14 := ⟨Try.f51.name, by decide, Try.func51.trans (congrArg some (by kernel_rfl))⟩
  f15 := Try.func52.trans (congrArg some (by kernel_rfl))
  f20 := ⟨Try.f55.name, by decide, Try.func55.trans (congrArg some (by kernel_rfl))⟩
  f21 := ⟨Try.f56.name, by decide, Try.func56.trans (congrArg some (by kernel_rfl))⟩
  f22 := ⟨Try.f57.name, by decide, Try.func57.trans (congrArg some (by kernel_rfl))⟩
  f23 := ⟨Try.f58.name, by decide, Try.func58.trans (congrArg some (by kernel_rfl))⟩
  f24 := ⟨Try.f59.name, by decide, Try.func59.trans (congrArg some (by kernel_rfl))⟩
  f25 := ⟨Try.f60.name, by decide, Try.func60.trans (congrArg some (by kernel_rfl))⟩
  f26 := ⟨Try.f61.name, by decide, Try.func61.trans (congrArg some (by kernel_rfl))⟩
  f27 := ⟨Try.f62.name, by decide, Try.func62.trans (congrArg some (by kernel_rfl))⟩
  f28 := Try.func63.trans (congrArg some (by kernel_rfl))
  f29 := Try.func64.trans (congrArg some (by kernel_rfl))
  f46 := ⟨Try.f74.name, by decide, Try.func74.trans (congrArg some (by kernel_rfl))⟩
  f47 := Try.func75.trans (congrArg some (by kernel_rfl))
  f48 := Try.func76.trans (congrArg some (by kernel_rfl))
  f49 := ⟨Try.f77.name, by decide, Try.func77.trans (congrArg some (by kernel_rfl))⟩
  f50 := ⟨Try.f78.name, by decide, Try.func78.trans (congrArg some (by kernel_rfl))⟩
  f57 := ⟨Try.f83.name, by decide, Try.func83.trans (congrArg some (by kernel_rfl))⟩
  t0 := Try.underlying0
  a0 := Try.isAgg0
  z0 := Try.sizeOf0
  v0 := Try.zeroValue0
  t3 := Try.underlying3
  a3 := Try.isAgg3
  z3 := Try.sizeOf3
  v3 := Try.zeroValue3
  t4 := Try.underlying4
  a4 := Try.isAgg4
  z4 := Try.sizeOf4
  v4 := Try.zeroValue4
  t5 := Try.underlying5
  a5 := Try.isAgg5
  z5 := Try.sizeOf5
  v5 := Try.zeroValue5
  t9 := Try.underlying9
  a9 := Try.isAgg9
  z9 := Try.sizeOf9
  v9 := Try.zeroValue9
  t22 := Try.underlying37
  a22 := Try.isAgg37
  z22 := Try.sizeOf37
  v22 := Try.zeroValue37
  a24 := Try.isAgg23
  z24 := Try.sizeOf23
  t25 := Try.underlying56
  a25 := Try.isAgg56
  z25 := Try.sizeOf56
  v25 := Try.zeroValue56
  t39 := Try.underlying75
  a39 := Try.isAgg75
  z39 := Try.sizeOf75
  v39 := Try.zeroValue75
  t45 := Try.underlying79
  a45 := Try.isAgg79
  z45 := Try.sizeOf79
  v45 := Try.zeroValue79
  t46 := Try.underlying80
  a46 := Try.isAgg80
  z46 := Try.sizeOf80
  v46 := Try.zeroValue80
  t50 := Try.underlying84
  a50 := Try.isAgg84
  z50 := Try.sizeOf84
  v50 := Try.zeroValue84
  t53 := Try.underlying87
  a53 := Try.isAgg87
  z53 := Try.sizeOf87
  v53 := Try.zeroValue87
  t55 := Try.underlying70
  a55 := Try.isAgg70
  z55 := Try.sizeOf70
  v55 := Try.zeroValue70
  t66 := Try.underlying95
  a66 := Try.isAgg95
  z66 := Try.sizeOf95
  v66 := Try.zeroValue95
  t70 := Try.underlying99
  a70 := Try.isAgg99
  z70 := Try.sizeOf99
  v70 := Try.zeroValue99
  t76 := Try.underlying103
  a76 := Try.isAgg103
  z76 := Try.sizeOf103
  v76 := Try.zeroValue103
  t77 := Try.underlying104
  a77 := Try.isAgg104
  z77 := Try.sizeOf104
  v77 := Try.zeroValue104 }
open Go.RowKit Go.Lib Go.Sort in
theorem Try.slices_SortFunc_total {α : Type} [Inhabited α] (enc : α → Value) (h1 : OneCell enc) (cf : α → α → Int) (hO : SWO (ltOf cf)) (g : Nat) (cb : Array Value) (blk off cap : Nat) (d : Array α) (w : World) (eg : ∀ args w, (callFunc g args).run Try.prog w = .ok (.enter g args) w) (hcmp : CmpLays1 Try.prog g cb enc cf blk off d.size w) (hH : Holds enc w blk off d) (hblk : blk < w.heap.size) (hsz : d.size < 4611686018427387904) (hT : ∀ x y, (ltOf cf) x y = false → (ltOf cf) y x = false → x = y) :
    Calls Try.prog 30 #[.slice (some ⟨blk, off, none⟩) d.size cap, .func (.func g) #[] cb] w fun e w' =>
      e = .returned (.tuple #[]) ∧ ∃ n os, w' = sortWorld enc w blk off n (d.toList.mergeSort fun x y => !(ltOf cf) y x).toArray os := Any.slices_SortFunc_total Try.laysSlF6_f30 enc h1 cf hO g cb blk off cap d w eg hcmp hH hblk hsz hT
end Go.Proofs

namespace Go.Proofs.Ytlaneafplmbcnaa.PO
open Go.RowKit Go.Proofs.YtlaneafplmbcnaaW.PrintWords Go.Proofs.YtlaneafplmbcnaaW.PrintLast Go.Proofs.YtlaneafplmbcnaaW.PrintMore
set_option linter.unusedVariables false
set_option linter.unusedSimpArgs false

theorem grow_heap_old (w : World) (os : Array Obj) {k : Nat} (h : k < w.heap.size) : (Go.Sort.grow w os).heap[k]? = w.heap[k]? := by
  unfold Go.Sort.grow
  simp only
  rw [Array.getElem?_append_left h]
/-- Behind a sort: the row holds ys, nothing else is turned. -/
theorem ownsRow_grow {α : Type} [Inhabited α] {enc : α → Value} {w : World} {base : Nat} {e : TypeId} {g n cap q : Nat} {os : Array Obj} {zs ys : List α} (h : w.ownsRow base e 1 (.slice (some ⟨g, 0, none⟩) n cap) n (zs.map enc)) (hy : ys.length = n) :
    (Go.Sort.grow (Go.Sort.putRow enc (Go.Sort.ahead w q) g 0 ys.toArray) os).ownsRow base e 1 (.slice (some ⟨g, 0, none⟩) n cap) n (ys.map enc) ∧ w.grownBy (Go.Sort.grow (Go.Sort.putRow enc (Go.Sort.ahead w q) g 0 ys.toArray) os) (some g) := by
  have h1 := Go.Lib.ownsRow_putRow (q := q) (k := n) h hy (Nat.le_refl _)
  rw [List.take_of_length_le (by omega)] at h1
  have hsz : (Go.Sort.putRow enc (Go.Sort.ahead w q) g 0 ys.toArray).heap.size = w.heap.size := by simp [Go.Sort.putRow, Go.Sort.mapBlock, Go.Sort.ahead]
  have hlt : g < w.heap.size := by
    rcases h.2 with ⟨e0, _⟩ | ⟨g', cap', cur, e0, _, hg, _⟩
    · cases e0
    · injection e0 with e1 _ _
      injection e1 with e1
      injection e1 with e1
      subst e1
      exact (Array.getElem?_eq_some_iff.1 hg).1
  constructor
  · refine own_move h1 (fun k hk => ?_)
    have hk' : g = k := by simpa [Value.ownBlock] using hk
    subst hk'
    exact grow_heap_old _ _ (by rw [hsz]; exact hlt)
  · refine ⟨rfl, rfl, rfl, by show w.heap.size ≤ (_ ++ os).size; rw [Array.size_append, hsz]; omega, fun k hk hne => ?_⟩
    rw [grow_heap_old _ _ (by rw [hsz]; exact hk)]
    have : g ≠ k := fun e => hne (by rw [e])
    simp [Go.Sort.putRow, Go.Sort.mapBlock, Go.Sort.ahead, Array.getElem?_modify, this]

theorem clone42 {g cap base : Nat} {ok : Nat → Prop} {l : List Int} (at' : Nat) {w : World} (hR : Kd.R (Kd.int .i64) 3 w base ok (.slice (some ⟨g, 0, none⟩) l.length cap) l) (hl : l.length ≤ 1000) :
    Calls Try.prog 42 #[.slice (some ⟨g, at', none⟩) (l.length - at') (cap - at')] w fun e w' => ∃ v, e = .returned v ∧ Kd.R (Kd.int .i64) 3 w' w.heap.size (fun k => w.heap.size ≤ k) v (l.drop at') ∧ Below w.heap.size w w' := by
  have hd : (l.drop at').length = l.length - at' := List.length_drop
  have h := Try.slices_Clone_int g at' (l.length - at') (cap - at') (l.drop at') w (by rw [hd]; exact Nat.le_refl _) (by omega) (fun j hj => by
    rw [hd] at hj
    obtain ⟨h1, _⟩ := Kd.R_celln 0 hR ((at' + j : Nat) : Int) (by omega) (by omega)
    rw [Int.toNat_natCast] at h1
    rw [h1]
    congr 1
    show Value.int .i64 (rdOf 0 l ((at' + j : Nat) : Int)) = _
    unfold rdOf
    rw [Int.toNat_natCast, List.getD_eq_getElem?_getD, List.getD_eq_getElem?_getD, List.getElem?_drop])
  refine h.mono fun e w' ⟨v, he, ho, hne, hb⟩ => ⟨v, he, ?_, hb⟩
  rw [List.take_of_length_le (by omega)] at ho
  refine Kd.R_of_own ?_ (fun k hk => own_base ho k hk)
  rw [hd]
  exact ho
theorem sort38 {base : Nat} {ok : Nat → Prop} {v : Value} {l : List Int} {w : World} (hR : Kd.R (Kd.int .i64) 3 w base ok v l) (hl : l.length ≤ 1000) :
    Calls Try.prog 38 #[v] w fun e w' => e = .returned (.tuple #[]) ∧ Kd.R (Kd.int .i64) 3 w' base ok v (sortI l) ∧ w.grownBy w' v.ownBlock := by
  by_cases h0 : l.length = 0
  · obtain ⟨A, c, rfl⟩ := Kd.R_slice hR
    have : l = [] := List.length_eq_zero_iff.1 h0
    subst this
    refine (Try.slices_Sort_int_none A c w).mono fun e w' ⟨he, hw⟩ => ?_
    subst hw
    have e0 : sortI [] = [] := by simp [sortI]
    exact ⟨he, by rw [e0]; exact hR, ⟨rfl, rfl, rfl, Nat.le_refl _, fun _ _ _ => rfl⟩⟩
  · obtain ⟨g, cap, rfl, hb, hg, _⟩ := Kd.R_form hR (by omega)
    have ho := Kd.own_of_R hR
    obtain ⟨g', cap', e0, _, _, _, _, _, hH⟩ := Go.Lib.holds_of_ownsRow ho (by intro h; cases h)
    injection e0 with e1 _ e3
    injection e1 with e1
    injection e1 with e1
    subst e1; subst e3
    refine (Try.slices_Sort_int g 0 cap l w hH hg (by omega)).mono fun e w' ⟨he, n, os, hw⟩ => ?_
    subst hw
    have hs : (l.mergeSort fun x y => decide (x ≤ y)).length = l.length := List.length_mergeSort l
    obtain ⟨h1, h2⟩ := ownsRow_grow (q := n) (os := os) ho hs
    refine ⟨he, ?_, h2⟩
    have h3 : (sortI l).length = l.length := sortI_len l
    have h4 := Kd.R_of_own (enc := Value.int .i64) (h1 := fun _ => rfl) (xs := sortI l) (ok := ok) (by rw [h3]; exact h1) (fun k hk => hR.1 k hk)
    exact h4
end Go.Proofs.Ytlaneafplmbcnaa.PO
