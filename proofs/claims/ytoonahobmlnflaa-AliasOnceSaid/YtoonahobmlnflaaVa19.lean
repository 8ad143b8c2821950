/- Texts of this claim, one behind the other. -/
import Derived.Test.YtoonahobmlnflaaVa18
import Derived.Deep.Strs
set_option linter.unusedVariables false
set_option linter.unusedSimpArgs false
set_option maxRecDepth 100000
set_option maxHeartbeats 16000000
namespace Go.Proofs.Ytoonahobmlnflaa.PC
open Go.RowKit Go.Shelf A B C
def lk6.T6 : Bool × List (List Nat × List Nat) := (true, [([], []), ([0], [0]), ([], []), ([1, 2], [1, 2]), ([3], [3]), ([], []), ([5], [5]), ([], []), ([6, 7], [6, 7]), ([8], [8]), ([4, 9], [4, 9])])
def lk6.B6 : List Nat := [0, 1, 0, 7, 15, 0, 32, 0, 224, 480, 1023]
theorem lk6.tab6 : vL .any (opsOf Try.f16 6) = lk6.T6 := by kernel_rfl
theorem lk6.bits6 : xH lk6.T6.2 lk6.B6 = true := by kernel_rfl
def lk12.T12 : Bool × List (List Nat × List Nat) := (true, [([], []), ([0], [0]), ([], []), ([1, 2], [1, 2]), ([3], [3]), ([], []), ([5], [5]), ([], []), ([6, 7], [6, 7]), ([8], [8]), ([4, 9], [4, 9])])
def lk12.B12 : List Nat := [0, 1, 0, 7, 15, 0, 32, 0, 224, 480, 1023]
theorem lk12.tab12 : vL .any (opsOf Try.f16 12) = lk12.T12 := by kernel_rfl
theorem lk12.bits12 : xH lk12.T12.2 lk12.B12 = true := by kernel_rfl
def lk18.T18 : Bool × List (List Nat × List Nat) := (true, [([], []), ([0], [0]), ([], []), ([1, 2], [1, 2]), ([3], [3]), ([], []), ([5], [5]), ([], []), ([6, 7], [6, 7]), ([8], [8]), ([4, 9], [4, 9])])
def lk18.B18 : List Nat := [0, 1, 0, 7, 15, 0, 32, 0, 224, 480, 1023]
theorem lk18.tab18 : vL .any (opsOf Try.f16 18) = lk18.T18 := by kernel_rfl
theorem lk18.bits18 : xH lk18.T18.2 lk18.B18 = true := by kernel_rfl
def lk24.T24 : Bool × List (List Nat × List Nat) := (true, [([], []), ([0], [0]), ([], []), ([1, 2], [1, 2]), ([3], [3]), ([], []), ([5], [5]), ([], []), ([6, 7], [6, 7]), ([8], [8]), ([4, 9], [4, 9])])
def lk24.B24 : List Nat := [0, 1, 0, 7, 15, 0, 32, 0, 224, 480, 1023]
theorem lk24.tab24 : vL .any (opsOf Try.f16 24) = lk24.T24 := by kernel_rfl
theorem lk24.bits24 : xH lk24.T24.2 lk24.B24 = true := by kernel_rfl
theorem nod_at {w : World} {A : Option Addr} {n : Nat} {xs : List S37} (h : Kd.C k37 w A n xs) (i : Int) (h0 : 0 ≤ i) (h1 : i < n) :
  ∃ ad, A = some ad ∧ ∀ (j : Nat) u, (wS (rT xs i))[j]? = some u → w.cell? ((ad.add (i.toNat * 22)).add j) = some u := by
 obtain ⟨ad, c, e, hK, hc⟩ := el_at h z37 i h0 h1
 obtain rfl := k37_open hK
 exact ⟨ad, e, hc⟩
theorem eqA59 (d : Nat) (w : World) (x : S59) : (Op.equalIn (d + 5) 59 (.agg (rF x)) (.agg (rF x))).run Try.prog w = .ok true w := by
 have h : (Op.equalIn (d + 5) 59 (.agg (rF x)) (.agg (rF x))).run Try.prog w = .ok ((x.f0.toList == x.f0.toList) && eqD x.f1 x.f1) w := by
  refine eqA_of Try.underlying59 (by kernel_rfl) ?_
  refine sZ (by rfl) (by kernel_rfl) (by kernel_rfl) (run_equalIn_string w _ 9 x.f0 x.f0 Try.underlying9) ?_
  exact oE (by rfl) (by kernel_rfl) (by kernel_rfl) (eqA35 d w x.f1 x.f1)
 rw [h, eqD_iff.2 rfl, beq_self_eq_true]; rfl
theorem eqA80 (d : Nat) (w : World) (x : S80) : (Op.equalIn (d + 3) 80 (.agg (vE x)) (.agg (vE x))).run Try.prog w = .ok true w := by
 have h : (Op.equalIn (d + 3) 80 (.agg (vE x)) (.agg (vE x))).run Try.prog w = .ok ((x.f0.f0 == x.f0.f0 && (x.f0.f1 == x.f0.f1)) && ((x.f1.f0 == x.f1.f0 && (x.f1.f1 == x.f1.f1)) && (x.f2.f0 == x.f2.f0 && (x.f2.f1 == x.f2.f1)))) w := by
  refine eqA_of Try.underlying80 (by kernel_rfl) ?_
  refine sZ (by rfl) (by kernel_rfl) (by kernel_rfl) (eqA32 d w x.f0.f0 x.f0.f0 x.f0.f1 x.f0.f1) ?_
  refine sZ (by rfl) (by kernel_rfl) (by kernel_rfl) (eqA30 d w x.f1.f0 x.f1.f0 x.f1.f1 x.f1.f1) ?_
  exact oE (by rfl) (by kernel_rfl) (by kernel_rfl) (eqA30 d w x.f2.f0 x.f2.f0 x.f2.f1 x.f2.f1)
 rw [h]; simp only [beq_self_eq_true, Bool.and_self]
theorem eqA37s (w : World) (x : S37) : (Op.equalIn 10000 37 (.agg (yQ x)) (.agg (yQ x))).run Try.prog w = .ok true w := (eqA37 9995 w x x).trans (by rw [eqN_iff.2 rfl])
section
variable {a : Act} {W : World}
theorem oF {o : Oper} {p : Operand} {ad : Addr} {t : TypeId} {cs : List Value} (hop : o.op = .load t p) (hg : o.guard = none) (hp : a.eval p = .pointer (some ad)) (hag : (isAgg t).run Try.prog W = .ok true W) (hsz : (sizeOf t).run Try.prog W = .ok cs.length W) (hc : ∀ (j : Nat) v, cs[j]? = some v → W.cell? (ad.add j) = some v) :
  (execOp a.eval o).run Try.prog W = .ok (.value (.agg cs.toArray)) W := by
 rw [sB hop, hg]
 exact oG (cs := cs) hp hag hsz hc
theorem exec_neqs {o : Oper} {p q : Operand} {t t' : TypeId} {c : Array Value} (hop : o.op = .binOp .neq t p q t') (hg : o.guard = none) (hp : a.eval p = .agg c) (hq : a.eval q = .agg c) (hgd : Try.prog.eqGuardType Try.prog.depth t = false) (he : ∀ w : World, (Op.equalIn 10000 t (.agg c) (.agg c)).run Try.prog w = .ok true w) :
  (execOp a.eval o).run Try.prog W = .ok (.value (.bool false)) W := by
 rw [sB hop, hg]
 have h1 : (eqGuard .neq t p q (.agg c) (.agg c)).run Try.prog W = .ok () W := by simp [eqGuard, hgd]
 have h2 : (binOp .neq t (.agg c) (.agg c)).run Try.prog W = .ok (.bool false) W := by
  have hq : (Op.equal t (.agg c) (.agg c)).run Try.prog W = .ok true W := he W
  simp only [binOp]
  simp [hq]
 unfold execOp
 simp only [hp, hq, Sem.run_bind, h1, h2, Result.andThen_ok]
 rfl
end
theorem like16 (f : sV) (Av : Option Addr) (cv : Nat) (An : Option Addr) (cn : Nat) (Ae : Option Addr) (ce : Nat) (As : Option Addr) (cs : Nat) (Av' : Option Addr) (cv' : Nat) (An' : Option Addr) (cn' : Nat) (Ae' : Option Addr) (ce' : Nat) (As' : Option Addr) (cs' : Nat) (w : World) (h : oB f Av cv An cn Ae ce As cs w) (h' : oB f Av' cv' An' cn' Ae' ce' As' cs' w)
    (hv : f.vars.length ≤ 100) (hn : f.nodes.length ≤ 4000) (he : f.eqs.length ≤ 17592186044416) (hs : f.zS.length ≤ 2932031007402) :
    Calls Try.prog 16 #[.agg (flA f Av cv An cn Ae ce As cs), .agg (flA f Av' cv' An' cn' Ae' ce' As' cs')] w fun e w' => e = .returned (.bool true) ∧ Below w.heap.size w w' := by
  have H := aq h
  have H' := aq h'
  have HV := aq hv
  have HN := aq hn
  have HE := aq he
  have HS := aq hs
  have HG2 := aq (zI (heap_alloc_last w (.cells (flA f Av cv An cn Ae ce As cs) 47)) (.cells (flA f Av' cv' An' cn' Ae' ce' As' cs') 47))
  have HG3 := aq (heap_alloc_last (w.alloc (.cells (flA f Av cv An cn Ae ce As cs) 47)) (.cells (flA f Av' cv' An' cn' Ae' ce' As' cs') 47))
  have HB := aq (zY (zY (Below.refl w.heap.size w) (.cells (flA f Av cv An cn Ae ce As cs) 47)) (.cells (flA f Av' cv' An' cn' Ae' ce' As' cs') 47))
  rw [show (w.alloc (.cells (flA f Av cv An cn Ae ce As cs) 47)).heap.size = w.heap.size + 1 by simp] at HG3
  clear h h' hv hn he hs
  go_enter Try.func16, Try.ntmps16
  go_upto_region 1 with fail
  generalize (w.alloc (.cells (flA f Av cv An cn Ae ce As cs) 47)).alloc (.cells (flA f Av' cv' An' cn' Ae' ce' As' cs') 47) = W1 at HG2 HG3 HB ⊢
  generalize w.heap.size + 1 = g3 at HG3 ⊢
  have x0 := (bq HG2.out 0).trans (show _ = some (.slice Av f.vars.length cv) from rfl)
  have x1 := (bq HG2.out 1).trans (show _ = some (.slice An f.nodes.length cn) from rfl)
  have x2 := (bq HG2.out 2).trans (show _ = some (.slice Ae f.eqs.length ce) from rfl)
  have x3 := (bq HG2.out 3).trans (show _ = some (.slice As f.zS.length cs) from rfl)
  have x4 := (bq HG3.out 0).trans (show _ = some (.slice Av' f.vars.length cv') from rfl)
  have x5 := (bq HG3.out 1).trans (show _ = some (.slice An' f.nodes.length cn') from rfl)
  have x6 := (bq HG3.out 2).trans (show _ = some (.slice Ae' f.eqs.length ce') from rfl)
  have x7 := (bq HG3.out 3).trans (show _ = some (.slice As' f.zS.length cs') from rfl)
  go_wp2
  clear x0 x1 x2 x3 x4 x5 x6 x7
  go_loopw [46] (fun i wr => ∃ (j : Int), 0 ≤ j ∧ j ≤ (f.vars.length : Int) ∧ i = .int .i64 j ∧ zV (wr.heap[w.heap.size]? = some (.cells (flA f Av cv An cn Ae ce As cs) 47 (0, 0))) ∧ zV (wr.heap[g3]? = some (.cells (flA f Av' cv' An' cn' Ae' ce' As' cs') 47 (0, 0))) ∧ zV (Below w.heap.size w wr)) (fun i _ => f.vars.length - (intOf i).toNat)
  case atStart => exact ⟨0, Int.le_refl _, by omega, rfl, HG2, HG3, HB⟩
  case round =>
   clear HG2 HG3 HB
   obtain ⟨j, j0, j1, rfl, HG2, HG3, HB⟩ := hrel
   by_cases hlt : j < (f.vars.length : Int)
   · have HB2 := aq (zQ HB.out)
     replace HG2 := aq (xX HG2.out)
     replace HG3 := aq (xX HG3.out)
     obtain ⟨ad, eA, y0⟩ := var_at (Kd.xY H.out.vars HB2.out) j j0 hlt
     obtain ⟨ad2, eA2, y1⟩ := var_at (Kd.xY H'.out.vars HB2.out) j j0 hlt
     subst eA
     subst eA2
     generalize zG z59 f.vars j = x at y0 y1
     have zz0 := (bq HG2.out 0).trans (show _ = some (.slice (some ad) f.vars.length cv) from rfl)
     have zz1 := (bq HG3.out 0).trans (show _ = some (.slice (some ad2) f.vars.length cv') from rfl)
     have HW := aq (show wrap64 (j + 1) = j + 1 by unfold wrap64; have := HV.out; omega)
     have HLT := aq hlt
     have HJ := aq j0
     replace j0 := eq_true j0
     replace hlt := eq_true hlt
     clear HB
     go_wp2
     refine xA (n := 11) (S := fun w' => w'.cell? ⟨w.heap.size, 0, none⟩ = some (.slice (some ad) f.vars.length cv) ∧ w'.cell? ⟨g3, 0, none⟩ = some (.slice (some ad2) f.vars.length cv') ∧ (∀ (jj : Nat) v, ((rF x).toList)[jj]? = some v → w'.cell? ((ad.add (j.toNat * 15)).add jj) = some v) ∧ (∀ (jj : Nat) v, ((rF x).toList)[jj]? = some v → w'.cell? ((ad2.add (j.toNat * 15)).add jj) = some v)) (ds := []) (msk 11 0) (by kernel_rfl) rfl rfl ⟨zz0, zz1, y0, y1⟩ (fun hHeld => ?_); refine yH lk6.tab6 lk6.bits6 (fun HT_ HW_ => ?_)
     generalize wr.drew = w5 at HG2 HG3 HB2 hHeld ⊢
     refine pU 0 49 (msk 11 1) HT_.out ?_
     refine tU 1 50 (msk 11 3) HT_.out HW_.out hHeld ?_ ?_ ?_
     rotate_left
     · rintro w' ⟨s0, s1, s2, s3⟩; go_simp; with_reducible rfl
     refine pU 2 51 (msk 11 7) HT_.out ?_
     refine pU 3 52 (msk 11 15) HT_.out ?_
     refine tU 4 53 (msk 11 31) HT_.out HW_.out hHeld ?_ ?_ ?_
     rotate_left
     · rintro w' ⟨s0, s1, s2, s3⟩; rw [oF (t := 59) (cs := (rF x).toList) (hc := s2) (hag := by kernel_rfl) (hsz := by kernel_rfl)]; all_goals rfl
     refine pU 5 54 (msk 11 63) HT_.out ?_
     refine tU 6 55 (msk 11 127) HT_.out HW_.out hHeld ?_ ?_ ?_
     rotate_left
     · rintro w' ⟨s0, s1, s2, s3⟩; go_simp; with_reducible rfl
     refine pU 7 56 (msk 11 255) HT_.out ?_
     refine pU 8 57 (msk 11 511) HT_.out ?_
     refine tU 9 58 (msk 11 1023) HT_.out HW_.out hHeld ?_ ?_ ?_
     rotate_left
     · rintro w' ⟨s0, s1, s2, s3⟩; rw [oF (t := 59) (cs := (rF x).toList) (hc := s3) (hag := by kernel_rfl) (hsz := by kernel_rfl)]; all_goals rfl
     refine pu_ 10 59 (msk 11 2047) HT_.out ?_ ?_ ?_ ?_ ?_
     rotate_left
     · intro w'; rw [exec_neqs (t := 59) (c := rF x) (he := fun w => eqA59 9995 w x) (hgd := by kernel_rfl)]; all_goals rfl
     rotate_left
     · simp only [Act.put, sq, iw, jw]; rfl
     refine vZ (xT HT_.out (by kernel_rfl)) ?_
     go_wp2
     have hj := HJ.out
     have hl := HLT.out
     rw [HW.out]
     exact ⟨⟨j + 1, by omega, by omega, rfl, HG2, HG3, HB2⟩, by simp only [intOf]; omega⟩
   obtain rfl : j = (f.vars.length : Int) := by omega
   have d0 := eq_false (show ¬ (f.vars.length : Int) < (f.vars.length : Int) by omega)
   clear hlt j0 j1
   have x0 := (bq HG2.out 0).trans (show _ = some (.slice Av f.vars.length cv) from rfl)
   have x1 := (bq HG2.out 1).trans (show _ = some (.slice An f.nodes.length cn) from rfl)
   have x2 := (bq HG2.out 2).trans (show _ = some (.slice Ae f.eqs.length ce) from rfl)
   have x3 := (bq HG2.out 3).trans (show _ = some (.slice As f.zS.length cs) from rfl)
   go_wp2
   clear x0 x1 x2 x3
   go_loopw [64] (fun i wr => ∃ (j : Int), 0 ≤ j ∧ j ≤ (f.nodes.length : Int) ∧ i = .int .i64 j ∧ zV (wr.heap[w.heap.size]? = some (.cells (flA f Av cv An cn Ae ce As cs) 47 (0, 0))) ∧ zV (wr.heap[g3]? = some (.cells (flA f Av' cv' An' cn' Ae' ce' As' cs') 47 (0, 0))) ∧ zV (Below w.heap.size w wr)) (fun i _ => f.nodes.length - (intOf i).toNat)
   case atStart => exact ⟨0, Int.le_refl _, by omega, rfl, HG2, HG3, HB⟩
   case round =>
    clear HG2 HG3 HB
    obtain ⟨j, j0, j1, rfl, HG2, HG3, HB⟩ := hrel
    by_cases hlt : j < (f.nodes.length : Int)
    · have HB2 := aq (zQ HB.out)
      replace HG2 := aq (xX HG2.out)
      replace HG3 := aq (xX HG3.out)
      obtain ⟨ad, eA, y0⟩ := nod_at (Kd.xY H.out.nodes HB2.out) j j0 hlt
      obtain ⟨ad2, eA2, y1⟩ := nod_at (Kd.xY H'.out.nodes HB2.out) j j0 hlt
      subst eA
      subst eA2
      generalize rT f.nodes j = x at y0 y1
      have zz0 := (bq HG2.out 1).trans (show _ = some (.slice (some ad) f.nodes.length cn) from rfl)
      have zz1 := (bq HG3.out 1).trans (show _ = some (.slice (some ad2) f.nodes.length cn') from rfl)
      have HW := aq (show wrap64 (j + 1) = j + 1 by unfold wrap64; have := HN.out; omega)
      have HLT := aq hlt
      have HJ := aq j0
      replace j0 := eq_true j0
      replace hlt := eq_true hlt
      clear HB
      go_wp2
      refine xA (n := 11) (S := fun w' => w'.cell? ⟨w.heap.size, 1, none⟩ = some (.slice (some ad) f.nodes.length cn) ∧ w'.cell? ⟨g3, 1, none⟩ = some (.slice (some ad2) f.nodes.length cn') ∧ (∀ (jj : Nat) v, (wS x)[jj]? = some v → w'.cell? ((ad.add (j.toNat * 22)).add jj) = some v) ∧ (∀ (jj : Nat) v, (wS x)[jj]? = some v → w'.cell? ((ad2.add (j.toNat * 22)).add jj) = some v)) (ds := []) (msk 11 0) (by kernel_rfl) rfl rfl ⟨zz0, zz1, y0, y1⟩ (fun hHeld => ?_); refine yH lk12.tab12 lk12.bits12 (fun HT_ HW_ => ?_)
      generalize wr.drew = w5 at HG2 HG3 HB2 hHeld ⊢
      refine pU 0 67 (msk 11 1) HT_.out ?_
      refine tU 1 68 (msk 11 3) HT_.out HW_.out hHeld ?_ ?_ ?_
      rotate_left
      · rintro w' ⟨s0, s1, s2, s3⟩; go_simp; with_reducible rfl
      refine pU 2 69 (msk 11 7) HT_.out ?_
      refine pU 3 70 (msk 11 15) HT_.out ?_
      refine tU 4 71 (msk 11 31) HT_.out HW_.out hHeld ?_ ?_ ?_
      rotate_left
      · rintro w' ⟨s0, s1, s2, s3⟩; rw [oF (t := 37) (cs := wS x) (hc := s2) (hag := by kernel_rfl) (hsz := by kernel_rfl)]; all_goals rfl
      refine pU 5 72 (msk 11 63) HT_.out ?_
      refine tU 6 73 (msk 11 127) HT_.out HW_.out hHeld ?_ ?_ ?_
      rotate_left
      · rintro w' ⟨s0, s1, s2, s3⟩; go_simp; with_reducible rfl
      refine pU 7 74 (msk 11 255) HT_.out ?_
      refine pU 8 75 (msk 11 511) HT_.out ?_
      refine tU 9 76 (msk 11 1023) HT_.out HW_.out hHeld ?_ ?_ ?_
      rotate_left
      · rintro w' ⟨s0, s1, s2, s3⟩; rw [oF (t := 37) (cs := wS x) (hc := s3) (hag := by kernel_rfl) (hsz := by kernel_rfl)]; all_goals rfl
      refine pu_ 10 77 (msk 11 2047) HT_.out ?_ ?_ ?_ ?_ ?_
      rotate_left
      · intro w'; rw [exec_neqs (t := 37) (c := yQ x) (he := fun w => eqA37s w x) (hgd := by kernel_rfl)]; all_goals rfl
      rotate_left
      · simp only [Act.put, sq, iw, jw]; rfl
      refine vZ (xT HT_.out (by kernel_rfl)) ?_
      go_wp2
      have hj := HJ.out
      have hl := HLT.out
      rw [HW.out]
      exact ⟨⟨j + 1, by omega, by omega, rfl, HG2, HG3, HB2⟩, by simp only [intOf]; omega⟩
    obtain rfl : j = (f.nodes.length : Int) := by omega
    have d1 := eq_false (show ¬ (f.nodes.length : Int) < (f.nodes.length : Int) by omega)
    clear hlt j0 j1
    have x0 := (bq HG2.out 0).trans (show _ = some (.slice Av f.vars.length cv) from rfl)
    have x1 := (bq HG2.out 1).trans (show _ = some (.slice An f.nodes.length cn) from rfl)
    have x2 := (bq HG2.out 2).trans (show _ = some (.slice Ae f.eqs.length ce) from rfl)
    have x3 := (bq HG2.out 3).trans (show _ = some (.slice As f.zS.length cs) from rfl)
    go_wp2
    clear x0 x1 x2 x3
    go_loopw [82] (fun i wr => ∃ (j : Int), 0 ≤ j ∧ j ≤ (f.eqs.length : Int) ∧ i = .int .i64 j ∧ zV (wr.heap[w.heap.size]? = some (.cells (flA f Av cv An cn Ae ce As cs) 47 (0, 0))) ∧ zV (wr.heap[g3]? = some (.cells (flA f Av' cv' An' cn' Ae' ce' As' cs') 47 (0, 0))) ∧ zV (Below w.heap.size w wr)) (fun i _ => f.eqs.length - (intOf i).toNat)
    case atStart => exact ⟨0, Int.le_refl _, by omega, rfl, HG2, HG3, HB⟩
    case round =>
     clear HG2 HG3 HB
     obtain ⟨j, j0, j1, rfl, HG2, HG3, HB⟩ := hrel
     by_cases hlt : j < (f.eqs.length : Int)
     · have HB2 := aq (zQ HB.out)
       replace HG2 := aq (xX HG2.out)
       replace HG3 := aq (xX HG3.out)
       obtain ⟨ad, eA, y0⟩ := Kd.vU (Kd.xY H.out.eqs HB2.out) j j0 hlt
       obtain ⟨ad2, eA2, y1⟩ := Kd.vU (Kd.xY H'.out.eqs HB2.out) j j0 hlt
       subst eA
       subst eA2
       generalize rd f.eqs j = x at y0 y1
       have zz0 := (bq HG2.out 2).trans (show _ = some (.slice (some ad) f.eqs.length ce) from rfl)
       have zz1 := (bq HG3.out 2).trans (show _ = some (.slice (some ad2) f.eqs.length ce') from rfl)
       have HW := aq (show wrap64 (j + 1) = j + 1 by unfold wrap64; have := HE.out; omega)
       have HLT := aq hlt
       have HJ := aq j0
       replace j0 := eq_true j0
       replace hlt := eq_true hlt
       clear HB
       go_wp2
       refine xA (n := 11) (S := fun w' => w'.cell? ⟨w.heap.size, 2, none⟩ = some (.slice (some ad) f.eqs.length ce) ∧ w'.cell? ⟨g3, 2, none⟩ = some (.slice (some ad2) f.eqs.length ce') ∧ w'.cell? (ad.add j.toNat) = some (.int .i64 x) ∧ w'.cell? (ad2.add j.toNat) = some (.int .i64 x)) (ds := []) (msk 11 0) (by kernel_rfl) rfl rfl ⟨zz0, zz1, y0, y1⟩ (fun hHeld => ?_); refine yH lk18.tab18 lk18.bits18 (fun HT_ HW_ => ?_)
       generalize wr.drew = w5 at HG2 HG3 HB2 hHeld ⊢
       refine pU 0 85 (msk 11 1) HT_.out ?_
       refine tU 1 86 (msk 11 3) HT_.out HW_.out hHeld ?_ ?_ ?_
       rotate_left
       · rintro w' ⟨s0, s1, s2, s3⟩; go_simp; with_reducible rfl
       refine pU 2 87 (msk 11 7) HT_.out ?_
       refine pU 3 88 (msk 11 15) HT_.out ?_
       refine tU 4 89 (msk 11 31) HT_.out HW_.out hHeld ?_ ?_ ?_
       rotate_left
       · rintro w' ⟨s0, s1, s2, s3⟩; go_simp; with_reducible rfl
       refine pU 5 90 (msk 11 63) HT_.out ?_
       refine tU 6 91 (msk 11 127) HT_.out HW_.out hHeld ?_ ?_ ?_
       rotate_left
       · rintro w' ⟨s0, s1, s2, s3⟩; go_simp; with_reducible rfl
       refine pU 7 92 (msk 11 255) HT_.out ?_
       refine pU 8 93 (msk 11 511) HT_.out ?_
       refine tU 9 94 (msk 11 1023) HT_.out HW_.out hHeld ?_ ?_ ?_
       rotate_left
       · rintro w' ⟨s0, s1, s2, s3⟩; go_simp; with_reducible rfl
       refine pu_ 10 95 (msk 11 2047) HT_.out ?_ ?_ ?_ ?_ ?_
       rotate_left
       · intro w'; go_simp; first | done | with_reducible rfl
       rotate_left
       · simp only [Act.put, sq, iw, jw]; rfl
       refine vZ (xT HT_.out (by kernel_rfl)) ?_
       go_wp2
       have hj := HJ.out
       have hl := HLT.out
       rw [HW.out]
       exact ⟨⟨j + 1, by omega, by omega, rfl, HG2, HG3, HB2⟩, by simp only [intOf]; omega⟩
     obtain rfl : j = (f.eqs.length : Int) := by omega
     have d2 := eq_false (show ¬ (f.eqs.length : Int) < (f.eqs.length : Int) by omega)
     clear hlt j0 j1
     have x0 := (bq HG2.out 0).trans (show _ = some (.slice Av f.vars.length cv) from rfl)
     have x1 := (bq HG2.out 1).trans (show _ = some (.slice An f.nodes.length cn) from rfl)
     have x2 := (bq HG2.out 2).trans (show _ = some (.slice Ae f.eqs.length ce) from rfl)
     have x3 := (bq HG2.out 3).trans (show _ = some (.slice As f.zS.length cs) from rfl)
     go_wp2
     clear x0 x1 x2 x3
     go_loopw [100] (fun i wr => ∃ (j : Int), 0 ≤ j ∧ j ≤ (f.zS.length : Int) ∧ i = .int .i64 j ∧ zV (wr.heap[w.heap.size]? = some (.cells (flA f Av cv An cn Ae ce As cs) 47 (0, 0))) ∧ zV (wr.heap[g3]? = some (.cells (flA f Av' cv' An' cn' Ae' ce' As' cs') 47 (0, 0))) ∧ zV (Below w.heap.size w wr)) (fun i _ => f.zS.length - (intOf i).toNat)
     case atStart => exact ⟨0, Int.le_refl _, by omega, rfl, HG2, HG3, HB⟩
     case round =>
      clear HG2 HG3 HB
      obtain ⟨j, j0, j1, rfl, HG2, HG3, HB⟩ := hrel
      by_cases hlt : j < (f.zS.length : Int)
      · have HB2 := aq (zQ HB.out)
        replace HG2 := aq (xX HG2.out)
        replace HG3 := aq (xX HG3.out)
        obtain ⟨ad, eA, y0⟩ := st_at (Kd.xY H.out.zS HB2.out) j j0 hlt
        obtain ⟨ad2, eA2, y1⟩ := st_at (Kd.xY H'.out.zS HB2.out) j j0 hlt
        subst eA
        subst eA2
        generalize zG z80 f.zS j = s at y0 y1
        have zz0 := (bq HG2.out 3).trans (show _ = some (.slice (some ad) f.zS.length cs) from rfl)
        have zz1 := (bq HG3.out 3).trans (show _ = some (.slice (some ad2) f.zS.length cs') from rfl)
        have HW := aq (show wrap64 (j + 1) = j + 1 by unfold wrap64; have := HS.out; omega)
        have HLT := aq hlt
        have HJ := aq j0
        replace j0 := eq_true j0
        replace hlt := eq_true hlt
        clear HB
        go_wp2
        refine xA (n := 11) (S := fun w' => w'.cell? ⟨w.heap.size, 3, none⟩ = some (.slice (some ad) f.zS.length cs) ∧ w'.cell? ⟨g3, 3, none⟩ = some (.slice (some ad2) f.zS.length cs') ∧ (∀ (jj : Nat) v, (qG s)[jj]? = some v → w'.cell? ((ad.add (j.toNat * 6)).add jj) = some v) ∧ (∀ (jj : Nat) v, (qG s)[jj]? = some v → w'.cell? ((ad2.add (j.toNat * 6)).add jj) = some v)) (ds := []) (msk 11 0) (by kernel_rfl) rfl rfl ⟨zz0, zz1, y0, y1⟩ (fun hHeld => ?_); refine yH lk24.tab24 lk24.bits24 (fun HT_ HW_ => ?_)
        generalize wr.drew = w5 at HG2 HG3 HB2 hHeld ⊢
        refine pU 0 103 (msk 11 1) HT_.out ?_
        refine tU 1 104 (msk 11 3) HT_.out HW_.out hHeld ?_ ?_ ?_
        rotate_left
        · rintro w' ⟨s0, s1, s2, s3⟩; go_simp; with_reducible rfl
        refine pU 2 105 (msk 11 7) HT_.out ?_
        refine pU 3 106 (msk 11 15) HT_.out ?_
        refine tU 4 107 (msk 11 31) HT_.out HW_.out hHeld ?_ ?_ ?_
        rotate_left
        · rintro w' ⟨s0, s1, s2, s3⟩; rw [oF (t := 80) (cs := qG s) (hc := s2) (hag := by kernel_rfl) (hsz := by kernel_rfl)]; all_goals rfl
        refine pU 5 108 (msk 11 63) HT_.out ?_
        refine tU 6 109 (msk 11 127) HT_.out HW_.out hHeld ?_ ?_ ?_
        rotate_left
        · rintro w' ⟨s0, s1, s2, s3⟩; go_simp; with_reducible rfl
        refine pU 7 110 (msk 11 255) HT_.out ?_
        refine pU 8 111 (msk 11 511) HT_.out ?_
        refine tU 9 112 (msk 11 1023) HT_.out HW_.out hHeld ?_ ?_ ?_
        rotate_left
        · rintro w' ⟨s0, s1, s2, s3⟩; rw [oF (t := 80) (cs := qG s) (hc := s3) (hag := by kernel_rfl) (hsz := by kernel_rfl)]; all_goals rfl
        refine pu_ 10 113 (msk 11 2047) HT_.out ?_ ?_ ?_ ?_ ?_
        rotate_left
        · intro w'; rw [exec_neqs (t := 80) (c := vE s) (he := fun w => eqA80 9997 w s) (hgd := by kernel_rfl)]; all_goals rfl
        rotate_left
        · simp only [Act.put, sq, iw, jw]; rfl
        refine vZ (xT HT_.out (by kernel_rfl)) ?_
        go_wp2
        have hj := HJ.out
        have hl := HLT.out
        rw [HW.out]
        exact ⟨⟨j + 1, by omega, by omega, rfl, HG2, HG3, HB2⟩, by simp only [intOf]; omega⟩
      obtain rfl : j = (f.zS.length : Int) := by omega
      have d3 := eq_false (show ¬ (f.zS.length : Int) < (f.zS.length : Int) by omega)
      clear hlt j0 j1
      have x0 := (bq HG2.out 0).trans (show _ = some (.slice Av f.vars.length cv) from rfl)
      have x1 := (bq HG2.out 1).trans (show _ = some (.slice An f.nodes.length cn) from rfl)
      have x2 := (bq HG2.out 2).trans (show _ = some (.slice Ae f.eqs.length ce) from rfl)
      have x3 := (bq HG2.out 3).trans (show _ = some (.slice As f.zS.length cs) from rfl)
      go_wp2
      clear x0 x1 x2 x3
      refine bodyPost_ret (results_tmp rfl _ _ _) rfl ⟨rfl, HB.out⟩
def startB (n : Nat) (s : S80) : Bool := !decide (s.f0.f0 < 0) && (!decide ((n : Int) ≤ s.f0.f0) && (!decide (s.f0.f1 < 0) && (!decide (6 < s.f0.f1) && (zE s.f1.f0 s.f1.f1 && zE s.f2.f0 s.f2.f1))))
theorem startB_eq (n : Nat) (s : S80) : startB n s = (!decide (s.f0.f0 < 0) && (!decide ((n : Int) ≤ s.f0.f0) && (!decide (s.f0.f1 < 0) && (!decide (6 < s.f0.f1) && (zE s.f1.f0 s.f1.f1 && zE s.f2.f0 s.f2.f1))))) := rfl
def sO (f : sV) : Bool := tT f.nodes f.eqs && (!f.nodes.any (badV f.vars.length) && f.zS.all (startB f.vars.length))
theorem any_mem {α : Type} {p : α → Bool} {l : List α} {x : α} (hx : x ∈ l) (h : p x = true) : l.any p = true := List.any_eq_true.2 ⟨x, hx, h⟩
theorem all_mem {α : Type} {p : α → Bool} {l : List α} {x : α} (hx : x ∈ l) (h : p x = false) : l.all p = false := by
 rw [List.all_eq_false]; exact ⟨x, hx, by rw [h]; decide⟩
def StartI (s : S80) : Prop := (I64 s.f1.f0 ∧ I64 s.f1.f1) ∧ (I64 s.f2.f0 ∧ I64 s.f2.f1)
theorem right14 (f : sV) (Av : Option Addr) (cv : Nat) (An : Option Addr) (cn : Nat) (Ae : Option Addr) (ce : Nat) (As : Option Addr) (cs : Nat) (w : World) (h : oB f Av cv An cn Ae ce As cs w) (hI : ∀ x ∈ f.nodes, wE x) (hS : ∀ s ∈ f.zS, StartI s) :
  Calls Try.prog 14 #[.agg (flA f Av cv An cn Ae ce As cs)] w fun e w' => e = .returned (.bool (sO f)) ∧ Below w.heap.size w w' := by
 have HR7 := aq (fun (V : World) (hb : Below w.heap.size w V) => right7 f.nodes f.eqs An cn Ae ce V (Kd.xY h.nodes hb) h.nle hI (Kd.xY h.eqs hb) h.ele)
 have HS := aq hS
 have HSC := aq h.zS
 have HNC := aq h.nodes
 have HML := aq (Kd.C_max h.zS)
 have HMN := aq (Kd.C_max h.nodes)
 have GB := aq (heap_alloc_last w (.cells (flA f Av cv An cn Ae ce As cs) 47))
 have B := aq (zY (Below.refl w.heap.size w) (.cells (flA f Av cv An cn Ae ce As cs) 47))
 clear h hI hS
 have z0 := (bq GB.out 0).trans (show _ = some (.slice Av f.vars.length cv) from rfl)
 have z1 := (bq GB.out 1).trans (show _ = some (.slice An f.nodes.length cn) from rfl)
 have z2 := (bq GB.out 2).trans (show _ = some (.slice Ae f.eqs.length ce) from rfl)
 have z3 := (bq GB.out 3).trans (show _ = some (.slice As f.zS.length cs) from rfl)
 cases hr : tT f.nodes f.eqs with
 | false =>
  rw [hr] at HR7
  have HFL := aq (show sO f = false by unfold sO; rw [hr]; rfl)
  go_enter Try.func14, Try.ntmps14
  go_wp2_with (first | (go_at_call 7; refine (HR7.out _ B.out).mono ?_; rintro e w2 ⟨rfl, hd⟩; clear HR7; have GB2 := aq (bb_ GB.out hd); have B2 := aq (bt_ B.out hd); clear GB B hd z0 z1 z2 z3; have GB := GB2; have B := B2; clear GB2 B2; have z0 := (bq GB.out 0).trans (show _ = some (.slice Av f.vars.length cv) from rfl); have z1 := (bq GB.out 1).trans (show _ = some (.slice An f.nodes.length cn) from rfl); have z2 := (bq GB.out 2).trans (show _ = some (.slice Ae f.eqs.length ce) from rfl); have z3 := (bq GB.out 3).trans (show _ = some (.slice As f.zS.length cs) from rfl)))
  refine bodyPost_ret (results_tmp rfl _ _ _) rfl ⟨by rw [HFL.out]; rfl, B.out⟩
 | true =>
  rw [hr] at HR7
  have HRT := aq hr
  clear hr
  go_enter Try.func14, Try.ntmps14
  go_wp2_with (first | (go_at_call 7; refine (HR7.out _ B.out).mono ?_; rintro e w2 ⟨rfl, hd⟩; clear HR7; have GB2 := aq (bb_ GB.out hd); have B2 := aq (bt_ B.out hd); clear GB B hd z0 z1 z2 z3; have GB := GB2; have B := B2; clear GB2 B2; have z0 := (bq GB.out 0).trans (show _ = some (.slice Av f.vars.length cv) from rfl); have z1 := (bq GB.out 1).trans (show _ = some (.slice An f.nodes.length cn) from rfl); have z2 := (bq GB.out 2).trans (show _ = some (.slice Ae f.eqs.length ce) from rfl); have z3 := (bq GB.out 3).trans (show _ = some (.slice As f.zS.length cs) from rfl)))
  go_loopw [16] (fun i wr => ∃ (j : Int), 0 ≤ j ∧ j ≤ (f.nodes.length : Int) ∧ i = .int .i64 j ∧ zV (wr.heap[w.heap.size]? = some (.cells (flA f Av cv An cn Ae ce As cs) 47 (0, 0))) ∧ zV (Below w.heap.size w wr) ∧ zV ((f.nodes.take j.toNat).any (badV f.vars.length) = false)) (fun i _ => f.nodes.length - (intOf i).toNat)
  case atStart => exact ⟨0, Int.le_refl _, by omega, rfl, GB, B, ⟨by simp⟩⟩
  case round =>
   clear GB B z0 z1 z2 z3
   obtain ⟨j, j0, j1, rfl, GB, B, HT⟩ := hrel
   by_cases hlt : j < (f.nodes.length : Int)
   ·obtain ⟨ad, eA, hnd⟩ := node_at HNC.out B.out (Nat.le_refl _) j j0 hlt
    subst eA
    have hel : rT f.nodes j = f.nodes[j.toNat]'(by omega) := by
     unfold rT
     rw [List.getD_eq_getElem?_getD, List.getElem?_eq_getElem (by omega)]; rfl
    have hme : rT f.nodes j ∈ f.nodes := by rw [hel]; exact List.getElem_mem _
    have HTK := aq (show (f.nodes.take (j + 1).toNat).any (badV f.vars.length) = ((f.nodes.take j.toNat).any (badV f.vars.length) || badV f.vars.length (rT f.nodes j)) by
     rw [show (j + 1).toNat = j.toNat + 1 by omega, List.take_succ_eq_append_getElem (by omega), List.any_append, ← hel]; simp)
    have HND := aq hnd
    have HW := aq (show wrap64 (j + 1) = j + 1 by unfold wrap64; have := HMN.out; omega)
    have HME := aq hme
    generalize rT f.nodes j = s at HND HTK HME
    clear hnd hme hel
    have z0 := (bq GB.out 0).trans (show _ = some (.slice Av f.vars.length cv) from rfl)
    go_upto_region 6 with (first | ((with_reducible refine zA 37 ?_); refine wX (t := 37) (cs := wS s) rfl (by kernel_rfl) (by kernel_rfl) HND.out ?_) | ((with_reducible refine gD (N := 4) rfl ?_); refine bE ?hg (N := 4) ?hd (cs := yQ z37) (t := 37) ?hr ?_; (case hd => rfl); (case hg => rfl); (case hr => first | (go_simp; done) | (go_simp; rfl)); intro g7 hgn w5 hbox hb; have HX := aq hbox; have HB5 := aq hb; have GN := aq (show wr.heap.size ≤ g7 by rw [hgn]; exact Nat.le_refl _); clear hbox hb hgn) | ((with_reducible refine xG 4 ?_); refine wG (g := g7) (x := s) rfl rfl HX.out (xR _) ?_; intro w6 hx6 h6; have SX := aq hx6; have hd := HB5.out.trans (h6.below GN.out); have GB2 := aq (bb_ GB.out hd); have B2 := aq (bt_ B.out hd); clear hx6 h6 hd HX HB5 GN GB B z0; have GB := GB2; have B := B2; clear GB2 B2))
    have z0 := (bq GB.out 0).trans (show _ = some (.slice Av f.vars.length cv) from rfl)
    have y0 := (bq SX.out 0).trans (show _ = some (.int .i64 s.f0) from rfl)
    have y6 := (bq SX.out 6).trans (show _ = some (.int .i64 s.f5.f0) from rfl)
    cases hb : badV f.vars.length s with
    | true =>
     have HFL := aq (show sO f = false by unfold sO; rw [any_mem HME.out hb, Bool.not_true, Bool.false_and, Bool.and_false])
     have hb2 : s.f0 = 2 ∧ (f.vars.length : Int) ≤ s.f5.f0 := by unfold badV at hb; rw [Bool.and_eq_true, beq_iff_eq, decide_eq_true_eq] at hb; exact hb
     obtain ⟨b1, b2⟩ := hb2
     clear hb
     go_wp2
     refine bodyPost_ret (results_tmp rfl _ _ _) rfl ⟨by rw [HFL.out]; rfl, B.out⟩
    | false =>
     rw [hb, HT.out] at HTK
     have hb2 : ¬ s.f0 = 2 ∨ (s.f0 = 2 ∧ ¬ (f.vars.length : Int) ≤ s.f5.f0) := by
      unfold badV at hb
      by_cases k : s.f0 = 2
      ·rw [beq_iff_eq.2 k, Bool.true_and, decide_eq_false_iff_not] at hb; exact .inr ⟨k, hb⟩
      ·exact .inl k
     clear hb
     rcases hb2 with b1 | ⟨b1, b2⟩
     all_goals
      go_wp2
      rw [HW.out]
      exact ⟨⟨j + 1, by omega, by omega, rfl, GB, B, HTK⟩, by simp only [intOf]; omega⟩
   obtain rfl : j = (f.nodes.length : Int) := by omega
   rw [Int.toNat_natCast, List.take_length] at HT
   have d1 := eq_false (show ¬ (f.nodes.length : Int) < (f.nodes.length : Int) by omega)
   clear hlt j0 j1
   have z3 := (bq GB.out 3).trans (show _ = some (.slice As f.zS.length cs) from rfl)
   go_wp2
   clear z3
   go_loopw [36] (fun i wr => ∃ (j : Int), 0 ≤ j ∧ j ≤ (f.zS.length : Int) ∧ i = .int .i64 j ∧ zV (wr.heap[w.heap.size]? = some (.cells (flA f Av cv An cn Ae ce As cs) 47 (0, 0))) ∧ zV (Below w.heap.size w wr) ∧ zV ((f.zS.take j.toNat).all (startB f.vars.length) = true)) (fun i _ => f.zS.length - (intOf i).toNat)
   case atStart => exact ⟨0, Int.le_refl _, by omega, rfl, GB, B, ⟨by simp⟩⟩
   case round =>
    clear GB B
    obtain ⟨j, j0, j1, rfl, GB, B, HT2⟩ := hrel
    by_cases hlt : j < (f.zS.length : Int)
    ·obtain ⟨ad, eA, hnd⟩ := st_at (Kd.xY HSC.out B.out) j j0 hlt
     subst eA
     have hel : zG z80 f.zS j = f.zS[j.toNat]'(by omega) := by
      unfold zG
      rw [List.getD_eq_getElem?_getD, List.getElem?_eq_getElem (by omega)]; rfl
     have hme : zG z80 f.zS j ∈ f.zS := by rw [hel]; exact List.getElem_mem _
     have HTK := aq (show (f.zS.take (j + 1).toNat).all (startB f.vars.length) = ((f.zS.take j.toNat).all (startB f.vars.length) && startB f.vars.length (zG z80 f.zS j)) by
      rw [show (j + 1).toNat = j.toNat + 1 by omega, List.take_succ_eq_append_getElem (by omega), List.all_append, ← hel]; simp)
     have hs := HS.out _ hme
     have HND := aq hnd
     have HW := aq (show wrap64 (j + 1) = j + 1 by unfold wrap64; have := HML.out; omega)
     have HNO := aq (show startB f.vars.length (zG z80 f.zS j) = false → sO f = false from fun hb => by unfold sO; rw [all_mem hme hb, Bool.and_false, Bool.and_false])
     generalize zG z80 f.zS j = s at HND hs HTK HNO
     have HLO := aq (fun (V : World) => sM hs.1.1 hs.1.2 V)
     have HHI := aq (fun (V : World) => sM hs.2.1 hs.2.2 V)
     clear hnd hme hs hel
     have z0 := (bq GB.out 0).trans (show _ = some (.slice Av f.vars.length cv) from rfl)
     go_upto_region 12 with (first | ((with_reducible refine zA 80 ?_); refine wX (t := 80) (cs := qG s) rfl (by kernel_rfl) (by kernel_rfl) HND.out ?_) | ((with_reducible refine gD (N := 6) rfl ?_); refine bE ?hg (N := 6) ?hd (cs := vE z80) (t := 80) ?hr ?_; (case hd => rfl); (case hg => rfl); (case hr => first | (go_simp; done) | (go_simp; rfl)); intro g7 hgn w5 hbox hb; have HX := aq hbox; have HB5 := aq hb; have GN := aq (show wr.heap.size ≤ g7 by rw [hgn]; exact Nat.le_refl _); clear hbox hb hgn) | ((with_reducible refine xG 6 ?_); refine ev_st80 (g := g7) (x := s) rfl rfl HX.out rfl ?_; intro w6 hx6 h6; have SX := aq hx6; have hd := HB5.out.trans (h6.below GN.out); have GB2 := aq (bb_ GB.out hd); have B2 := aq (bt_ B.out hd); clear hx6 h6 hd HX HB5 GN GB B z0; have GB := GB2; have B := B2; clear GB2 B2))
     have z0 := (bq GB.out 0).trans (show _ = some (.slice Av f.vars.length cv) from rfl)
     have y0 := (bq SX.out 0).trans (show _ = some (.int .i64 s.f0.f0) from rfl)
     have y1 := (bq SX.out 1).trans (show _ = some (.int .i64 s.f0.f1) from rfl)
     have y2 := (bq SX.out 2).trans (show _ = some (.int .i64 s.f1.f0) from rfl)
     have y3 := (bq SX.out 3).trans (show _ = some (.int .i64 s.f1.f1) from rfl)
     have y4 := (bq SX.out 4).trans (show _ = some (.int .i64 s.f2.f0) from rfl)
     have y5 := (bq SX.out 5).trans (show _ = some (.int .i64 s.f2.f1) from rfl)
     rw [startB_eq] at HTK HNO
     by_cases s0 : s.f0.f0 < 0
     ·have HFL := aq (HNO.out (by rw [decide_eq_true s0]; rfl))
      go_wp2
      refine bodyPost_ret (results_tmp rfl _ _ _) rfl ⟨by rw [HFL.out]; rfl, B.out⟩
     by_cases s1 : (f.vars.length : Int) ≤ s.f0.f0
     ·have HFL := aq (HNO.out (by rw [decide_eq_true s1, Bool.not_true, Bool.false_and, Bool.and_false]))
      go_wp2
      refine bodyPost_ret (results_tmp rfl _ _ _) rfl ⟨by rw [HFL.out]; rfl, B.out⟩
     by_cases s2 : s.f0.f1 < 0
     ·have HFL := aq (HNO.out (by rw [decide_eq_true s2, Bool.not_true, Bool.false_and, Bool.and_false, Bool.and_false]))
      go_wp2
      refine bodyPost_ret (results_tmp rfl _ _ _) rfl ⟨by rw [HFL.out]; rfl, B.out⟩
     by_cases s3 : 6 < s.f0.f1
     ·have HFL := aq (HNO.out (by rw [decide_eq_true s3, Bool.not_true, Bool.false_and, Bool.and_false, Bool.and_false, Bool.and_false]))
      go_wp2
      refine bodyPost_ret (results_tmp rfl _ _ _) rfl ⟨by rw [HFL.out]; rfl, B.out⟩
     have hlo : ∀ b, zE s.f1.f0 s.f1.f1 = b → zV (zE s.f1.f0 s.f1.f1 = b) := fun _ h => ⟨h⟩
     cases hl : zE s.f1.f0 s.f1.f1 with
     | false =>
      rw [hl] at HLO
      have HFL := aq (HNO.out (by rw [hl, Bool.false_and, Bool.and_false, Bool.and_false, Bool.and_false, Bool.and_false]))
      clear hl hlo
      go_wp2_with (first | (go_at_call 32; (with_reducible refine (HLO.out _).mono ?_); rintro e w7 ⟨rfl, hd⟩; have GB2 := aq (bb_ GB.out hd); have B2 := aq (bt_ B.out hd); have SX2 := aq (bb_ SX.out hd); clear GB B SX hd z0 y0 y1 y2 y3 y4 y5; have GB := GB2; have B := B2; have SX := SX2; clear GB2 B2 SX2; have z0 := (bq GB.out 0).trans (show _ = some (.slice Av f.vars.length cv) from rfl); have y0 := (bq SX.out 0).trans (show _ = some (.int .i64 s.f0.f0) from rfl); have y1 := (bq SX.out 1).trans (show _ = some (.int .i64 s.f0.f1) from rfl); have y2 := (bq SX.out 2).trans (show _ = some (.int .i64 s.f1.f0) from rfl); have y3 := (bq SX.out 3).trans (show _ = some (.int .i64 s.f1.f1) from rfl); have y4 := (bq SX.out 4).trans (show _ = some (.int .i64 s.f2.f0) from rfl); have y5 := (bq SX.out 5).trans (show _ = some (.int .i64 s.f2.f1) from rfl)) | (go_at_call 32; (with_reducible refine (HHI.out _).mono ?_); rintro e w8 ⟨rfl, hd⟩; have GB2 := aq (bb_ GB.out hd); have B2 := aq (bt_ B.out hd); have SX2 := aq (bb_ SX.out hd); clear GB B SX hd z0 y0 y1 y2 y3 y4 y5; have GB := GB2; have B := B2; have SX := SX2; clear GB2 B2 SX2; have z0 := (bq GB.out 0).trans (show _ = some (.slice Av f.vars.length cv) from rfl); have y0 := (bq SX.out 0).trans (show _ = some (.int .i64 s.f0.f0) from rfl); have y1 := (bq SX.out 1).trans (show _ = some (.int .i64 s.f0.f1) from rfl); have y2 := (bq SX.out 2).trans (show _ = some (.int .i64 s.f1.f0) from rfl); have y3 := (bq SX.out 3).trans (show _ = some (.int .i64 s.f1.f1) from rfl); have y4 := (bq SX.out 4).trans (show _ = some (.int .i64 s.f2.f0) from rfl); have y5 := (bq SX.out 5).trans (show _ = some (.int .i64 s.f2.f1) from rfl)))
      refine bodyPost_ret (results_tmp rfl _ _ _) rfl ⟨by rw [HFL.out]; rfl, B.out⟩
     | true =>
      rw [hl] at HLO
      cases hh : zE s.f2.f0 s.f2.f1 with
      | false =>
       rw [hh] at HHI
       have HFL := aq (HNO.out (by rw [hh, Bool.and_false, Bool.and_false, Bool.and_false, Bool.and_false, Bool.and_false]))
       clear hl hlo hh
       go_wp2_with (first | (go_at_call 32; (with_reducible refine (HLO.out _).mono ?_); rintro e w7 ⟨rfl, hd⟩; have GB2 := aq (bb_ GB.out hd); have B2 := aq (bt_ B.out hd); have SX2 := aq (bb_ SX.out hd); clear GB B SX hd z0 y0 y1 y2 y3 y4 y5; have GB := GB2; have B := B2; have SX := SX2; clear GB2 B2 SX2; have z0 := (bq GB.out 0).trans (show _ = some (.slice Av f.vars.length cv) from rfl); have y0 := (bq SX.out 0).trans (show _ = some (.int .i64 s.f0.f0) from rfl); have y1 := (bq SX.out 1).trans (show _ = some (.int .i64 s.f0.f1) from rfl); have y2 := (bq SX.out 2).trans (show _ = some (.int .i64 s.f1.f0) from rfl); have y3 := (bq SX.out 3).trans (show _ = some (.int .i64 s.f1.f1) from rfl); have y4 := (bq SX.out 4).trans (show _ = some (.int .i64 s.f2.f0) from rfl); have y5 := (bq SX.out 5).trans (show _ = some (.int .i64 s.f2.f1) from rfl)) | (go_at_call 32; (with_reducible refine (HHI.out _).mono ?_); rintro e w8 ⟨rfl, hd⟩; have GB2 := aq (bb_ GB.out hd); have B2 := aq (bt_ B.out hd); have SX2 := aq (bb_ SX.out hd); clear GB B SX hd z0 y0 y1 y2 y3 y4 y5; have GB := GB2; have B := B2; have SX := SX2; clear GB2 B2 SX2; have z0 := (bq GB.out 0).trans (show _ = some (.slice Av f.vars.length cv) from rfl); have y0 := (bq SX.out 0).trans (show _ = some (.int .i64 s.f0.f0) from rfl); have y1 := (bq SX.out 1).trans (show _ = some (.int .i64 s.f0.f1) from rfl); have y2 := (bq SX.out 2).trans (show _ = some (.int .i64 s.f1.f0) from rfl); have y3 := (bq SX.out 3).trans (show _ = some (.int .i64 s.f1.f1) from rfl); have y4 := (bq SX.out 4).trans (show _ = some (.int .i64 s.f2.f0) from rfl); have y5 := (bq SX.out 5).trans (show _ = some (.int .i64 s.f2.f1) from rfl)))
       refine bodyPost_ret (results_tmp rfl _ _ _) rfl ⟨by rw [HFL.out]; rfl, B.out⟩
      | true =>
       rw [hh] at HHI
       rw [hl, hh, decide_eq_false s0, decide_eq_false s1, decide_eq_false s2, decide_eq_false s3, HT2.out] at HTK
       clear hl hlo hh
       go_wp2_with (first | (go_at_call 32; (with_reducible refine (HLO.out _).mono ?_); rintro e w7 ⟨rfl, hd⟩; have GB2 := aq (bb_ GB.out hd); have B2 := aq (bt_ B.out hd); have SX2 := aq (bb_ SX.out hd); clear GB B SX hd z0 y0 y1 y2 y3 y4 y5; have GB := GB2; have B := B2; have SX := SX2; clear GB2 B2 SX2; have z0 := (bq GB.out 0).trans (show _ = some (.slice Av f.vars.length cv) from rfl); have y0 := (bq SX.out 0).trans (show _ = some (.int .i64 s.f0.f0) from rfl); have y1 := (bq SX.out 1).trans (show _ = some (.int .i64 s.f0.f1) from rfl); have y2 := (bq SX.out 2).trans (show _ = some (.int .i64 s.f1.f0) from rfl); have y3 := (bq SX.out 3).trans (show _ = some (.int .i64 s.f1.f1) from rfl); have y4 := (bq SX.out 4).trans (show _ = some (.int .i64 s.f2.f0) from rfl); have y5 := (bq SX.out 5).trans (show _ = some (.int .i64 s.f2.f1) from rfl)) | (go_at_call 32; (with_reducible refine (HHI.out _).mono ?_); rintro e w8 ⟨rfl, hd⟩; have GB2 := aq (bb_ GB.out hd); have B2 := aq (bt_ B.out hd); have SX2 := aq (bb_ SX.out hd); clear GB B SX hd z0 y0 y1 y2 y3 y4 y5; have GB := GB2; have B := B2; have SX := SX2; clear GB2 B2 SX2; have z0 := (bq GB.out 0).trans (show _ = some (.slice Av f.vars.length cv) from rfl); have y0 := (bq SX.out 0).trans (show _ = some (.int .i64 s.f0.f0) from rfl); have y1 := (bq SX.out 1).trans (show _ = some (.int .i64 s.f0.f1) from rfl); have y2 := (bq SX.out 2).trans (show _ = some (.int .i64 s.f1.f0) from rfl); have y3 := (bq SX.out 3).trans (show _ = some (.int .i64 s.f1.f1) from rfl); have y4 := (bq SX.out 4).trans (show _ = some (.int .i64 s.f2.f0) from rfl); have y5 := (bq SX.out 5).trans (show _ = some (.int .i64 s.f2.f1) from rfl)))
       rw [HW.out]
       exact ⟨⟨j + 1, by omega, by omega, rfl, GB, B, HTK⟩, by simp only [intOf]; omega⟩
    obtain rfl : j = (f.zS.length : Int) := by omega
    rw [Int.toNat_natCast, List.take_length] at HT2
    have d2 := eq_false (show ¬ (f.zS.length : Int) < (f.zS.length : Int) by omega)
    have HFL := aq (show sO f = true by unfold sO; rw [HRT.out, HT.out, HT2.out]; rfl)
    clear hlt j0 j1
    go_wp2
    refine bodyPost_ret (results_tmp rfl _ _ _) rfl ⟨by rw [HFL.out]; rfl, B.out⟩
structure RedOut (f : sV) (t : RS) (w : World) (e : Ending) (A1 : Option Addr) (c1 : Nat) (A2 : Option Addr) (c2 : Nat) (A3 : Option Addr) (c3 : Nat) (A4 : Option Addr) (c4 : Nat) (A5 : Option Addr) (c5 : Nat) (w' : World) : Prop where
 ret : e = .returned (.tuple #[.agg (flA (xE f t).1 A1 c1 A2 c2 A3 c3 A4 c4), .slice A5 (xE f t).2.length c5, .int .i64 0])
 run : qE yI (oR yI f) t
 flat : oB (xE f t).1 A1 c1 A2 c2 A3 c3 A4 c4 w'
 list : Kd.R k32 53 w' w.heap.size (fun _ => True) (.slice A5 (xE f t).2.length c5) (xE f t).2
 B : Below w.heap.size w w'
theorem red15 (f : sV) (Av : Option Addr) (cv : Nat) (An : Option Addr) (cn : Nat) (Ae : Option Addr) (ce : Nat) (As : Option Addr) (cs : Nat) (w : World) (hF : oB f Av cv An cn Ae ce As cs w) (ho : nP f) (hB : f.nodes.length + 7 * f.vars.length ≤ 1900) :
  Calls Try.prog 15 #[.agg (flA f Av cv An cn Ae ce As cs)] w fun e w' => ∃ t A1 c1 A2 c2 A3 c3 A4 c4 A5 c5, RedOut f t w e A1 c1 A2 c2 A3 c3 A4 c4 A5 c5 w' := by
 have hl : (1900 : Nat) ≤ 1900 := Nat.le_refl _
 refine (reduce15 f Av cv An cn Ae ce As cs w hF ho (JR f.vars.length f.eqs.length 1900) (jr_start ho hB) (fun s h => (jr_step hl ho.ele h).1) (fun s h _ => (jr_step hl ho.ele h).2) (fun s h _ => (jr_step hl ho.ele h).2.done hl)).mono ?_
 rintro e w' ⟨vv, vn, ve, vs, vl, t, he, hr, h1, h2, h3, h4, h5, hb⟩
 obtain ⟨A1, c1, rfl⟩ := Kd.yE h1
 obtain ⟨A2, c2, rfl⟩ := Kd.yE h2
 obtain ⟨A3, c3, rfl⟩ := Kd.yE h3
 obtain ⟨A4, c4, rfl⟩ := Kd.yE h4
 obtain ⟨A5, c5, rfl⟩ := Kd.yE h5
 obtain ⟨_, _, q1⟩ := Kd.uS h1
 obtain ⟨_, l2, q2⟩ := Kd.uS h2
 obtain ⟨_, l3, q3⟩ := Kd.uS h3
 obtain ⟨_, _, q4⟩ := Kd.uS h4
 exact ⟨t, A1, c1, A2, c2, A3, c3, A4, c4, A5, c5, ⟨he, hr, ⟨q1, q2, q3, q4, l2, l3⟩, h5, hb⟩⟩
theorem rightF_ok {f : sV} (h : sO f = true) (hI : ∀ x ∈ f.nodes, wE x) (hS : ∀ s ∈ f.zS, StartI s) (hn : f.nodes.length ≤ 1900) (hv : f.vars.length ≤ 100) (he : f.eqs.length ≤ 17592186044416) (hs : f.zS.length ≤ 2932031007402) : nP f := by
 unfold sO at h
 rw [Bool.and_eq_true, Bool.and_eq_true, Bool.not_eq_true'] at h
 obtain ⟨h1, h2, h3⟩ := h
 refine ⟨h1, hI, fun x hx k => ?_, fun s hs' => ?_, hn, he, hv, hs⟩
 ·have := List.any_eq_false.1 h2 x hx
  unfold badV at this
  rw [beq_iff_eq.2 k, Bool.true_and, decide_eq_true_eq] at this
  omega
 ·have := List.all_eq_true.1 h3 s hs'
  rw [startB_eq] at this
  simp only [Bool.and_eq_true, Bool.not_eq_true', decide_eq_false_iff_not] at this
  obtain ⟨a, b, c, d, e, g⟩ := this
  exact ⟨by omega, by omega, by omega, by omega, e, g, (hS s hs').1, (hS s hs').2⟩
theorem law5 (f : sV) (Av : Option Addr) (cv : Nat) (An : Option Addr) (cn : Nat) (Ae : Option Addr) (ce : Nat) (As : Option Addr) (cs : Nat) (w : World) (hF : oB f Av cv An cn Ae ce As cs w) (hI : ∀ x ∈ f.nodes, wE x) (hS : ∀ s ∈ f.zS, StartI s) (hel : f.eqs.length ≤ 17592186044416) (hsl : f.zS.length ≤ 2932031007402) :
  Calls Try.prog 5 #[.agg (flA f Av cv An cn Ae ce As cs)] w fun e w' => e = .returned (.bool true) ∧ Below w.heap.size w w' := by
 have HR := aq (fun (V : World) (hb : Below w.heap.size w V) => right14 f Av cv An cn Ae ce As cs V (hF.below hb) hI hS)
 have GB := aq (heap_alloc_last w (.cells (flA f Av cv An cn Ae ce As cs) 47))
 have B := aq (zY (Below.refl w.heap.size w) (.cells (flA f Av cv An cn Ae ce As cs) 47))
 have z0 := (bq GB.out 0).trans (show _ = some (.slice Av f.vars.length cv) from rfl)
 have z1 := (bq GB.out 1).trans (show _ = some (.slice An f.nodes.length cn) from rfl)
 have A14 : sO f = false ∨ (sO f = true ∧ 300 < f.nodes.length) ∨ (sO f = true ∧ ¬ 300 < f.nodes.length ∧ 60 < f.vars.length) ∨ (sO f = true ∧ ¬ 300 < f.nodes.length ∧ ¬ 60 < f.vars.length) := by
  cases sO f
  ·exact .inl rfl
  ·by_cases k : 300 < f.nodes.length
   ·exact .inr (.inl ⟨rfl, k⟩)
   ·by_cases k2 : 60 < f.vars.length
    ·exact .inr (.inr (.inl ⟨rfl, k, k2⟩))
    ·exact .inr (.inr (.inr ⟨rfl, k, k2⟩))
 rcases A14 with hr | ⟨hr, k1⟩ | ⟨hr, k1, k2⟩ | ⟨hr, k1, k2⟩
 case inl =>
  rw [hr] at HR
  clear hF hI hS hr
  go_enter Try.func5, Try.ntmps5
  go_wp2_with (first | ((with_reducible refine gD (N := 13) rfl ?_); (with_reducible refine zA 47 ?_); refine oT (g := w.heap.size) (t := 47) (n := 4) (c := flA f Av cv An cn Ae ce As cs) rfl GB.out (by kernel_rfl) (by kernel_rfl) rfl ?_) | (go_at_call 14; refine (HR.out _ B.out).mono ?_; rintro e w2 ⟨rfl, hd⟩; have B2 := aq (bt_ B.out hd); clear HR B hd z0 z1; have B := B2))
  refine bodyPost_ret (results_tmp rfl _ _ _) rfl ⟨rfl, B.out⟩
 case inr.inl =>
  rw [hr] at HR
  have k1' : (300 : Int) < (f.nodes.length : Int) := by omega
  clear hF hI hS hr k1
  go_enter Try.func5, Try.ntmps5
  go_wp2_with (first | ((with_reducible refine gD (N := 13) rfl ?_); (with_reducible refine zA 47 ?_); refine oT (g := w.heap.size) (t := 47) (n := 4) (c := flA f Av cv An cn Ae ce As cs) rfl GB.out (by kernel_rfl) (by kernel_rfl) rfl ?_) | (go_at_call 14; refine (HR.out _ B.out).mono ?_; rintro e w2 ⟨rfl, hd⟩; have B2 := aq (bt_ B.out hd); have GB2 := aq (bb_ GB.out hd); clear HR B hd z0 z1; have B := B2; have z1 := (bq GB2.out 1).trans (show _ = some (.slice An f.nodes.length cn) from rfl)))
  refine bodyPost_ret (results_tmp rfl _ _ _) rfl ⟨rfl, B.out⟩
 case inr.inr.inl =>
  rw [hr] at HR
  have k1' : ¬ (300 : Int) < (f.nodes.length : Int) := by omega
  have k2' : (60 : Int) < (f.vars.length : Int) := by omega
  clear hF hI hS hr k1 k2
  go_enter Try.func5, Try.ntmps5
  go_wp2_with (first | ((with_reducible refine gD (N := 13) rfl ?_); (with_reducible refine zA 47 ?_); refine oT (g := w.heap.size) (t := 47) (n := 4) (c := flA f Av cv An cn Ae ce As cs) rfl GB.out (by kernel_rfl) (by kernel_rfl) rfl ?_) | (go_at_call 14; refine (HR.out _ B.out).mono ?_; rintro e w2 ⟨rfl, hd⟩; have B2 := aq (bt_ B.out hd); have GB2 := aq (bb_ GB.out hd); clear HR B hd z0 z1; have B := B2; have z0 := (bq GB2.out 0).trans (show _ = some (.slice Av f.vars.length cv) from rfl); have z1 := (bq GB2.out 1).trans (show _ = some (.slice An f.nodes.length cn) from rfl)))
  refine bodyPost_ret (results_tmp rfl _ _ _) rfl ⟨rfl, B.out⟩
 case inr.inr.inr =>
  have ho : nP f := rightF_ok hr hI hS (by omega) (by omega) hel hsl
  have HO := aq ho
  have HRD := aq (fun (V : World) (hb : Below w.heap.size w V) => red15 f Av cv An cn Ae ce As cs V (hF.below hb) ho (by omega))
  rw [hr] at HR
  have k1' : ¬ (300 : Int) < (f.nodes.length : Int) := by omega
  have k2' : ¬ (60 : Int) < (f.vars.length : Int) := by omega
  have HN := aq (show f.nodes.length + 7 * f.vars.length ≤ 1900 by omega)
  clear hF hI hS hr k1 k2 ho
  go_enter Try.func5, Try.ntmps5
  go_upto_region 4 with (first | ((with_reducible refine gD (N := 13) rfl ?_); (with_reducible refine zA 47 ?_); refine oT (g := w.heap.size) (t := 47) (n := 4) (c := flA f Av cv An cn Ae ce As cs) rfl GB.out (by kernel_rfl) (by kernel_rfl) rfl ?_) | ((with_reducible refine gD (N := 29) rfl ?_); (with_reducible refine zA 47 ?_); refine oT (g := w.heap.size) (t := 47) (n := 4) (c := flA f Av cv An cn Ae ce As cs) rfl GB.out (by kernel_rfl) (by kernel_rfl) rfl ?_) | (go_at_call 14; refine (HR.out _ B.out).mono ?_; rintro e w2 ⟨rfl, hd⟩; have B2 := aq (bt_ B.out hd); have GB2 := aq (bb_ GB.out hd); clear HR GB B hd z0 z1; have B := B2; have GB := GB2; clear B2 GB2; have z0 := (bq GB.out 0).trans (show _ = some (.slice Av f.vars.length cv) from rfl); have z1 := (bq GB.out 1).trans (show _ = some (.slice An f.nodes.length cn) from rfl)) | (go_at_call 15; refine (HRD.out _ B.out).mono ?_; rintro e w3 ⟨t, A1, c1, A2, c2, A3, c3, A4, c4, A5, c5, ro⟩; have e3 := ro.ret; subst e3; have RO := aq ro; have B2 := aq (bt_ B.out ro.B); have GB2 := aq (bb_ GB.out ro.B); clear HRD GB B ro z0 z1; have B := B2; have GB := GB2; clear B2 GB2; simp only [flA]))
  have ON := aq (once_is HO.out HN.out RO.out.run)
  have G3 := aq (heap_alloc_last w3 (.cells (flA (xE f t).1 A1 c1 A2 c2 A3 c3 A4 c4) 47))
  have GB4 := aq (zI GB.out (.cells (flA (xE f t).1 A1 c1 A2 c2 A3 c3 A4 c4) 47))
  have B4 := aq (zY B.out (.cells (flA (xE f t).1 A1 c1 A2 c2 A3 c3 A4 c4) 47))
  have RF := aq (RO.out.flat.below (zY (Below.refl w3.heap.size w3) (.cells (flA (xE f t).1 A1 c1 A2 c2 A3 c3 A4 c4) 47)))
  have RL := aq (Kd.wT RO.out.list (.cells (flA (xE f t).1 A1 c1 A2 c2 A3 c3 A4 c4) 47))
  clear RO GB B HN HO
  have GB := GB4
  have B := B4
  clear GB4 B4
  unfold flA at G3
  unfold flA at GB B RF RL
  generalize (xE f t).1 = a at G3 GB B RF RL ON ⊢
  generalize (xE f t).2 = ls at RL ON ⊢
  generalize w3.alloc (.cells #[.slice A1 a.vars.length c1, .slice A2 a.nodes.length c2, .slice A3 a.eqs.length c3, .slice A4 a.zS.length c4] 47) = W4 at G3 GB B RF RL ⊢
  generalize w3.heap.size = g3 at G3 ⊢
  rw [ON.out.len] at RL ⊢
  have v1 := eq_false (show ¬ (f.vars.length : Int) < (a.vars.length : Int) by have := ON.out.vle; omega)
  have v2 := eq_false (show ¬ (f.eqs.length : Int) < (a.eqs.length : Int) by have := ON.out.ele; omega)
  have v3 := eq_false (show ¬ f.vars.length < a.vars.length by have := ON.out.vle; omega)
  have v4 := eq_false (show ¬ f.eqs.length < a.eqs.length by have := ON.out.ele; omega)
  have z0 := (bq GB.out 0).trans (show _ = some (.slice Av f.vars.length cv) from rfl)
  have z2 := (bq GB.out 2).trans (show _ = some (.slice Ae f.eqs.length ce) from rfl)
  have z3 := (bq GB.out 3).trans (show _ = some (.slice As f.zS.length cs) from rfl)
  have mm0 := (bq G3.out 0).trans (show _ = some (.slice A1 a.vars.length c1) from rfl)
  have mm1 := (bq G3.out 1).trans (show _ = some (.slice A2 a.nodes.length c2) from rfl)
  have mm2 := (bq G3.out 2).trans (show _ = some (.slice A3 a.eqs.length c3) from rfl)
  have mm3 := (bq G3.out 3).trans (show _ = some (.slice A4 a.zS.length c4) from rfl)
  go_wp2
  go_loopw [64] (fun i wr => ∃ (j : Int), 0 ≤ j ∧ j ≤ (f.vars.length : Int) ∧ i = .int .i64 j ∧ zV (Below W4.heap.size W4 wr)) (fun i _ => f.vars.length - (intOf i).toNat)
  case atStart => exact ⟨0, Int.le_refl _, by omega, rfl, ⟨Below.refl _ _⟩⟩
  case round =>
   clear z0 z2 z3 mm0 mm1 mm2 mm3
   obtain ⟨j, j0, j1, rfl, HB⟩ := hrel
   by_cases hlt : j < (f.vars.length : Int)
   ·obtain ⟨gl, eA, l0, l1⟩ := tQ (Kd.yS RL.out HB.out) j0 (by rw [ON.out.len]; exact hlt)
    cases eA
    have hno := ON.out.note j j0 hlt
    have mm0 := (bq (bb_ G3.out HB.out) 0).trans (show _ = some (.slice A1 a.vars.length c1) from rfl)
    have HW := aq (show wrap64 (j + 1) = j + 1 by unfold wrap64; omega)
    have k2'' := k2'
    generalize rdA ls j = x at l0 l1 hno
    obtain ⟨x0, x1⟩ := x
    dsimp only at l0 l1 hno
    have HX := aq (heap_alloc_last wr (.cells #[.int .i64 x0, .int .i64 x1] 53))
    have HB2 := aq (zY HB.out (.cells #[.int .i64 x0, .int .i64 x1] 53))
    have mm0' := (bq (bb_ G3.out HB2.out) 0).trans (show _ = some (.slice A1 a.vars.length c1) from rfl)
    clear HB
    rcases hno with h | ⟨h1, h2, h3⟩
    ·injection h with h0 h1
     subst h0
     subst h1
     go_wp2
     (try rw [HW.out])
     exact ⟨⟨j + 1, by omega, by omega, rfl, HB2⟩, by simp only [intOf]; omega⟩
    ·rcases h1 with h1 | h1
     all_goals
      subst h1
      have e1 := eq_false (show ¬ x0 < 0 by omega)
      have e2 := eq_false (show ¬ (a.vars.length : Int) ≤ x0 by omega)
      go_wp2
      (try rw [HW.out])
      exact ⟨⟨j + 1, by omega, by omega, rfl, HB2⟩, by simp only [intOf]; omega⟩
   obtain rfl : j = (f.vars.length : Int) := by omega
   have d1 := eq_false (show ¬ (f.vars.length : Int) < (f.vars.length : Int) by omega)
   clear hlt j0 j1
   have HRD2 := aq (fun (V : World) (hb : Below W4.heap.size W4 V) => red15 a A1 c1 A2 c2 A3 c3 A4 c4 V (RF.out.below hb) ON.out.ok ON.out.small)
   unfold flA at HRD2
   have G3b := aq (bb_ G3.out HB.out)
   go_upto_region 13 with (first | ((with_reducible refine gD (N := 106) rfl ?_); (with_reducible refine zA 47 ?_); refine oT (g := g3) (t := 47) (n := 4) rfl G3b.out (by kernel_rfl) (by kernel_rfl) rfl ?_) | (go_at_call 15; refine (HRD2.out _ HB.out).mono ?_; rintro e w5 ⟨t2, D1, e1, D2, e2, D3, e3, D4, e4, D5, e5, ro⟩; have er := ro.ret; subst er; have RO2 := aq ro; have HB5 := aq (bt_ HB.out ro.B); have G3c := aq (bb_ G3b.out ro.B); clear HRD2 HB G3b ro; simp only [flA]))
   have hag := ON.out.again t2 RO2.out.run
   have RF2 := aq RO2.out.flat
   have RL2 := aq RO2.out.list
   rw [hag] at RF2 RL2 ⊢
   have G8 := aq (heap_alloc_last w5 (.cells #[.slice D1 a.vars.length e1, .slice D2 a.nodes.length e2, .slice D3 a.eqs.length e3, .slice D4 a.zS.length e4] 47))
   have G3b := aq (zI G3c.out (.cells #[.slice D1 a.vars.length e1, .slice D2 a.nodes.length e2, .slice D3 a.eqs.length e3, .slice D4 a.zS.length e4] 47))
   have HB6 := aq (zY HB5.out (.cells #[.slice D1 a.vars.length e1, .slice D2 a.nodes.length e2, .slice D3 a.eqs.length e3, .slice D4 a.zS.length e4] 47))
   have RF3 := aq (RF2.out.below (zY (Below.refl w5.heap.size w5) (.cells #[.slice D1 a.vars.length e1, .slice D2 a.nodes.length e2, .slice D3 a.eqs.length e3, .slice D4 a.zS.length e4] 47)))
   have RL3 := aq (Kd.wT RL2.out (.cells #[.slice D1 a.vars.length e1, .slice D2 a.nodes.length e2, .slice D3 a.eqs.length e3, .slice D4 a.zS.length e4] 47))
   have RFa := aq (RF.out.below HB6.out)
   have HLK := aq (like16 a A1 c1 A2 c2 A3 c3 A4 c4 D1 e1 D2 e2 D3 e3 D4 e4 _ RFa.out RF3.out ON.out.ok.vle (by have := ON.out.ok.nle; omega) ON.out.ok.ele ON.out.ok.sle)
   unfold flA at HLK
   clear RO2 RF2 RL2 G3c HB5 hag RF RFa RF3
   generalize w5.alloc (.cells #[.slice D1 a.vars.length e1, .slice D2 a.nodes.length e2, .slice D3 a.eqs.length e3, .slice D4 a.zS.length e4] 47) = W6 at G8 G3b HB6 RL3 HLK ⊢
   generalize w5.heap.size = g8 at G8 ⊢
   rw [nS] at RL3 ⊢
   have nn0 := (bq G8.out 0).trans (show _ = some (.slice D1 a.vars.length e1) from rfl)
   have nn1 := (bq G8.out 1).trans (show _ = some (.slice D2 a.nodes.length e2) from rfl)
   have nn2 := (bq G8.out 2).trans (show _ = some (.slice D3 a.eqs.length e3) from rfl)
   have nn3 := (bq G8.out 3).trans (show _ = some (.slice D4 a.zS.length e4) from rfl)
   have mm0 := (bq G3b.out 0).trans (show _ = some (.slice A1 a.vars.length c1) from rfl)
   have mm1 := (bq G3b.out 1).trans (show _ = some (.slice A2 a.nodes.length c2) from rfl)
   have mm2 := (bq G3b.out 2).trans (show _ = some (.slice A3 a.eqs.length c3) from rfl)
   have mm3 := (bq G3b.out 3).trans (show _ = some (.slice A4 a.zS.length c4) from rfl)
   go_wp2_with (first | (go_at_call 16; refine HLK.out.mono ?_; rintro e w7 ⟨rfl, hd⟩; have RL4 := aq (Kd.yS RL3.out hd); have HB7 := aq (bt_ HB6.out hd); have G3c := aq (bb_ G3b.out hd); clear HLK RL3 HB6 G3b hd nn0 nn1 nn2 nn3 mm0 mm1 mm2 mm3; have G3b := G3c; clear G3c; have mm0 := (bq G3b.out 0).trans (show _ = some (.slice A1 a.vars.length c1) from rfl)))
   rename World => w8
   have HB0 := aq (Below.refl w8.heap.size w8)
   go_loopw [129] (fun i wr => ∃ (j : Int), 0 ≤ j ∧ j ≤ (a.vars.length : Int) ∧ i = .int .i64 j ∧ zV (Below w8.heap.size w8 wr)) (fun i _ => a.vars.length - (intOf i).toNat)
   case atStart => exact ⟨0, Int.le_refl _, by omega, rfl, HB0⟩
   case round =>
    clear mm0 HB0
    obtain ⟨j, j0, j1, rfl, HB⟩ := hrel
    by_cases hlt : j < (a.vars.length : Int)
    ·obtain ⟨gl, eA, l0, l1⟩ := tQ (Kd.yS RL4.out HB.out) j0 (by rw [nS]; exact hlt)
     cases eA
     rw [idA_at j0 hlt] at l0 l1
     have l0 : wr.cell? ⟨gl, j.toNat * 2, none⟩ = some (.int .i64 j) := l0
     have l1 : wr.cell? ⟨gl, j.toNat * 2 + 1, none⟩ = some (.int .i64 1) := l1
     have HW := aq (show wrap64 (j + 1) = j + 1 by unfold wrap64; have := ON.out.vle; omega)
     have HB2 := aq (zY HB.out (.cells #[.int .i64 j, .int .i64 1] 53))
     clear HB
     go_wp2
     (try rw [HW.out])
     exact ⟨⟨j + 1, by omega, by omega, rfl, HB2⟩, by simp only [intOf]; omega⟩
    obtain rfl : j = (a.vars.length : Int) := by omega
    have d2 := eq_false (show ¬ (a.vars.length : Int) < (a.vars.length : Int) by omega)
    have GBb := aq (bb_ GB.out (bt_ HB7.out HB.out))
    have G3d := aq (bb_ G3b.out HB.out)
    have BB := aq (bt_ B.out (bt_ HB7.out HB.out))
    clear hlt j0 j1
    have z0 := (bq GBb.out 0).trans (show _ = some (.slice Av f.vars.length cv) from rfl)
    have z2 := (bq GBb.out 2).trans (show _ = some (.slice Ae f.eqs.length ce) from rfl)
    have z3 := (bq GBb.out 3).trans (show _ = some (.slice As f.zS.length cs) from rfl)
    have mm0 := (bq G3d.out 0).trans (show _ = some (.slice A1 a.vars.length c1) from rfl)
    have mm2 := (bq G3d.out 2).trans (show _ = some (.slice A3 a.eqs.length c3) from rfl)
    have mm3 := (bq G3d.out 3).trans (show _ = some (.slice A4 a.zS.length c4) from rfl)
    have hw1 : wrap64 ((f.vars.length : Int) - (a.vars.length : Int)) = (f.vars.length : Int) - (a.vars.length : Int) := by unfold wrap64; have := ON.out.vle; omega
    have hw2 : wrap64 ((f.eqs.length : Int) - (a.eqs.length : Int)) = (f.eqs.length : Int) - (a.eqs.length : Int) := by unfold wrap64; have := ON.out.ele; omega
    have hle : (f.vars.length : Int) - (a.vars.length : Int) ≤ (f.eqs.length : Int) - (a.eqs.length : Int) := by have := ON.out.cnt; omega
    have hse : (a.zS.length : Int) ≤ (f.zS.length : Int) := by have := ON.out.sle; omega
    have hse' := ON.out.sle
    go_wp2
    refine bodyPost_ret (results_tmp rfl _ _ _) rfl ⟨?_, BB.out⟩
    first
     | rfl
     | (show Ending.returned (Value.bool (decide ((a.zS.length : Int) ≤ (f.zS.length : Int)))) = _; rw [decide_eq_true hse])
     | (show Ending.returned (Value.bool (decide (a.zS.length ≤ f.zS.length))) = _; rw [decide_eq_true hse'])
end Go.Proofs.Ytoonahobmlnflaa.PC
namespace Go.Proofs.Ytoonahobmlnflaa.PC
open Go.ChangeShapes Go.WideShapes Go.ChangeAt Go.RowKit Go.Deep
open Go.Proofs.Ytoonahobmlnflaa.PC.A Go.Proofs.Ytoonahobmlnflaa.PC.B Go.Proofs.Ytoonahobmlnflaa.PC.C
section
variable {H : Type} {enc : TypeId × Value → H} {W : World} {base : Nat} {spare : Nat → Bool} {held : Bool}
theorem trod_start {n : Nat} {cs : List Value} {r : DataW H × List MemPlace} (h : DataW.trod enc Try.prog W base spare held n 80 cs = some r) : ∃ x : S80, cs = qG x ∧ StartI x := by
 obtain ⟨ys, m, _, _, hl, hys, hf⟩ := DataW.trod_struct Try.underlying80 h
 have hl' : cs.length = 6 := hl.trans (by kernel_rfl)
 have h0 := wI hf 0 32 0 2 rfl (by kernel_rfl) (by rw [hys]; decide)
 have h1 := wI hf 1 30 2 2 rfl (by kernel_rfl) (by rw [hys]; decide)
 have h2 := wI hf 2 30 4 2 rfl (by kernel_rfl) (by rw [hys]; decide)
 obtain ⟨a0, b0, _, _, p0⟩ := trod_key h0
 obtain ⟨a1, b1, i1, j1, p1⟩ := trod_rat h1
 obtain ⟨a2, b2, i2, j2, p2⟩ := trod_rat h2
 refine ⟨⟨⟨a0, b0⟩, ⟨a1, b1⟩, ⟨a2, b2⟩⟩, ?_, ⟨⟨i1, j1⟩, ⟨i2, j2⟩⟩⟩
 have e := cut cs 0 2
 change _ = List.take 2 (List.drop 0 cs) ++ _ at e
 rw [p0, cut cs (0 + 2) 2] at e
 rw [p1, cut cs (0 + 2 + 2) 2] at e
 rw [p2, show List.drop (0 + 2 + 2 + 2) cs = [] from List.drop_eq_nil_of_le (by omega)] at e
 exact e
theorem trod_var {n : Nat} {cs : List Value} {r : DataW H × List MemPlace} (h : DataW.trod enc Try.prog W base spare held n 59 cs = some r) : ∃ x : S59, cs = (rF x).toList := by
 obtain ⟨ys, m, _, _, hl, hys, hf⟩ := DataW.trod_struct Try.underlying59 h
 have hl' : cs.length = 15 := hl.trans (by kernel_rfl)
 have h0 := wI hf 0 9 0 1 rfl (by kernel_rfl) (by rw [hys]; decide)
 have h1 := wI hf 1 35 1 14 rfl (by kernel_rfl) (by rw [hys]; decide)
 obtain ⟨s, p0, _, _⟩ := DataW.trod_string Try.underlying9 h0
 obtain ⟨e0, e1, e2, e3, e4, e5, e6, e7, e8, e9, e10, e11, e12, e13, _, p1⟩ := trod_dim h1
 refine ⟨⟨s, ⟨⟨⟨e0, e1⟩, ⟨e2, e3⟩, ⟨e4, e5⟩, ⟨e6, e7⟩, ⟨e8, e9⟩, ⟨e10, e11⟩, ⟨e12, e13⟩⟩⟩⟩, ?_⟩
 have e := cut cs 0 1
 change _ = List.take 1 (List.drop 0 cs) ++ _ at e
 rw [p0, cut cs (0 + 1) 14] at e
 rw [p1, show List.drop (0 + 1 + 14) cs = [] from List.drop_eq_nil_of_le (by omega)] at e
 exact e
def DLen (d : DataW H) (len : Nat) : Prop := len = 0 ∨ ∃ elems rest, d = .slice elems rest ∧ elems.length = len
theorem open_kd {α : Type} (z : α) (k : Kd α) (t e N : TypeId) (L : α → List Value) (Q : α → Prop) (ht : Try.prog.underlying t = some (.slice e)) (hC : Try.prog.cellsOf e = k.sz) (hn : N = k.sz) (hL : ∀ x, (L x).length = k.sz)
  (hK : ∀ x, k.K W x (L x)) (hE : ∀ n cs' r, DataW.trod enc Try.prog W base spare held n e cs' = some r → ∃ x, cs' = L x ∧ Q x) {n : Nat} {cs : List Value} {r : DataW H × List MemPlace} (hf : DataW.trod enc Try.prog W base spare held n t cs = some r) :
  ∃ a l cap, cs = [.slice a l.length cap] ∧ l.length ≤ cap ∧ Kd.C k W a l.length l ∧ (∀ x ∈ l, Q x) ∧ DLen r.1 l.length := by
 rcases open_slice ht hf with ⟨hcs, _⟩ | ⟨x, len, c, m, n, D, Pl, hcs, _, hl, hm, hmm, hr, hel⟩
 ·exact ⟨none, [], 0, hcs, Nat.le_refl _, C_none _ _, (fun x hx => by cases hx), .inl rfl⟩
 ·have hlm : len ≤ m := by
   rw [hmm]
   split
   ·exact hl
   ·exact Nat.le_refl _
  have key : ∀ i, i < len → ∃ e : α, Q e ∧ ∀ j, j < k.sz → W.cell? (x.add (i * k.sz + j)) = (L e)[j]? := by
   intro i hi
   obtain ⟨cs', hc, ht⟩ := hel i (by omega)
   rw [hC] at hc
   obtain ⟨_, hlen, hcell⟩ := World.cells?_some hc
   obtain ⟨e, he, h1⟩ := hE _ _ _ ht
   refine ⟨e, h1, fun j hj => ?_⟩
   rw [← Go.Deep.add_add, hcell j hj, he]
  haveI : Inhabited α := ⟨z⟩
  obtain ⟨f, hfk⟩ := choose_lt key
  have hm' : len ≤ 9223372036854775807 := by unfold maxLen at hm; omega
  have hlr : ((List.range len).map f).length = len := by simp
  have el : ∀ j p, ((List.range len).map f)[j]? = some p → ∃ c', c'.length = k.sz ∧ k.K W p c' ∧ ∀ (i : Nat) u, c'[i]? = some u → W.cell? (x.add (j * k.sz + i)) = some u := by
   intro j p hj
   obtain ⟨hjl, hp⟩ := List.getElem?_eq_some_iff.1 hj
   have hjl' : j < len := by simpa using hjl
   have hp' : f j = p := by simpa using hp
   subst hp'
   obtain ⟨_, c0⟩ := hfk j hjl'
   refine ⟨L (f j), (hL _), hK (f j), fun i u hu => ?_⟩
   have hi : i < k.sz := by rw [← hL (f j)]; exact (List.getElem?_eq_some_iff.1 hu).1
   rw [c0 i hi]
   exact hu
  refine ⟨some x, (List.range len).map f, c, by rw [hlr]; exact hcs, by rw [hlr]; exact hl, ?_, fun e he => ?_, .inr ⟨(List.range len).map D, (List.range (m - len)).map fun j => D (len + j), by rw [hr], by simp⟩⟩
  ·rw [hlr]
   exact ⟨hlr, hm', fun _ => ⟨x, rfl, el⟩⟩
  ·obtain ⟨j, hj, rfl⟩ := List.mem_map.1 he
   exact (hfk j (List.mem_range.1 hj)).1
theorem weights_agg {P : Program} {t : TypeId} {fs : Array Field} {parts : List (DataW H)} (h : P.underlying t = some (.struct fs)) : DataW.weights P t (.agg parts) = DataW.weightsEach P (fs.toList.map (·.type)) parts := by
 simp only [DataW.weights, h]
theorem open_flat {cs : Array Value} {d : DataW H} {ps : List MemPlace} (h : DataW.Trod enc Try.prog W base spare held 47 (.agg cs) d ps) (hsz : (DataW.weights Try.prog 47 d).all (· ≤ reachBytes) = true) :
  ∃ f Av cv An cn Ae ce As c', cs = flA f Av cv An cn Ae ce As c' ∧ oB f Av cv An cn Ae ce As c' W ∧ (∀ x ∈ f.nodes, wE x) ∧ (∀ s ∈ f.zS, StartI s) ∧ f.eqs.length ≤ 17592186044416 ∧ f.zS.length ≤ 2932031007402 := by
 obtain ⟨fuel, hf0⟩ := h
 change DataW.trod enc Try.prog W base spare held fuel 47 cs.toList = _ at hf0
 obtain ⟨ys, m, _, hd, hl, hys, hf⟩ := DataW.trod_struct Try.underlying47 hf0
 have hl' : cs.toList.length = 4 := hl.trans (by kernel_rfl)
 have l0 : 0 < ys.length := by rw [hys]; decide
 have l1 : 1 < ys.length := by rw [hys]; decide
 have l2 : 2 < ys.length := by rw [hys]; decide
 have l3 : 3 < ys.length := by rw [hys]; decide
 have h0 := wI hf 0 44 0 1 rfl (by kernel_rfl) l0
 have h1 := wI hf 1 22 1 1 rfl (by kernel_rfl) l1
 have h2 := wI hf 2 23 2 1 rfl (by kernel_rfl) l2
 have h3 := wI hf 3 45 3 1 rfl (by kernel_rfl) l3
 obtain ⟨Av, vs, cv, p0, _, q0, _, _⟩ := open_kd z59 k59 44 59 15 (fun x => (rF x).toList) (fun _ => True) Try.underlying44 (by kernel_rfl) rfl (fun _ => rfl) (fun x => (⟨[.string x.f0], _, rfl, rfl, k35_mk _ _⟩ : k59.K W x (rF x).toList)) (fun n cs' r hr => by obtain ⟨x, hx⟩ := trod_var hr; exact ⟨x, hx, trivial⟩) h0
 obtain ⟨An, ns, cn, p1, nle, q1, r1, _⟩ := open_kd z37 k37 22 37 22 wS wE Try.underlying22 (by kernel_rfl) rfl (fun _ => rfl) (fun x => k37_mk W x) (fun n cs' r hr => by obtain ⟨x, hx, hI, _⟩ := trod_node hr; exact ⟨x, hx, hI⟩) h1
 obtain ⟨Ae, es, ce, p2, ele, q2, _, d2⟩ := open_kd 0 (Kd.int .i64) 23 3 1 (fun x => [.int .i64 x]) (fun _ => True) Try.underlying23 (by kernel_rfl) rfl (fun _ => rfl) (fun x => rfl) (fun n cs' r hr => by obtain ⟨z, _, hx⟩ := sU Try.underlying3 hr; exact ⟨z, hx, trivial⟩) h2
 obtain ⟨As, ss, c', p3, _, q3, r3, d3⟩ := open_kd z80 k80 45 80 6 qG StartI Try.underlying45 (by kernel_rfl) rfl (fun _ => rfl) (fun x => (⟨[.int .i64 x.f0.f0, .int .i64 x.f0.f1], _, rfl, k32_mk _ _, ⟨[.int .i64 x.f1.f0, .int .i64 x.f1.f1], _, rfl, oP _ _, oP _ _⟩⟩ : k80.K W x (qG x))) (fun n cs' r hr => trod_start hr) h3
 simp only [Prod.mk.injEq] at hd
 have hda := hd.1
 subst hda
 have hw : (DataW.weightsEach Try.prog [44, 22, 23, 45] (ys.map (·.1))).all (· ≤ reachBytes) = true := by
  have hu := Try.underlying47
  rw [weights_agg hu] at hsz
  exact hsz
 refine ⟨⟨vs, ns, es, ss⟩, Av, cv, An, cn, Ae, ce, As, c', ?_, ⟨q0, q1, q2, q3, nle, ele⟩, r1, r3, ?_, ?_⟩
 ·have e := cut cs.toList 0 1
  change _ = List.take 1 (List.drop 0 cs.toList) ++ _ at e
  rw [p0, cut cs.toList (0 + 1) 1] at e
  rw [p1, cut cs.toList (0 + 1 + 1) 1] at e
  rw [p2, cut cs.toList (0 + 1 + 1 + 1) 1] at e
  rw [p3, show List.drop (0 + 1 + 1 + 1 + 1) cs.toList = [] from List.drop_eq_nil_of_le (by omega)] at e
  exact Array.toList_inj.1 e
 ·show es.length ≤ _
  rcases d2 with d2 | ⟨el, rs, hd2, hn⟩
  ·omega
  ·have := sized_slice hw (j := 2) (t := 23) (e := 3) rfl (by rw [List.getElem?_map, List.getElem?_eq_getElem l2, Option.map_some, hd2]) Try.underlying23
   rw [show Try.prog.bytesOf 3 = 8 by kernel_rfl, show reachBytes = 140737488351232 from rfl, hn] at this
   omega
 ·show ss.length ≤ _
  rcases d3 with d3 | ⟨el, rs, hd3, hn⟩
  ·omega
  ·have := sized_slice hw (j := 3) (t := 45) (e := 80) rfl (by rw [List.getElem?_map, List.getElem?_eq_getElem l3, Option.map_some, hd3]) Try.underlying45
   rw [show Try.prog.bytesOf 80 = 48 by kernel_rfl, show reachBytes = 140737488351232 from rfl, hn] at this
   omega
end
end Go.Proofs.Ytoonahobmlnflaa.PC
