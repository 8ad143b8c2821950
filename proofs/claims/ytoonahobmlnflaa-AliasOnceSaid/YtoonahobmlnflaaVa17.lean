/- Texts of this claim, one behind the other. -/
import Derived.Test.YtoonahobmlnflaaVa16
import Derived.WalkMore
set_option linter.unusedVariables false
set_option linter.unusedSimpArgs false
set_option maxRecDepth 100000
set_option maxHeartbeats 16000000
namespace Go.Proofs.Ytoonahobmlnflaa.PC
open Go.RowKit Go.Shelf A B C
structure F1 (gf g8 g11 : Nat) (fl : Array Value) (ve : Value) (At : Option Addr) (n ct : Nat) (w : World) (ok : Nat → Prop) (st : List S59 × List Int) (V : World) : Prop where
 bx : ∃ v, V.heap[g11]? = some (.cells #[v, .slice none 0 0, ve, .slice none 0 0] 47 (0, 0)) ∧ Kd.R k59 59 V w.heap.size ok v st.1
 tv : Kd.R (Kd.int .i64) 3 V w.heap.size (fun _ => True) (.slice At n ct) st.2
 bf : V.heap[gf]? = some (.cells fl 47 (0, 0))
 b8 : V.heap[g8]? = some (.cells #[.slice none 0 0, .slice none 0 0, .slice none 0 0, .slice none 0 0] 47 (0, 0))
 B : Below w.heap.size w V
 ge : w.heap.size ≤ g11
 nf : gf ≠ g11
 n8 : g8 ≠ g11
section
variable {gf g8 g11 : Nat} {fl : Array Value} {ve : Value} {At : Option Addr} {n ct : Nat} {w : World} {ok : Nat → Prop} {st : List S59 × List Int} {V V' V1 : World}
theorem F1.step (h : F1 gf g8 g11 fl ve At n ct w ok st V) (hd : Below V.heap.size V V') : F1 gf g8 g11 fl ve At n ct w ok st V' := by
 obtain ⟨v, hv, hr⟩ := h.bx
 exact ⟨⟨v, bb_ hv hd, Kd.yS hr hd⟩, Kd.yS h.tv hd, bb_ h.bf hd, bb_ h.b8 hd, bt_ h.B hd, h.ge, h.nf, h.n8⟩
theorem F1.but {g : Nat} (h : F1 gf g8 g11 fl ve At n ct w (fun _ => True) st V) (hd : Below V.heap.size V V') (hg : V.heap.size ≤ g) : F1 gf g8 g11 fl ve At n ct w (fun k => k ≠ g) st V' := by
 obtain ⟨v, hv, hr⟩ := h.bx
 exact ⟨⟨v, bb_ hv hd, R_but hr hd hg⟩, Kd.yS h.tv hd, bb_ h.bf hd, bb_ h.b8 hd, bt_ h.B hd, h.ge, h.nf, h.n8⟩
theorem F1.done (h : F1 gf g8 g11 fl ve At n ct w ok st V) : F1 gf g8 g11 fl ve At n ct w (fun _ => True) st V := by
 obtain ⟨v, hv, hr⟩ := h.bx
 exact ⟨⟨v, hv, Kd.xC hr (fun _ _ => trivial)⟩, h.tv, h.bf, h.b8, h.B, h.ge, h.nf, h.n8⟩
theorem F1.put {gv : Nat} (h : F1 gf g8 g11 fl ve (some ⟨gv, 0, none⟩) n ct w ok st V) (j i : Int) : F1 gf g8 g11 fl ve (some ⟨gv, 0, none⟩) n ct w ok (st.1, st.2.set j.toNat i) (V.setCell ⟨gv, j.toNat, none⟩ (.int .i64 i)) := by
 obtain ⟨cells, ht⟩ := Kd.sS h.tv gv rfl
 obtain ⟨v, hv, hr⟩ := h.bx
 have k : ∀ {g t : Nat} {c : Array Value}, V.heap[g]? = some (.cells c t (0, 0)) → t ≠ 3 → (V.setCell ⟨gv, j.toNat, none⟩ (.int .i64 i)).heap[g]? = some (.cells c t (0, 0)) := fun hb ht' => (Below.heap_setCell V ⟨gv, j.toNat, none⟩ _ _ (qO hb ht ht')).trans hb
 exact ⟨⟨v, k hv (by decide), Kd.sD hr ht (by decide) _ _⟩, (Kd.R_putg h.tv j i).1, k h.bf (by decide), k h.b8 (by decide), bs_ h.B (Kd.nQ h.tv gv rfl), h.ge, h.nf, h.n8⟩
theorem F1.grow {v v1 : Value} {L : List S59} (h : F1 gf g8 g11 fl ve At n ct w ok st V) (hv : V.heap[g11]? = some (.cells #[v, .slice none 0 0, ve, .slice none 0 0] 47 (0, 0))) (hr : Kd.R k59 59 V w.heap.size ok v st.1) (ho : Kd.R k59 59 V1 w.heap.size ok v1 L) (hb : Below w.heap.size w V1) (hg : V.grownBy V1 v.ownBlock) :
  F1 gf g8 g11 fl ve At n ct w ok (L, st.2) (V1.setCell ⟨g11, 0, none⟩ v1) := by
 have k : ∀ {g : Nat} {c : Array Value}, V.heap[g]? = some (.cells c 47 (0, 0)) → V1.heap[g]? = some (.cells c 47 (0, 0)) := fun hb' => xO hb' hg (Kd.R_ne hr hb' (by decide))
 exact ⟨⟨v1, yD (k hv) 0 v1, Kd.sD ho (k hv) (by decide) 0 v1⟩, Kd.sD (Kd.rV h.tv hr (by decide) hg) (k hv) (by decide) 0 v1, (zK V1 ⟨g11, 0, none⟩ v1).blk (k h.bf) h.nf, (zK V1 ⟨g11, 0, none⟩ v1).blk (k h.b8) h.n8, bs_ hb h.ge, h.ge, h.nf, h.n8⟩
end
theorem oH (vars : List S59) (l : List S32) (k : Nat) : wJ vars l (k + 1) = if (ofA l (k : Int)).f0 = (k : Int) ∧ (ofA l (k : Int)).f1 = 1 then ((wJ vars l k).1 ++ [zG z59 vars (k : Int)], (wJ vars l k).2.set k ((wJ vars l k).1.length : Int)) else wJ vars l k := rfl
theorem finV_len (vars : List S59) (l : List S32) (k : Nat) : (wJ vars l k).2.length = vars.length ∧ (wJ vars l k).1.length ≤ k := by
 induction k with
 | zero => simp [wJ]
 | succ k ih =>
  rw [oH]
  split
  ·simp only [List.length_set, List.length_append, List.length_singleton]; omega
  ·omega
structure F2 (g11 : Nat) (ve vv : Value) (w2 : World) (ok : Nat → Prop) (xs : List S37) (V : World) : Prop where
 bx : ∃ v, V.heap[g11]? = some (.cells #[vv, v, ve, .slice none 0 0] 47 (0, 0)) ∧ Kd.R k37 37 V w2.heap.size ok v xs
 K : KB g11 w2 V
 lt : g11 < w2.heap.size
section
variable {g11 : Nat} {ve vv : Value} {w2 : World} {ok : Nat → Prop} {xs : List S37} {V V' V1 : World}
theorem F2.step (h : F2 g11 ve vv w2 ok xs V) (hd : Below V.heap.size V V') : F2 g11 ve vv w2 ok xs V' := by
 obtain ⟨v, hv, hr⟩ := h.bx
 exact ⟨⟨v, bb_ hv hd, Kd.yS hr hd⟩, h.K.step hd, h.lt⟩
theorem F2.but {g : Nat} (h : F2 g11 ve vv w2 (fun _ => True) xs V) (hd : Below V.heap.size V V') (hg : V.heap.size ≤ g) : F2 g11 ve vv w2 (fun k => k ≠ g) xs V' := by
 obtain ⟨v, hv, hr⟩ := h.bx
 exact ⟨⟨v, bb_ hv hd, R_but hr hd hg⟩, h.K.step hd, h.lt⟩
theorem F2.done (h : F2 g11 ve vv w2 ok xs V) : F2 g11 ve vv w2 (fun _ => True) xs V := by
 obtain ⟨v, hv, hr⟩ := h.bx
 exact ⟨⟨v, hv, Kd.xC hr (fun _ _ => trivial)⟩, h.K, h.lt⟩
theorem F2.set {gn : Nat} {c : Array Value} (h : F2 g11 ve vv w2 (fun k => k ≠ gn) xs V) (hx : V.heap[gn]? = some (.cells c 37 (0, 0))) (hn : w2.heap.size ≤ gn) (j : Nat) (u : Value) : F2 g11 ve vv w2 (fun k => k ≠ gn) xs (V.setCell ⟨gn, j, none⟩ u) := by
 obtain ⟨v, hv, hr⟩ := h.bx
 have hne : g11 ≠ gn := by have := h.lt; omega
 exact ⟨⟨v, (zK V ⟨gn, j, none⟩ u).blk hv hne, Kd.R_far hr (fun k hk => hk) u⟩, h.K.low ((zK V ⟨gn, j, none⟩ u).below hn), h.lt⟩
theorem F2.grow {v v1 : Value} {L : List S37} (h : F2 g11 ve vv w2 ok xs V) (hv : V.heap[g11]? = some (.cells #[vv, v, ve, .slice none 0 0] 47 (0, 0))) (hr : Kd.R k37 37 V w2.heap.size ok v xs) (ho : Kd.R k37 37 V1 w2.heap.size ok v1 L) (hb : Below w2.heap.size V V1) (hg : V.grownBy V1 v.ownBlock) :
  F2 g11 ve vv w2 ok L (V1.setCell ⟨g11, 1, none⟩ v1) := by
 have hk := xO hv hg (Kd.R_ne hr hv (by decide))
 exact ⟨⟨v1, yD hk 1 v1, Kd.sD ho hk (by decide) 1 v1⟩, (h.K.low hb).one (zK V1 ⟨g11, 1, none⟩ v1), h.lt⟩
end
theorem starts_len (ls : List S32) (ss : List S80) (k : Nat) : ((ss.take k).foldl (vF ls) []).length ≤ k := by
 induction k with
 | zero => simp
 | succ k ih =>
  by_cases h : k < ss.length
  ·rw [List.take_succ_eq_append_getElem h, List.foldl_append]
   generalize (ss.take k).foldl (vF ls) [] = z at ih ⊢
   show (vF ls z ss[k]).length ≤ k + 1
   unfold vF
   split
   ·omega
   ·rw [List.length_append]; simp; omega
  ·rw [List.take_of_length_le (by omega)]
   rw [List.take_of_length_le (by omega)] at ih
   omega
theorem startS_eq (ls : List S32) (out : List S80) (s : S80) : vF ls out s = if (rdA ls s.f0.f0).f1 = 0 then out else out ++ [nZ (rdA ls s.f0.f0) s] := rfl
theorem right_low {n d : Int} (h : zE n d = true) : -9223372036854775808 < n := by
 unfold zE at h
 simp only [Bool.and_eq_true, decide_eq_true_eq] at h
 omega
structure F4 (g11 : Nat) (ve vv vn : Value) (w2 : World) (ok : Nat → Prop) (xs : List S80) (V : World) : Prop where
 bx : ∃ v, V.heap[g11]? = some (.cells #[vv, vn, ve, v] 47 (0, 0)) ∧ Kd.R k80 80 V w2.heap.size ok v xs
 K : KB g11 w2 V
 lt : g11 < w2.heap.size
section
variable {g11 : Nat} {ve vv vn : Value} {w2 : World} {ok : Nat → Prop} {xs : List S80} {V V' V1 : World}
theorem F4.step (h : F4 g11 ve vv vn w2 ok xs V) (hd : Below V.heap.size V V') : F4 g11 ve vv vn w2 ok xs V' := by
 obtain ⟨v, hv, hr⟩ := h.bx
 exact ⟨⟨v, bb_ hv hd, Kd.yS hr hd⟩, h.K.step hd, h.lt⟩
theorem F4.but {g : Nat} (h : F4 g11 ve vv vn w2 (fun _ => True) xs V) (hd : Below V.heap.size V V') (hg : V.heap.size ≤ g) : F4 g11 ve vv vn w2 (fun k => k ≠ g) xs V' := by
 obtain ⟨v, hv, hr⟩ := h.bx
 exact ⟨⟨v, bb_ hv hd, R_but hr hd hg⟩, h.K.step hd, h.lt⟩
theorem F4.done (h : F4 g11 ve vv vn w2 ok xs V) : F4 g11 ve vv vn w2 (fun _ => True) xs V := by
 obtain ⟨v, hv, hr⟩ := h.bx
 exact ⟨⟨v, hv, Kd.xC hr (fun _ _ => trivial)⟩, h.K, h.lt⟩
theorem F4.set {gn : Nat} (h : F4 g11 ve vv vn w2 (fun k => k ≠ gn) xs V) (hn : w2.heap.size ≤ gn) (j : Nat) (u : Value) : F4 g11 ve vv vn w2 (fun k => k ≠ gn) xs (V.setCell ⟨gn, j, none⟩ u) := by
 obtain ⟨v, hv, hr⟩ := h.bx
 have hne : g11 ≠ gn := by have := h.lt; omega
 exact ⟨⟨v, (zK V ⟨gn, j, none⟩ u).blk hv hne, Kd.R_far hr (fun k hk => hk) u⟩, h.K.low ((zK V ⟨gn, j, none⟩ u).below hn), h.lt⟩
theorem F4.grow {v v1 : Value} {L : List S80} (h : F4 g11 ve vv vn w2 ok xs V) (hv : V.heap[g11]? = some (.cells #[vv, vn, ve, v] 47 (0, 0))) (hr : Kd.R k80 80 V w2.heap.size ok v xs) (ho : Kd.R k80 80 V1 w2.heap.size ok v1 L) (hb : Below w2.heap.size V V1) (hg : V.grownBy V1 v.ownBlock) :
  F4 g11 ve vv vn w2 ok L (V1.setCell ⟨g11, 3, none⟩ v1) := by
 have hk := xO hv hg (Kd.R_ne hr hv (by decide))
 exact ⟨⟨v1, yD hk 3 v1, Kd.sD ho hk (by decide) 3 v1⟩, (h.K.low hb).one (zK V1 ⟨g11, 3, none⟩ v1), h.lt⟩
end
def noteA (tv : List Int) (a : S32) : S32 := if a.f1 ≠ 0 then ⟨rd tv a.f0, a.f1⟩ else a
def lsK (l : List S32) (tv : List Int) (k : Nat) : List S32 := (List.range k).map fun (i : Nat) => noteA tv (ofA l (i : Int))
theorem listA_eq (l : List S32) (tv : List Int) (n : Nat) : uD l tv n = lsK l tv n := rfl
theorem fin38 {base : Nat} {ok : Nat → Prop} (f : sV) (Av : Option Addr) (cv : Nat) (An : Option Addr) (cn : Nat) (Ae : Option Addr) (ce : Nat) (As : Option Addr) (cs : Nat) (w : World) (hF : oB f Av cv An cn Ae ce As cs w) (hvl : f.vars.length ≤ 100) (hsl : f.zS.length ≤ 2932031007402) (hst : ∀ s ∈ f.zS, StartOK f.vars.length s)
  (L : List S37) (A3 : Option Addr) (c3 : Nat) (hL : Kd.C k37 w A3 L.length L) (hL4 : L.length ≤ 4000) (hv : ∀ x ∈ L, x.f0 = 2 → 0 ≤ x.f5.f0 ∧ x.f5.f0 < (f.vars.length : Int)) (A4 : Option Addr) (n4 c4 : Nat)
  (l : List S32) (A2 : Option Addr) (c2 : Nat) (hR : Kd.R k32 53 w base ok (.slice A2 l.length c2) l) (hf : FOK l) (hl : l.length = f.vars.length) :
  Calls Try.prog 38 #[.agg (flA f Av cv An cn Ae ce As cs), .slice A3 L.length c3, .slice A4 n4 c4, .slice A2 l.length c2] w fun e w' => ∃ vv vn vs vl, e = .returned (.tuple #[.agg #[vv, vn, .slice A4 n4 c4, vs], vl, .int .i64 0]) ∧
   Kd.R k59 59 w' w.heap.size (fun _ => True) vv (wJ f.vars l f.vars.length).1 ∧ Kd.R k37 37 w' w.heap.size (fun _ => True) vn (L.map (uX (wJ f.vars l f.vars.length).2)) ∧
   Kd.R k80 80 w' w.heap.size (fun _ => True) vs (f.zS.foldl (vF (uD l (wJ f.vars l f.vars.length).2 f.vars.length)) []) ∧ Kd.R k32 53 w' w.heap.size (fun _ => True) vl (uD l (wJ f.vars l f.vars.length).2 f.vars.length) ∧ Below w.heap.size w w' := by
 have hu47 := Try.underlying47
 have HF := aq hF
 have HVL := aq hvl
 have HSL := aq hsl
 have HST := aq hst
 have HL := aq hL
 have HL4 := aq hL4
 have HV := aq hv
 have HOF := aq (fun (V : World) (h : Below w.heap.size w V) (v : Int) (v0 : 0 ≤ v) (v1 : v < (f.vars.length : Int)) => show Calls Try.prog 61 #[.slice A2 f.vars.length c2, .int .i64 v] V fun e w' => e = .returned (.agg #[.int .i64 (ofA l v).f0, .int .i64 (ofA l v).f1]) ∧ Below V.heap.size V w' by rw [← hl]; exact of61 l A2 c2 V (Kd.yS hR h) hf v v0 (by rw [hl]; exact v1))
 have HFO := aq hf
 have HLL := aq hl
 rw [hl]
 clear hl hF hvl hsl hst hL hL4 hv hR hf
 obtain ⟨fl, hfl⟩ : ∃ fl, flA f Av cv An cn Ae ce As cs = fl := ⟨_, rfl⟩
 have HFL := aq hfl
 rw [hfl]
 have GF := aq (heap_alloc_last w (.cells fl 47))
 clear hfl
 have G8 := aq (heap_alloc_last (w.alloc (.cells fl 47)) (.cells #[.slice none 0 0, .slice none 0 0, .slice none 0 0, .slice none 0 0] 47))
 have G11 := aq (heap_alloc_last ((w.alloc (.cells fl 47)).alloc (.cells #[.slice none 0 0, .slice none 0 0, .slice none 0 0, .slice none 0 0] 47)) (.cells #[.slice none 0 0, .slice none 0 0, .slice A4 n4 c4, .slice none 0 0] 47))
 have GF3 := aq (zI (zI GF.out (.cells #[.slice none 0 0, .slice none 0 0, .slice none 0 0, .slice none 0 0] 47)) (.cells #[.slice none 0 0, .slice none 0 0, .slice A4 n4 c4, .slice none 0 0] 47))
 have G83 := aq (zI G8.out (.cells #[.slice none 0 0, .slice none 0 0, .slice A4 n4 c4, .slice none 0 0] 47))
 have B3 := aq (zY (zY (zY (Below.refl w.heap.size w) (.cells fl 47)) (.cells #[.slice none 0 0, .slice none 0 0, .slice none 0 0, .slice none 0 0] 47)) (.cells #[.slice none 0 0, .slice none 0 0, .slice A4 n4 c4, .slice none 0 0] 47))
 clear GF G8
 rw [show (w.alloc (.cells fl 47)).heap.size = w.heap.size + 1 by simp] at G83
 rw [show ((w.alloc (.cells fl 47)).alloc (.cells #[.slice none 0 0, .slice none 0 0, .slice none 0 0, .slice none 0 0] 47)).heap.size = w.heap.size + 1 + 1 by simp] at G11
 go_enter Try.func38, Try.ntmps38
 go_upto_region 2 with fail
 generalize ((w.alloc (.cells fl 47)).alloc (.cells #[.slice none 0 0, .slice none 0 0, .slice none 0 0, .slice none 0 0] 47)).alloc (.cells #[.slice none 0 0, .slice none 0 0, .slice A4 n4 c4, .slice none 0 0] 47) = W3 at GF3 G83 G11 B3 ⊢
 have f0 := (bq GF3.out 0).trans (show _ = some (.slice Av f.vars.length cv) by rw [← HFL.out]; rfl)
 go_upto_region 3 with (first | ((with_reducible refine gD (N := 28) rfl ?_); refine Kd.nE (Kd.int .i64) (w0 := w) w.heap.size 3 rfl (N := 28) rfl 23 _ _ rfl (f.vars.length : Int) rfl rfl Try.underlying23 (.int .i64 0) 8 info3 rfl (by decide) (by omega) 0 (ok := fun _ => True) (okp := fun _ => True) rfl (fun _ hk => hk) trivial (by omega) (by rw [Int.toNat_natCast]; have := HVL.out; omega) ?hb0 ?hs0 ?_; (case hb0 => exact B3.out); (case hs0 => exact B3.out.size); intro v3 w3 hr3 hb3 hg_ hnew_; rw [Int.toNat_natCast] at hr3; obtain ⟨At, ct, ev⟩ := Kd.yE hr3; subst ev; rw [List.length_replicate] at hr3 ⊢; have H0 := aq (show F1 w.heap.size (w.heap.size + 1) (w.heap.size + 1 + 1) fl (.slice A4 n4 c4) At f.vars.length ct w (fun _ => True) (wJ f.vars l 0) w3 from ⟨⟨_, xO G11.out hg_ (by simp), Kd.oS _ _ _ _ _⟩, hr3, xO GF3.out hg_ (by simp), xO G83.out hg_ (by simp), hb3, by omega, by omega, by omega⟩); clear hr3 hb3 hg_ hnew_ GF3 G83 G11 B3 f0))
 have GE8 := aq (show w.heap.size ≤ w.heap.size + 1 by omega)
 have NE := aq (show w.heap.size ≠ w.heap.size + 1 + 1 ∧ w.heap.size + 1 ≠ w.heap.size + 1 + 1 by omega)
 generalize w.heap.size + 1 + 1 = g11 at H0 NE ⊢
 generalize w.heap.size + 1 = g8 at H0 NE GE8 ⊢
 have f0 := (bq H0.out.bf 0).trans (show _ = some (.slice Av f.vars.length cv) by rw [← HFL.out]; rfl)
 go_wp2
 clear f0
 go_loopw [32] (fun i wr => ∃ (j : Int), 0 ≤ j ∧ j ≤ (f.vars.length : Int) ∧ i = .int .i64 j ∧ zV (F1 w.heap.size g8 g11 fl (.slice A4 n4 c4) At f.vars.length ct w (fun _ => True) (wJ f.vars l j.toNat) wr)) (fun i _ => f.vars.length - (intOf i).toNat)
 case atStart => exact ⟨0, Int.le_refl _, by omega, rfl, H0⟩
 case round =>
  obtain ⟨j, j0, j1, rfl, H⟩ := hrel
  clear H0
  by_cases hlt : j < (f.vars.length : Int)
  ·have hsu := oH f.vars l j.toNat
   have hjn : ((j.toNat : Nat) : Int) = j := by omega
   rw [hjn] at hsu
   have HW := aq (show wrap64 (j + 1) = j + 1 by unfold wrap64; have := HVL.out; omega)
   have fin : ∀ (V : World) (st' : List S59 × List Int), wJ f.vars l (j.toNat + 1) = st' → F1 w.heap.size g8 g11 fl (.slice A4 n4 c4) At f.vars.length ct w (fun _ => True) st' V →
     (∃ (j_1 : Int), 0 ≤ j_1 ∧ j_1 ≤ (f.vars.length : Int) ∧ (Value.int .i64 (wrap64 (j + 1))) = .int .i64 j_1 ∧ zV (F1 w.heap.size g8 g11 fl (.slice A4 n4 c4) At f.vars.length ct w (fun _ => True) (wJ f.vars l j_1.toNat) V)) ∧ f.vars.length - (intOf (.int .i64 (wrap64 (j + 1)))).toNat < f.vars.length - (intOf (.int .i64 j)).toNat := fun V st' hs h => by
    have hw := HW.out
    subst hs
    rw [hw]
    refine ⟨⟨j + 1, by omega, by omega, rfl, ?_⟩, ?_⟩
    ·rw [show (j + 1).toNat = j.toNat + 1 by omega]; exact ⟨h⟩
    ·simp only [intOf]; omega
   obtain ⟨hrl1, hrl2⟩ := finV_len f.vars l j.toNat
   have HLN := aq (show (wJ f.vars l j.toNat).1.length ≤ 100 by have := HVL.out; omega)
   generalize wJ f.vars l j.toNat = st at H hsu hrl1 HLN
   obtain ⟨gv, _, ev, _⟩ := Kd.tL H.out.tv (by rw [hrl1]; omega)
   injection ev with ev e2 e3
   clear e2 e3
   subst ev
   have FIN := aq fin
   have HJ := aq j0
   have HLT := aq hlt
   have HSU := aq hsu
   obtain ⟨ad, eA, hnd⟩ := var_at (Kd.xY HF.out.vars H.out.B) j j0 hlt
   subst eA
   have HND := aq hnd
   generalize zG z59 f.vars j = x at HND HSU
   have HOFJ := aq (fun (V : World) (h : Below w.heap.size w V) => HOF.out V h j HJ.out HLT.out)
   generalize ofA l j = a at HOFJ HSU
   obtain ⟨a0, a1⟩ := a
   dsimp only at HSU HOFJ
   clear fin HW j1 hjn hnd hsu hrl1 hrl2
   go_upto_region 6 with (first | ((with_reducible refine zA 59 ?_); refine wX (t := 59) (cs := (rF x).toList) rfl (by kernel_rfl) (by kernel_rfl) HND.out ?_) | ((with_reducible refine gD (N := 14) rfl ?_); refine bE ?hg (N := 14) ?hd (cs := rF ⟨ByteArray.empty, z35⟩) (t := 59) ?hr ?_; (case hd => rfl); (case hg => rfl); (case hr => first | (go_simp; done) | (go_simp; rfl)); intro gn hgn w5 hbox hb; have HX0 := aq hbox; have HB5 := aq hb; have GN := aq (show wr.heap.size ≤ gn by rw [hgn]; exact Nat.le_refl _); clear hbox hb hgn) | ((with_reducible refine xG 14 ?_); refine ev_st59 (g := gn) (x := x) rfl rfl HX0.out rfl ?_; intro w6 hx6 h6; have HX := aq hx6; have T := aq (H.out.but (HB5.out.trans (h6.below GN.out)) GN.out); clear hx6 h6 HX0 HB5 GN H))
   by_cases hc : a0 = j ∧ a1 = 1
   ·have HS := aq (HSU.out.trans (if_pos hc))
    obtain ⟨hc0, hc1⟩ := hc
    have hc0 := hc0.symm
    subst hc0
    subst hc1
    clear HSU
    go_upto_region 8 with (go_at_call 61; refine (HOFJ.out _ T.out.B).mono ?_; rintro e w7 ⟨rfl, hd⟩; have T2 := aq (T.out.step hd); have HX2 := aq (bb_ HX.out hd); clear hd T HX HOFJ; have T := T2; have HX := HX2; clear T2 HX2; obtain ⟨v, hv0, hr0⟩ := T.out.bx; obtain ⟨A5, c5, e5⟩ := Kd.yE hr0; subst e5; have HV0 := aq hv0; have HR0 := aq hr0; clear hr0; have y0 := (bq hv0 0).trans (show _ = some (.slice A5 st.1.length c5) from rfl); clear hv0; have z9 := (Kd.yP 0 T.out.tv j HJ.out HLT.out).1; have f9 := (Kd.yP 0 T.out.tv j HJ.out HLT.out).2)
    have T2 := aq (T.out.put j (st.1.length : Int))
    obtain ⟨ct', hct⟩ := Kd.sS T.out.tv gv rfl
    have HX2 := aq ((Below.heap_setCell w7 ⟨gv, j.toNat, none⟩ (.int .i64 (st.1.length : Int)) gn (qO HX.out hct (by decide))).trans HX.out)
    clear T HX hct y0 z9 f9 HV0 HR0
    have T := T2
    have HX := HX2
    clear T2 HX2
    generalize w7.setCell ⟨gv, j.toNat, none⟩ (.int .i64 (st.1.length : Int)) = w8 at T HX ⊢
    obtain ⟨v, hv0, hr0⟩ := T.out.bx
    obtain ⟨A5, c5, e5⟩ := Kd.yE hr0
    subst e5
    have HV0 := aq hv0
    have HR0 := aq hr0
    have y0 := (bq hv0 0).trans (show _ = some (.slice A5 st.1.length c5) from rfl)
    clear hv0 hr0
    go_wp2_with (first | ((with_reducible refine gD (N := 51) rfl ?_); (with_reducible refine zA 59 ?_); refine oT (g := gn) (t := 59) (n := 15) (c := rF x) rfl HX.out (by kernel_rfl) (by kernel_rfl) rfl ?_) | ((with_reducible refine gD (N := 52) rfl ?_); refine Kd.wF rfl (exec_build44 (x := x) rfl) ?_) | ((with_reducible refine yC (b := .append) (xs := #[.tmp 50, .tmp 52]) rfl ?_); at_builtin; refine Kd.wL k59 (w0 := w) w.heap.size rfl (.tmp 50) (.tmp 52) 44 59 _ 128 rfl Try.underlying44 info59 rfl (by decide) (by omega) _ st.1 x (rF x).toList (fun k => k ≠ gn) (fun _ => False) rfl rfl ?aP (fun _ hk => hk.elim) ?aF ?aO ?aB ?aS ?aL ?_; (case aP => exact k59_mkM _ _ _ x); (case aB => exact T.out.B); (case aF => exact fun k hk => by have := zN HX.out; show k ≠ gn; omega); (case aO => exact HR0.out); (case aS => exact T.out.B.size); (case aL => have := HLN.out; omega); intro v1 w9 ho hb hg hat; have hx9 := xO HV0.out hg (Kd.R_ne HR0.out HV0.out (by decide)); have T2 := aq (T.out.grow HV0.out HR0.out ho hb hg); obtain ⟨A6, c6, e6⟩ := Kd.yE ho; subst e6; clear y0 ho hb hg hat T; have T := T2; clear T2; have y0 := (bq hx9 0).trans (show _ = some (.slice A5 st.1.length c5) from rfl); have yf := bf_ hx9 0; clear hx9))
    exact FIN.out _ _ HS.out (by
     have := T.out.done
     rw [show (st.1 ++ [x]).length = st.1.length + 1 by simp] at this
     exact this)
   ·have HS := aq (HSU.out.trans (if_neg hc))
    clear HSU
    go_wp2_with (go_at_call 61; refine (HOFJ.out _ T.out.B).mono ?_; rintro e w7 ⟨rfl, hd⟩; have T2 := aq (T.out.step hd); have HX2 := aq (bb_ HX.out hd); clear hd T HX HOFJ; have T := T2; have HX := HX2; clear T2 HX2; obtain ⟨v, hv0, hr0⟩ := T.out.bx; obtain ⟨A5, c5, e5⟩ := Kd.yE hr0; subst e5; have HV0 := aq hv0; have HR0 := aq hr0; clear hr0; have y0 := (bq hv0 0).trans (show _ = some (.slice A5 st.1.length c5) from rfl); clear hv0; have z9 := (Kd.yP 0 T.out.tv j HJ.out HLT.out).1; have f9 := (Kd.yP 0 T.out.tv j HJ.out HLT.out).2)
    all_goals exact FIN.out _ _ HS.out T.out.done
  ·obtain rfl : j = (f.vars.length : Int) := by omega
   rw [Int.toNat_natCast] at H
   have d1 := eq_false (show ¬ (f.vars.length : Int) < (f.vars.length : Int) by omega)
   have htl : (wJ f.vars l f.vars.length).2.length = f.vars.length := (finV_len f.vars l f.vars.length).1
   obtain ⟨res, hres⟩ : ∃ r, wJ f.vars l f.vars.length = r := ⟨_, rfl⟩
   rw [hres] at H htl
   have HRES := aq hres
   have HTL := aq htl
   clear hlt j0 j1 hres htl
   obtain ⟨vv, hvv, hrv⟩ := H.out.bx
   have HVV := aq hvv
   have HRV := aq hrv
   clear hvv hrv
   go_wp2
   rename World => w2
   have H0 := aq (show F2 g11 (.slice A4 n4 c4) vv w2 (fun _ => True) [] w2 from ⟨⟨_, HVV.out, Kd.oS _ _ _ _ _⟩, KB.refl _ _, by have := zN HVV.out; omega⟩)
   go_loopw [58] (fun i wr => ∃ (q : Int), 0 ≤ q ∧ q ≤ (L.length : Int) ∧ i = .int .i64 q ∧ zV (F2 g11 (.slice A4 n4 c4) vv w2 (fun _ => True) ((L.take q.toNat).map (uX res.2)) wr)) (fun i _ => L.length - (intOf i).toNat)
   case atStart => exact ⟨0, Int.le_refl _, by omega, rfl, H0⟩
   case round =>
    clear H0
    obtain ⟨q, q0, q1, rfl, H2⟩ := hrel
    by_cases hlt : q < (L.length : Int)
    ·have hel : rT L q = L[q.toNat]'(by omega) := by
      unfold rT
      rw [List.getD_eq_getElem?_getD, List.getElem?_eq_getElem (by omega)]; rfl
     have hme : rT L q ∈ L := by rw [hel]; exact List.getElem_mem _
     have htk : (L.take (q + 1).toNat).map (uX res.2) = (L.take q.toNat).map (uX res.2) ++ [uX res.2 (rT L q)] := by
      rw [show (q + 1).toNat = q.toNat + 1 by omega, List.take_succ_eq_append_getElem (by omega), List.map_append, hel]; rfl
     have HTK := aq htk
     have HWR := aq (show wrap64 (q + 1) = q + 1 by unfold wrap64; have := HL4.out; omega)
     have HLN := aq (show ((L.take q.toNat).map (uX res.2)).length ≤ 4000 by have := HL4.out; rw [List.length_map, List.length_take]; omega)
     have hvx := HV.out _ hme
     have HBW := aq (show Below w.heap.size w wr from H.out.B.trans (H2.out.K.below H.out.ge H.out.B.size))
     obtain ⟨ad, eA, hnd⟩ := node_at HL.out HBW.out (Nat.le_refl _) q q0 hlt
     subst eA
     have HND := aq hnd
     have HVX := aq hvx
     obtain ⟨y, hy⟩ : ∃ y, uX res.2 (rT L q) = y := ⟨_, rfl⟩
     rw [hy] at HTK
     have HY := aq hy
     generalize rT L q = x at HND HVX HY
     generalize (L.take q.toNat).map (uX res.2) = xs at H2 HTK HLN
     clear hel hme htk hvx hnd hy
     go_upto_region 13 with (first | ((with_reducible refine zA 37 ?_); refine wX (t := 37) (cs := wS x) rfl (by kernel_rfl) (by kernel_rfl) HND.out ?_) | ((with_reducible refine gD (N := 16) rfl ?_); refine bE ?hg (N := 16) ?hd (cs := yQ z37) (t := 37) ?hr ?_; (case hd => rfl); (case hg => rfl); (case hr => first | (go_simp; done) | (go_simp; rfl)); intro gn hgn w5 hbox hb; have HX0 := aq hbox; have HB5 := aq hb; have GN := aq (show wr.heap.size ≤ gn by rw [hgn]; exact Nat.le_refl _); clear hbox hb hgn) | ((with_reducible refine xG 16 ?_); refine wG (g := gn) (x := x) rfl rfl HX0.out (xR _) ?_; intro w6 hx6 h6; have HX := aq hx6; have T := aq (H2.out.but (HB5.out.trans (h6.below GN.out)) GN.out); have GN2 := aq (Nat.le_trans H2.out.K.size GN.out); clear hx6 h6 HX0 HB5 GN H2))
     have zk := (bq HX.out 0).trans (show _ = some (.int .i64 x.f0) from rfl)
     by_cases hk : x.f0 = 2
     ·obtain ⟨o0, o1⟩ := HVX.out hk
      have hy := HY.out
      unfold uX at hy
      rw [if_pos hk] at hy
      obtain ⟨gv, _, ev, _⟩ := Kd.tL H.out.tv (by rw [HTL.out]; omega)
      injection ev with ev e2 e3
      clear e2 e3
      subst ev
      have zt := (Kd.yP 0 (T.out.K.R H.out.tv HVV.out (by decide)) x.f5.f0 o0 o1).1.trans (show _ = some (.int .i64 (rd res.2 x.f5.f0)) from rfl)
      have z6 := (bq HX.out 6).trans (show _ = some (.int .i64 x.f5.f0) from rfl)
      have q6 := bf_ HX.out 6
      generalize rd res.2 x.f5.f0 = r at zt hy
      go_upto_region 15 with fail
      have T2 := aq (T.out.set HX.out GN2.out 6 (.int .i64 r))
      have HX2 := aq (show (w6.setCell ⟨gn, 6, none⟩ (.int .i64 r)).heap[gn]? = some (.cells (yQ y) 37 (0, 0)) by
       rw [← hy]
       exact yD HX.out 6 (.int .i64 r))
      clear T HX zt z6 q6 zk hy o0 o1
      have T := T2
      have HX := HX2
      clear T2 HX2
      generalize w6.setCell ⟨gn, 6, none⟩ (.int .i64 r) = w8 at T HX ⊢
      obtain ⟨v, hv0, hr0⟩ := T.out.bx
      obtain ⟨A5, c5, e5⟩ := Kd.yE hr0
      subst e5
      have HV0 := aq hv0
      have HR0 := aq hr0
      have y0 := (bq hv0 1).trans (show _ = some (.slice A5 xs.length c5) from rfl)
      clear hv0 hr0
      go_wp2_with (first | ((with_reducible refine gD (N := 75) rfl ?_); (with_reducible refine zA 37 ?_); refine tM (g := gn) (x := y) rfl HX.out ?_) | ((with_reducible refine gD (N := 76) rfl ?_); refine Kd.wF rfl (uI (x := y) rfl) ?_) | ((with_reducible refine yC (b := .append) (xs := #[.tmp 74, .tmp 76]) rfl ?_); at_builtin; refine Kd.wL k37 (w0 := w8) w2.heap.size rfl (.tmp 74) (.tmp 76) 22 37 _ 176 rfl Try.underlying22 nJ rfl (by decide) (by omega) _ xs y (wS y) (fun k => k ≠ gn) (fun _ => False) rfl rfl ?aP (fun _ hk => hk.elim) ?aF ?aO ?aB ?aS ?aL ?_; (case aP => exact oX _ _ _ y); (case aB => exact Below.refl _ _); (case aF => exact fun k hk => by have := zN HX.out; show k ≠ gn; omega); (case aO => exact HR0.out); (case aS => exact T.out.K.size); (case aL => have := HLN.out; omega); intro v1 w9 ho hb hg hat; have hx9 := xO HV0.out hg (Kd.R_ne HR0.out HV0.out (by decide)); have T2 := aq (T.out.grow HV0.out HR0.out ho hb hg); obtain ⟨A6, c6, e6⟩ := Kd.yE ho; subst e6; clear y0 ho hb hg hat T; have T := T2; clear T2; have y0 := (bq hx9 1).trans (show _ = some (.slice A5 xs.length c5) from rfl); have yf := bf_ hx9 1; clear hx9))
      rw [HWR.out]
      refine ⟨⟨q + 1, by omega, by omega, rfl, ⟨?_⟩⟩, ?_⟩
      ·rw [HTK.out]
       have := T.out.done
       rw [show (xs ++ [y]).length = xs.length + 1 by simp] at this
       exact this
      ·simp only [intOf]; omega
     ·have hy := HY.out
      unfold uX at hy
      rw [if_neg hk] at hy
      subst hy
      go_upto_region 15 with fail
      obtain ⟨v, hv0, hr0⟩ := T.out.bx
      obtain ⟨A5, c5, e5⟩ := Kd.yE hr0
      subst e5
      have HV0 := aq hv0
      have HR0 := aq hr0
      have y0 := (bq hv0 1).trans (show _ = some (.slice A5 xs.length c5) from rfl)
      clear hv0 hr0
      go_wp2_with (first | ((with_reducible refine gD (N := 75) rfl ?_); (with_reducible refine zA 37 ?_); refine tM (g := gn) (x := x) rfl HX.out ?_) | ((with_reducible refine gD (N := 76) rfl ?_); refine Kd.wF rfl (uI (x := x) rfl) ?_) | ((with_reducible refine yC (b := .append) (xs := #[.tmp 74, .tmp 76]) rfl ?_); at_builtin; refine Kd.wL k37 (w0 := w6) w2.heap.size rfl (.tmp 74) (.tmp 76) 22 37 _ 176 rfl Try.underlying22 nJ rfl (by decide) (by omega) _ xs x (wS x) (fun k => k ≠ gn) (fun _ => False) rfl rfl ?aP (fun _ hk => hk.elim) ?aF ?aO ?aB ?aS ?aL ?_; (case aP => exact oX _ _ _ x); (case aB => exact Below.refl _ _); (case aF => exact fun k hk => by have := zN HX.out; show k ≠ gn; omega); (case aO => exact HR0.out); (case aS => exact T.out.K.size); (case aL => have := HLN.out; omega); intro v1 w9 ho hb hg hat; have hx9 := xO HV0.out hg (Kd.R_ne HR0.out HV0.out (by decide)); have T2 := aq (T.out.grow HV0.out HR0.out ho hb hg); obtain ⟨A6, c6, e6⟩ := Kd.yE ho; subst e6; clear y0 ho hb hg hat T; have T := T2; clear T2; have y0 := (bq hx9 1).trans (show _ = some (.slice A5 xs.length c5) from rfl); have yf := bf_ hx9 1; clear hx9))
      rw [HWR.out]
      refine ⟨⟨q + 1, by omega, by omega, rfl, ⟨?_⟩⟩, ?_⟩
      ·rw [HTK.out]
       have := T.out.done
       rw [show (xs ++ [x]).length = xs.length + 1 by simp] at this
       exact this
      ·simp only [intOf]; omega
    ·obtain rfl : q = (L.length : Int) := by omega
     rw [Int.toNat_natCast, List.take_length] at H2
     have d2 := eq_false (show ¬ (L.length : Int) < (L.length : Int) by omega)
     obtain ⟨vn, hvn, hrn⟩ := H2.out.bx
     have HVN := aq hvn
     have HRN := aq hrn
     have B3 := aq (show Below w.heap.size w wr from H.out.B.trans (H2.out.K.below H.out.ge H.out.B.size))
     have TV := aq (H2.out.K.R H.out.tv HVV.out (by decide))
     have RV := aq (H2.out.K.R HRV.out HVV.out (by decide))
     have BF := aq (H2.out.K.blk H.out.bf NE.out.1)
     have B8 := aq (H2.out.K.blk H.out.b8 NE.out.2)
     have GE := aq (Nat.le_trans H.out.B.size H2.out.K.size)
     have GE1 := aq H.out.ge
     have RN := aq (Kd.vN hrn H.out.B.size)
     have f0 := (bq BF.out 0).trans (show _ = some (.slice Av f.vars.length cv) by rw [← HFL.out]; rfl)
     clear hlt q0 q1 hvn hrn HRN H2 HRV HVV H HL HV HL4
     go_wp2
     clear f0
     rename World => w3
     have hs3 : ∀ k : Nat, lsK l res.2 (k + 1) = lsK l res.2 k ++ [noteA res.2 (ofA l (k : Int))] := fun k => by
      unfold lsK; rw [List.range_succ, List.map_append]; rfl
     have HS3 := aq hs3
     have H0 := aq (Kd.oS k32 53 w3 w3.heap.size (fun _ => True))
     have HB0 := aq (Below.refl w3.heap.size w3)
     clear hs3
     go_loopw [17, 83] (fun v17 i wr => ∃ (q : Int), 0 ≤ q ∧ q ≤ (f.vars.length : Int) ∧ i = .int .i64 q ∧ zV (Kd.R k32 53 wr w3.heap.size (fun _ => True) v17 (lsK l res.2 q.toNat)) ∧ zV (Below w3.heap.size w3 wr)) (fun _ i _ => f.vars.length - (intOf i).toNat)
     case atStart => exact ⟨0, Int.le_refl _, by omega, rfl, H0, HB0⟩
     case round =>
      clear H0 HB0
      obtain ⟨q, q0, q1, rfl, HO, HB⟩ := hrel
      by_cases hlt : q < (f.vars.length : Int)
      ·have hsk := HS3.out q.toNat
       rw [show ((q.toNat : Nat) : Int) = q by omega] at hsk
       have HSK := aq (show lsK l res.2 (q + 1).toNat = lsK l res.2 q.toNat ++ [noteA res.2 (ofA l q)] by rw [show (q + 1).toNat = q.toNat + 1 by omega]; exact hsk)
       have HWR := aq (show wrap64 (q + 1) = q + 1 by unfold wrap64; have := HVL.out; omega)
       have HLN := aq (show (lsK l res.2 q.toNat).length ≤ 100 by have := HVL.out; unfold lsK; rw [List.length_map, List.length_range]; omega)
       have HOFJ := aq (fun (V : World) (h : Below w.heap.size w V) => HOF.out V h q q0 hlt)
       have hae := oZ HFO.out q0 (by rw [HLL.out]; exact hlt)
       generalize lsK l res.2 q.toNat = xs at HO HSK HLN
       generalize ofA l q = a at HOFJ HSK hae
       obtain ⟨a0, a1⟩ := a
       dsimp only at HOFJ hae
       have HAE := aq hae
       clear hsk hae
       go_upto_region 22 with (go_at_call 61; refine (HOFJ.out _ (bt_ B3.out HB.out)).mono ?_; rintro e w7 ⟨rfl, hd⟩; have HG7 := aq (Nat.le_trans HB.out.size hd.size); have HB2 := aq (bt_ HB.out hd); have HO2 := aq (R_but HO.out (hd.trans (zY (Below.refl w7.heap.size w7) (.cells #[.int .i64 a0, .int .i64 a1] 53) |>.mono hd.size)) hd.size); clear hd HB HO HOFJ; have HB := aq (zY HB2.out (.cells #[.int .i64 a0, .int .i64 a1] 53)); clear HB2)
       have HX := aq (heap_alloc_last w7 (.cells #[.int .i64 a0, .int .i64 a1] 53))
       generalize w7.alloc (.cells #[.int .i64 a0, .int .i64 a1] 53) = w8 at HX HB HO2 ⊢
       have G19 := aq (show w3.heap.size ≤ w7.heap.size from HG7.out)
       generalize w7.heap.size = g19 at HX HO2 G19 ⊢
       have y1 := (bq HX.out 1).trans (show _ = some (.int .i64 a1) from rfl)
       by_cases hc : a1 = 0
       ·have hc1 : ¬ a1 ≠ 0 := fun h => h hc
        obtain ⟨y, hy⟩ : ∃ y : S32, y = ⟨a0, a1⟩ := ⟨_, rfl⟩
        unfold noteA at HSK
        rw [if_neg hc1, ← hy] at HSK
        replace HX := aq (show w8.heap[g19]? = some (.cells (aA y) 53 (0, 0)) by rw [hy]; exact HX.out)
        clear hy
        go_upto_region 24 with fail
        go_wp2_with (first | ((with_reducible refine gD (N := 99) rfl ?_); (with_reducible refine zA 53 ?_); refine oT (g := g19) (t := 53) (n := 2) (c := aA y) rfl HX.out (by kernel_rfl) (by kernel_rfl) rfl ?_) | ((with_reducible refine gD (N := 100) rfl ?_); refine Kd.wF rfl (lZ (x := y) rfl) ?_) | ((with_reducible refine yC (b := .append) (xs := #[.tmp 98, .tmp 100]) rfl ?_); at_builtin; refine Kd.wL k32 (w0 := w3) w3.heap.size rfl (.tmp 98) (.tmp 100) 49 53 _ 16 rfl Try.underlying49 info53 rfl (by decide) (by omega) u17 xs y [.int .i64 y.f0, .int .i64 y.f1] (fun k => k ≠ g19) (fun _ => False) rfl rfl ?aP (fun _ hk => hk.elim) ?aF ?aO ?aB ?aS ?aL ?_; (case aP => exact nT _ _ _ y); (case aB => exact HB.out); (case aF => exact fun k hk => by have := zN HX.out; show k ≠ g19; omega); (case aO => exact HO2.out); (case aS => exact HB.out.size); (case aL => have := HLN.out; omega); intro v1 w9 ho hb hg hat; have HO := aq (Kd.xC ho (fun _ _ => trivial)); have HB3 := aq hb; clear ho hb hg hat HO2 HB))
        rw [HWR.out]
        refine ⟨⟨q + 1, by omega, by omega, rfl, ⟨?_⟩, HB3⟩, ?_⟩
        ·rw [HSK.out]; exact HO.out
        ·simp only [intOf]; omega
       ·have hr : 0 ≤ a0 ∧ a0 < (f.vars.length : Int) := by
         rcases HAE.out with h | h
         ·injection h with _ h; exact absurd h hc
         ·exact ⟨h.1.1, by rw [← HLL.out]; exact h.1.2.1⟩
        obtain ⟨o0, o1⟩ := hr
        obtain ⟨gv, _, ev, _⟩ := Kd.tL TV.out (by rw [HTL.out]; omega)
        injection ev with ev e2 e3
        clear e2 e3
        subst ev
        have zt := (Kd.yP 0 (Kd.yS TV.out HB.out) a0 o0 o1).1.trans (show _ = some (.int .i64 (rd res.2 a0)) from rfl)
        have y0 := (bq HX.out 0).trans (show _ = some (.int .i64 a0) from rfl)
        have q0' := bf_ HX.out 0
        unfold noteA at HSK
        rw [if_pos hc] at HSK
        dsimp only at HSK
        generalize rd res.2 a0 = r at zt HSK
        go_upto_region 24 with fail
        obtain ⟨y, hy⟩ : ∃ y : S32, y = ⟨r, a1⟩ := ⟨_, rfl⟩
        rw [← hy] at HSK
        have HX2 := aq (show (w8.setCell ⟨g19, 0, none⟩ (.int .i64 r)).heap[g19]? = some (.cells (aA y) 53 (0, 0)) by rw [hy]; exact yD HX.out 0 (.int .i64 r))
        have HO3 := aq (Kd.R_far HO2.out (p := ⟨g19, 0, none⟩) (fun k hk => hk) (.int .i64 r))
        have HB4 := aq (bs_ (g := g19) (j := 0) (v := .int .i64 r) HB.out G19.out)
        clear HX HO2 HB zt y0 y1 q0' hy o0 o1
        have HX := HX2
        have HO2 := HO3
        have HB := HB4
        clear HX2 HO3 HB4
        generalize w8.setCell ⟨g19, 0, none⟩ (.int .i64 r) = w10 at HX HO2 HB ⊢
        go_wp2_with (first | ((with_reducible refine gD (N := 99) rfl ?_); (with_reducible refine zA 53 ?_); refine oT (g := g19) (t := 53) (n := 2) (c := aA y) rfl HX.out (by kernel_rfl) (by kernel_rfl) rfl ?_) | ((with_reducible refine gD (N := 100) rfl ?_); refine Kd.wF rfl (lZ (x := y) rfl) ?_) | ((with_reducible refine yC (b := .append) (xs := #[.tmp 98, .tmp 100]) rfl ?_); at_builtin; refine Kd.wL k32 (w0 := w3) w3.heap.size rfl (.tmp 98) (.tmp 100) 49 53 _ 16 rfl Try.underlying49 info53 rfl (by decide) (by omega) u17 xs y [.int .i64 y.f0, .int .i64 y.f1] (fun k => k ≠ g19) (fun _ => False) rfl rfl ?aP (fun _ hk => hk.elim) ?aF ?aO ?aB ?aS ?aL ?_; (case aP => exact nT _ _ _ y); (case aB => exact HB.out); (case aF => exact fun k hk => by have := zN HX.out; show k ≠ g19; omega); (case aO => exact HO2.out); (case aS => exact HB.out.size); (case aL => have := HLN.out; omega); intro v1 w9 ho hb hg hat; have HO := aq (Kd.xC ho (fun _ _ => trivial)); have HB3 := aq hb; clear ho hb hg hat HO2 HB))
        rw [HWR.out]
        refine ⟨⟨q + 1, by omega, by omega, rfl, ⟨?_⟩, HB3⟩, ?_⟩
        ·rw [HSK.out]; exact HO.out
        ·simp only [intOf]; omega
      ·obtain rfl : q = (f.vars.length : Int) := by omega
       rw [Int.toNat_natCast, ← listA_eq] at HO
       have d3 := eq_false (show ¬ (f.vars.length : Int) < (f.vars.length : Int) by omega)
       have BF4 := aq (bb_ BF.out HB.out)
       have B84 := aq (bb_ B8.out HB.out)
       have VN4 := aq (bb_ HVN.out HB.out)
       have RV4 := aq (Kd.yS RV.out HB.out)
       have RN4 := aq (Kd.yS RN.out HB.out)
       have B4 := aq (bt_ B3.out HB.out)
       have RL4 := aq (Kd.vN HO.out (Nat.le_trans B3.out.size (Nat.le_refl _)))
       obtain ⟨A17, c17, e17⟩ := Kd.yE RL4.out
       subst e17
       have LSL := aq (show (uD l res.2 f.vars.length).length = f.vars.length by unfold uD; rw [List.length_map, List.length_range])
       have HSL2 := aq (show ∀ s ∈ f.zS, 0 ≤ s.f0.f0 ∧ s.f0.f0 < ((uD l res.2 f.vars.length).length : Int) from fun s hs => by rw [LSL.out]; exact ⟨(HST.out s hs).v0, (HST.out s hs).v1⟩)
       obtain ⟨ls, hls⟩ : ∃ r, uD l res.2 f.vars.length = r := ⟨_, rfl⟩
       rw [hls] at RL4 LSL HSL2 ⊢
       have HLSR := aq hls
       clear hls
       have f3 := (bq BF4.out 3).trans (show _ = some (.slice As f.zS.length cs) by rw [← HFL.out]; rfl)
       clear hlt q0 q1 HO HB HS3 BF B8 HVN RV RN B3 TV
       go_wp2
       clear f3
       rename World => w4
       have H0 := aq (show F4 g11 (.slice A4 n4 c4) vv vn w4 (fun _ => True) [] w4 from ⟨⟨_, VN4.out, Kd.oS _ _ _ _ _⟩, KB.refl _ _, by have := zN VN4.out; omega⟩)
       go_loopw [106] (fun i wr => ∃ (q : Int), 0 ≤ q ∧ q ≤ (f.zS.length : Int) ∧ i = .int .i64 q ∧ zV (F4 g11 (.slice A4 n4 c4) vv vn w4 (fun _ => True) ((f.zS.take q.toNat).foldl (vF ls) []) wr)) (fun i _ => f.zS.length - (intOf i).toNat)
       case atStart => exact ⟨0, Int.le_refl _, by omega, rfl, H0⟩
       case round =>
        clear H0
        obtain ⟨q, q0, q1, rfl, H⟩ := hrel
        by_cases hlt : q < (f.zS.length : Int)
        ·have hel : zG z80 f.zS q = f.zS[q.toNat]'(by omega) := by
          unfold zG
          rw [List.getD_eq_getElem?_getD, List.getElem?_eq_getElem (by omega)]; rfl
         have hme : zG z80 f.zS q ∈ f.zS := by rw [hel]; exact List.getElem_mem _
         have htk : (f.zS.take (q + 1).toNat).foldl (vF ls) [] = vF ls ((f.zS.take q.toNat).foldl (vF ls) []) (zG z80 f.zS q) := by
          rw [show (q + 1).toNat = q.toNat + 1 by omega, List.take_succ_eq_append_getElem (by omega), List.foldl_append, hel]; rfl
         have hln : ∀ k : Nat, ((f.zS.take k).foldl (vF ls) []).length ≤ k := starts_len ls f.zS
         have HTK := aq htk
         have HWR := aq (show wrap64 (q + 1) = q + 1 by unfold wrap64; have := HSL.out; omega)
         have HLN := aq (show ((f.zS.take q.toNat).foldl (vF ls) []).length + 1 ≤ 2932031007402 by have := hln q.toNat; have := HSL.out; omega)
         have HSO := aq (HST.out _ hme)
         obtain ⟨v0, v1⟩ := HSL2.out _ hme
         have HBW := aq (show Below w.heap.size w wr from B4.out.trans (H.out.K.below GE1.out B4.out.size))
         obtain ⟨ad, eA, hnd⟩ := st_at (Kd.xY HF.out.zS HBW.out) q q0 hlt
         subst eA
         have HND := aq hnd
         have HS0 := aq (show zG z80 f.zS q = zG z80 f.zS q from rfl)
         generalize zG z80 f.zS q = s at HND HTK HSO v0 v1
         generalize (f.zS.take q.toNat).foldl (vF ls) [] = xs at H HTK HLN
         clear hel hme htk hln hnd HS0 HBW
         go_upto_region 29 with (first | ((with_reducible refine zA 80 ?_); refine wX (t := 80) (cs := qG s) rfl (by kernel_rfl) (by kernel_rfl) HND.out ?_) | ((with_reducible refine gD (N := 21) rfl ?_); refine bE ?hg (N := 21) ?hd (cs := vE z80) (t := 80) ?hr ?_; (case hd => rfl); (case hg => rfl); (case hr => first | (go_simp; done) | (go_simp; rfl)); intro g7 hgn w5 hbox hb; have HX0 := aq hbox; have HB5 := aq hb; have GN := aq (show wr.heap.size ≤ g7 by rw [hgn]; exact Nat.le_refl _); clear hbox hb hgn) | ((with_reducible refine xG 21 ?_); refine ev_st80 (g := g7) (x := s) rfl rfl HX0.out rfl ?_; intro w6 hx6 h6; have HX := aq hx6; have T := aq (H.out.but (HB5.out.trans (h6.below GN.out)) GN.out); have GN2 := aq (Nat.le_trans H.out.K.size GN.out); clear hx6 h6 HX0 HB5 GN H))
         obtain ⟨gl, el, l0, l1⟩ := tQ (T.out.K.R RL4.out VN4.out (by decide)) v0 v1
         cases el
         have y0 := (bq HX.out 0).trans (show _ = some (.int .i64 s.f0.f0) from rfl)
         rw [startS_eq] at HTK
         generalize rdA ls s.f0.f0 = a at l0 l1 HTK
         obtain ⟨a0, a1⟩ := a
         dsimp only at l0 l1
         go_upto_region 30 with fail
         have T2 := aq (T.out.step (zY (Below.refl w6.heap.size w6) (.cells #[.int .i64 a0, .int .i64 a1] 53)))
         have HX2 := aq (zI HX.out (.cells #[.int .i64 a0, .int .i64 a1] 53))
         have B22 := aq (heap_alloc_last w6 (.cells #[.int .i64 a0, .int .i64 a1] 53))
         clear T HX y0 l0 l1
         have T := T2
         have HX := HX2
         clear T2 HX2
         generalize w6.alloc (.cells #[.int .i64 a0, .int .i64 a1] 53) = w8 at T HX B22 ⊢
         generalize w6.heap.size = g22 at B22 ⊢
         have y0 := (bq HX.out 0).trans (show _ = some (.int .i64 s.f0.f0) from rfl)
         have q0' := bf_ HX.out 0
         have b0 := (bq B22.out 0).trans (show _ = some (.int .i64 a0) from rfl)
         go_upto_region 31 with fail
         have T2 := aq (T.out.set GN2.out 0 (.int .i64 a0))
         have HX2 := aq (show (w8.setCell ⟨g7, 0, none⟩ (.int .i64 a0)).heap[g7]? = some (.cells (vE ⟨⟨a0, s.f0.f1⟩, s.f1, s.f2⟩) 80 (0, 0)) from yD HX.out 0 (.int .i64 a0))
         have B2 := aq ((zK w8 ⟨g7, 0, none⟩ (.int .i64 a0)).blk B22.out (qO B22.out HX.out (by decide)))
         clear T HX y0 q0' b0 B22
         have T := T2
         have HX := HX2
         have B22 := B2
         clear T2 HX2 B2
         generalize w8.setCell ⟨g7, 0, none⟩ (.int .i64 a0) = w10 at T HX B22 ⊢
         have b1 := (bq B22.out 1).trans (show _ = some (.int .i64 a1) from rfl)
         by_cases hn : a1 < 0
         ·have x2 := (bq HX.out 2).trans (show _ = some (.int .i64 s.f1.f0) from rfl)
          have x3 := (bq HX.out 3).trans (show _ = some (.int .i64 s.f1.f1) from rfl)
          have x4 := (bq HX.out 4).trans (show _ = some (.int .i64 s.f2.f0) from rfl)
          have x5 := (bq HX.out 5).trans (show _ = some (.int .i64 s.f2.f1) from rfl)
          have p2 := bf_ HX.out 2
          have p3 := bf_ HX.out 3
          have p4 := bf_ HX.out 4
          have p5 := bf_ HX.out 5
          go_upto_region 33 with fail
          have hw1 : wrap64 (-s.f2.f0) = -s.f2.f0 := by have h1 := HSO.out.i2.1; have h2 := right_low HSO.out.hi; unfold wrap64; have := h1.2; have := h1.1; omega
          have hw2 : wrap64 (-s.f1.f0) = -s.f1.f0 := by have h1 := HSO.out.i1.1; have h2 := right_low HSO.out.lo; unfold wrap64; have := h1.2; have := h1.1; omega
          rw [hw1, hw2]
          obtain ⟨y, hy⟩ : ∃ y, nZ ⟨a0, a1⟩ s = y := ⟨_, rfl⟩
          rw [hy] at HTK
          unfold nZ at hy
          rw [if_pos (show (⟨a0, a1⟩ : S32).f1 < 0 from hn)] at hy
          have T2 := aq ((((T.out.set GN2.out 2 (.int .i64 (-s.f2.f0))).set GN2.out 3 (.int .i64 s.f2.f1)).set GN2.out 4 (.int .i64 (-s.f1.f0))).set GN2.out 5 (.int .i64 s.f1.f1))
          have HX2 := aq (yD (yD (yD (yD HX.out 2 (.int .i64 (-s.f2.f0))) 3 (.int .i64 s.f2.f1)) 4 (.int .i64 (-s.f1.f0))) 5 (.int .i64 s.f1.f1))
          have hne := qO B22.out HX.out (by decide)
          have B2 := aq ((zK _ ⟨g7, 5, none⟩ (.int .i64 s.f1.f1)).blk ((zK _ ⟨g7, 4, none⟩ (.int .i64 (-s.f1.f0))).blk ((zK _ ⟨g7, 3, none⟩ (.int .i64 s.f2.f1)).blk ((zK w10 ⟨g7, 2, none⟩ (.int .i64 (-s.f2.f0))).blk B22.out hne) hne) hne) hne)
          clear T HX B22 x2 x3 x4 x5 p2 p3 p4 p5 b1 hne hw1 hw2
          have T := T2
          have B22 := B2
          clear T2 B2
          generalize (((w10.setCell ⟨g7, 2, none⟩ (.int .i64 (-s.f2.f0))).setCell ⟨g7, 3, none⟩ (.int .i64 s.f2.f1)).setCell ⟨g7, 4, none⟩ (.int .i64 (-s.f1.f0))).setCell ⟨g7, 5, none⟩ (.int .i64 s.f1.f1) = w11 at T HX2 B22 ⊢
          have HX := aq (show w11.heap[g7]? = some (.cells (vE y) 80 (0, 0)) by rw [← hy]; exact HX2.out)
          clear HX2 hy
          have b1 := (bq B22.out 1).trans (show _ = some (.int .i64 a1) from rfl)
          have hnz : ¬ a1 = 0 := by omega
          rw [if_neg hnz] at HTK
          obtain ⟨v, hv0, hr0⟩ := T.out.bx
          obtain ⟨A5, c5, e5⟩ := Kd.yE hr0
          subst e5
          have HV0 := aq hv0
          have HR0 := aq hr0
          have y0 := (bq hv0 3).trans (show _ = some (.slice A5 xs.length c5) from rfl)
          clear hv0 hr0
          go_wp2_with (first | ((with_reducible refine gD (N := 146) rfl ?_); (with_reducible refine zA 80 ?_); refine oT (g := g7) (t := 80) (n := 6) (c := vE y) rfl HX.out (by kernel_rfl) (by kernel_rfl) rfl ?_) | ((with_reducible refine gD (N := 147) rfl ?_); refine Kd.wF rfl (lW (x := y) rfl) ?_) | ((with_reducible refine yC (b := .append) (xs := #[.tmp 145, .tmp 147]) rfl ?_); at_builtin; refine Kd.wL k80 (w0 := w11) w4.heap.size rfl (.tmp 145) (.tmp 147) 45 80 _ 48 rfl Try.underlying45 info80 rfl (by decide) (by omega) _ xs y (vE y).toList (fun k => k ≠ g7) (fun _ => False) rfl rfl ?aP (fun _ hk => hk.elim) ?aF ?aO ?aB ?aS ?aL ?_; (case aP => exact k80_mkM _ _ _ y); (case aB => exact Below.refl _ _); (case aF => exact fun k hk => by have := zN HX.out; show k ≠ g7; omega); (case aO => exact HR0.out); (case aS => exact T.out.K.size); (case aL => have := HLN.out; omega); intro v1 w9 ho hb hg hat; have hx9 := xO HV0.out hg (Kd.R_ne HR0.out HV0.out (by decide)); have T2 := aq (T.out.grow HV0.out HR0.out ho hb hg); obtain ⟨A6, c6, e6⟩ := Kd.yE ho; subst e6; clear y0 ho hb hg hat T; have T := T2; clear T2; have y0 := (bq hx9 3).trans (show _ = some (.slice A5 xs.length c5) from rfl); have yf := bf_ hx9 3; clear hx9))
          rw [HWR.out]
          refine ⟨⟨q + 1, by omega, by omega, rfl, ⟨?_⟩⟩, ?_⟩
          ·rw [HTK.out]
           have := T.out.done
           rw [show (xs ++ [y]).length = xs.length + 1 by simp] at this
           exact this
          ·simp only [intOf]; omega
         ·obtain ⟨y, hy⟩ : ∃ y, nZ ⟨a0, a1⟩ s = y := ⟨_, rfl⟩
          rw [hy] at HTK
          unfold nZ at hy
          rw [if_neg (show ¬ (⟨a0, a1⟩ : S32).f1 < 0 from hn)] at hy
          replace HX := aq (show w10.heap[g7]? = some (.cells (vE y) 80 (0, 0)) by rw [← hy]; exact HX.out)
          clear hy
          by_cases hz : a1 = 0
          ·rw [if_pos hz] at HTK
           go_wp2
           rw [HWR.out]
           refine ⟨⟨q + 1, by omega, by omega, rfl, ⟨?_⟩⟩, ?_⟩
           ·rw [HTK.out]; exact T.out.done
           ·simp only [intOf]; omega
          rw [if_neg hz] at HTK
          obtain ⟨v, hv0, hr0⟩ := T.out.bx
          obtain ⟨A5, c5, e5⟩ := Kd.yE hr0
          subst e5
          have HV0 := aq hv0
          have HR0 := aq hr0
          have y0 := (bq hv0 3).trans (show _ = some (.slice A5 xs.length c5) from rfl)
          clear hv0 hr0
          go_wp2_with (first | ((with_reducible refine gD (N := 146) rfl ?_); (with_reducible refine zA 80 ?_); refine oT (g := g7) (t := 80) (n := 6) (c := vE y) rfl HX.out (by kernel_rfl) (by kernel_rfl) rfl ?_) | ((with_reducible refine gD (N := 147) rfl ?_); refine Kd.wF rfl (lW (x := y) rfl) ?_) | ((with_reducible refine yC (b := .append) (xs := #[.tmp 145, .tmp 147]) rfl ?_); at_builtin; refine Kd.wL k80 (w0 := w10) w4.heap.size rfl (.tmp 145) (.tmp 147) 45 80 _ 48 rfl Try.underlying45 info80 rfl (by decide) (by omega) _ xs y (vE y).toList (fun k => k ≠ g7) (fun _ => False) rfl rfl ?aP (fun _ hk => hk.elim) ?aF ?aO ?aB ?aS ?aL ?_; (case aP => exact k80_mkM _ _ _ y); (case aB => exact Below.refl _ _); (case aF => exact fun k hk => by have := zN HX.out; show k ≠ g7; omega); (case aO => exact HR0.out); (case aS => exact T.out.K.size); (case aL => have := HLN.out; omega); intro v1 w9 ho hb hg hat; have hx9 := xO HV0.out hg (Kd.R_ne HR0.out HV0.out (by decide)); have T2 := aq (T.out.grow HV0.out HR0.out ho hb hg); obtain ⟨A6, c6, e6⟩ := Kd.yE ho; subst e6; clear y0 ho hb hg hat T; have T := T2; clear T2; have y0 := (bq hx9 3).trans (show _ = some (.slice A5 xs.length c5) from rfl); have yf := bf_ hx9 3; clear hx9))
          rw [HWR.out]
          refine ⟨⟨q + 1, by omega, by omega, rfl, ⟨?_⟩⟩, ?_⟩
          ·rw [HTK.out]
           have := T.out.done
           rw [show (xs ++ [y]).length = xs.length + 1 by simp] at this
           exact this
          ·simp only [intOf]; omega
        ·obtain rfl : q = (f.zS.length : Int) := by omega
         rw [Int.toNat_natCast, List.take_length] at H
         have d4 := eq_false (show ¬ (f.zS.length : Int) < (f.zS.length : Int) by omega)
         clear hlt q0 q1
         obtain ⟨vs, hvs, hrs⟩ := H.out.bx
         have HVS := aq hvs
         have HRS := aq hrs
         have B88 := aq (H.out.K.blk B84.out NE.out.2)
         have HK := aq H.out.K
         have RV5 := aq (H.out.K.R RV4.out VN4.out (by decide))
         have RN5 := aq (H.out.K.R RN4.out VN4.out (by decide))
         have RL5 := aq (H.out.K.R RL4.out VN4.out (by decide))
         have RS5 := aq (Kd.vN hrs B4.out.size)
         have B5 := aq (B4.out.trans (H.out.K.below GE1.out B4.out.size))
         clear hvs hrs H
         obtain ⟨A7, c7, e7⟩ := Kd.yE RV5.out
         subst e7
         obtain ⟨A8, c8, e8⟩ := Kd.yE RN5.out
         subst e8
         obtain ⟨A9, c9, e9⟩ := Kd.yE RS5.out
         subst e9
         clear RV4 RN4 RL4 B4 HRS VN4 BF4 B84
         have e0 := (bq B88.out 0).trans (show _ = some (.slice none 0 0) from rfl)
         have q0' := bf_ B88.out 0
         have e1 := (bq B88.out 1).trans (show _ = some (.slice none 0 0) from rfl)
         have q1' := bf_ B88.out 1
         have e2 := (bq B88.out 2).trans (show _ = some (.slice none 0 0) from rfl)
         have q2' := bf_ B88.out 2
         have e3 := (bq B88.out 3).trans (show _ = some (.slice none 0 0) from rfl)
         have q3' := bf_ B88.out 3
         go_wp2_with (first | ((with_reducible refine gD (N := 151) rfl ?_); (with_reducible refine zA 47 ?_); refine oT (g := g11) (t := 47) (n := 4) rfl HVS.out (by kernel_rfl) (by kernel_rfl) rfl ?_))
         have HX := aq (yD (yD (yD (yD B88.out 0 (.slice A7 res.1.length c7)) 1 (.slice A8 L.length c8)) 2 (.slice A4 n4 c4)) 3 (.slice A9 (f.zS.foldl (vF ls) []).length c9))
         have KK := aq (((((KB.refl g8 wr).one (zK wr ⟨g8, 0, none⟩ (.slice A7 res.1.length c7))).one (zK _ ⟨g8, 1, none⟩ (.slice A8 L.length c8))).one (zK _ ⟨g8, 2, none⟩ (.slice A4 n4 c4))).one (zK _ ⟨g8, 3, none⟩ (.slice A9 (f.zS.foldl (vF ls) []).length c9)))
         refine bodyPost_ret (results_ctt (p := 8) (ty := 47) rfl _ _ g8 47 _ (0, 0) _ rfl HX.out hu47 rfl (by kernel_rfl)) rfl ?_
         rw [HRES.out, HLSR.out]
         have hln : (L.map (uX res.2)).length = L.length := List.length_map _
         have r2 := KK.out.R RN5.out B88.out (by decide)
         rw [hln] at r2
         exact ⟨_, _, _, _, rfl, KK.out.R RV5.out B88.out (by decide), r2, KK.out.R RS5.out B88.out (by decide), KK.out.R RL5.out B88.out (by decide), B5.out.trans (KK.out.below GE8.out B5.out.size)⟩
inductive qE (R : wP) : RS → RS → Prop where
 | done {s : RS} (h : doneR s = true) : qE R s (pH R s)
 | more {s t : RS} (h : doneR s = false) (k : qE R (pH R s) t) : qE R s t
def pQ (s : RS) (k : Nat) : List Int × List S32 := (s.eqs.take k).foldl (passS s.nodes) ([], s.l)
def rawG (s : RS) : List S37 := (putA s.nodes (uW s.nodes s.eqs s.l).2).1
def rawR (s : RS) : List Int := (uW s.nodes s.eqs s.l).1.map (rd (putA s.nodes (uW s.nodes s.eqs s.l).2).2)
structure JW (n : Nat) (s : RS) : Prop where
 ops : oD s.nodes
 eq : ∀ e ∈ s.eqs, 0 ≤ e ∧ e < (s.nodes.length : Int)
 nl : s.nodes.length ≤ 1900
 el : s.eqs.length ≤ 17592186044416
 fok : ∀ k, FOK (pQ s k).2
 len : ∀ k, (pQ s k).2.length = n
 say : ∀ e ∈ s.eqs, (vY s.nodes e).is = true → (0 ≤ (vY s.nodes e).x ∧ (vY s.nodes e).x < (n : Int)) ∧ ((vY s.nodes e).s = 0 ∨ (vY s.nodes e).s = 1 ∨ (vY s.nodes e).s = -1) ∧ ((vY s.nodes e).s ≠ 0 → 0 ≤ (vY s.nodes e).y ∧ (vY s.nodes e).y < (n : Int))
 put : PutOKs s.nodes (uW s.nodes s.eqs s.l).2
 stay : ∀ e ∈ (uW s.nodes s.eqs s.l).1, 0 ≤ e ∧ e < (s.nodes.length : Int)
 stl : ∀ k, (pQ s k).1.length ≤ k
 right : tT (rawG s) (rawR s) = true
 rawI : ∀ x ∈ rawG s, wE x
structure JD (n : Nat) (t : RS) : Prop where
 fok : FOK t.l
 len : t.l.length = n
 nl : t.nodes.length ≤ 4000
 var : ∀ x ∈ t.nodes, x.f0 = 2 → 0 ≤ x.f5.f0 ∧ x.f5.f0 < (n : Int)
theorem stepR_eq (R : wP) (s : RS) : pH R s = ⟨(wC R (rawG s) (rawR s)).1, (wC R (rawG s) (rawR s)).2, (uW s.nodes s.eqs s.l).2⟩ := rfl
theorem mD (R : wP) (nodes : List S37) (roots : List Int) : (wC R nodes roots).2.length = roots.length := by
 unfold wC
 simp only [atL, List.length_map]
theorem rawR_len (s : RS) : (rawR s).length = (uW s.nodes s.eqs s.l).1.length := List.length_map _
theorem passK_all (s : RS) : pQ s s.eqs.length = uW s.nodes s.eqs s.l := by
 unfold pQ uW; rw [List.take_length]
theorem passK_succ (s : RS) (k : Nat) (h : k < s.eqs.length) : pQ s (k + 1) = passS s.nodes (pQ s k) s.eqs[k] := by
 unfold pQ
 rw [List.take_succ_eq_append_getElem h, List.foldl_append]; rfl
theorem grown_step {row : Option Nat} {u v w : World} (h : u.grownBy v row) (h' : Below u.heap.size v w) : u.grownBy w row :=
 ⟨h'.os.trans h.os, h'.tape.trans h.tape, h'.output.trans h.output, Nat.le_trans h.size h'.size, fun k hk hn => (h'.block k hk).trans (h.block k hk hn)⟩
theorem grown_tr {row : Option Nat} {u v w : World} (h : u.grownBy v row) (h' : v.grownBy w row) : u.grownBy w row :=
 ⟨h'.os.trans h.os, h'.tape.trans h.tape, h'.output.trans h.output, Nat.le_trans h.size h'.size, fun k hk hn => (h'.block k (Nat.lt_of_lt_of_le hk h.size) hn).trans (h.block k hk hn)⟩
def iA (n k : Nat) : List S32 := (List.range n).map fun (i : Nat) => if i < k then ⟨(i : Int), 1⟩ else z32
theorem iA_len (n k : Nat) : (iA n k).length = n := by unfold iA; rw [List.length_map, List.length_range]
theorem iA_zero (n : Nat) : iA n 0 = List.replicate n z32 := by
 unfold iA
 rw [List.eq_replicate_iff]
 refine ⟨by rw [List.length_map, List.length_range], fun b hb => ?_⟩
 obtain ⟨i, _, rfl⟩ := List.mem_map.1 hb
 rw [if_neg (by omega)]
theorem iA_all (n : Nat) : iA n n = idA n := by
 unfold iA idA
 exact List.map_congr_left fun i hi => by rw [if_pos (List.mem_range.1 hi)]
theorem iA_succ (n k : Nat) (h : k < n) : iA n (k + 1) = (iA n k).set k ⟨(k : Int), 1⟩ := by
 apply List.ext_getElem?
 intro i
 rw [List.getElem?_set, iA_len]
 unfold iA
 by_cases hi : i < n
 ·rw [List.getElem?_map, List.getElem?_map, List.getElem?_range hi]
  simp only [Option.map_some]
  by_cases hk : k = i
  ·subst hk
   rw [if_pos rfl, if_pos h, if_pos (by omega)]
  ·rw [if_neg hk]
   by_cases h1 : i < k
   ·rw [if_pos h1, if_pos (by omega)]
   ·rw [if_neg h1, if_neg (by omega)]
 ·rw [List.getElem?_eq_none (by rw [List.length_map, List.length_range]; omega), if_neg (by omega), List.getElem?_eq_none (by rw [List.length_map, List.length_range]; omega)]
structure ReF (f : sV) (fl : Array Value) (g1 g2 : Nat) (Aa : Option Addr) (ca : Nat) (w : World) (v8 v9 : Value) (s : RS) (V : World) : Prop where
 nodes : Kd.R k37 37 V w.heap.size (fun _ => True) v8 s.nodes
 eqs : Kd.R (Kd.int .i64) 3 V w.heap.size (fun _ => True) v9 s.eqs
 all : Kd.R k32 53 V w.heap.size (fun _ => True) (.slice Aa f.vars.length ca) s.l
 b1 : V.heap[g1]? = some (.cells fl 47 (0, 0))
 b2 : V.heap[g2]? = some (.cells #[.slice none 0 0, .slice none 0 0, .slice none 0 0, .slice none 0 0] 47 (0, 0))
 B : Below w.heap.size w V
theorem ReF.step {f : sV} {fl : Array Value} {g1 g2 : Nat} {Aa : Option Addr} {ca : Nat} {w : World} {v8 v9 : Value} {s : RS} {V V' : World} (h : ReF f fl g1 g2 Aa ca w v8 v9 s V) (hd : Below V.heap.size V V') : ReF f fl g1 g2 Aa ca w v8 v9 s V' :=
 ⟨Kd.yS h.nodes hd, Kd.yS h.eqs hd, Kd.yS h.all hd, bb_ h.b1 hd, bb_ h.b2 hd, bt_ h.B hd⟩
theorem join_no {l : List S32} {x y s : Int} (h : (sQ l x y s).2 = false) : sQ l x y s = (l, false) := by
 unfold sQ at h ⊢
 repeat' split at h
 all_goals first | (exact absurd h (by decide)) | skip
 all_goals simp_all
def lenV : Value → Nat
 | .slice _ n _ => n
 | _ => 0
structure InF (n : Nat) (Aa : Option Addr) (ca : Nat) (w w1 : World) (v10 : Value) (st : List Int × List S32) (V : World) : Prop where
 stay : Kd.R (Kd.int .i64) 3 V w1.heap.size (fun _ => True) v10 st.1
 all : Kd.R k32 53 V w.heap.size (fun _ => True) (.slice Aa n ca) st.2
 g : w1.grownBy V (Value.slice Aa n ca).ownBlock
theorem InF.step {n : Nat} {Aa : Option Addr} {ca : Nat} {w w1 : World} {v10 : Value} {st : List Int × List S32} {V V' : World} (h : InF n Aa ca w w1 v10 st V) (hd : Below V.heap.size V V') : InF n Aa ca w w1 v10 st V' :=
 ⟨Kd.yS h.stay hd, Kd.yS h.all hd, grown_step h.g (hd.mono h.g.size)⟩
theorem InF.join {n : Nat} {Aa : Option Addr} {ca : Nat} {w w1 : World} {v10 : Value} {st : List Int × List S32} {l : List S32} {V V' : World} (h : InF n Aa ca w w1 v10 st V) (hl : Kd.R k32 53 V' w.heap.size (fun _ => True) (.slice Aa n ca) l) (hg : V.grownBy V' (Value.slice Aa n ca).ownBlock) : InF n Aa ca w w1 v10 (st.1, l) V' :=
 ⟨Kd.rV h.stay h.all (by decide) hg, hl, grown_tr h.g hg⟩
theorem InF.grow {n : Nat} {Aa : Option Addr} {ca : Nat} {w w1 : World} {v10 v1 : Value} {st : List Int × List S32} {xs : List Int} {V V' : World} (h : InF n Aa ca w w1 v10 st V) (hs : Kd.R (Kd.int .i64) 3 V' w1.heap.size (fun _ => True) v1 xs) (hb : Below w1.heap.size V V') (ha : ∀ k, (Value.slice Aa n ca).ownBlock = some k → k < w1.heap.size) : InF n Aa ca w w1 v1 (xs, st.2) V' :=
 ⟨hs, al_move h.all (fun k hk => hb.block k (ha k hk)), grown_step h.g hb⟩
theorem reduce15 (f : sV) (Av : Option Addr) (cv : Nat) (An : Option Addr) (cn : Nat) (Ae : Option Addr) (ce : Nat) (As : Option Addr) (cs : Nat) (w : World) (hF : oB f Av cv An cn Ae ce As cs w) (ho : nP f)
  (J : RS → Prop) (hJ0 : J (oR yI f)) (hJW : ∀ s, J s → JW f.vars.length s) (hJs : ∀ s, J s → doneR s = false → J (pH yI s)) (hJd : ∀ s, J s → doneR s = true → JD f.vars.length (pH yI s)) :
  Calls Try.prog 15 #[.agg (flA f Av cv An cn Ae ce As cs)] w fun e w' => ∃ vv vn ve vs vl t, e = .returned (.tuple #[.agg #[vv, vn, ve, vs], vl, .int .i64 0]) ∧ qE yI (oR yI f) t ∧
   Kd.R k59 59 w' w.heap.size (fun _ => True) vv (xE f t).1.vars ∧ Kd.R k37 37 w' w.heap.size (fun _ => True) vn (xE f t).1.nodes ∧ Kd.R (Kd.int .i64) 3 w' w.heap.size (fun _ => True) ve (xE f t).1.eqs ∧
   Kd.R k80 80 w' w.heap.size (fun _ => True) vs (xE f t).1.zS ∧ Kd.R k32 53 w' w.heap.size (fun _ => True) vl (xE f t).2 ∧ Below w.heap.size w w' := by
 have hu47 := Try.underlying47
 have HF := aq hF
 have HO := aq ho
 have HJ0 := aq hJ0
 have HJW := aq hJW
 have HJS := aq hJs
 have HJD := aq hJd
 have HVL := aq ho.vle
 have HCK := aq (fun (V : World) (h : Below w.heap.size w V) => check33 f Av cv An cn Ae ce As cs V (hF.below h) ho)
 have HBD := aq (fun (V : World) (h : Below w.heap.size w V) => alb34 f.nodes f.eqs An cn Ae ce V (Kd.xY hF.nodes h) hF.nle ho.nodeI (Kd.xY hF.eqs h) hF.ele ho.ele ho.right)
 clear hF ho hJ0 hJW hJs hJd
 obtain ⟨fl, hfl⟩ : ∃ fl, flA f Av cv An cn Ae ce As cs = fl := ⟨_, rfl⟩
 have HFL := aq hfl
 rw [hfl] at HCK ⊢
 have HSZ := aq (show fl.size = 4 by rw [← hfl]; rfl)
 clear hfl
 have GF := aq (zI (heap_alloc_last w (.cells fl 47)) (.cells #[.slice none 0 0, .slice none 0 0, .slice none 0 0, .slice none 0 0] 47))
 have G2 := aq (heap_alloc_last (w.alloc (.cells fl 47)) (.cells #[.slice none 0 0, .slice none 0 0, .slice none 0 0, .slice none 0 0] 47))
 have B := aq (zY (zY (Below.refl w.heap.size w) (.cells fl 47)) (.cells #[.slice none 0 0, .slice none 0 0, .slice none 0 0, .slice none 0 0] 47))
 rw [show (w.alloc (.cells fl 47)).heap.size = w.heap.size + 1 by simp] at G2
 go_enter Try.func15, Try.ntmps15
 go_upto_region 1 with fail
 generalize (w.alloc (.cells fl 47)).alloc (.cells #[.slice none 0 0, .slice none 0 0, .slice none 0 0, .slice none 0 0] 47) = W1 at GF G2 B ⊢
 have GE := aq (show w.heap.size ≠ w.heap.size + 1 ∧ w.heap.size ≤ w.heap.size + 1 by omega)
 generalize w.heap.size + 1 = g2 at G2 GE ⊢
 go_step3
 go_upto_region 4 with (first | ((with_reducible refine gD (N := 18) rfl ?_); (with_reducible refine zA 47 ?_); refine oT (g := w.heap.size) (t := 47) (n := 4) (c := fl) rfl GF.out (by kernel_rfl) (by kernel_rfl) HSZ.out ?_) | (go_at_call 33; refine (HCK.out _ B.out).mono ?_; rintro e w2 ⟨rfl, hd⟩; have GF2 := aq (bb_ GF.out hd); have G22 := aq (bb_ G2.out hd); have B2 := aq (bt_ B.out hd); clear GF G2 B hd HCK; have GF := GF2; have G2 := G22; have B := B2; clear GF2 G22 B2))
 have f0 := (bq GF.out 0).trans (show _ = some (.slice Av f.vars.length cv) by rw [← HFL.out]; rfl)
 go_upto_region 5 with (first | ((with_reducible refine gD (N := 27) rfl ?_); refine Kd.nE k32 (w0 := w) w.heap.size 53 rfl (N := 27) rfl 83 _ _ rfl (f.vars.length : Int) rfl rfl Try.underlying83 (.agg #[.int .i64 0, .int .i64 0]) 16 info53 rfl (by decide) (by omega) z32 (ok := fun _ => True) (okp := fun _ => True) (nT _ _ _ _) (fun _ hk => hk) trivial (by omega) (by rw [Int.toNat_natCast]; have := HVL.out; omega) ?hb0 ?hs0 ?_; (case hb0 => exact B.out); (case hs0 => exact B.out.size); intro v3 w3 hr3 hb3 hg_ hnew_; rw [Int.toNat_natCast] at hr3; obtain ⟨Aa, ca, ev⟩ := Kd.yE hr3; subst ev; rw [List.length_replicate, ← iA_zero] at hr3; rw [List.length_replicate]; have HA := aq hr3; have GF2 := aq (xO GF.out hg_ (by simp)); have G22 := aq (xO G2.out hg_ (by simp)); have B2 := aq hb3; clear hr3 hb3 hg_ hnew_ GF G2 B f0; have GF := GF2; have G2 := G22; have B := B2; clear GF2 G22 B2))
 go_wp2
 go_loopw [30] (fun i wr => ∃ (j : Int), 0 ≤ j ∧ j ≤ (f.vars.length : Int) ∧ i = .int .i64 j ∧ zV (Kd.R k32 53 wr w.heap.size (fun _ => True) (.slice Aa f.vars.length ca) (iA f.vars.length j.toNat)) ∧ zV (wr.heap[w.heap.size]? = some (.cells fl 47 (0, 0))) ∧ zV (wr.heap[g2]? = some (.cells #[.slice none 0 0, .slice none 0 0, .slice none 0 0, .slice none 0 0] 47 (0, 0))) ∧ zV (Below w.heap.size w wr)) (fun i _ => f.vars.length - (intOf i).toNat)
 case atStart => exact ⟨0, Int.le_refl _, by omega, rfl, HA, GF, G2, B⟩
 case round =>
  clear HA GF G2 B
  obtain ⟨j, j0, j1, rfl, HA, GF, G2, B⟩ := hrel
  by_cases hlt : j < (f.vars.length : Int)
  ·have hil : (iA f.vars.length j.toNat).length = f.vars.length := iA_len _ _
   obtain ⟨g, eA, r0, r1⟩ := tQ HA.out j0 (by rw [hil]; exact hlt)
   subst eA
   have p0 := uL HA.out (j.toNat * 2)
   have p1 := uL HA.out (j.toNat * 2 + 1)
   have HI := aq (show iA f.vars.length (j + 1).toNat = (iA f.vars.length j.toNat).set j.toNat ⟨j, 1⟩ by
    rw [show (j + 1).toNat = j.toNat + 1 by omega, iA_succ _ _ (by omega), show ((j.toNat : Nat) : Int) = j by omega])
   have HP := aq (al_put HA.out j0 (by rw [hil]; exact hlt) ⟨j, 1⟩)
   obtain ⟨cg, hcg⟩ := Kd.sS HA.out g rfl
   have n1 := qO GF.out hcg (by decide)
   have n2 := qO G2.out hcg (by decide)
   have GF3 := aq ((zK _ ⟨g, j.toNat * 2 + 1, none⟩ (.int .i64 1)).blk ((zK wr ⟨g, j.toNat * 2, none⟩ (.int .i64 j)).blk GF.out n1) n1)
   have G23 := aq ((zK _ ⟨g, j.toNat * 2 + 1, none⟩ (.int .i64 1)).blk ((zK wr ⟨g, j.toNat * 2, none⟩ (.int .i64 j)).blk G2.out n2) n2)
   have B3 := aq (bs_ (g := g) (j := j.toNat * 2 + 1) (v := .int .i64 1) (bs_ (g := g) (j := j.toNat * 2) (v := .int .i64 j) B.out (Kd.nQ HA.out g rfl)) (Kd.nQ HA.out g rfl))
   have HW := aq (show wrap64 (j + 1) = j + 1 by unfold wrap64; have := HVL.out; omega)
   generalize rdA (iA f.vars.length j.toNat) j = o at r0 r1
   clear hil HA GF G2 B hcg n1 n2
   go_wp2
   rw [HW.out]
   refine ⟨⟨j + 1, by omega, by omega, rfl, ⟨by rw [HI.out]; exact HP.out⟩, GF3, G23, B3⟩, ?_⟩
   simp only [intOf]; omega
  ·obtain rfl : j = (f.vars.length : Int) := by omega
   rw [Int.toNat_natCast, iA_all] at HA
   have d0 := eq_false (show ¬ (f.vars.length : Int) < (f.vars.length : Int) by omega)
   clear hlt j0 j1
   have f1 := (bq GF.out 1).trans (show _ = some (.slice An f.nodes.length cn) by rw [← HFL.out]; rfl)
   have f2 := (bq GF.out 2).trans (show _ = some (.slice Ae f.eqs.length ce) by rw [← HFL.out]; rfl)
   go_wp2_with (go_at_call 34; refine (HBD.out _ B.out).mono ?_; rintro e w4 ⟨v8, v9, rfl, h8, h9, hd⟩; have S0 := aq (show ReF f fl w.heap.size g2 Aa ca w v8 v9 (oR yI f) w4 from ⟨Kd.vN h8 B.out.size, Kd.vN h9 B.out.size, Kd.yS HA.out hd, bb_ GF.out hd, bb_ G2.out hd, bt_ B.out hd⟩); clear h8 h9 hd HA GF G2 B f1 f2)
   go_step3
   go_wp2
   clear HVL HBD
   go_loopw [8, 9] (fun v8 v9 wr => ∃ s, J s ∧ (∀ t, qE yI s t → qE yI (oR yI f) t) ∧ zV (ReF f fl w.heap.size g2 Aa ca w v8 v9 s wr)) (fun _ v9 _ => lenV v9)
   case atStart => exact ⟨_, HJ0.out, fun t h => h, S0⟩
   case round =>
    clear S0 HJ0
    obtain ⟨s, hj, hrun, S⟩ := hrel
    have HJ := aq hj
    have HRUN := aq hrun
    have W := aq (HJW.out s hj)
    clear hj hrun
    obtain ⟨A8, c8, e8⟩ := Kd.yE S.out.nodes
    subst e8
    obtain ⟨A9, c9, e9⟩ := Kd.yE S.out.eqs
    subst e9
    rename World => w1
    have HOWN := aq (show ∀ k, (Value.slice Aa f.vars.length ca).ownBlock = some k → k < w1.heap.size from fun k hk => by
     obtain ⟨cg, hcg⟩ := Kd.sS S.out.all k hk
     exact zN hcg)
    have I0 := aq (show InF f.vars.length Aa ca w w1 (.slice none 0 0) (pQ s 0) w1 from ⟨Kd.oS _ _ _ _ _, S.out.all, ⟨rfl, rfl, rfl, Nat.le_refl _, fun _ _ _ => rfl⟩⟩)
    go_wp2
    go_loopw [10, 49] (fun v10 i wr => ∃ (q : Int), 0 ≤ q ∧ q ≤ (s.eqs.length : Int) ∧ i = .int .i64 q ∧ zV (InF f.vars.length Aa ca w w1 v10 (pQ s q.toNat) wr)) (fun _ i _ => s.eqs.length - (intOf i).toNat)
    case atStart => exact ⟨0, Int.le_refl _, by omega, rfl, I0⟩
    case round =>
     clear I0
     obtain ⟨q, q0, q1, rfl, I⟩ := hrel
     by_cases hlt : q < (s.eqs.length : Int)
     ·have hpk := passK_succ s q.toNat (by omega)
      have hel : rd s.eqs q = s.eqs[q.toNat]'(by omega) := by
       unfold rd
       rw [List.getD_eq_getElem?_getD, List.getElem?_eq_getElem (by omega)]; rfl
      rw [← hel] at hpk
      have hme : rd s.eqs q ∈ s.eqs := by rw [hel]; exact List.getElem_mem _
      have hrg := W.out.eq _ hme
      have hsy := W.out.say _ hme
      have HPK := aq (show pQ s (q + 1).toNat = passS s.nodes (pQ s q.toNat) (rd s.eqs q) by rw [show (q + 1).toNat = q.toNat + 1 by omega]; exact hpk)
      have HWR := aq (show wrap64 (q + 1) = q + 1 by unfold wrap64; have := W.out.el; omega)
      have HFK := aq (W.out.fok q.toNat)
      have hln := W.out.len q.toNat
      have HST := aq (show (pQ s q.toNat).1.length + 1 ≤ 17592186044416 by have := W.out.stl q.toNat; have := W.out.el; omega)
      obtain ⟨g9, _, ev, _⟩ := Kd.tL S.out.eqs (by omega)
      injection ev with ev e2 e3
      clear e2 e3
      subst ev
      have zq := (Kd.yP 0 (Kd.rV S.out.eqs S.out.all (by decide) I.out.g) q q0 hlt).1.trans (show _ = some (.int .i64 (rd s.eqs q)) from rfl)
      have HSD := aq (show Calls Try.prog 35 #[.slice A8 s.nodes.length c8, .int .i64 (rd s.eqs q)] wr fun en w' => en = .returned (.tuple #[.int .i64 (vY s.nodes (rd s.eqs q)).x, .int .i64 (vY s.nodes (rd s.eqs q)).y, .int .i64 (vY s.nodes (rd s.eqs q)).s, .bool (vY s.nodes (rd s.eqs q)).is]) ∧ Below wr.heap.size wr w' from
       said35 s.nodes A8 c8 wr (Kd.rV S.out.nodes S.out.all (by decide) I.out.g) W.out.ops _ hrg.1 hrg.2)
      unfold passS at HPK
      generalize rd s.eqs q = e at zq HSD HPK hsy
      generalize pQ s q.toNat = st at I HPK HFK hln HST
      obtain ⟨stay, l⟩ := st
      dsimp only at HPK HFK hln HST
      have HJN := aq (fun (V : World) (hl : Kd.R k32 53 V w.heap.size (fun _ => True) (.slice Aa f.vars.length ca) l) (hi : (vY s.nodes e).is = true) => show Calls Try.prog 36 #[.slice Aa f.vars.length ca, .int .i64 (vY s.nodes e).x, .int .i64 (vY s.nodes e).y, .int .i64 (vY s.nodes e).s] V fun en w' => JoOut w.heap.size f.vars.length ca (fun _ => True) Aa V (sQ l (vY s.nodes e).x (vY s.nodes e).y (vY s.nodes e).s) en w' by
       have hs := hsy hi
       rw [← hln] at hl hs ⊢
       exact join36 l Aa ca V hl HFK.out _ _ _ hs.1 hs.2.1 hs.2.2)
      generalize vY s.nodes e = sy at HSD HPK HJN
      obtain ⟨sx, sz, ss, sis⟩ := sy
      dsimp only at HSD HPK HJN
      clear hpk hel hme hrg hsy hln
      cases sis with
      | false =>
       rw [if_neg (fun h => absurd h.1 (by decide))] at HPK
       clear HJN
       go_wp2_with (first | (go_at_call 35; refine HSD.out.mono ?_; rintro en w7 ⟨rfl, hd⟩; have I2 := aq (I.out.step hd); clear hd I HSD zq; have I := I2; clear I2) | ((with_reducible refine yC (b := .append) (xs := #[.tmp 69, .tmp 71]) rfl ?_); at_builtin; refine Kd.wL (Kd.int .i64) (w0 := w7) w1.heap.size rfl (.tmp 69) (.tmp 71) 23 3 (.int .i64 0) 8 rfl Try.underlying23 info3 rfl (by decide) (by omega) u10 stay e [.int .i64 e] (fun _ => True) (fun _ => False) rfl rfl ?aP (fun _ hk => hk.elim) ?aF ?aO ?aB ?aS ?aL ?_; (case aP => exact rfl); (case aB => exact Below.refl _ _); (case aF => exact (fun _ _ => trivial)); (case aO => exact I.out.stay); (case aS => exact I.out.g.size); (case aL => have := HST.out; omega); intro v1 w9 ho hb hg hat; have I2 := aq (I.out.grow ho hb HOWN.out); clear ho hb hg hat I; have I := I2; clear I2))
       rw [HWR.out]
       refine ⟨⟨q + 1, by omega, by omega, rfl, ⟨by rw [HPK.out]; exact I.out⟩⟩, ?_⟩
       simp only [intOf]; omega
      | true =>
       cases hjb : (sQ l sx sz ss).2 with
       | true =>
        rw [if_pos ⟨rfl, hjb⟩] at HPK
        rw [show sQ l sx sz ss = ((sQ l sx sz ss).1, true) by rw [← hjb]] at HJN
        go_wp2_with (first | (go_at_call 35; refine HSD.out.mono ?_; rintro en w7 ⟨rfl, hd⟩; have I2 := aq (I.out.step hd); clear hd I HSD zq; have I := I2; clear I2) | (go_at_call 36; refine (HJN.out _ I.out.all (by trivial)).mono ?_; rintro en w8 hjo; have e8 := hjo.ret; subst e8; have I2 := aq (I.out.join hjo.R hjo.grown); clear hjo I HJN; have I := I2; clear I2))
        rw [HWR.out]
        refine ⟨⟨q + 1, by omega, by omega, rfl, ⟨by rw [HPK.out]; exact I.out⟩⟩, ?_⟩
        simp only [intOf]; omega
       | false =>
        rw [if_neg (fun h => by rw [hjb] at h; exact absurd h.2 (by decide))] at HPK
        have hj1 : sQ l sx sz ss = (l, false) := join_no hjb
        rw [hj1] at HJN
        go_wp2_with (first | (go_at_call 35; refine HSD.out.mono ?_; rintro en w7 ⟨rfl, hd⟩; have I2 := aq (I.out.step hd); clear hd I HSD zq; have I := I2; clear I2) | (go_at_call 36; refine (HJN.out _ I.out.all (by trivial)).mono ?_; rintro en w8 hjo; have e8 := hjo.ret; subst e8; have I2 := aq (I.out.join hjo.R hjo.grown); clear hjo I HJN; have I := I2; clear I2) | ((with_reducible refine yC (b := .append) (xs := #[.tmp 69, .tmp 71]) rfl ?_); at_builtin; refine Kd.wL (Kd.int .i64) (w0 := w8) w1.heap.size rfl (.tmp 69) (.tmp 71) 23 3 (.int .i64 0) 8 rfl Try.underlying23 info3 rfl (by decide) (by omega) u10 stay e [.int .i64 e] (fun _ => True) (fun _ => False) rfl rfl ?aP (fun _ hk => hk.elim) ?aF ?aO ?aB ?aS ?aL ?_; (case aP => exact rfl); (case aB => exact Below.refl _ _); (case aF => exact (fun _ _ => trivial)); (case aO => exact I.out.stay); (case aS => exact I.out.g.size); (case aL => have := HST.out; omega); intro v1 w9 ho hb hg hat; have I2 := aq (I.out.grow ho hb HOWN.out); clear ho hb hg hat I; have I := I2; clear I2))
        rw [HWR.out]
        refine ⟨⟨q + 1, by omega, by omega, rfl, ⟨by rw [HPK.out]; exact I.out⟩⟩, ?_⟩
        simp only [intOf]; omega
     ·obtain rfl : q = (s.eqs.length : Int) := by omega
      rw [Int.toNat_natCast, passK_all] at I
      have d5 := eq_false (show ¬ (s.eqs.length : Int) < (s.eqs.length : Int) by omega)
      clear hlt q0 q1
      have hfk := W.out.fok s.eqs.length
      have hln := W.out.len s.eqs.length
      have hst := W.out.stl s.eqs.length
      rw [passK_all] at hfk hln hst
      have hne : ∀ {k : Nat} {c : Array Value}, w1.heap[k]? = some (.cells c 47 (0, 0)) → wr.heap[k]? = some (.cells c 47 (0, 0)) := fun h => xO h I.out.g (Kd.R_ne S.out.all h (by decide))
      have RN := aq (Kd.rV S.out.nodes S.out.all (by decide) I.out.g)
      have GF := aq (hne S.out.b1)
      have G2 := aq (hne S.out.b2)
      have B := aq (show Below w.heap.size w wr from S.out.B.trans ⟨I.out.g.os, I.out.g.tape, I.out.g.output, I.out.g.size, fun k hk => I.out.g.block k (Nat.lt_of_lt_of_le hk S.out.B.size) (fun e => by
       have := Kd.nQ S.out.all k e.symm
       omega)⟩)
      obtain ⟨A10, c10, e10⟩ := Kd.yE I.out.stay
      subst e10
      obtain ⟨_, hc10, hC10⟩ := Kd.uS I.out.stay
      have RA := aq I.out.all
      have HPU := aq (fun (V : World) (h : Below wr.heap.size wr V) => show Calls Try.prog 37 #[.slice A8 s.nodes.length c8, .slice A10 (uW s.nodes s.eqs s.l).1.length c10, .slice Aa f.vars.length ca] V fun e w' => ∃ vo vr, e = .returned (.tuple #[vo, vr]) ∧ Kd.R k37 37 w' V.heap.size (fun _ => True) vo (rawG s) ∧ Kd.R (Kd.int .i64) 3 w' V.heap.size (fun _ => True) vr (rawR s) ∧ Below V.heap.size V w' by
       have hr := Kd.yS RA.out h
       have hp := W.out.put
       unfold rawG rawR
       rw [← hln] at hr ⊢
       exact put37 s.nodes _ _ A8 c8 A10 c10 Aa ca V (Kd.yS RN.out h) (Kd.xY hC10 h) hc10 hr hfk hp W.out.stay W.out.nl (by have := W.out.el; omega))
      have HDN := aq (show doneR s = ((uW s.nodes s.eqs s.l).1.length == s.eqs.length) from rfl)
      have HST := aq hst
      have HRL := aq (rawR_len s)
      have HSE := aq (stepR_eq yI s)
      have HBL := aq (mD yI (rawG s) (rawR s))
      have HBI := aq (fun (V : World) (A c A1 c1) hC hc hR hc1 => alb34 (rawG s) (rawR s) A c A1 c1 V hC hc W.out.rawI hR hc1 (by rw [rawR_len]; have := W.out.el; omega) W.out.right)
      generalize uW s.nodes s.eqs s.l = pa at RA HPU HDN HST HRL HSE
      clear hfk hln hst hne hc10 hC10 I RN
      go_upto_region 21 with (first | (go_at_call 37; refine (HPU.out _ (Below.refl _ _)).mono ?_; rintro e w5 ⟨vo, vr, rfl, ho, hr, hd⟩; have RO := aq ho; have RR := aq hr; have RA2 := aq (Kd.yS RA.out hd); have GF2 := aq (bb_ GF.out hd); have G22 := aq (bb_ G2.out hd); have B2 := aq (bt_ B.out hd); clear ho hr hd RA GF G2 B HPU; have RA := RA2; have GF := GF2; have G2 := G22; have B := B2; clear RA2 GF2 G22 B2; obtain ⟨Ao, co, eo⟩ := Kd.yE RO.out; subst eo; obtain ⟨Ar, cr, er⟩ := Kd.yE RR.out; subst er; obtain ⟨_, ho1, ho2⟩ := Kd.uS RO.out; obtain ⟨_, hr1, hr2⟩ := Kd.uS RR.out; have HB34 := aq (HBI.out _ _ _ _ _ ho2 ho1 hr2 hr1); clear ho1 ho2 hr1 hr2 RO RR HBI) | (go_at_call 34; refine HB34.out.mono ?_; rintro e w6 ⟨v8, v9, rfl, h8, h9, hd⟩; have S2 := aq (show ReF f fl w.heap.size g2 Aa ca w v8 v9 (pH yI s) w6 by rw [HSE.out]; exact ⟨Kd.vN h8 B.out.size, Kd.vN h9 B.out.size, Kd.yS RA.out hd, bb_ GF.out hd, bb_ G2.out hd, bt_ B.out hd⟩); clear h8 h9 hd RA GF G2 B HB34))
      by_cases hd : pa.1.length = s.eqs.length
      ·have hdb : doneR s = true := by rw [HDN.out]; exact beq_iff_eq.2 hd
       have hd1 : ((pa.1.length : Int) == (s.eqs.length : Int)) = true := beq_iff_eq.2 (by omega)
       have HT := aq (HRUN.out _ (.done hdb))
       have JDD := aq (HJD.out s HJ.out hdb)
       generalize pH yI s = t at S2 HT JDD
       obtain ⟨A3, c3, e3⟩ := Kd.yE S2.out.nodes
       subst e3
       obtain ⟨A4, c4, e4⟩ := Kd.yE S2.out.eqs
       subst e4
       obtain ⟨_, hc3, hC3⟩ := Kd.uS S2.out.nodes
       have HFN := aq (show Calls Try.prog 38 #[.agg fl, .slice A3 t.nodes.length c3, .slice A4 t.eqs.length c4, .slice Aa f.vars.length ca] w6 fun e w' => ∃ vv vn vs vl, e = .returned (.tuple #[.agg #[vv, vn, .slice A4 t.eqs.length c4, vs], vl, .int .i64 0]) ∧
         Kd.R k59 59 w' w6.heap.size (fun _ => True) vv (xE f t).1.vars ∧ Kd.R k37 37 w' w6.heap.size (fun _ => True) vn (xE f t).1.nodes ∧ Kd.R k80 80 w' w6.heap.size (fun _ => True) vs (xE f t).1.zS ∧ Kd.R k32 53 w' w6.heap.size (fun _ => True) vl (xE f t).2 ∧ Below w6.heap.size w6 w' by
        have ha := S2.out.all
        rw [← HFL.out]
        rw [← JDD.out.len] at ha ⊢
        have := fin38 f Av cv An cn Ae ce As cs w6 (HF.out.below S2.out.B) HO.out.vle HO.out.sle HO.out.start t.nodes A3 c3 hC3 JDD.out.nl JDD.out.var A4 t.eqs.length c4 t.l Aa ca ha JDD.out.fok JDD.out.len
        exact this)
       clear hdb HJ HRUN W HDN HST HRL HSE HBL hc3 hC3 HJW HJS HJD JDD S HOWN
       have GF := aq S2.out.b1
       go_wp2_with (first | ((with_reducible refine gD (N := 90) rfl ?_); (with_reducible refine zA 47 ?_); refine oT (g := w.heap.size) (t := 47) (n := 4) (c := fl) rfl GF.out (by kernel_rfl) (by kernel_rfl) HSZ.out ?_) | (go_at_call 38; refine HFN.out.mono ?_; rintro e w7 ⟨vv, vn, vs, vl, rfl, h1, h2, h3, h4, hb⟩; have R1 := aq h1; have R2 := aq h2; have R3 := aq h3; have R4 := aq h4; have S3 := aq (S2.out.step hb); have HSZ6 := aq S2.out.B.size; have B7 := aq (bt_ S2.out.B hb); clear h1 h2 h3 h4 hb S2 HFN; obtain ⟨A7, c7, e7⟩ := Kd.yE R1.out; subst e7; obtain ⟨A5, c5, e5⟩ := Kd.yE R2.out; subst e5; obtain ⟨A6, c6, e6⟩ := Kd.yE R3.out; subst e6; have e0 := (bq S3.out.b2 0).trans (show _ = some (.slice none 0 0) from rfl); have e1 := (bq S3.out.b2 1).trans (show _ = some (.slice none 0 0) from rfl); have e2 := (bq S3.out.b2 2).trans (show _ = some (.slice none 0 0) from rfl); have e3 := (bq S3.out.b2 3).trans (show _ = some (.slice none 0 0) from rfl); have q0 := bf_ S3.out.b2 0; have q1 := bf_ S3.out.b2 1; have q2 := bf_ S3.out.b2 2; have q3 := bf_ S3.out.b2 3))
       have hx := yD (yD (yD (yD S3.out.b2 0 (.slice A7 (xE f t).1.vars.length c7)) 1 (.slice A5 (xE f t).1.nodes.length c5)) 2 (.slice A4 t.eqs.length c4)) 3 (.slice A6 (xE f t).1.zS.length c6)
       have KK := aq (((((KB.refl g2 w7).one (zK w7 ⟨g2, 0, none⟩ (.slice A7 (xE f t).1.vars.length c7))).one (zK _ ⟨g2, 1, none⟩ (.slice A5 (xE f t).1.nodes.length c5))).one (zK _ ⟨g2, 2, none⟩ (.slice A4 t.eqs.length c4))).one (zK _ ⟨g2, 3, none⟩ (.slice A6 (xE f t).1.zS.length c6)))
       rw [Exit.noGoto_ret]
       refine bodyPost_ret (results_ctt (p := 2) (ty := 47) rfl _ _ g2 47 _ (0, 0) _ rfl hx hu47 rfl (by kernel_rfl)) rfl ?_
       have lw := HSZ6.out
       exact ⟨_, _, _, _, _, t, rfl, HT.out, KK.out.R (Kd.vN R1.out lw) S3.out.b2 (by decide), KK.out.R (Kd.vN R2.out lw) S3.out.b2 (by decide), KK.out.R S3.out.eqs S3.out.b2 (by decide), KK.out.R (Kd.vN R3.out lw) S3.out.b2 (by decide), KK.out.R (Kd.vN R4.out lw) S3.out.b2 (by decide), B7.out.trans (KK.out.below GE.out.2 B7.out.size)⟩
      ·have hdb : doneR s = false := by rw [HDN.out]; exact beq_eq_false_iff_ne.2 hd
       have hd1 : ((pa.1.length : Int) == (s.eqs.length : Int)) = false := beq_eq_false_iff_ne.2 (by omega)
       have HT := aq (show ∀ t, qE yI (pH yI s) t → qE yI (oR yI f) t from fun t h => HRUN.out t (.more hdb h))
       have HJ2 := aq (HJS.out s HJ.out hdb)
       have HLE := aq (show (pH yI s).eqs.length < s.eqs.length by
        rw [HSE.out]
        show (wC yI (rawG s) (rawR s)).2.length < s.eqs.length
        rw [HBL.out, HRL.out]
        have := HST.out
        omega)
       generalize pH yI s = t at S2 HT HJ2 HLE
       clear hdb HJ HRUN W HDN HST HRL HSE HBL S HOWN
       go_wp2
       obtain ⟨A4, c4, e4⟩ := Kd.yE S2.out.eqs
       subst e4
       exact ⟨⟨t, HJ2.out, HT.out, S2⟩, HLE.out⟩
end Go.Proofs.Ytoonahobmlnflaa.PC
