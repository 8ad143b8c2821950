/- Texts of this claim, one behind the other. -/
import Derived.Test.YtoonahobmlnflaaVc20
set_option linter.unusedVariables false
set_option linter.unusedSimpArgs false
set_option maxRecDepth 100000
set_option maxHeartbeats 16000000
namespace Go.Proofs.Ytoonahobmlnflaa.PC
open Go.RowKit Go.Shelf A B C
structure F1 (gf g8 g11 : Nat) (fl : Array Value) (ve : Value) (At : Option Addr) (n ct : Nat) (w : World) (ok : Nat → Prop) (st : List S59 × List Int) (V : World) : Prop where
  bx : ∃ v, V.heap[g11]? = some (.cells #[v, .slice none 0 0, ve, .slice none 0 0] 47 (0, 0)) ∧ Kd.R k59 59 V w.heap.size ok v st.1
  tv : Kd.R (Kd.int .i64) 3 V w.heap.size (fun _ => True) (.slice At n ct) st.2
  bf : V.heap[gf]? = some (.cells fl 47 (0, 0))
  b8 : V.heap[g8]? = some (.cells #[.slice none 0 0, .slice none 0 0, .slice none 0 0, .slice none 0 0] 47 (0, 0))
  B : Below w.heap.size w V
  ge : w.heap.size ≤ g11
  nf : gf ≠ g11
  n8 : g8 ≠ g11
section
variable {gf g8 g11 : Nat} {fl : Array Value} {ve : Value} {At : Option Addr} {n ct : Nat} {w : World} {ok : Nat → Prop} {st : List S59 × List Int} {V V' V1 : World}
theorem F1.step (h : F1 gf g8 g11 fl ve At n ct w ok st V) (hd : Below V.heap.size V V') : F1 gf g8 g11 fl ve At n ct w ok st V' := by
  obtain ⟨v, hv, hr⟩ := h.bx
  exact ⟨⟨v, bb_ hv hd, Kd.zL hr hd⟩, Kd.zL h.tv hd, bb_ h.bf hd, bb_ h.b8 hd, bt_ h.B hd, h.ge, h.nf, h.n8⟩
theorem F1.but {g : Nat} (h : F1 gf g8 g11 fl ve At n ct w (fun _ => True) st V) (hd : Below V.heap.size V V') (hg : V.heap.size ≤ g) : F1 gf g8 g11 fl ve At n ct w (fun k => k ≠ g) st V' := by
  obtain ⟨v, hv, hr⟩ := h.bx
  exact ⟨⟨v, bb_ hv hd, R_but hr hd hg⟩, Kd.zL h.tv hd, bb_ h.bf hd, bb_ h.b8 hd, bt_ h.B hd, h.ge, h.nf, h.n8⟩
theorem F1.done (h : F1 gf g8 g11 fl ve At n ct w ok st V) : F1 gf g8 g11 fl ve At n ct w (fun _ => True) st V := by
  obtain ⟨v, hv, hr⟩ := h.bx
  exact ⟨⟨v, hv, Kd.xF hr (fun _ _ => trivial)⟩, h.tv, h.bf, h.b8, h.B, h.ge, h.nf, h.n8⟩
theorem F1.put {gv : Nat} (h : F1 gf g8 g11 fl ve (some ⟨gv, 0, none⟩) n ct w ok st V) (j i : Int) : F1 gf g8 g11 fl ve (some ⟨gv, 0, none⟩) n ct w ok (st.1, st.2.set j.toNat i) (V.setCell ⟨gv, j.toNat, none⟩ (.int .i64 i)) := by
  obtain ⟨cells, ht⟩ := Kd.tW h.tv gv rfl
  obtain ⟨v, hv, hr⟩ := h.bx
  have k : ∀ {g t : Nat} {c : Array Value}, V.heap[g]? = some (.cells c t (0, 0)) → t ≠ 3 → (V.setCell ⟨gv, j.toNat, none⟩ (.int .i64 i)).heap[g]? = some (.cells c t (0, 0)) := fun hb ht' => (Below.heap_setCell V ⟨gv, j.toNat, none⟩ _ _ (rN hb ht ht')).trans hb
  exact ⟨⟨v, k hv (by decide), Kd.vW hr ht (by decide) _ _⟩, (Kd.R_putg h.tv j i).1, k h.bf (by decide), k h.b8 (by decide), bs_ h.B (Kd.oO h.tv gv rfl), h.ge, h.nf, h.n8⟩
theorem F1.grow {v v1 : Value} {L : List S59} (h : F1 gf g8 g11 fl ve At n ct w ok st V) (hv : V.heap[g11]? = some (.cells #[v, .slice none 0 0, ve, .slice none 0 0] 47 (0, 0))) (hr : Kd.R k59 59 V w.heap.size ok v st.1) (ho : Kd.R k59 59 V1 w.heap.size ok v1 L) (hb : Below w.heap.size w V1) (hg : V.grownBy V1 v.ownBlock) :
    F1 gf g8 g11 fl ve At n ct w ok (L, st.2) (V1.setCell ⟨g11, 0, none⟩ v1) := by
  have k : ∀ {g : Nat} {c : Array Value}, V.heap[g]? = some (.cells c 47 (0, 0)) → V1.heap[g]? = some (.cells c 47 (0, 0)) := fun hb' => zK hb' hg (Kd.uX hr hb' (by decide))
  exact ⟨⟨v1, yP (k hv) 0 v1, Kd.vW ho (k hv) (by decide) 0 v1⟩, Kd.vW (Kd.wC h.tv hr (by decide) hg) (k hv) (by decide) 0 v1, (zR V1 ⟨g11, 0, none⟩ v1).blk (k h.bf) h.nf, (zR V1 ⟨g11, 0, none⟩ v1).blk (k h.b8) h.n8, bs_ hb h.ge, h.ge, h.nf, h.n8⟩
end
theorem finV_succ (vars : List S59) (l : List S32) (k : Nat) : vC vars l (k + 1) = if (ofA l (k : Int)).f0 = (k : Int) ∧ (ofA l (k : Int)).f1 = 1 then ((vC vars l k).1 ++ [zJ z59 vars (k : Int)], (vC vars l k).2.set k ((vC vars l k).1.length : Int)) else vC vars l k := rfl
theorem finV_len (vars : List S59) (l : List S32) (k : Nat) : (vC vars l k).2.length = vars.length ∧ (vC vars l k).1.length ≤ k := by
  induction k with
  | zero => simp [vC]
  | succ k ih =>
    rw [finV_succ]
    split
    · simp only [List.length_set, List.length_append, List.length_singleton]; omega
    · omega
structure F2 (g11 : Nat) (ve vv : Value) (w2 : World) (ok : Nat → Prop) (xs : List S37) (V : World) : Prop where
  bx : ∃ v, V.heap[g11]? = some (.cells #[vv, v, ve, .slice none 0 0] 47 (0, 0)) ∧ Kd.R k37 37 V w2.heap.size ok v xs
  K : KB g11 w2 V
  lt : g11 < w2.heap.size
section
variable {g11 : Nat} {ve vv : Value} {w2 : World} {ok : Nat → Prop} {xs : List S37} {V V' V1 : World}
theorem F2.step (h : F2 g11 ve vv w2 ok xs V) (hd : Below V.heap.size V V') : F2 g11 ve vv w2 ok xs V' := by
  obtain ⟨v, hv, hr⟩ := h.bx
  exact ⟨⟨v, bb_ hv hd, Kd.zL hr hd⟩, h.K.step hd, h.lt⟩
theorem F2.but {g : Nat} (h : F2 g11 ve vv w2 (fun _ => True) xs V) (hd : Below V.heap.size V V') (hg : V.heap.size ≤ g) : F2 g11 ve vv w2 (fun k => k ≠ g) xs V' := by
  obtain ⟨v, hv, hr⟩ := h.bx
  exact ⟨⟨v, bb_ hv hd, R_but hr hd hg⟩, h.K.step hd, h.lt⟩
theorem F2.done (h : F2 g11 ve vv w2 ok xs V) : F2 g11 ve vv w2 (fun _ => True) xs V := by
  obtain ⟨v, hv, hr⟩ := h.bx
  exact ⟨⟨v, hv, Kd.xF hr (fun _ _ => trivial)⟩, h.K, h.lt⟩
theorem F2.set {gn : Nat} {c : Array Value} (h : F2 g11 ve vv w2 (fun k => k ≠ gn) xs V) (hx : V.heap[gn]? = some (.cells c 37 (0, 0))) (hn : w2.heap.size ≤ gn) (j : Nat) (u : Value) : F2 g11 ve vv w2 (fun k => k ≠ gn) xs (V.setCell ⟨gn, j, none⟩ u) := by
  obtain ⟨v, hv, hr⟩ := h.bx
  have hne : g11 ≠ gn := by have := h.lt; omega
  exact ⟨⟨v, (zR V ⟨gn, j, none⟩ u).blk hv hne, Kd.R_far hr (fun k hk => hk) u⟩, h.K.low ((zR V ⟨gn, j, none⟩ u).below hn), h.lt⟩
theorem F2.grow {v v1 : Value} {L : List S37} (h : F2 g11 ve vv w2 ok xs V) (hv : V.heap[g11]? = some (.cells #[vv, v, ve, .slice none 0 0] 47 (0, 0))) (hr : Kd.R k37 37 V w2.heap.size ok v xs) (ho : Kd.R k37 37 V1 w2.heap.size ok v1 L) (hb : Below w2.heap.size V V1) (hg : V.grownBy V1 v.ownBlock) :
    F2 g11 ve vv w2 ok L (V1.setCell ⟨g11, 1, none⟩ v1) := by
  have hk := zK hv hg (Kd.uX hr hv (by decide))
  exact ⟨⟨v1, yP hk 1 v1, Kd.vW ho hk (by decide) 1 v1⟩, (h.K.low hb).one (zR V1 ⟨g11, 1, none⟩ v1), h.lt⟩
end
theorem starts_len (ls : List S32) (ss : List S80) (k : Nat) : ((ss.take k).foldl (uD ls) []).length ≤ k := by
  induction k with
  | zero => simp
  | succ k ih =>
    by_cases h : k < ss.length
    · rw [List.take_succ_eq_append_getElem h, List.foldl_append]
      generalize (ss.take k).foldl (uD ls) [] = z at ih ⊢
      show (uD ls z ss[k]).length ≤ k + 1
      unfold uD
      split
      · omega
      · rw [List.length_append]; simp; omega
    · rw [List.take_of_length_le (by omega)]
      rw [List.take_of_length_le (by omega)] at ih
      omega
theorem startS_eq (ls : List S32) (out : List S80) (s : S80) : uD ls out s = if (rdA ls s.f0.f0).f1 = 0 then out else out ++ [startN (rdA ls s.f0.f0) s] := rfl
theorem right_low {n d : Int} (h : yU n d = true) : -9223372036854775808 < n := by
  unfold yU at h
  simp only [Bool.and_eq_true, decide_eq_true_eq] at h
  omega
structure F4 (g11 : Nat) (ve vv vn : Value) (w2 : World) (ok : Nat → Prop) (xs : List S80) (V : World) : Prop where
  bx : ∃ v, V.heap[g11]? = some (.cells #[vv, vn, ve, v] 47 (0, 0)) ∧ Kd.R k80 80 V w2.heap.size ok v xs
  K : KB g11 w2 V
  lt : g11 < w2.heap.size
section
variable {g11 : Nat} {ve vv vn : Value} {w2 : World} {ok : Nat → Prop} {xs : List S80} {V V' V1 : World}
theorem F4.step (h : F4 g11 ve vv vn w2 ok xs V) (hd : Below V.heap.size V V') : F4 g11 ve vv vn w2 ok xs V' := by
  obtain ⟨v, hv, hr⟩ := h.bx
  exact ⟨⟨v, bb_ hv hd, Kd.zL hr hd⟩, h.K.step hd, h.lt⟩
theorem F4.but {g : Nat} (h : F4 g11 ve vv vn w2 (fun _ => True) xs V) (hd : Below V.heap.size V V') (hg : V.heap.size ≤ g) : F4 g11 ve vv vn w2 (fun k => k ≠ g) xs V' := by
  obtain ⟨v, hv, hr⟩ := h.bx
  exact ⟨⟨v, bb_ hv hd, R_but hr hd hg⟩, h.K.step hd, h.lt⟩
theorem F4.done (h : F4 g11 ve vv vn w2 ok xs V) : F4 g11 ve vv vn w2 (fun _ => True) xs V := by
  obtain ⟨v, hv, hr⟩ := h.bx
  exact ⟨⟨v, hv, Kd.xF hr (fun _ _ => trivial)⟩, h.K, h.lt⟩
theorem F4.set {gn : Nat} (h : F4 g11 ve vv vn w2 (fun k => k ≠ gn) xs V) (hn : w2.heap.size ≤ gn) (j : Nat) (u : Value) : F4 g11 ve vv vn w2 (fun k => k ≠ gn) xs (V.setCell ⟨gn, j, none⟩ u) := by
  obtain ⟨v, hv, hr⟩ := h.bx
  have hne : g11 ≠ gn := by have := h.lt; omega
  exact ⟨⟨v, (zR V ⟨gn, j, none⟩ u).blk hv hne, Kd.R_far hr (fun k hk => hk) u⟩, h.K.low ((zR V ⟨gn, j, none⟩ u).below hn), h.lt⟩
theorem F4.grow {v v1 : Value} {L : List S80} (h : F4 g11 ve vv vn w2 ok xs V) (hv : V.heap[g11]? = some (.cells #[vv, vn, ve, v] 47 (0, 0))) (hr : Kd.R k80 80 V w2.heap.size ok v xs) (ho : Kd.R k80 80 V1 w2.heap.size ok v1 L) (hb : Below w2.heap.size V V1) (hg : V.grownBy V1 v.ownBlock) :
    F4 g11 ve vv vn w2 ok L (V1.setCell ⟨g11, 3, none⟩ v1) := by
  have hk := zK hv hg (Kd.uX hr hv (by decide))
  exact ⟨⟨v1, yP hk 3 v1, Kd.vW ho hk (by decide) 3 v1⟩, (h.K.low hb).one (zR V1 ⟨g11, 3, none⟩ v1), h.lt⟩
end
def noteA (tv : List Int) (a : S32) : S32 := if a.f1 ≠ 0 then ⟨rd tv a.f0, a.f1⟩ else a
def lsK (l : List S32) (tv : List Int) (k : Nat) : List S32 := (List.range k).map fun (i : Nat) => noteA tv (ofA l (i : Int))
theorem listA_eq (l : List S32) (tv : List Int) (n : Nat) : qQ l tv n = lsK l tv n := rfl
theorem fin38 {base : Nat} {ok : Nat → Prop} (f : rG) (Av : Option Addr) (cv : Nat) (An : Option Addr) (cn : Nat) (Ae : Option Addr) (ce : Nat) (As : Option Addr) (cs : Nat) (w : World) (hF : FlatC f Av cv An cn Ae ce As cs w) (hvl : f.vars.length ≤ 100) (hsl : f.yM.length ≤ 2932031007402) (hst : ∀ s ∈ f.yM, StartOK f.vars.length s)
    (L : List S37) (A3 : Option Addr) (c3 : Nat) (hL : Kd.C k37 w A3 L.length L) (hL4 : L.length ≤ 4000) (hv : ∀ x ∈ L, x.f0 = 2 → 0 ≤ x.f5.f0 ∧ x.f5.f0 < (f.vars.length : Int)) (A4 : Option Addr) (n4 c4 : Nat)
    (l : List S32) (A2 : Option Addr) (c2 : Nat) (hR : Kd.R k32 53 w base ok (.slice A2 l.length c2) l) (hf : FOK l) (hl : l.length = f.vars.length) :
    Calls Try.prog 38 #[.agg (flA f Av cv An cn Ae ce As cs), .slice A3 L.length c3, .slice A4 n4 c4, .slice A2 l.length c2] w fun e w' => ∃ vv vn vs vl, e = .returned (.tuple #[.agg #[vv, vn, .slice A4 n4 c4, vs], vl, .int .i64 0]) ∧
      Kd.R k59 59 w' w.heap.size (fun _ => True) vv (vC f.vars l f.vars.length).1 ∧ Kd.R k37 37 w' w.heap.size (fun _ => True) vn (L.map (renV (vC f.vars l f.vars.length).2)) ∧
      Kd.R k80 80 w' w.heap.size (fun _ => True) vs (f.yM.foldl (uD (qQ l (vC f.vars l f.vars.length).2 f.vars.length)) []) ∧ Kd.R k32 53 w' w.heap.size (fun _ => True) vl (qQ l (vC f.vars l f.vars.length).2 f.vars.length) ∧ Below w.heap.size w w' := by
  have hu47 := Try.underlying47
  have HF := aq hF
  have HVL := aq hvl
  have HSL := aq hsl
  have HST := aq hst
  have HL := aq hL
  have HL4 := aq hL4
  have HV := aq hv
  have HOF := aq (fun (V : World) (h : Below w.heap.size w V) (v : Int) (v0 : 0 ≤ v) (v1 : v < (f.vars.length : Int)) => show Calls Try.prog 61 #[.slice A2 f.vars.length c2, .int .i64 v] V fun e w' => e = .returned (.agg #[.int .i64 (ofA l v).f0, .int .i64 (ofA l v).f1]) ∧ Below V.heap.size V w' by rw [← hl]; exact of61 l A2 c2 V (Kd.zL hR h) hf v v0 (by rw [hl]; exact v1))
  have HFO := aq hf
  have HLL := aq hl
  rw [hl]
  clear hl hF hvl hsl hst hL hL4 hv hR hf
  obtain ⟨fl, hfl⟩ : ∃ fl, flA f Av cv An cn Ae ce As cs = fl := ⟨_, rfl⟩
  have HFL := aq hfl
  rw [hfl]
  have GF := aq (heap_alloc_last w (.cells fl 47))
  clear hfl
  have G8 := aq (heap_alloc_last (w.alloc (.cells fl 47)) (.cells #[.slice none 0 0, .slice none 0 0, .slice none 0 0, .slice none 0 0] 47))
  have G11 := aq (heap_alloc_last ((w.alloc (.cells fl 47)).alloc (.cells #[.slice none 0 0, .slice none 0 0, .slice none 0 0, .slice none 0 0] 47)) (.cells #[.slice none 0 0, .slice none 0 0, .slice A4 n4 c4, .slice none 0 0] 47))
  have GF3 := aq (zM (zM GF.out (.cells #[.slice none 0 0, .slice none 0 0, .slice none 0 0, .slice none 0 0] 47)) (.cells #[.slice none 0 0, .slice none 0 0, .slice A4 n4 c4, .slice none 0 0] 47))
  have G83 := aq (zM G8.out (.cells #[.slice none 0 0, .slice none 0 0, .slice A4 n4 c4, .slice none 0 0] 47))
  have B3 := aq (zY (zY (zY (Below.refl w.heap.size w) (.cells fl 47)) (.cells #[.slice none 0 0, .slice none 0 0, .slice none 0 0, .slice none 0 0] 47)) (.cells #[.slice none 0 0, .slice none 0 0, .slice A4 n4 c4, .slice none 0 0] 47))
  clear GF G8
  rw [show (w.alloc (.cells fl 47)).heap.size = w.heap.size + 1 by simp] at G83
  rw [show ((w.alloc (.cells fl 47)).alloc (.cells #[.slice none 0 0, .slice none 0 0, .slice none 0 0, .slice none 0 0] 47)).heap.size = w.heap.size + 1 + 1 by simp] at G11
  go_enter Try.func38, Try.ntmps38
  go_upto_region 2 with fail
  generalize ((w.alloc (.cells fl 47)).alloc (.cells #[.slice none 0 0, .slice none 0 0, .slice none 0 0, .slice none 0 0] 47)).alloc (.cells #[.slice none 0 0, .slice none 0 0, .slice A4 n4 c4, .slice none 0 0] 47) = W3 at GF3 G83 G11 B3 ⊢
  have f0 := (bq GF3.out 0).trans (show _ = some (.slice Av f.vars.length cv) by rw [← HFL.out]; rfl)
  go_upto_region 3 with (first | ((with_reducible refine gD (N := 28) rfl ?_); refine Kd.R_make (Kd.int .i64) (w0 := w) w.heap.size 3 rfl (N := 28) rfl 23 _ _ rfl (f.vars.length : Int) rfl rfl Try.underlying23 (.int .i64 0) 8 sV rfl (by decide) (by omega) 0 (ok := fun _ => True) (okp := fun _ => True) rfl (fun _ hk => hk) trivial (by omega) (by rw [Int.toNat_natCast]; have := HVL.out; omega) ?hb0 ?hs0 ?_; (case hb0 => exact B3.out); (case hs0 => exact B3.out.size); intro v3 w3 hr3 hb3 hg_ hnew_; rw [Int.toNat_natCast] at hr3; obtain ⟨At, ct, ev⟩ := Kd.yT hr3; subst ev; rw [List.length_replicate] at hr3 ⊢; have H0 := aq (show F1 w.heap.size (w.heap.size + 1) (w.heap.size + 1 + 1) fl (.slice A4 n4 c4) At f.vars.length ct w (fun _ => True) (vC f.vars l 0) w3 from ⟨⟨_, zK G11.out hg_ (by simp), Kd.rK _ _ _ _ _⟩, hr3, zK GF3.out hg_ (by simp), zK G83.out hg_ (by simp), hb3, by omega, by omega, by omega⟩); clear hr3 hb3 hg_ hnew_ GF3 G83 G11 B3 f0))
  have GE8 := aq (show w.heap.size ≤ w.heap.size + 1 by omega)
  have NE := aq (show w.heap.size ≠ w.heap.size + 1 + 1 ∧ w.heap.size + 1 ≠ w.heap.size + 1 + 1 by omega)
  generalize w.heap.size + 1 + 1 = g11 at H0 NE ⊢
  generalize w.heap.size + 1 = g8 at H0 NE GE8 ⊢
  have f0 := (bq H0.out.bf 0).trans (show _ = some (.slice Av f.vars.length cv) by rw [← HFL.out]; rfl)
  go_wp2
  clear f0
  go_loopw [32] (fun i wr => ∃ (j : Int), 0 ≤ j ∧ j ≤ (f.vars.length : Int) ∧ i = .int .i64 j ∧ zT (F1 w.heap.size g8 g11 fl (.slice A4 n4 c4) At f.vars.length ct w (fun _ => True) (vC f.vars l j.toNat) wr)) (fun i _ => f.vars.length - (intOf i).toNat)
  case atStart => exact ⟨0, Int.le_refl _, by omega, rfl, H0⟩
  case round =>
    obtain ⟨j, j0, j1, rfl, H⟩ := hrel
    clear H0
    by_cases hlt : j < (f.vars.length : Int)
    · have hsu := finV_succ f.vars l j.toNat
      have hjn : ((j.toNat : Nat) : Int) = j := by omega
      rw [hjn] at hsu
      have HW := aq (show wrap64 (j + 1) = j + 1 by unfold wrap64; have := HVL.out; omega)
      have fin : ∀ (V : World) (st' : List S59 × List Int), vC f.vars l (j.toNat + 1) = st' → F1 w.heap.size g8 g11 fl (.slice A4 n4 c4) At f.vars.length ct w (fun _ => True) st' V →
          (∃ (j_1 : Int), 0 ≤ j_1 ∧ j_1 ≤ (f.vars.length : Int) ∧ (Value.int .i64 (wrap64 (j + 1))) = .int .i64 j_1 ∧ zT (F1 w.heap.size g8 g11 fl (.slice A4 n4 c4) At f.vars.length ct w (fun _ => True) (vC f.vars l j_1.toNat) V)) ∧ f.vars.length - (intOf (.int .i64 (wrap64 (j + 1)))).toNat < f.vars.length - (intOf (.int .i64 j)).toNat := fun V st' hs h => by
        have hw := HW.out
        subst hs
        rw [hw]
        refine ⟨⟨j + 1, by omega, by omega, rfl, ?_⟩, ?_⟩
        · rw [show (j + 1).toNat = j.toNat + 1 by omega]; exact ⟨h⟩
        · simp only [intOf]; omega
      obtain ⟨hrl1, hrl2⟩ := finV_len f.vars l j.toNat
      have HLN := aq (show (vC f.vars l j.toNat).1.length ≤ 100 by have := HVL.out; omega)
      generalize vC f.vars l j.toNat = st at H hsu hrl1 HLN
      obtain ⟨gv, _, ev, _⟩ := Kd.uK H.out.tv (by rw [hrl1]; omega)
      injection ev with ev e2 e3
      clear e2 e3
      subst ev
      have FIN := aq fin
      have HJ := aq j0
      have HLT := aq hlt
      have HSU := aq hsu
      obtain ⟨ad, eA, hnd⟩ := var_at (Kd.xZ HF.out.vars H.out.B) j j0 hlt
      subst eA
      have HND := aq hnd
      generalize zJ z59 f.vars j = x at HND HSU
      have HOFJ := aq (fun (V : World) (h : Below w.heap.size w V) => HOF.out V h j HJ.out HLT.out)
      generalize ofA l j = a at HOFJ HSU
      obtain ⟨a0, a1⟩ := a
      dsimp only at HSU HOFJ
      clear fin HW j1 hjn hnd hsu hrl1 hrl2
      go_upto_region 6 with (first | ((with_reducible refine yY 59 ?_); refine xC (t := 59) (cs := (varA x).toList) rfl (by kernel_rfl) (by kernel_rfl) HND.out ?_) | ((with_reducible refine gD (N := 14) rfl ?_); refine bE ?hg (N := 14) ?hd (cs := varA ⟨ByteArray.empty, z35⟩) (t := 59) ?hr ?_; (case hd => rfl); (case hg => rfl); (case hr => first | (go_simp; done) | (go_simp; rfl)); intro gn hgn w5 hbox hb; have HX0 := aq hbox; have HB5 := aq hb; have GN := aq (show wr.heap.size ≤ gn by rw [hgn]; exact Nat.le_refl _); clear hbox hb hgn) | ((with_reducible refine xN 14 ?_); refine ev_st59 (g := gn) (x := x) rfl rfl HX0.out rfl ?_; intro w6 hx6 h6; have HX := aq hx6; have T := aq (H.out.but (HB5.out.trans (h6.below GN.out)) GN.out); clear hx6 h6 HX0 HB5 GN H))
      by_cases hc : a0 = j ∧ a1 = 1
      · have HS := aq (HSU.out.trans (if_pos hc))
        obtain ⟨hc0, hc1⟩ := hc
        have hc0 := hc0.symm
        subst hc0
        subst hc1
        clear HSU
        go_upto_region 8 with (go_at_call 61; refine (HOFJ.out _ T.out.B).mono ?_; rintro e w7 ⟨rfl, hd⟩; have T2 := aq (T.out.step hd); have HX2 := aq (bb_ HX.out hd); clear hd T HX HOFJ; have T := T2; have HX := HX2; clear T2 HX2; obtain ⟨v, hv0, hr0⟩ := T.out.bx; obtain ⟨A5, c5, e5⟩ := Kd.yT hr0; subst e5; have HV0 := aq hv0; have HR0 := aq hr0; clear hr0; have y0 := (bq hv0 0).trans (show _ = some (.slice A5 st.1.length c5) from rfl); clear hv0; have z9 := (Kd.yZ 0 T.out.tv j HJ.out HLT.out).1; have f9 := (Kd.yZ 0 T.out.tv j HJ.out HLT.out).2)
        have T2 := aq (T.out.put j (st.1.length : Int))
        obtain ⟨ct', hct⟩ := Kd.tW T.out.tv gv rfl
        have HX2 := aq ((Below.heap_setCell w7 ⟨gv, j.toNat, none⟩ (.int .i64 (st.1.length : Int)) gn (rN HX.out hct (by decide))).trans HX.out)
        clear T HX hct y0 z9 f9 HV0 HR0
        have T := T2
        have HX := HX2
        clear T2 HX2
        generalize w7.setCell ⟨gv, j.toNat, none⟩ (.int .i64 (st.1.length : Int)) = w8 at T HX ⊢
        obtain ⟨v, hv0, hr0⟩ := T.out.bx
        obtain ⟨A5, c5, e5⟩ := Kd.yT hr0
        subst e5
        have HV0 := aq hv0
        have HR0 := aq hr0
        have y0 := (bq hv0 0).trans (show _ = some (.slice A5 st.1.length c5) from rfl)
        clear hv0 hr0
        go_wp2_with (first | ((with_reducible refine gD (N := 51) rfl ?_); (with_reducible refine yY 59 ?_); refine ev_ld (g := gn) (t := 59) (n := 15) (c := varA x) rfl HX.out (by kernel_rfl) (by kernel_rfl) rfl ?_) | ((with_reducible refine gD (N := 52) rfl ?_); refine Kd.xW rfl (vA (x := x) rfl) ?_) | ((with_reducible refine zA (b := .append) (xs := #[.tmp 50, .tmp 52]) rfl ?_); at_builtin; refine Kd.xY k59 (w0 := w) w.heap.size rfl (.tmp 50) (.tmp 52) 44 59 _ 128 rfl Try.underlying44 oS rfl (by decide) (by omega) _ st.1 x (varA x).toList (fun k => k ≠ gn) (fun _ => False) rfl rfl ?aP (fun _ hk => hk.elim) ?aF ?aO ?aB ?aS ?aL ?_; (case aP => exact pZ _ _ _ x); (case aB => exact T.out.B); (case aF => exact fun k hk => by have := zN HX.out; show k ≠ gn; omega); (case aO => exact HR0.out); (case aS => exact T.out.B.size); (case aL => have := HLN.out; omega); intro v1 w9 ho hb hg hat; have hx9 := zK HV0.out hg (Kd.uX HR0.out HV0.out (by decide)); have T2 := aq (T.out.grow HV0.out HR0.out ho hb hg); obtain ⟨A6, c6, e6⟩ := Kd.yT ho; subst e6; clear y0 ho hb hg hat T; have T := T2; clear T2; have y0 := (bq hx9 0).trans (show _ = some (.slice A5 st.1.length c5) from rfl); have yf := bf_ hx9 0; clear hx9))
        exact FIN.out _ _ HS.out (by
          have := T.out.done
          rw [show (st.1 ++ [x]).length = st.1.length + 1 by simp] at this
          exact this)
      · have HS := aq (HSU.out.trans (if_neg hc))
        clear HSU
        go_wp2_with (go_at_call 61; refine (HOFJ.out _ T.out.B).mono ?_; rintro e w7 ⟨rfl, hd⟩; have T2 := aq (T.out.step hd); have HX2 := aq (bb_ HX.out hd); clear hd T HX HOFJ; have T := T2; have HX := HX2; clear T2 HX2; obtain ⟨v, hv0, hr0⟩ := T.out.bx; obtain ⟨A5, c5, e5⟩ := Kd.yT hr0; subst e5; have HV0 := aq hv0; have HR0 := aq hr0; clear hr0; have y0 := (bq hv0 0).trans (show _ = some (.slice A5 st.1.length c5) from rfl); clear hv0; have z9 := (Kd.yZ 0 T.out.tv j HJ.out HLT.out).1; have f9 := (Kd.yZ 0 T.out.tv j HJ.out HLT.out).2)
        all_goals exact FIN.out _ _ HS.out T.out.done
    · obtain rfl : j = (f.vars.length : Int) := by omega
      rw [Int.toNat_natCast] at H
      have d1 := eq_false (show ¬ (f.vars.length : Int) < (f.vars.length : Int) by omega)
      have htl : (vC f.vars l f.vars.length).2.length = f.vars.length := (finV_len f.vars l f.vars.length).1
      obtain ⟨res, hres⟩ : ∃ r, vC f.vars l f.vars.length = r := ⟨_, rfl⟩
      rw [hres] at H htl
      have HRES := aq hres
      have HTL := aq htl
      clear hlt j0 j1 hres htl
      obtain ⟨vv, hvv, hrv⟩ := H.out.bx
      have HVV := aq hvv
      have HRV := aq hrv
      clear hvv hrv
      go_wp2
      rename World => w2
      have H0 := aq (show F2 g11 (.slice A4 n4 c4) vv w2 (fun _ => True) [] w2 from ⟨⟨_, HVV.out, Kd.rK _ _ _ _ _⟩, KB.refl _ _, by have := zN HVV.out; omega⟩)
      go_loopw [58] (fun i wr => ∃ (q : Int), 0 ≤ q ∧ q ≤ (L.length : Int) ∧ i = .int .i64 q ∧ zT (F2 g11 (.slice A4 n4 c4) vv w2 (fun _ => True) ((L.take q.toNat).map (renV res.2)) wr)) (fun i _ => L.length - (intOf i).toNat)
      case atStart => exact ⟨0, Int.le_refl _, by omega, rfl, H0⟩
      case round =>
        clear H0
        obtain ⟨q, q0, q1, rfl, H2⟩ := hrel
        by_cases hlt : q < (L.length : Int)
        · have hel : rT L q = L[q.toNat]'(by omega) := by
            unfold rT
            rw [List.getD_eq_getElem?_getD, List.getElem?_eq_getElem (by omega)]; rfl
          have hme : rT L q ∈ L := by rw [hel]; exact List.getElem_mem _
          have htk : (L.take (q + 1).toNat).map (renV res.2) = (L.take q.toNat).map (renV res.2) ++ [renV res.2 (rT L q)] := by
            rw [show (q + 1).toNat = q.toNat + 1 by omega, List.take_succ_eq_append_getElem (by omega), List.map_append, hel]; rfl
          have HTK := aq htk
          have HWR := aq (show wrap64 (q + 1) = q + 1 by unfold wrap64; have := HL4.out; omega)
          have HLN := aq (show ((L.take q.toNat).map (renV res.2)).length ≤ 4000 by have := HL4.out; rw [List.length_map, List.length_take]; omega)
          have hvx := HV.out _ hme
          have HBW := aq (show Below w.heap.size w wr from H.out.B.trans (H2.out.K.below H.out.ge H.out.B.size))
          obtain ⟨ad, eA, hnd⟩ := node_at HL.out HBW.out (Nat.le_refl _) q q0 hlt
          subst eA
          have HND := aq hnd
          have HVX := aq hvx
          obtain ⟨y, hy⟩ : ∃ y, renV res.2 (rT L q) = y := ⟨_, rfl⟩
          rw [hy] at HTK
          have HY := aq hy
          generalize rT L q = x at HND HVX HY
          generalize (L.take q.toNat).map (renV res.2) = xs at H2 HTK HLN
          clear hel hme htk hvx hnd hy
          go_upto_region 13 with (first | ((with_reducible refine yY 37 ?_); refine xC (t := 37) (cs := wY x) rfl (by kernel_rfl) (by kernel_rfl) HND.out ?_) | ((with_reducible refine gD (N := 16) rfl ?_); refine bE ?hg (N := 16) ?hd (cs := zC z37) (t := 37) ?hr ?_; (case hd => rfl); (case hg => rfl); (case hr => first | (go_simp; done) | (go_simp; rfl)); intro gn hgn w5 hbox hb; have HX0 := aq hbox; have HB5 := aq hb; have GN := aq (show wr.heap.size ≤ gn by rw [hgn]; exact Nat.le_refl _); clear hbox hb hgn) | ((with_reducible refine xN 16 ?_); refine wV (g := gn) (x := x) rfl rfl HX0.out (xX _) ?_; intro w6 hx6 h6; have HX := aq hx6; have T := aq (H2.out.but (HB5.out.trans (h6.below GN.out)) GN.out); have GN2 := aq (Nat.le_trans H2.out.K.size GN.out); clear hx6 h6 HX0 HB5 GN H2))
          have zk := (bq HX.out 0).trans (show _ = some (.int .i64 x.f0) from rfl)
          by_cases hk : x.f0 = 2
          · obtain ⟨o0, o1⟩ := HVX.out hk
            have hy := HY.out
            unfold renV at hy
            rw [if_pos hk] at hy
            obtain ⟨gv, _, ev, _⟩ := Kd.uK H.out.tv (by rw [HTL.out]; omega)
            injection ev with ev e2 e3
            clear e2 e3
            subst ev
            have zt := (Kd.yZ 0 (T.out.K.R H.out.tv HVV.out (by decide)) x.f5.f0 o0 o1).1.trans (show _ = some (.int .i64 (rd res.2 x.f5.f0)) from rfl)
            have z6 := (bq HX.out 6).trans (show _ = some (.int .i64 x.f5.f0) from rfl)
            have q6 := bf_ HX.out 6
            generalize rd res.2 x.f5.f0 = r at zt hy
            go_upto_region 15 with fail
            have T2 := aq (T.out.set HX.out GN2.out 6 (.int .i64 r))
            have HX2 := aq (show (w6.setCell ⟨gn, 6, none⟩ (.int .i64 r)).heap[gn]? = some (.cells (zC y) 37 (0, 0)) by
              rw [← hy]
              exact yP HX.out 6 (.int .i64 r))
            clear T HX zt z6 q6 zk hy o0 o1
            have T := T2
            have HX := HX2
            clear T2 HX2
            generalize w6.setCell ⟨gn, 6, none⟩ (.int .i64 r) = w8 at T HX ⊢
            obtain ⟨v, hv0, hr0⟩ := T.out.bx
            obtain ⟨A5, c5, e5⟩ := Kd.yT hr0
            subst e5
            have HV0 := aq hv0
            have HR0 := aq hr0
            have y0 := (bq hv0 1).trans (show _ = some (.slice A5 xs.length c5) from rfl)
            clear hv0 hr0
            go_wp2_with (first | ((with_reducible refine gD (N := 75) rfl ?_); (with_reducible refine yY 37 ?_); refine uT (g := gn) (x := y) rfl HX.out ?_) | ((with_reducible refine gD (N := 76) rfl ?_); refine Kd.xW rfl (vT (x := y) rfl) ?_) | ((with_reducible refine zA (b := .append) (xs := #[.tmp 74, .tmp 76]) rfl ?_); at_builtin; refine Kd.xY k37 (w0 := w8) w2.heap.size rfl (.tmp 74) (.tmp 76) 22 37 _ 176 rfl Try.underlying22 pF rfl (by decide) (by omega) _ xs y (wY y) (fun k => k ≠ gn) (fun _ => False) rfl rfl ?aP (fun _ hk => hk.elim) ?aF ?aO ?aB ?aS ?aL ?_; (case aP => exact rB _ _ _ y); (case aB => exact Below.refl _ _); (case aF => exact fun k hk => by have := zN HX.out; show k ≠ gn; omega); (case aO => exact HR0.out); (case aS => exact T.out.K.size); (case aL => have := HLN.out; omega); intro v1 w9 ho hb hg hat; have hx9 := zK HV0.out hg (Kd.uX HR0.out HV0.out (by decide)); have T2 := aq (T.out.grow HV0.out HR0.out ho hb hg); obtain ⟨A6, c6, e6⟩ := Kd.yT ho; subst e6; clear y0 ho hb hg hat T; have T := T2; clear T2; have y0 := (bq hx9 1).trans (show _ = some (.slice A5 xs.length c5) from rfl); have yf := bf_ hx9 1; clear hx9))
            rw [HWR.out]
            refine ⟨⟨q + 1, by omega, by omega, rfl, ⟨?_⟩⟩, ?_⟩
            · rw [HTK.out]
              have := T.out.done
              rw [show (xs ++ [y]).length = xs.length + 1 by simp] at this
              exact this
            · simp only [intOf]; omega
          · have hy := HY.out
            unfold renV at hy
            rw [if_neg hk] at hy
            subst hy
            go_upto_region 15 with fail
            obtain ⟨v, hv0, hr0⟩ := T.out.bx
            obtain ⟨A5, c5, e5⟩ := Kd.yT hr0
            subst e5
            have HV0 := aq hv0
            have HR0 := aq hr0
            have y0 := (bq hv0 1).trans (show _ = some (.slice A5 xs.length c5) from rfl)
            clear hv0 hr0
            go_wp2_with (first | ((with_reducible refine gD (N := 75) rfl ?_); (with_reducible refine yY 37 ?_); refine uT (g := gn) (x := x) rfl HX.out ?_) | ((with_reducible refine gD (N := 76) rfl ?_); refine Kd.xW rfl (vT (x := x) rfl) ?_) | ((with_reducible refine zA (b := .append) (xs := #[.tmp 74, .tmp 76]) rfl ?_); at_builtin; refine Kd.xY k37 (w0 := w6) w2.heap.size rfl (.tmp 74) (.tmp 76) 22 37 _ 176 rfl Try.underlying22 pF rfl (by decide) (by omega) _ xs x (wY x) (fun k => k ≠ gn) (fun _ => False) rfl rfl ?aP (fun _ hk => hk.elim) ?aF ?aO ?aB ?aS ?aL ?_; (case aP => exact rB _ _ _ x); (case aB => exact Below.refl _ _); (case aF => exact fun k hk => by have := zN HX.out; show k ≠ gn; omega); (case aO => exact HR0.out); (case aS => exact T.out.K.size); (case aL => have := HLN.out; omega); intro v1 w9 ho hb hg hat; have hx9 := zK HV0.out hg (Kd.uX HR0.out HV0.out (by decide)); have T2 := aq (T.out.grow HV0.out HR0.out ho hb hg); obtain ⟨A6, c6, e6⟩ := Kd.yT ho; subst e6; clear y0 ho hb hg hat T; have T := T2; clear T2; have y0 := (bq hx9 1).trans (show _ = some (.slice A5 xs.length c5) from rfl); have yf := bf_ hx9 1; clear hx9))
            rw [HWR.out]
            refine ⟨⟨q + 1, by omega, by omega, rfl, ⟨?_⟩⟩, ?_⟩
            · rw [HTK.out]
              have := T.out.done
              rw [show (xs ++ [x]).length = xs.length + 1 by simp] at this
              exact this
            · simp only [intOf]; omega
        · obtain rfl : q = (L.length : Int) := by omega
          rw [Int.toNat_natCast, List.take_length] at H2
          have d2 := eq_false (show ¬ (L.length : Int) < (L.length : Int) by omega)
          obtain ⟨vn, hvn, hrn⟩ := H2.out.bx
          have HVN := aq hvn
          have HRN := aq hrn
          have B3 := aq (show Below w.heap.size w wr from H.out.B.trans (H2.out.K.below H.out.ge H.out.B.size))
          have TV := aq (H2.out.K.R H.out.tv HVV.out (by decide))
          have RV := aq (H2.out.K.R HRV.out HVV.out (by decide))
          have BF := aq (H2.out.K.blk H.out.bf NE.out.1)
          have B8 := aq (H2.out.K.blk H.out.b8 NE.out.2)
          have GE := aq (Nat.le_trans H.out.B.size H2.out.K.size)
          have GE1 := aq H.out.ge
          have RN := aq (Kd.vJ hrn H.out.B.size)
          have f0 := (bq BF.out 0).trans (show _ = some (.slice Av f.vars.length cv) by rw [← HFL.out]; rfl)
          clear hlt q0 q1 hvn hrn HRN H2 HRV HVV H HL HV HL4
          go_wp2
          clear f0
          rename World => w3
          have hs3 : ∀ k : Nat, lsK l res.2 (k + 1) = lsK l res.2 k ++ [noteA res.2 (ofA l (k : Int))] := fun k => by
            unfold lsK; rw [List.range_succ, List.map_append]; rfl
          have HS3 := aq hs3
          have H0 := aq (Kd.rK k32 53 w3 w3.heap.size (fun _ => True))
          have HB0 := aq (Below.refl w3.heap.size w3)
          clear hs3
          go_loopw [17, 83] (fun v17 i wr => ∃ (q : Int), 0 ≤ q ∧ q ≤ (f.vars.length : Int) ∧ i = .int .i64 q ∧ zT (Kd.R k32 53 wr w3.heap.size (fun _ => True) v17 (lsK l res.2 q.toNat)) ∧ zT (Below w3.heap.size w3 wr)) (fun _ i _ => f.vars.length - (intOf i).toNat)
          case atStart => exact ⟨0, Int.le_refl _, by omega, rfl, H0, HB0⟩
          case round =>
            clear H0 HB0
            obtain ⟨q, q0, q1, rfl, HO, HB⟩ := hrel
            by_cases hlt : q < (f.vars.length : Int)
            · have hsk := HS3.out q.toNat
              rw [show ((q.toNat : Nat) : Int) = q by omega] at hsk
              have HSK := aq (show lsK l res.2 (q + 1).toNat = lsK l res.2 q.toNat ++ [noteA res.2 (ofA l q)] by rw [show (q + 1).toNat = q.toNat + 1 by omega]; exact hsk)
              have HWR := aq (show wrap64 (q + 1) = q + 1 by unfold wrap64; have := HVL.out; omega)
              have HLN := aq (show (lsK l res.2 q.toNat).length ≤ 100 by have := HVL.out; unfold lsK; rw [List.length_map, List.length_range]; omega)
              have HOFJ := aq (fun (V : World) (h : Below w.heap.size w V) => HOF.out V h q q0 hlt)
              have hae := oH HFO.out q0 (by rw [HLL.out]; exact hlt)
              generalize lsK l res.2 q.toNat = xs at HO HSK HLN
              generalize ofA l q = a at HOFJ HSK hae
              obtain ⟨a0, a1⟩ := a
              dsimp only at HOFJ hae
              have HAE := aq hae
              clear hsk hae
              go_upto_region 22 with (go_at_call 61; refine (HOFJ.out _ (bt_ B3.out HB.out)).mono ?_; rintro e w7 ⟨rfl, hd⟩; have HG7 := aq (Nat.le_trans HB.out.size hd.size); have HB2 := aq (bt_ HB.out hd); have HO2 := aq (R_but HO.out (hd.trans (zY (Below.refl w7.heap.size w7) (.cells #[.int .i64 a0, .int .i64 a1] 53) |>.mono hd.size)) hd.size); clear hd HB HO HOFJ; have HB := aq (zY HB2.out (.cells #[.int .i64 a0, .int .i64 a1] 53)); clear HB2)
              have HX := aq (heap_alloc_last w7 (.cells #[.int .i64 a0, .int .i64 a1] 53))
              generalize w7.alloc (.cells #[.int .i64 a0, .int .i64 a1] 53) = w8 at HX HB HO2 ⊢
              have G19 := aq (show w3.heap.size ≤ w7.heap.size from HG7.out)
              generalize w7.heap.size = g19 at HX HO2 G19 ⊢
              have y1 := (bq HX.out 1).trans (show _ = some (.int .i64 a1) from rfl)
              by_cases hc : a1 = 0
              · have hc1 : ¬ a1 ≠ 0 := fun h => h hc
                obtain ⟨y, hy⟩ : ∃ y : S32, y = ⟨a0, a1⟩ := ⟨_, rfl⟩
                unfold noteA at HSK
                rw [if_neg hc1, ← hy] at HSK
                replace HX := aq (show w8.heap[g19]? = some (.cells (aA y) 53 (0, 0)) by rw [hy]; exact HX.out)
                clear hy
                go_upto_region 24 with fail
                go_wp2_with (first | ((with_reducible refine gD (N := 99) rfl ?_); (with_reducible refine yY 53 ?_); refine ev_ld (g := g19) (t := 53) (n := 2) (c := aA y) rfl HX.out (by kernel_rfl) (by kernel_rfl) rfl ?_) | ((with_reducible refine gD (N := 100) rfl ?_); refine Kd.xW rfl (nL (x := y) rfl) ?_) | ((with_reducible refine zA (b := .append) (xs := #[.tmp 98, .tmp 100]) rfl ?_); at_builtin; refine Kd.xY k32 (w0 := w3) w3.heap.size rfl (.tmp 98) (.tmp 100) 49 53 _ 16 rfl Try.underlying49 info53 rfl (by decide) (by omega) u17 xs y [.int .i64 y.f0, .int .i64 y.f1] (fun k => k ≠ g19) (fun _ => False) rfl rfl ?aP (fun _ hk => hk.elim) ?aF ?aO ?aB ?aS ?aL ?_; (case aP => exact pH _ _ _ y); (case aB => exact HB.out); (case aF => exact fun k hk => by have := zN HX.out; show k ≠ g19; omega); (case aO => exact HO2.out); (case aS => exact HB.out.size); (case aL => have := HLN.out; omega); intro v1 w9 ho hb hg hat; have HO := aq (Kd.xF ho (fun _ _ => trivial)); have HB3 := aq hb; clear ho hb hg hat HO2 HB))
                rw [HWR.out]
                refine ⟨⟨q + 1, by omega, by omega, rfl, ⟨?_⟩, HB3⟩, ?_⟩
                · rw [HSK.out]; exact HO.out
                · simp only [intOf]; omega
              · have hr : 0 ≤ a0 ∧ a0 < (f.vars.length : Int) := by
                  rcases HAE.out with h | h
                  · injection h with _ h; exact absurd h hc
                  · exact ⟨h.1.1, by rw [← HLL.out]; exact h.1.2.1⟩
                obtain ⟨o0, o1⟩ := hr
                obtain ⟨gv, _, ev, _⟩ := Kd.uK TV.out (by rw [HTL.out]; omega)
                injection ev with ev e2 e3
                clear e2 e3
                subst ev
                have zt := (Kd.yZ 0 (Kd.zL TV.out HB.out) a0 o0 o1).1.trans (show _ = some (.int .i64 (rd res.2 a0)) from rfl)
                have y0 := (bq HX.out 0).trans (show _ = some (.int .i64 a0) from rfl)
                have q0' := bf_ HX.out 0
                unfold noteA at HSK
                rw [if_pos hc] at HSK
                dsimp only at HSK
                generalize rd res.2 a0 = r at zt HSK
                go_upto_region 24 with fail
                obtain ⟨y, hy⟩ : ∃ y : S32, y = ⟨r, a1⟩ := ⟨_, rfl⟩
                rw [← hy] at HSK
                have HX2 := aq (show (w8.setCell ⟨g19, 0, none⟩ (.int .i64 r)).heap[g19]? = some (.cells (aA y) 53 (0, 0)) by rw [hy]; exact yP HX.out 0 (.int .i64 r))
                have HO3 := aq (Kd.R_far HO2.out (p := ⟨g19, 0, none⟩) (fun k hk => hk) (.int .i64 r))
                have HB4 := aq (bs_ (g := g19) (j := 0) (v := .int .i64 r) HB.out G19.out)
                clear HX HO2 HB zt y0 y1 q0' hy o0 o1
                have HX := HX2
                have HO2 := HO3
                have HB := HB4
                clear HX2 HO3 HB4
                generalize w8.setCell ⟨g19, 0, none⟩ (.int .i64 r) = w10 at HX HO2 HB ⊢
                go_wp2_with (first | ((with_reducible refine gD (N := 99) rfl ?_); (with_reducible refine yY 53 ?_); refine ev_ld (g := g19) (t := 53) (n := 2) (c := aA y) rfl HX.out (by kernel_rfl) (by kernel_rfl) rfl ?_) | ((with_reducible refine gD (N := 100) rfl ?_); refine Kd.xW rfl (nL (x := y) rfl) ?_) | ((with_reducible refine zA (b := .append) (xs := #[.tmp 98, .tmp 100]) rfl ?_); at_builtin; refine Kd.xY k32 (w0 := w3) w3.heap.size rfl (.tmp 98) (.tmp 100) 49 53 _ 16 rfl Try.underlying49 info53 rfl (by decide) (by omega) u17 xs y [.int .i64 y.f0, .int .i64 y.f1] (fun k => k ≠ g19) (fun _ => False) rfl rfl ?aP (fun _ hk => hk.elim) ?aF ?aO ?aB ?aS ?aL ?_; (case aP => exact pH _ _ _ y); (case aB => exact HB.out); (case aF => exact fun k hk => by have := zN HX.out; show k ≠ g19; omega); (case aO => exact HO2.out); (case aS => exact HB.out.size); (case aL => have := HLN.out; omega); intro v1 w9 ho hb hg hat; have HO := aq (Kd.xF ho (fun _ _ => trivial)); have HB3 := aq hb; clear ho hb hg hat HO2 HB))
                rw [HWR.out]
                refine ⟨⟨q + 1, by omega, by omega, rfl, ⟨?_⟩, HB3⟩, ?_⟩
                · rw [HSK.out]; exact HO.out
                · simp only [intOf]; omega
            · obtain rfl : q = (f.vars.length : Int) := by omega
              rw [Int.toNat_natCast, ← listA_eq] at HO
              have d3 := eq_false (show ¬ (f.vars.length : Int) < (f.vars.length : Int) by omega)
              have BF4 := aq (bb_ BF.out HB.out)
              have B84 := aq (bb_ B8.out HB.out)
              have VN4 := aq (bb_ HVN.out HB.out)
              have RV4 := aq (Kd.zL RV.out HB.out)
              have RN4 := aq (Kd.zL RN.out HB.out)
              have B4 := aq (bt_ B3.out HB.out)
              have RL4 := aq (Kd.vJ HO.out (Nat.le_trans B3.out.size (Nat.le_refl _)))
              obtain ⟨A17, c17, e17⟩ := Kd.yT RL4.out
              subst e17
              have LSL := aq (show (qQ l res.2 f.vars.length).length = f.vars.length by unfold qQ; rw [List.length_map, List.length_range])
              have HSL2 := aq (show ∀ s ∈ f.yM, 0 ≤ s.f0.f0 ∧ s.f0.f0 < ((qQ l res.2 f.vars.length).length : Int) from fun s hs => by rw [LSL.out]; exact ⟨(HST.out s hs).v0, (HST.out s hs).v1⟩)
              obtain ⟨ls, hls⟩ : ∃ r, qQ l res.2 f.vars.length = r := ⟨_, rfl⟩
              rw [hls] at RL4 LSL HSL2 ⊢
              have HLSR := aq hls
              clear hls
              have f3 := (bq BF4.out 3).trans (show _ = some (.slice As f.yM.length cs) by rw [← HFL.out]; rfl)
              clear hlt q0 q1 HO HB HS3 BF B8 HVN RV RN B3 TV
              go_wp2
              clear f3
              rename World => w4
              have H0 := aq (show F4 g11 (.slice A4 n4 c4) vv vn w4 (fun _ => True) [] w4 from ⟨⟨_, VN4.out, Kd.rK _ _ _ _ _⟩, KB.refl _ _, by have := zN VN4.out; omega⟩)
              go_loopw [106] (fun i wr => ∃ (q : Int), 0 ≤ q ∧ q ≤ (f.yM.length : Int) ∧ i = .int .i64 q ∧ zT (F4 g11 (.slice A4 n4 c4) vv vn w4 (fun _ => True) ((f.yM.take q.toNat).foldl (uD ls) []) wr)) (fun i _ => f.yM.length - (intOf i).toNat)
              case atStart => exact ⟨0, Int.le_refl _, by omega, rfl, H0⟩
              case round =>
                clear H0
                obtain ⟨q, q0, q1, rfl, H⟩ := hrel
                by_cases hlt : q < (f.yM.length : Int)
                · have hel : zJ z80 f.yM q = f.yM[q.toNat]'(by omega) := by
                    unfold zJ
                    rw [List.getD_eq_getElem?_getD, List.getElem?_eq_getElem (by omega)]; rfl
                  have hme : zJ z80 f.yM q ∈ f.yM := by rw [hel]; exact List.getElem_mem _
                  have htk : (f.yM.take (q + 1).toNat).foldl (uD ls) [] = uD ls ((f.yM.take q.toNat).foldl (uD ls) []) (zJ z80 f.yM q) := by
                    rw [show (q + 1).toNat = q.toNat + 1 by omega, List.take_succ_eq_append_getElem (by omega), List.foldl_append, hel]; rfl
                  have hln : ∀ k : Nat, ((f.yM.take k).foldl (uD ls) []).length ≤ k := starts_len ls f.yM
                  have HTK := aq htk
                  have HWR := aq (show wrap64 (q + 1) = q + 1 by unfold wrap64; have := HSL.out; omega)
                  have HLN := aq (show ((f.yM.take q.toNat).foldl (uD ls) []).length + 1 ≤ 2932031007402 by have := hln q.toNat; have := HSL.out; omega)
                  have HSO := aq (HST.out _ hme)
                  obtain ⟨v0, v1⟩ := HSL2.out _ hme
                  have HBW := aq (show Below w.heap.size w wr from B4.out.trans (H.out.K.below GE1.out B4.out.size))
                  obtain ⟨ad, eA, hnd⟩ := st_at (Kd.xZ HF.out.yM HBW.out) q q0 hlt
                  subst eA
                  have HND := aq hnd
                  have HS0 := aq (show zJ z80 f.yM q = zJ z80 f.yM q from rfl)
                  generalize zJ z80 f.yM q = s at HND HTK HSO v0 v1
                  generalize (f.yM.take q.toNat).foldl (uD ls) [] = xs at H HTK HLN
                  clear hel hme htk hln hnd HS0 HBW
                  go_upto_region 29 with (first | ((with_reducible refine yY 80 ?_); refine xC (t := 80) (cs := startL s) rfl (by kernel_rfl) (by kernel_rfl) HND.out ?_) | ((with_reducible refine gD (N := 21) rfl ?_); refine bE ?hg (N := 21) ?hd (cs := uL z80) (t := 80) ?hr ?_; (case hd => rfl); (case hg => rfl); (case hr => first | (go_simp; done) | (go_simp; rfl)); intro g7 hgn w5 hbox hb; have HX0 := aq hbox; have HB5 := aq hb; have GN := aq (show wr.heap.size ≤ g7 by rw [hgn]; exact Nat.le_refl _); clear hbox hb hgn) | ((with_reducible refine xN 21 ?_); refine ev_st80 (g := g7) (x := s) rfl rfl HX0.out rfl ?_; intro w6 hx6 h6; have HX := aq hx6; have T := aq (H.out.but (HB5.out.trans (h6.below GN.out)) GN.out); have GN2 := aq (Nat.le_trans H.out.K.size GN.out); clear hx6 h6 HX0 HB5 GN H))
                  obtain ⟨gl, el, l0, l1⟩ := tZ (T.out.K.R RL4.out VN4.out (by decide)) v0 v1
                  cases el
                  have y0 := (bq HX.out 0).trans (show _ = some (.int .i64 s.f0.f0) from rfl)
                  rw [startS_eq] at HTK
                  generalize rdA ls s.f0.f0 = a at l0 l1 HTK
                  obtain ⟨a0, a1⟩ := a
                  dsimp only at l0 l1
                  go_upto_region 30 with fail
                  have T2 := aq (T.out.step (zY (Below.refl w6.heap.size w6) (.cells #[.int .i64 a0, .int .i64 a1] 53)))
                  have HX2 := aq (zM HX.out (.cells #[.int .i64 a0, .int .i64 a1] 53))
                  have B22 := aq (heap_alloc_last w6 (.cells #[.int .i64 a0, .int .i64 a1] 53))
                  clear T HX y0 l0 l1
                  have T := T2
                  have HX := HX2
                  clear T2 HX2
                  generalize w6.alloc (.cells #[.int .i64 a0, .int .i64 a1] 53) = w8 at T HX B22 ⊢
                  generalize w6.heap.size = g22 at B22 ⊢
                  have y0 := (bq HX.out 0).trans (show _ = some (.int .i64 s.f0.f0) from rfl)
                  have q0' := bf_ HX.out 0
                  have b0 := (bq B22.out 0).trans (show _ = some (.int .i64 a0) from rfl)
                  go_upto_region 31 with fail
                  have T2 := aq (T.out.set GN2.out 0 (.int .i64 a0))
                  have HX2 := aq (show (w8.setCell ⟨g7, 0, none⟩ (.int .i64 a0)).heap[g7]? = some (.cells (uL ⟨⟨a0, s.f0.f1⟩, s.f1, s.f2⟩) 80 (0, 0)) from yP HX.out 0 (.int .i64 a0))
                  have B2 := aq ((zR w8 ⟨g7, 0, none⟩ (.int .i64 a0)).blk B22.out (rN B22.out HX.out (by decide)))
                  clear T HX y0 q0' b0 B22
                  have T := T2
                  have HX := HX2
                  have B22 := B2
                  clear T2 HX2 B2
                  generalize w8.setCell ⟨g7, 0, none⟩ (.int .i64 a0) = w10 at T HX B22 ⊢
                  have b1 := (bq B22.out 1).trans (show _ = some (.int .i64 a1) from rfl)
                  by_cases hn : a1 < 0
                  · have x2 := (bq HX.out 2).trans (show _ = some (.int .i64 s.f1.f0) from rfl)
                    have x3 := (bq HX.out 3).trans (show _ = some (.int .i64 s.f1.f1) from rfl)
                    have x4 := (bq HX.out 4).trans (show _ = some (.int .i64 s.f2.f0) from rfl)
                    have x5 := (bq HX.out 5).trans (show _ = some (.int .i64 s.f2.f1) from rfl)
                    have p2 := bf_ HX.out 2
                    have p3 := bf_ HX.out 3
                    have p4 := bf_ HX.out 4
                    have p5 := bf_ HX.out 5
                    go_upto_region 33 with fail
                    have hw1 : wrap64 (-s.f2.f0) = -s.f2.f0 := by have h1 := HSO.out.i2.1; have h2 := right_low HSO.out.hi; unfold wrap64; have := h1.2; have := h1.1; omega
                    have hw2 : wrap64 (-s.f1.f0) = -s.f1.f0 := by have h1 := HSO.out.i1.1; have h2 := right_low HSO.out.lo; unfold wrap64; have := h1.2; have := h1.1; omega
                    rw [hw1, hw2]
                    obtain ⟨y, hy⟩ : ∃ y, startN ⟨a0, a1⟩ s = y := ⟨_, rfl⟩
                    rw [hy] at HTK
                    unfold startN at hy
                    rw [if_pos (show (⟨a0, a1⟩ : S32).f1 < 0 from hn)] at hy
                    have T2 := aq ((((T.out.set GN2.out 2 (.int .i64 (-s.f2.f0))).set GN2.out 3 (.int .i64 s.f2.f1)).set GN2.out 4 (.int .i64 (-s.f1.f0))).set GN2.out 5 (.int .i64 s.f1.f1))
                    have HX2 := aq (yP (yP (yP (yP HX.out 2 (.int .i64 (-s.f2.f0))) 3 (.int .i64 s.f2.f1)) 4 (.int .i64 (-s.f1.f0))) 5 (.int .i64 s.f1.f1))
                    have hne := rN B22.out HX.out (by decide)
                    have B2 := aq ((zR _ ⟨g7, 5, none⟩ (.int .i64 s.f1.f1)).blk ((zR _ ⟨g7, 4, none⟩ (.int .i64 (-s.f1.f0))).blk ((zR _ ⟨g7, 3, none⟩ (.int .i64 s.f2.f1)).blk ((zR w10 ⟨g7, 2, none⟩ (.int .i64 (-s.f2.f0))).blk B22.out hne) hne) hne) hne)
                    clear T HX B22 x2 x3 x4 x5 p2 p3 p4 p5 b1 hne hw1 hw2
                    have T := T2
                    have B22 := B2
                    clear T2 B2
                    generalize (((w10.setCell ⟨g7, 2, none⟩ (.int .i64 (-s.f2.f0))).setCell ⟨g7, 3, none⟩ (.int .i64 s.f2.f1)).setCell ⟨g7, 4, none⟩ (.int .i64 (-s.f1.f0))).setCell ⟨g7, 5, none⟩ (.int .i64 s.f1.f1) = w11 at T HX2 B22 ⊢
                    have HX := aq (show w11.heap[g7]? = some (.cells (uL y) 80 (0, 0)) by rw [← hy]; exact HX2.out)
                    clear HX2 hy
                    have b1 := (bq B22.out 1).trans (show _ = some (.int .i64 a1) from rfl)
                    have hnz : ¬ a1 = 0 := by omega
                    rw [if_neg hnz] at HTK
                    obtain ⟨v, hv0, hr0⟩ := T.out.bx
                    obtain ⟨A5, c5, e5⟩ := Kd.yT hr0
                    subst e5
                    have HV0 := aq hv0
                    have HR0 := aq hr0
                    have y0 := (bq hv0 3).trans (show _ = some (.slice A5 xs.length c5) from rfl)
                    clear hv0 hr0
                    go_wp2_with (first | ((with_reducible refine gD (N := 146) rfl ?_); (with_reducible refine yY 80 ?_); refine ev_ld (g := g7) (t := 80) (n := 6) (c := uL y) rfl HX.out (by kernel_rfl) (by kernel_rfl) rfl ?_) | ((with_reducible refine gD (N := 147) rfl ?_); refine Kd.xW rfl (nK (x := y) rfl) ?_) | ((with_reducible refine zA (b := .append) (xs := #[.tmp 145, .tmp 147]) rfl ?_); at_builtin; refine Kd.xY k80 (w0 := w11) w4.heap.size rfl (.tmp 145) (.tmp 147) 45 80 _ 48 rfl Try.underlying45 info80 rfl (by decide) (by omega) _ xs y (uL y).toList (fun k => k ≠ g7) (fun _ => False) rfl rfl ?aP (fun _ hk => hk.elim) ?aF ?aO ?aB ?aS ?aL ?_; (case aP => exact k80_mkM _ _ _ y); (case aB => exact Below.refl _ _); (case aF => exact fun k hk => by have := zN HX.out; show k ≠ g7; omega); (case aO => exact HR0.out); (case aS => exact T.out.K.size); (case aL => have := HLN.out; omega); intro v1 w9 ho hb hg hat; have hx9 := zK HV0.out hg (Kd.uX HR0.out HV0.out (by decide)); have T2 := aq (T.out.grow HV0.out HR0.out ho hb hg); obtain ⟨A6, c6, e6⟩ := Kd.yT ho; subst e6; clear y0 ho hb hg hat T; have T := T2; clear T2; have y0 := (bq hx9 3).trans (show _ = some (.slice A5 xs.length c5) from rfl); have yf := bf_ hx9 3; clear hx9))
                    rw [HWR.out]
                    refine ⟨⟨q + 1, by omega, by omega, rfl, ⟨?_⟩⟩, ?_⟩
                    · rw [HTK.out]
                      have := T.out.done
                      rw [show (xs ++ [y]).length = xs.length + 1 by simp] at this
                      exact this
                    · simp only [intOf]; omega
                  · obtain ⟨y, hy⟩ : ∃ y, startN ⟨a0, a1⟩ s = y := ⟨_, rfl⟩
                    rw [hy] at HTK
                    unfold startN at hy
                    rw [if_neg (show ¬ (⟨a0, a1⟩ : S32).f1 < 0 from hn)] at hy
                    replace HX := aq (show w10.heap[g7]? = some (.cells (uL y) 80 (0, 0)) by rw [← hy]; exact HX.out)
                    clear hy
                    by_cases hz : a1 = 0
                    · rw [if_pos hz] at HTK
                      go_wp2
                      rw [HWR.out]
                      refine ⟨⟨q + 1, by omega, by omega, rfl, ⟨?_⟩⟩, ?_⟩
                      · rw [HTK.out]; exact T.out.done
                      · simp only [intOf]; omega
                    rw [if_neg hz] at HTK
                    obtain ⟨v, hv0, hr0⟩ := T.out.bx
                    obtain ⟨A5, c5, e5⟩ := Kd.yT hr0
                    subst e5
                    have HV0 := aq hv0
                    have HR0 := aq hr0
                    have y0 := (bq hv0 3).trans (show _ = some (.slice A5 xs.length c5) from rfl)
                    clear hv0 hr0
                    go_wp2_with (first | ((with_reducible refine gD (N := 146) rfl ?_); (with_reducible refine yY 80 ?_); refine ev_ld (g := g7) (t := 80) (n := 6) (c := uL y) rfl HX.out (by kernel_rfl) (by kernel_rfl) rfl ?_) | ((with_reducible refine gD (N := 147) rfl ?_); refine Kd.xW rfl (nK (x := y) rfl) ?_) | ((with_reducible refine zA (b := .append) (xs := #[.tmp 145, .tmp 147]) rfl ?_); at_builtin; refine Kd.xY k80 (w0 := w10) w4.heap.size rfl (.tmp 145) (.tmp 147) 45 80 _ 48 rfl Try.underlying45 info80 rfl (by decide) (by omega) _ xs y (uL y).toList (fun k => k ≠ g7) (fun _ => False) rfl rfl ?aP (fun _ hk => hk.elim) ?aF ?aO ?aB ?aS ?aL ?_; (case aP => exact k80_mkM _ _ _ y); (case aB => exact Below.refl _ _); (case aF => exact fun k hk => by have := zN HX.out; show k ≠ g7; omega); (case aO => exact HR0.out); (case aS => exact T.out.K.size); (case aL => have := HLN.out; omega); intro v1 w9 ho hb hg hat; have hx9 := zK HV0.out hg (Kd.uX HR0.out HV0.out (by decide)); have T2 := aq (T.out.grow HV0.out HR0.out ho hb hg); obtain ⟨A6, c6, e6⟩ := Kd.yT ho; subst e6; clear y0 ho hb hg hat T; have T := T2; clear T2; have y0 := (bq hx9 3).trans (show _ = some (.slice A5 xs.length c5) from rfl); have yf := bf_ hx9 3; clear hx9))
                    rw [HWR.out]
                    refine ⟨⟨q + 1, by omega, by omega, rfl, ⟨?_⟩⟩, ?_⟩
                    · rw [HTK.out]
                      have := T.out.done
                      rw [show (xs ++ [y]).length = xs.length + 1 by simp] at this
                      exact this
                    · simp only [intOf]; omega
                · obtain rfl : q = (f.yM.length : Int) := by omega
                  rw [Int.toNat_natCast, List.take_length] at H
                  have d4 := eq_false (show ¬ (f.yM.length : Int) < (f.yM.length : Int) by omega)
                  clear hlt q0 q1
                  obtain ⟨vs, hvs, hrs⟩ := H.out.bx
                  have HVS := aq hvs
                  have HRS := aq hrs
                  have B88 := aq (H.out.K.blk B84.out NE.out.2)
                  have HK := aq H.out.K
                  have RV5 := aq (H.out.K.R RV4.out VN4.out (by decide))
                  have RN5 := aq (H.out.K.R RN4.out VN4.out (by decide))
                  have RL5 := aq (H.out.K.R RL4.out VN4.out (by decide))
                  have RS5 := aq (Kd.vJ hrs B4.out.size)
                  have B5 := aq (B4.out.trans (H.out.K.below GE1.out B4.out.size))
                  clear hvs hrs H
                  obtain ⟨A7, c7, e7⟩ := Kd.yT RV5.out
                  subst e7
                  obtain ⟨A8, c8, e8⟩ := Kd.yT RN5.out
                  subst e8
                  obtain ⟨A9, c9, e9⟩ := Kd.yT RS5.out
                  subst e9
                  clear RV4 RN4 RL4 B4 HRS VN4 BF4 B84
                  have e0 := (bq B88.out 0).trans (show _ = some (.slice none 0 0) from rfl)
                  have q0' := bf_ B88.out 0
                  have e1 := (bq B88.out 1).trans (show _ = some (.slice none 0 0) from rfl)
                  have q1' := bf_ B88.out 1
                  have e2 := (bq B88.out 2).trans (show _ = some (.slice none 0 0) from rfl)
                  have q2' := bf_ B88.out 2
                  have e3 := (bq B88.out 3).trans (show _ = some (.slice none 0 0) from rfl)
                  have q3' := bf_ B88.out 3
                  go_wp2_with (first | ((with_reducible refine gD (N := 151) rfl ?_); (with_reducible refine yY 47 ?_); refine ev_ld (g := g11) (t := 47) (n := 4) rfl HVS.out (by kernel_rfl) (by kernel_rfl) rfl ?_))
                  have HX := aq (yP (yP (yP (yP B88.out 0 (.slice A7 res.1.length c7)) 1 (.slice A8 L.length c8)) 2 (.slice A4 n4 c4)) 3 (.slice A9 (f.yM.foldl (uD ls) []).length c9))
                  have KK := aq (((((KB.refl g8 wr).one (zR wr ⟨g8, 0, none⟩ (.slice A7 res.1.length c7))).one (zR _ ⟨g8, 1, none⟩ (.slice A8 L.length c8))).one (zR _ ⟨g8, 2, none⟩ (.slice A4 n4 c4))).one (zR _ ⟨g8, 3, none⟩ (.slice A9 (f.yM.foldl (uD ls) []).length c9)))
                  refine bodyPost_ret (results_ctt (p := 8) (ty := 47) rfl _ _ g8 47 _ (0, 0) _ rfl HX.out hu47 rfl (by kernel_rfl)) rfl ?_
                  rw [HRES.out, HLSR.out]
                  have hln : (L.map (renV res.2)).length = L.length := List.length_map _
                  have r2 := KK.out.R RN5.out B88.out (by decide)
                  rw [hln] at r2
                  exact ⟨_, _, _, _, rfl, KK.out.R RV5.out B88.out (by decide), r2, KK.out.R RS5.out B88.out (by decide), KK.out.R RL5.out B88.out (by decide), B5.out.trans (KK.out.below GE8.out B5.out.size)⟩
end Go.Proofs.Ytoonahobmlnflaa.PC
