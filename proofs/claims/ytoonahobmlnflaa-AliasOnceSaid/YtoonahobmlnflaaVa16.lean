/- Texts of this claim, one behind the other. -/
import Derived.Test.YtoonahobmlnflaaVa15
set_option linter.unusedVariables false
set_option linter.unusedSimpArgs false
set_option maxRecDepth 100000
set_option maxHeartbeats 16000000
namespace Go.Proofs.Ytoonahobmlnflaa.PC
open Go.RowKit Go.Shelf A B C
structure AdF (base : Nat) (ok : Nat → Prop) (go : Nat) (w0 W : World) (L : List S37) (V : World) : Prop where
 bx : ∃ v, V.heap[go]? = some (.cells #[v] 22 (0, 0)) ∧ Kd.R k37 37 V base ok v L
 B : Below base w0 V
 keepT : ∀ (k : Nat) (cells : Array Value) (t : Nat), W.heap[k]? = some (.cells cells t (0, 0)) → t ≠ 37 → t ≠ 22 → V.heap[k]? = some (.cells cells t (0, 0))
 keepO : ∀ (k : Nat) (o : Obj), W.heap[k]? = some o → ¬ ok k → k ≠ go → V.heap[k]? = some o
 size : W.heap.size ≤ V.heap.size
theorem add62 {base : Nat} {ok : Nat → Prop} (w0 : World) (x : S37) (L : List S37) (go : Nat) (v : Value) (W : World) (hx : W.heap[go]? = some (.cells #[v] 22 (0, 0))) (hR : Kd.R k37 37 W base ok v L) (hB : Below base w0 W) (hbs : base ≤ W.heap.size) (hgo : base ≤ go) (hok : ∀ k, W.heap.size ≤ k → ok k) (hl : L.length < 4000) :
  Calls Try.prog 62 #[.agg (yQ x), .pointer (some ⟨go, 0, none⟩)] W fun e V => e = .returned (.int .i64 (L.length : Int)) ∧ AdF base ok go w0 W (L ++ [x]) V := by
 obtain ⟨A, c, rfl⟩ := Kd.yE hR
 have z0 := (bq (zI hx (.cells (yQ x) 37)) 0).trans (show _ = some (.slice A L.length c) from rfl)
 have q0 := bf_ (zI hx (.cells (yQ x) 37)) 0
 have HX := aq hx
 have HR := aq hR
 have HB := aq hB
 clear hx hR hB
 have GO := aq hgo
 have OK := aq hok
 have hlx := heap_alloc_last W (.cells (yQ x) 37)
 have HLX := aq hlx
 have HL := aq hl
 have HBS := aq hbs
 clear hlx hgo hok hl hbs
 go_enter Try.func62, Try.ntmps62
 go_wp2_with (first | ((with_reducible refine gD (N := 5) rfl ?_); (with_reducible refine zA 37 ?_); refine tM (g := W.heap.size) (x := x) rfl HLX.out ?_) | ((with_reducible refine gD (N := 6) rfl ?_); refine Kd.wF rfl (uI (x := x) rfl) ?_) | ((with_reducible refine yC (b := .append) (xs := #[.tmp 4, .tmp 6]) rfl ?_); at_builtin; refine Kd.wL k37 (w0 := w0) base rfl (.tmp 4) (.tmp 6) 22 37 _ 176 rfl Try.underlying22 nJ rfl (by decide) (by omega) _ L x (wS x) ok (fun _ => False) rfl rfl ?aP (fun _ hk => hk.elim) ?aF ?aO ?aB ?aS ?aL ?_; (case aP => exact oX _ _ _ x); (case aB => exact HB.out.trans ((zY (Below.refl W.heap.size W) _).mono HBS.out)); (case aF => exact fun k hk => OK.out k (by simp at hk; omega)); (case aO => exact Kd.wT HR.out _); (case aS => have := HBS.out; simp; omega); (case aL => have := HL.out; omega); intro v1 w9 ho hb hg hat; obtain ⟨A1, c1, e1⟩ := Kd.yE ho; subst e1; have HO := aq ho; have HB9 := aq hb; have HG := aq (show (W.alloc (.cells (yQ x) 37)).grownBy w9 (Value.slice A L.length c).ownBlock from hg); have hx9 := xO (zI HX.out (.cells (yQ x) 37)) hg (Kd.R_ne HR.out HX.out (by decide)); have HX9 := aq hx9; clear ho hb hg hat z0 q0; have z0 := (bq hx9 0).trans (show _ = some (.slice A L.length c) from rfl); have q0 := bf_ hx9 0; clear hx9))
 have hw : wrap64 (L.length : Int) = (L.length : Int) := by unfold wrap64; have := HL.out; omega
 rw [hw]
 have hle : (L ++ [x]).length = L.length + 1 := by simp
 rw [hle] at HO
 refine bodyPost_ret (results_tmp rfl _ _ _) rfl ⟨rfl, ⟨_, yD HX9.out 0 _, Kd.sD HO.out HX9.out (by decide) 0 _⟩, HB9.out.trans ((zK w9 ⟨go, 0, none⟩ _).below GO.out), fun k cells t hk h37 h22 => ?_, fun k o hk hno hgo => ?_, ?_⟩
 ·refine (zK w9 ⟨go, 0, none⟩ _).blk (xO (zI hk _) HG.out (fun e => ?_)) (fun e => ?_)
  ·obtain ⟨cs, hcs⟩ := Kd.sS HR.out k e.symm
   rw [hk] at hcs
   injection hcs with hcs
   injection hcs with _ ht
   exact h37 ht
  ·have e : k = go := e
   subst e
   have hcs := HX.out
   rw [hk] at hcs
   injection hcs with hcs
   injection hcs with _ ht
   exact h22 ht
 ·exact (zK w9 ⟨go, 0, none⟩ _).blk (xO (zI hk _) HG.out (fun e => hno (HR.out.1 k e.symm))) hgo
 ·have h1 := HG.out.size
  have h2 := (zK w9 ⟨go, 0, none⟩ (.slice A1 (L.length + 1) c1)).size
  rw [show (W.alloc (.cells (yQ x) 37)).heap.size = W.heap.size + 1 by simp] at h1
  omega
def pu37.T7 : Bool × List (List Nat × List Nat) := (true, [([], []), ([], []), ([1], [1]), ([0, 2], [0, 2]), ([3], [3]), ([], []), ([], []), ([6], [6]), ([5, 7], [5, 7]), ([8], [8]), ([0, 1, 2, 3, 4, 6, 7], []), ([10, 4, 0, 1, 2, 3, 4, 6, 7], [4, 10]), ([0, 1, 2, 3, 4, 5, 6, 7, 8, 9, 10, 11], []), ([12, 9, 11, 0, 1, 2, 3, 4, 5, 6, 7, 8, 9, 10, 11], [9, 12])])
def pu37.B7 : List Nat := [0, 0, 2, 7, 15, 0, 0, 64, 224, 480, 223, 1247, 4095, 8191]
theorem pu37.tab7 : vL .any (opsOf Try.f37 7) = pu37.T7 := by kernel_rfl
theorem pu37.bits7 : xH pu37.T7.2 pu37.B7 = true := by kernel_rfl
structure PuF (Av : Option Addr) (n cv go : Nat) (w : World) (st : List S37 × List Int) (V : World) : Prop where
 bx : ∃ v, V.heap[go]? = some (.cells #[v] 22 (0, 0)) ∧ Kd.R k37 37 V w.heap.size (fun _ => True) v st.1
 tv : Kd.R (Kd.int .i64) 3 V w.heap.size (fun _ => True) (.slice Av n cv) st.2
 B : Below w.heap.size w V
 ge : w.heap.size ≤ go
structure PuI (Av : Option Addr) (n cv go : Nat) (w : World) (st : List S37 × List Int) (x : S37) (gn : Nat) (V : World) : Prop where
 bx : ∃ v, V.heap[go]? = some (.cells #[v] 22 (0, 0)) ∧ Kd.R k37 37 V w.heap.size (fun k => k ≠ gn) v st.1
 tv : Kd.R (Kd.int .i64) 3 V w.heap.size (fun _ => True) (.slice Av n cv) st.2
 B : Below w.heap.size w V
 ge : w.heap.size ≤ go
 box : V.heap[gn]? = some (.cells (yQ x) 37 (0, 0))
 gen : w.heap.size ≤ gn
section
variable {Av : Option Addr} {n cv go : Nat} {w : World} {st : List S37 × List Int} {x : S37} {gn : Nat} {V V' : World}
theorem PuI.ne (h : PuI Av n cv go w st x gn V) : gn ≠ go := by
 obtain ⟨v, hv, _⟩ := h.bx
 intro e
 have := h.box
 rw [e, hv] at this
 injection this with this
 injection this with _ t
 exact absurd t (by decide)
theorem PuF.step (h : PuF Av n cv go w st V) (hd : Below V.heap.size V V') : PuF Av n cv go w st V' := by
 obtain ⟨v, hv, hr⟩ := h.bx
 exact ⟨⟨v, bb_ hv hd, Kd.yS hr hd⟩, Kd.yS h.tv hd, bt_ h.B hd, h.ge⟩
theorem PuI.step (h : PuI Av n cv go w st x gn V) (hd : Below V.heap.size V V') : PuI Av n cv go w st x gn V' := by
 obtain ⟨v, hv, hr⟩ := h.bx
 exact ⟨⟨v, bb_ hv hd, Kd.yS hr hd⟩, Kd.yS h.tv hd, bt_ h.B hd, h.ge, bb_ h.box hd, h.gen⟩
theorem PuI.start (h : PuF Av n cv go w st V) (hd : Below V.heap.size V V') (hg : V.heap.size ≤ gn) (hb : V'.heap[gn]? = some (.cells (yQ x) 37 (0, 0))) : PuI Av n cv go w st x gn V' := by
 obtain ⟨v, hv, hr⟩ := h.bx
 exact ⟨⟨v, bb_ hv hd, Kd.yS (Kd.xC (Kd.uB hr) (fun k hk => by have := hk.2.2.1; show k ≠ gn; omega)) hd⟩, Kd.yS h.tv hd, bt_ h.B hd, h.ge, hb, Nat.le_trans h.B.size hg⟩
theorem PuI.set {y : S37} (h : PuI Av n cv go w st x gn V) (j : Nat) (u : Value) (hy : (yQ x).setIfInBounds j u = yQ y) : PuI Av n cv go w st y gn (V.setCell ⟨gn, j, none⟩ u) := by
 obtain ⟨v, hv, hr⟩ := h.bx
 exact ⟨⟨v, (zK V ⟨gn, j, none⟩ u).blk hv (Ne.symm h.ne), Kd.R_far hr (fun k hk => hk) u⟩, Kd.sD h.tv h.box (by decide) j u, bs_ h.B h.gen, h.ge, by rw [← hy]; exact yD h.box j u, h.gen⟩
theorem PuI.put {gv : Nat} (h : PuI (some ⟨gv, 0, none⟩) n cv go w st x gn V) (j i : Int) : PuI (some ⟨gv, 0, none⟩) n cv go w (st.1, st.2.set j.toNat i) x gn (V.setCell ⟨gv, j.toNat, none⟩ (.int .i64 i)) := by
 obtain ⟨cells, ht⟩ := Kd.sS h.tv gv rfl
 obtain ⟨v, hv, hr⟩ := h.bx
 exact ⟨⟨v, (Below.heap_setCell V ⟨gv, j.toNat, none⟩ _ go (qO hv ht (by decide))).trans hv, Kd.sD hr ht (by decide) _ _⟩, (Kd.R_putg h.tv j i).1, bs_ h.B (Kd.nQ h.tv gv rfl), h.ge, (Below.heap_setCell V ⟨gv, j.toNat, none⟩ _ gn (qO h.box ht (by decide))).trans h.box, h.gen⟩
theorem PuI.add {L' : List S37} (h : PuI Av n cv go w st x gn V) (ha : AdF w.heap.size (fun k => k ≠ gn) go w V L' V') : PuI Av n cv go w (L', st.2) x gn V' :=
 ⟨ha.bx, Kd.R_move (Kd.xC (Kd.uB h.tv) (fun k hk => hk.2.2.2)) (fun k hk => by
  obtain ⟨q, hq, cells, hc⟩ := hk
  have e : q = 3 := by simpa [Kd.int, Kd.scalar] using hq
  subst e
  rw [hc]
  exact ha.keepT k cells 3 hc (by decide) (by decide)) |> (Kd.xC · (fun _ _ => trivial)), ha.B, h.ge, ha.keepO gn _ h.box (fun hh => hh rfl) h.ne, h.gen⟩
theorem PuI.done (h : PuI Av n cv go w st x gn V) : PuF Av n cv go w st V := by
 obtain ⟨v, hv, hr⟩ := h.bx
 exact ⟨⟨v, hv, Kd.xC hr (fun _ _ => trivial)⟩, h.tv, h.B, h.ge⟩
theorem PuI.call (h : PuI Av n cv go w st x gn V) (hl : st.1.length < 4000) (y : S37) : Calls Try.prog 62 #[.agg (yQ y), .pointer (some ⟨go, 0, none⟩)] V fun e V' => e = .returned (.int .i64 (st.1.length : Int)) ∧ PuI Av n cv go w (st.1 ++ [y], st.2) x gn V' ∧ ∀ (k : Nat) (cells : Array Value), V.heap[k]? = some (.cells cells 53 (0, 0)) → V'.heap[k]? = some (.cells cells 53 (0, 0)) := by
 obtain ⟨v, hv, hr⟩ := h.bx
 refine (add62 (base := w.heap.size) (ok := fun k => k ≠ gn) w y st.1 go v V hv hr h.B h.B.size h.ge (fun k hk => by have := zN h.box; show k ≠ gn; omega) hl).mono ?_
 rintro e V' ⟨rfl, ha⟩
 exact ⟨rfl, h.add ha, fun k cells hk => ha.keepT k cells 53 hk (by decide) (by decide)⟩
end
theorem en62 (args : Array Value) (w : World) : (callFunc 62 args).run Try.prog w = .ok (.enter 62 args) w := enters_of Try.func62 (by kernel_rfl) rfl args w
theorem mV (nodes : List S37) (l : List S32) (k : Nat) : tC nodes l (k + 1) = putS l (tC nodes l k) k (rT nodes (k : Int)) := rfl
structure PutOKs (nodes : List S37) (l : List S32) : Prop where
 f1 : ∀ i : Int, 0 ≤ i → i < (nodes.length : Int) → 0 ≤ (rT nodes i).f1 ∧ (rT nodes i).f1 < (nodes.length : Int)
 f2 : ∀ i : Int, 0 ≤ i → i < (nodes.length : Int) → 0 ≤ (rT nodes i).f2 ∧ (rT nodes i).f2 < (nodes.length : Int)
 v : ∀ i : Int, 0 ≤ i → i < (nodes.length : Int) → (rT nodes i).f0 = 2 → 0 ≤ (rT nodes i).f5.f0 ∧ (rT nodes i).f5.f0 < (l.length : Int)
theorem putS_len {l : List S32} {st : List S37 × List Int} {k : Nat} {x : S37} : (putS l st k x).2.length = st.2.length ∧ (putS l st k x).1.length ≤ st.1.length + 2 := by
 unfold putS
 split
 ·simp
 ·split
  ·simp
  ·split <;> simp
theorem pRun_len (nodes : List S37) (l : List S32) (k : Nat) : (tC nodes l k).2.length = nodes.length ∧ (tC nodes l k).1.length ≤ 2 * k := by
 induction k with
 | zero => simp [tC]
 | succ k ih =>
  rw [mV]
  have := @putS_len l (tC nodes l k) k (rT nodes (k : Int))
  omega
theorem put37 {base bn : Nat} {ok okn : Nat → Prop} (nodes : List S37) (eqs : List Int) (l : List S32) (A : Option Addr) (c : Nat) (A1 : Option Addr) (c1 : Nat) (A2 : Option Addr) (c2 : Nat) (w : World) (hC : Kd.R k37 37 w bn okn (.slice A nodes.length c) nodes) (hE : Kd.C (Kd.int .i64) w A1 eqs.length eqs) (hc1 : eqs.length ≤ c1) (hR : Kd.R k32 53 w base ok (.slice A2 l.length c2) l) (hf : FOK l) (hp : PutOKs nodes l) (he : ∀ e ∈ eqs, 0 ≤ e ∧ e < (nodes.length : Int)) (hl4 : nodes.length ≤ 1900) (hel : eqs.length ≤ 17592186044416) :
  Calls Try.prog 37 #[.slice A nodes.length c, .slice A1 eqs.length c1, .slice A2 l.length c2] w fun e w' => ∃ vo vr, e = .returned (.tuple #[vo, vr]) ∧ Kd.R k37 37 w' w.heap.size (fun _ => True) vo (putA nodes l).1 ∧ Kd.R (Kd.int .i64) 3 w' w.heap.size (fun _ => True) vr (eqs.map (rd (putA nodes l).2)) ∧ Below w.heap.size w w' := by
 have hu37 := Try.underlying37
 have hE62 := en62
 have HLEN := aq hl4
 have HC := aq hC
 have HE := aq hE
 have HR := aq hR
 have HF := aq hf
 have HP := aq hp
 have HEQ := aq he
 have HEL := aq hel
 have HRL := aq (fun k => pRun_len nodes l k)
 clear hC hE hR hl4 hf hp he hel
 go_enter Try.func37, Try.ntmps37
 go_wp2_with (first | ((with_reducible refine gD (N := 19) rfl ?_); refine Kd.nE (Kd.int .i64) (w0 := w) w.heap.size 3 rfl (N := 19) rfl 23 _ _ rfl (nodes.length : Int) rfl rfl Try.underlying23 (.int .i64 0) 8 info3 rfl (by decide) (by omega) 0 (ok := fun _ => True) (okp := fun _ => True) rfl (fun _ hk => hk) trivial (by omega) (by rw [Int.toNat_natCast]; have := HLEN.out; omega) ?hb0 ?hs0 ?_; (case hb0 => exact zY (Below.refl _ _) _); (case hs0 => simp); intro v3 w3 hr3 hb3 hg_ hnew_; rw [Int.toNat_natCast] at hr3; obtain ⟨Av, cv, ev⟩ := Kd.yE hr3; subst ev; rw [List.length_replicate] at hr3 ⊢; have HT := aq hr3; have HB := aq hb3; have HG := aq hg_; clear hr3 hb3 hg_ hnew_))
 have HRES := aq (show putA nodes l = tC nodes l nodes.length from rfl)
 have H0 := aq (show PuF Av nodes.length cv w.heap.size w (tC nodes l 0) w3 from ⟨⟨.slice none 0 0, xO (heap_alloc_last w _) HG.out (by simp), Kd.oS _ _ _ _ _⟩, HT.out, HB.out, Nat.le_refl _⟩)
 clear HT HB HG
 go_loopw [23] (fun i wr => ∃ (j : Int), 0 ≤ j ∧ j ≤ (nodes.length : Int) ∧ i = .int .i64 j ∧ zV (PuF Av nodes.length cv w.heap.size w (tC nodes l j.toNat) wr)) (fun i _ => nodes.length - (intOf i).toNat)
 case atStart => exact ⟨0, Int.le_refl _, by omega, rfl, H0⟩
 case round =>
  obtain ⟨j, j0, j1, rfl, H⟩ := hrel
  clear H0
  by_cases hlt : j < (nodes.length : Int)
  ·have hsu := mV nodes l j.toNat
   have hjn : ((j.toNat : Nat) : Int) = j := by omega
   rw [hjn] at hsu
   have HW := aq (show wrap64 (j + 1) = j + 1 by unfold wrap64; have := HLEN.out; omega)
   have fin : ∀ (V : World) (st' : List S37 × List Int), tC nodes l (j.toNat + 1) = st' → PuF Av nodes.length cv w.heap.size w st' V →
     (∃ (j_1 : Int), 0 ≤ j_1 ∧ j_1 ≤ (nodes.length : Int) ∧ (Value.int .i64 (wrap64 (j + 1))) = .int .i64 j_1 ∧ zV (PuF Av nodes.length cv w.heap.size w (tC nodes l j_1.toNat) V)) ∧ nodes.length - (intOf (.int .i64 (wrap64 (j + 1)))).toNat < nodes.length - (intOf (.int .i64 j)).toNat := fun V st' hs h => by
    have hw := HW.out
    subst hs
    rw [hw]
    refine ⟨⟨j + 1, by omega, by omega, rfl, ?_⟩, ?_⟩
    ·rw [show (j + 1).toNat = j.toNat + 1 by omega]; exact ⟨h⟩
    ·simp only [intOf]; omega
   obtain ⟨hrl1, hrl2⟩ := HRL.out j.toNat
   have hops1 := HP.out.f1 j j0 hlt
   have hops2 := HP.out.f2 j j0 hlt
   have hopsv := HP.out.v j j0 hlt
   have HLN := aq (show (tC nodes l j.toNat).1.length + 2 < 4000 by have := HLEN.out; omega)
   generalize tC nodes l j.toNat = st at H hsu hrl1 HLN
   obtain ⟨gv, _, ev, _⟩ := Kd.tL H.out.tv (by rw [hrl1]; omega)
   injection ev with ev e2 e3
   clear e2 e3
   subst ev
   have FIN := aq fin
   have HJ := aq j0
   have HLT := aq hlt
   obtain ⟨gN, eA, hnd⟩ := nd_load (Kd.yS HC.out H.out.B) j j0 hlt
   subst eA
   have HND := aq hnd
   have HOV := aq hopsv
   have HO1 := aq hops1
   have HO2 := aq hops2
   have HSU := aq hsu
   have HTL := aq hrl1
   generalize rT nodes j = x at HND HSU HOV HO1 HO2
   clear fin HW j1 hjn hnd hopsv hops1 hops2 hsu hrl1 hrl2
   have r0 := HO1.out.1
   have r1 := HO1.out.2
   have r2 := HO2.out.1
   have r3 := HO2.out.2
   go_upto_region 7 with (first | ((with_reducible refine zA 37 ?_); refine wX (t := 37) (cs := wS x) rfl (by kernel_rfl) (by kernel_rfl) HND.out ?_) | ((with_reducible refine gD (N := 12) rfl ?_); refine bE ?hg (N := 12) ?hd (cs := yQ z37) (t := 37) ?hr ?_; (case hd => rfl); (case hg => rfl); (case hr => first | (go_simp; done) | (go_simp; rfl)); intro gn hgn w5 hbox hb; have HX := aq hbox; have HB5 := aq hb; have GN := aq (show wr.heap.size ≤ gn by rw [hgn]; exact Nat.le_refl _); clear hbox hb hgn) | ((with_reducible refine xG 12 ?_); refine wG (g := gn) (x := x) rfl rfl HX.out (xR _) ?_; intro w6 hx6 h6; have T := aq (PuI.start H.out (HB5.out.trans (h6.below GN.out)) GN.out hx6); clear hx6 h6 HX HB5 GN))
   have CA := aq (fun (V : World) (h : Kd.R (Kd.int .i64) 3 V w.heap.size (fun _ => True) (.slice (some ⟨gv, 0, none⟩) nodes.length cv) st.2) => (Kd.yP 0 h x.f1 r0 r1).1.trans (show _ = some (.int .i64 (rd st.2 x.f1)) from rfl))
   have CB := aq (fun (V : World) (h : Kd.R (Kd.int .i64) 3 V w.heap.size (fun _ => True) (.slice (some ⟨gv, 0, none⟩) nodes.length cv) st.2) => (Kd.yP 0 h x.f2 r2 r3).1.trans (show _ = some (.int .i64 (rd st.2 x.f2)) from rfl))
   obtain ⟨ra, hra⟩ : ∃ r, rd st.2 x.f1 = r := ⟨_, rfl⟩
   obtain ⟨rb, hrb⟩ : ∃ r, rd st.2 x.f2 = r := ⟨_, rfl⟩
   rw [hra] at CA
   rw [hrb] at CB
   have HRA := aq hra
   have HRB := aq hrb
   clear hra hrb
   have T2 := aq (T.out.step (yF (Below.refl _ _)))
   clear T HND
   refine xA (n := 14) (S := fun w' => w'.cell? ⟨gn, 2, none⟩ = some (.int .i64 x.f2) ∧ w'.cell? ⟨gv, x.f1.toNat, none⟩ = some (.int .i64 ra) ∧ w'.cell? ⟨gv, x.f2.toNat, none⟩ = some (.int .i64 rb)) (ds := [13]) (msk 14 0) (by kernel_rfl) rfl rfl ⟨(bq T2.out.box 2).trans rfl, CA.out _ T2.out.tv, CB.out _ T2.out.tv⟩ (fun hHeld => ?_); refine yH pu37.tab7 pu37.bits7 (fun HT_ HW_ => ?_)
   generalize w6.drew = w7 at T2 hHeld ⊢
   refine pU 0 28 (msk 14 1) HT_.out ?_
   refine pU 1 29 (msk 14 3) HT_.out ?_
   refine pU 5 33 (msk 14 35) HT_.out ?_
   refine pU 6 34 (msk 14 99) HT_.out ?_
   refine tk_ 7 35 (msk 14 227) HT_.out HW_.out hHeld ?_ ?_ ?_ ?_ ?_
   rotate_left
   ·rintro w' ⟨s0, s1, s2⟩; go_simp; with_reducible rfl
   rotate_left
   ·simp only [Act.put, sq, iw, jw]; rfl
   refine pU 8 36 (msk 14 483) HT_.out ?_
   refine tk_ 9 37 (msk 14 995) HT_.out HW_.out hHeld ?_ ?_ ?_ ?_ ?_
   rotate_left
   ·rintro w' ⟨s0, s1, s2⟩; go_simp; with_reducible rfl
   rotate_left
   ·simp only [Act.put, sq, iw, jw]; rfl
   refine uV (i := 2) (N := some 30) (msk 14 999) rfl rfl (yG HT_.out (by kernel_rfl)) (by decide) (fun K hK => ?_)
   have z1 := (bq T2.out.box 1).trans (show _ = some (.int .i64 x.f1) from rfl)
   refine value_ (v := .int .i64 x.f1) (w1 := w7) (by rfl) rfl (by go_simp; try rfl) ?_
   clear z1
   refine hK.out _ _ hHeld (fun _ => ?_)
   clear hK K
   refine wO (a' := ?_) ?_ ?_
   rotate_left
   ·show Act.put _ (some 30) _ = _
    simp only [Act.put, sq, iw, jw]
    rfl
   refine pU 3 31 (msk 14 1007) HT_.out ?_
   refine tk_ 4 32 (msk 14 1023) HT_.out HW_.out hHeld ?_ ?_ ?_ ?_ ?_
   rotate_left
   ·rintro w' ⟨s0, s1, s2⟩; go_simp; with_reducible rfl
   rotate_left
   ·simp only [Act.put, sq, iw, jw]; rfl
   refine pU 10 38 (msk 14 2047) HT_.out ?_
   refine uV (i := 11) (N := none) (msk 14 4095) rfl rfl (yG HT_.out (by kernel_rfl)) (by decide) (fun K hK => ?_)
   have z := (bq T2.out.box 1).trans (show _ = some (.int .i64 x.f1) from rfl)
   have f := bf_ T2.out.box 1
   refine pG (w1 := w7.setCell ⟨gn, 1, none⟩ (.int .i64 ra)) (by rfl) rfl ?_ ?_
   ·go_simp
    try rfl
   clear z f
   have T3 := aq (T2.out.set 1 (.int .i64 ra) (y := { x with f1 := ra }) rfl)
   generalize w7.setCell ⟨gn, 1, none⟩ (.int .i64 ra) = w8 at T3 ⊢
   clear T2 hHeld
   refine hK.out _ _ ⟨(bq T3.out.box 2).trans rfl, CA.out _ T3.out.tv, CB.out _ T3.out.tv⟩ (fun hHeld => ?_)
   clear hK K
   refine pU 12 39 (msk 14 8191) HT_.out ?_
   refine qN (i := 13) (N := none) (msk 14 16383) rfl rfl (yG HT_.out (by kernel_rfl)) (by decide) (fun K hK => ?_)
   have z := (bq T3.out.box 2).trans (show _ = some (.int .i64 x.f2) from rfl)
   have f := bf_ T3.out.box 2
   refine pG (w1 := w8.setCell ⟨gn, 2, none⟩ (.int .i64 rb)) (by rfl) rfl ?_ ?_
   ·go_simp
    try rfl
   clear z f
   have T4 := aq (T3.out.set 2 (.int .i64 rb) (y := { x with f1 := ra, f2 := rb }) rfl)
   generalize w8.setCell ⟨gn, 2, none⟩ (.int .i64 rb) = w9 at T4 ⊢
   clear T3 hHeld
   refine hK.out _ _ ?_
   clear hK K
   refine vZ (xT HT_.out (by kernel_rfl)) ?_
   have zk := (bq T4.out.box 0).trans (show _ = some (.int .i64 x.f0) from rfl)
   have d0 := eq_true HJ.out
   have d1 := eq_true HLT.out
   by_cases hk : x.f0 = 2
   ·obtain ⟨o0, o1⟩ := HOV.out hk
    have z6 := (bq T4.out.box 6).trans (show _ = some (.int .i64 x.f5.f0) from rfl)
    have HOF := aq (fun (V : World) (h : Below w.heap.size w V) => of61 l A2 c2 V (Kd.yS HR.out h) HF.out x.f5.f0 o0 o1)
    have hsu := HSU.out
    unfold putS at hsu
    rw [if_neg (fun h => h hk)] at hsu
    obtain ⟨a, ha⟩ : ∃ a, ofA l x.f5.f0 = a := ⟨_, rfl⟩
    rw [ha] at HOF hsu
    obtain ⟨a0, a1⟩ := a
    have HSU2 := aq hsu
    clear hsu HSU ha o0 o1
    go_upto_region 11 with (first | (go_at_call 61; refine (HOF.out _ T4.out.B).mono ?_; rintro e w10 ⟨rfl, hd⟩; have T5 := aq (T4.out.step hd); clear T4 HOF hd z6 zk; have T4 := T5; clear T5; simp only [aA]))
    have T5 := aq (T4.out.step (zY (Below.refl _ _) (.cells #[.int .i64 a0, .int .i64 a1] 53)))
    have B13 := aq (heap_alloc_last w10 (.cells #[.int .i64 a0, .int .i64 a1] 53))
    clear T4
    have T4 := T5
    clear T5
    generalize w10.alloc (.cells #[.int .i64 a0, .int .i64 a1] 53) = w11 at T4 B13 ⊢
    generalize w10.heap.size = g13 at B13 ⊢
    have y1 := (bq B13.out 1).trans (show _ = some (.int .i64 a1) from rfl)
    by_cases hs0 : a1 = 0
    ·have HS := aq (show tC nodes l (j.toNat + 1) = (st.1 ++ [uZ ⟨0, 1⟩], st.2.set j.toNat (st.1.length : Int)) by rw [HSU2.out, if_pos hs0])
     clear HSU2
     go_wp2_with (first | (go_at_call 41; refine (plain41 _).mono ?_; rintro e w13 ⟨rfl, hd⟩; have T5 := aq (T4.out.step hd); clear T4; have T4 := T5; clear T5; have B5 := aq (bb_ B13.out hd); clear B13 hd; have B13 := B5; clear B5) | (go_at_call 62; refine (T4.out.call (by have := HLN.out; first | omega | (simp; omega)) (uZ ⟨0, 1⟩)).mono ?_; rintro e w12 ⟨rfl, ha, hb⟩; have T5 := aq ha; clear T4; have T4 := T5; clear T5 ha; have B5 := aq (hb _ _ B13.out); clear B13 hb; have B13 := B5; clear B5; have z9 := (Kd.yP 0 T4.out.tv j HJ.out HLT.out).1; have f9 := (Kd.yP 0 T4.out.tv j HJ.out HLT.out).2))
     exact FIN.out _ _ HS.out (T4.out.put j _).done
    ·have y0 := (bq B13.out 0).trans (show _ = some (.int .i64 a0) from rfl)
     have z7 := (bq T4.out.box 7).trans (show _ = some (.int .i64 x.f5.f1) from rfl)
     go_upto_region 13 with (first | (go_at_call 62; refine (T4.out.call (by have := HLN.out; first | omega | (simp; omega)) (uU ⟨a0, x.f5.f1⟩)).mono ?_; rintro e w12 ⟨rfl, ha, hb⟩; have T5 := aq ha; clear T4; have T4 := T5; clear T5 ha; have B5 := aq (hb _ _ B13.out); clear B13 hb; have B13 := B5; clear B5; have z9 := (Kd.yP 0 T4.out.tv j HJ.out HLT.out).1; have f9 := (Kd.yP 0 T4.out.tv j HJ.out HLT.out).2))
     have T5 := aq (T4.out.put j (st.1.length : Int))
     obtain ⟨ct, hct⟩ := Kd.sS T4.out.tv gv rfl
     have B5 := aq ((Below.heap_setCell w12 ⟨gv, j.toNat, none⟩ (.int .i64 (st.1.length : Int)) g13 (qO B13.out hct (by decide))).trans B13.out)
     clear T4 B13 hct y0 y1 z7 z9 f9
     have T4 := T5
     have B13 := B5
     clear T5 B5
     generalize w12.setCell ⟨gv, j.toNat, none⟩ (.int .i64 (st.1.length : Int)) = w14 at T4 B13 ⊢
     have y1 := (bq B13.out 1).trans (show _ = some (.int .i64 a1) from rfl)
     by_cases hs1 : a1 < 0
     ·have HS := aq (show tC nodes l (j.toNat + 1) = (st.1 ++ [uU ⟨a0, x.f5.f1⟩] ++ [nodeH 7 (st.1.length : Int) 0], (st.2.set j.toNat (st.1.length : Int)).set j.toNat (((st.1 ++ [uU ⟨a0, x.f5.f1⟩]).length : Nat) : Int)) by
       rw [HSU2.out, if_neg hs0, if_pos hs1, List.append_assoc, List.set_set, List.length_append]; rfl)
      clear HSU2
      have zt := (Kd.yP 0 T4.out.tv j HJ.out HLT.out).1.trans (show _ = some (.int .i64 (st.1.length : Int)) by
       rw [show zG 0 (st.2.set j.toNat (st.1.length : Int)) j = (st.1.length : Int) by
        have := tO (l := st.2) (i := j.toNat) (by rw [HTL.out]; have := HJ.out; have := HLT.out; omega) (st.1.length : Int)
        rw [show ((j.toNat : Nat) : Int) = j by have := HJ.out; omega] at this
        exact this])
      go_wp2_with (first | (go_at_call 62; refine (T4.out.call (by have := HLN.out; simp only [List.length_append, List.length_singleton]; omega) (nodeH 7 (st.1.length : Int) 0)).mono ?_; rintro e w12 ⟨rfl, ha, _⟩; have T5 := aq ha; clear T4; have T4 := T5; clear T5 ha; have z9 := (Kd.yP 0 T4.out.tv j HJ.out HLT.out).1; have f9 := (Kd.yP 0 T4.out.tv j HJ.out HLT.out).2))
      exact FIN.out _ _ HS.out (by
       have := (T4.out.put j (((st.1 ++ [uU ⟨a0, x.f5.f1⟩]).length : Nat) : Int)).done
       simpa using this)
     ·have HS := aq (show tC nodes l (j.toNat + 1) = (st.1 ++ [uU ⟨a0, x.f5.f1⟩], st.2.set j.toNat (st.1.length : Int)) by rw [HSU2.out, if_neg hs0, if_neg hs1])
      clear HSU2
      go_wp2
      exact FIN.out _ _ HS.out T4.out.done
   ·have HS := aq (show tC nodes l (j.toNat + 1) = (st.1 ++ [{ x with f1 := ra, f2 := rb }], st.2.set j.toNat (st.1.length : Int)) by rw [HSU.out]; unfold putS; rw [if_pos hk, HRA.out, HRB.out])
    clear HSU
    go_wp2_with (first | ((with_reducible refine gD (N := 46) rfl ?_); (with_reducible refine zA 37 ?_); refine tM (g := gn) (x := { x with f1 := ra, f2 := rb }) rfl T4.out.box ?_) | (go_at_call 62; refine (T4.out.call (by have := HLN.out; omega) { x with f1 := ra, f2 := rb }).mono ?_; rintro e w10 ⟨rfl, ha, _⟩; have T5 := aq ha; clear ha T4; have T4 := T5; clear T5; have z9 := (Kd.yP 0 T4.out.tv j HJ.out HLT.out).1; have f9 := (Kd.yP 0 T4.out.tv j HJ.out HLT.out).2))
    exact FIN.out _ _ HS.out (T4.out.put j _).done
  ·obtain rfl : j = (nodes.length : Int) := by omega
   rw [Int.toNat_natCast, ← HRES.out] at H
   have d1 := eq_false (show ¬ (nodes.length : Int) < (nodes.length : Int) by omega)
   have htl : (putA nodes l).2.length = nodes.length := (HRL.out nodes.length).1
   obtain ⟨v, hv, hr⟩ := H.out.bx
   have HV := aq hv
   have HRV := aq hr
   have HTV := aq H.out.tv
   have HBW := aq H.out.B
   obtain ⟨res, hres⟩ : ∃ r, putA nodes l = r := ⟨_, rfl⟩
   rw [hres] at HRV HTV htl
   have HPU := aq hres
   clear hres
   have HTL := aq htl
   clear hlt j0 j1 H HRL HC HR HF HP HRES hv hr htl
   go_wp2
   rename World => w1
   have H0 := aq (Kd.oS (Kd.int .i64) 3 w1 w1.heap.size (fun _ => True))
   have HBR := aq (Below.refl w1.heap.size w1)
   go_loopw [14, 94] (fun v14 i w' => ∃ (q : Int), 0 ≤ q ∧ q ≤ (eqs.length : Int) ∧ i = .int .i64 q ∧ zV (Kd.R (Kd.int .i64) 3 w' w1.heap.size (fun _ => True) v14 ((eqs.take q.toNat).map (rd res.2))) ∧ zV (Below w1.heap.size w1 w')) (fun _ i _ => eqs.length - (intOf i).toNat)
   case atStart => exact ⟨0, Int.le_refl _, by omega, rfl, H0, HBR⟩
   case round =>
    clear H0 HBR
    obtain ⟨q, q0, q1, rfl, HO, HBR⟩ := hrel
    by_cases hlt : q < (eqs.length : Int)
    ·have hel : rd eqs q = eqs[q.toNat]'(by omega) := by
      unfold rd
      rw [List.getD_eq_getElem?_getD, List.getElem?_eq_getElem (by omega)]; rfl
     have hme := HEQ.out (rd eqs q) (by rw [hel]; exact List.getElem_mem _)
     have htk : (eqs.take (q + 1).toNat).map (rd res.2) = (eqs.take q.toNat).map (rd res.2) ++ [rd res.2 (rd eqs q)] := by
      rw [show (q + 1).toNat = q.toNat + 1 by omega, List.take_succ_eq_append_getElem (by omega), List.map_append, hel]; rfl
     have hwr : wrap64 (q + 1) = q + 1 := by unfold wrap64; have := HEL.out; omega
     have hln : ((eqs.take q.toNat).map (rd res.2)).length = q.toNat := by rw [List.length_map, List.length_take]; omega
     obtain ⟨gv, _, ev, _⟩ := Kd.tL HTV.out (by rw [HTL.out]; omega)
     injection ev with ev e2 e3
     clear e2 e3
     subst ev
     obtain ⟨ad, ea, ya⟩ := Kd.vU HE.out q q0 hlt
     cases ea
     have ya := bc (bt_ HBW.out HBR.out) ya
     have yb := (Kd.yP 0 (Kd.yS HTV.out HBR.out) (rd eqs q) hme.1 hme.2).1.trans (show _ = some (.int .i64 (rd res.2 (rd eqs q))) from rfl)
     obtain ⟨m0, m1⟩ := hme
     have HTK := aq htk
     have HWR := aq hwr
     have HLN := aq hln
     generalize rd eqs q = e at ya yb m0 m1 HTK
     generalize (eqs.take q.toNat).map (rd res.2) = xs at HO HTK HLN
     clear htk hwr hln hel
     go_wp2_with (first | ((with_reducible refine yC (b := .append) (xs := #[.tmp 98, .tmp 103]) rfl ?_); at_builtin; refine Kd.wL (Kd.int .i64) (w0 := w1) w1.heap.size rfl (.tmp 98) (.tmp 103) 23 3 (.int .i64 0) 8 rfl Try.underlying23 info3 rfl (by decide) (by omega) _ xs (rd res.2 e) [.int .i64 (rd res.2 e)] (fun _ => True) (fun _ => False) rfl rfl ?aP (fun _ hk => hk.elim) ?aF ?aO ?aB ?aS ?aL ?_; (case aP => exact rfl); (case aB => exact HBR.out); (case aF => exact (fun _ _ => trivial)); (case aO => exact HO.out); (case aS => exact HBR.out.size); (case aL => have := HLN.out; have := HEL.out; omega); intro v2 w9 ho hb hg hat; have HO2 := aq ho; have HB2 := aq hb; clear ho hb hg hat HO HBR))
     rw [HWR.out]
     refine ⟨⟨q + 1, by omega, by omega, rfl, ⟨by rw [HTK.out]; exact HO2.out⟩, HB2⟩, ?_⟩
     simp only [intOf]; omega
    ·obtain rfl : q = (eqs.length : Int) := by omega
     rw [Int.toNat_natCast, List.take_length] at HO
     have d2 := eq_false (show ¬ (eqs.length : Int) < (eqs.length : Int) by omega)
     have zb := (bq (bb_ HV.out HBR.out) 0).trans (show _ = some v from rfl)
     clear hlt q0 q1
     go_wp2
     refine bodyPost_ret (results_tmp2 rfl _ _ _) rfl ?_
     rw [HPU.out]
     exact ⟨_, _, rfl, Kd.yS HRV.out HBR.out, Kd.vN HO.out HBW.out.size, bt_ HBW.out HBR.out⟩
theorem alb34 (nodes : List S37) (roots : List Int) (A : Option Addr) (c : Nat) (A1 : Option Addr) (c1 : Nat) (w : World) (hC : Kd.C k37 w A nodes.length nodes) (hc : nodes.length ≤ c) (hI : ∀ x ∈ nodes, wE x) (hR : Kd.C (Kd.int .i64) w A1 roots.length roots) (hc1 : roots.length ≤ c1) (hl : roots.length ≤ 17592186044416) (hg : tT nodes roots = true) :
  Calls Try.prog 34 #[.slice A nodes.length c, .slice A1 roots.length c1] w fun e w' => ∃ vo vr, e = .returned (.tuple #[vo, vr]) ∧ Kd.R k37 37 w' w.heap.size (fun _ => True) vo (wC yI nodes roots).1 ∧ Kd.R (Kd.int .i64) 3 w' w.heap.size (fun _ => True) vr (wC yI nodes roots).2 ∧ Below w.heap.size w w' := by
 have HB := aq (build8 nodes roots A c A1 c1 w hC hc hI hR hc1 hl hg)
 clear hC hI hR hg hl
 go_enter Try.func34, Try.ntmps34
 go_wp2_with (first | (go_at_call 8; refine HB.out.mono ?_; rintro e w2 ⟨vo, vr, rfl, h1, h2, h3⟩; have H1 := aq h1; have H2 := aq h2; have H3 := aq h3; clear h1 h2 h3 HB))
 refine bodyPost_ret (results_tmp2 rfl _ _ _) rfl ?_
 exact ⟨_, _, rfl, H1.out, H2.out, H3.out⟩
structure StartOK (n : Nat) (s : S80) : Prop where
 v0 : 0 ≤ s.f0.f0
 v1 : s.f0.f0 < (n : Int)
 k0 : 0 ≤ s.f0.f1
 k1 : s.f0.f1 ≤ 6
 lo : zE s.f1.f0 s.f1.f1 = true
 hi : zE s.f2.f0 s.f2.f1 = true
 i1 : I64 s.f1.f0 ∧ I64 s.f1.f1
 i2 : I64 s.f2.f0 ∧ I64 s.f2.f1
structure oB (f : sV) (Av : Option Addr) (cv : Nat) (An : Option Addr) (cn : Nat) (Ae : Option Addr) (ce : Nat) (As : Option Addr) (cs : Nat) (w : World) : Prop where
 vars : Kd.C k59 w Av f.vars.length f.vars
 nodes : Kd.C k37 w An f.nodes.length f.nodes
 eqs : Kd.C (Kd.int .i64) w Ae f.eqs.length f.eqs
 zS : Kd.C k80 w As f.zS.length f.zS
 nle : f.nodes.length ≤ cn
 ele : f.eqs.length ≤ ce
theorem oB.below {f : sV} {Av : Option Addr} {cv : Nat} {An : Option Addr} {cn : Nat} {Ae : Option Addr} {ce : Nat} {As : Option Addr} {cs : Nat} {w w' : World} (h : oB f Av cv An cn Ae ce As cs w) (hb : Below w.heap.size w w') : oB f Av cv An cn Ae ce As cs w' :=
 ⟨Kd.xY h.vars hb, Kd.xY h.nodes hb, Kd.xY h.eqs hb, Kd.xY h.zS hb, h.nle, h.ele⟩
def flA (f : sV) (Av : Option Addr) (cv : Nat) (An : Option Addr) (cn : Nat) (Ae : Option Addr) (ce : Nat) (As : Option Addr) (cs : Nat) : Array Value := #[.slice Av f.vars.length cv, .slice An f.nodes.length cn, .slice Ae f.eqs.length ce, .slice As f.zS.length cs]
structure nP (f : sV) : Prop where
 right : tT f.nodes f.eqs = true
 nodeI : ∀ x ∈ f.nodes, wE x
 var : ∀ x ∈ f.nodes, x.f0 = 2 → x.f5.f0 < (f.vars.length : Int)
 start : ∀ s ∈ f.zS, StartOK f.vars.length s
 nle : f.nodes.length ≤ 1900
 ele : f.eqs.length ≤ 17592186044416
 vle : f.vars.length ≤ 100
 sle : f.zS.length ≤ 2932031007402
def badV (n : Nat) (x : S37) : Bool := x.f0 == 2 && decide ((n : Int) ≤ x.f5.f0)
theorem chk58 (x : S37) (n : Nat) (g : Nat) (cl : Array Value) (Av : Option Addr) (cv : Nat) (W : World) (hg : W.heap[g]? = some (.cells cl 47 (0, 0))) (hl : cl[0]? = some (.slice Av n cv)) :
  Calls Try.prog 58 #[.agg (yQ x), .pointer (some ⟨g, 0, none⟩)] W fun e w' => e = .returned (.bool (badV n x)) ∧ Below W.heap.size W w' := by
 have hx := heap_alloc_last W (.cells (yQ x) 37)
 have z0 := (bq hx 0).trans (show _ = some (.int .i64 x.f0) from rfl)
 have z6 := (bq hx 6).trans (show _ = some (.int .i64 x.f5.f0) from rfl)
 have zg := (bq (zI hg (.cells (yQ x) 37)) 0).trans hl
 have HB := aq (zY (Below.refl W.heap.size W) (.cells (yQ x) 37))
 clear hx hg hl
 by_cases c1 : x.f0 = 2
 ·have d1 : (x.f0 == 2) = true := beq_iff_eq.2 c1
  have HE := aq (show badV n x = decide ((n : Int) ≤ x.f5.f0) by unfold badV; rw [d1]; rfl)
  rw [HE.out]
  go_enter Try.func58, Try.ntmps58
  go_wp2
  refine bodyPost_ret (results_tmp rfl _ _ _) rfl ⟨rfl, HB.out⟩
 ·have d1 : (x.f0 == 2) = false := beq_eq_false_iff_ne.2 c1
  have HE := aq (show badV n x = false by unfold badV; rw [d1]; rfl)
  rw [HE.out]
  go_enter Try.func58, Try.ntmps58
  go_wp2
  refine bodyPost_ret (results_tmp rfl _ _ _) rfl ⟨rfl, HB.out⟩
theorem en58 (args : Array Value) (w : World) : (callFunc 58 args).run Try.prog w = .ok (.enter 58 args) w := enters_of Try.func58 (by kernel_rfl) rfl args w
theorem idx86 (n : Nat) (g : Nat) (cl : Array Value) (Av : Option Addr) (cv : Nat) (nodes : List S37) (A : Option Addr) (c : Nat) (w : World) (hC : Kd.C k37 w A nodes.length nodes) (hg : w.heap[g]? = some (.cells cl 47 (0, 0))) (hl : cl[0]? = some (.slice Av n cv)) (hb : ∀ x ∈ nodes, badV n x = false) (hl4 : nodes.length ≤ 4000) :
  Calls Try.prog 86 #[.slice A nodes.length c, .func (.func 58) #[] #[.pointer (some ⟨g, 0, none⟩)]] w fun e w' => e = .returned (.int .i64 (-1)) ∧ Below w.heap.size w w' := by
 have eg := en58
 have HC := aq hC
 have HCALL := aq (fun (W : World) (x : S37) (h : Below w.heap.size w W) => chk58 x n g cl Av cv W (bb_ hg h) hl)
 have HBD := aq hb
 have HL := aq hl4
 have HB0 := aq (Below.refl w.heap.size w)
 clear hC hg hl hb hl4
 go_enter Try.func86, Try.ntmps86
 go_wp2
 go_loopw [8] (fun i wr => ∃ (j : Int), 0 ≤ j ∧ j ≤ (nodes.length : Int) ∧ i = .int .i64 j ∧ zV (Below w.heap.size w wr)) (fun i _ => nodes.length - (intOf i).toNat)
 case atStart => exact ⟨0, Int.le_refl _, by omega, rfl, HB0⟩
 case round =>
  obtain ⟨j, j0, j1, rfl, HB⟩ := hrel
  clear HB0
  by_cases hlt : j < (nodes.length : Int)
  ·obtain ⟨ad, eA, hnd⟩ := node_at HC.out HB.out (Nat.le_refl _) j j0 hlt
   subst eA
   have hme : rT nodes j ∈ nodes := by
    unfold rT
    rw [List.getD_eq_getElem?_getD, List.getElem?_eq_getElem (by omega)]
    exact List.getElem_mem _
   have HCJ := aq (HCALL.out wr (rT nodes j) HB.out)
   rw [HBD.out _ hme] at HCJ
   have HND := aq hnd
   have HW := aq (show wrap64 (j + 1) = j + 1 by unfold wrap64; have := HL.out; omega)
   generalize rT nodes j = x at HND HCJ
   clear hnd hme
   go_wp2_with (first | ((with_reducible refine zA 37 ?_); refine wX (t := 37) (cs := wS x) rfl (by kernel_rfl) (by kernel_rfl) HND.out ?_) | (go_at_call 58; refine HCJ.out.mono ?_; rintro e w7 ⟨rfl, hd⟩; have HB7 := aq (bt_ HB.out hd); clear hd HB HCJ))
   rw [HW.out]
   refine ⟨⟨j + 1, by omega, by omega, rfl, HB7⟩, ?_⟩
   simp only [intOf]; omega
  ·have d1 := eq_false hlt
   go_wp2
   refine bodyPost_ret (results_tmp rfl _ _ _) rfl ⟨rfl, HB.out⟩
theorem cont57 (n : Nat) (g : Nat) (cl : Array Value) (Av : Option Addr) (cv : Nat) (nodes : List S37) (A : Option Addr) (c : Nat) (w : World) (hC : Kd.C k37 w A nodes.length nodes) (hg : w.heap[g]? = some (.cells cl 47 (0, 0))) (hl : cl[0]? = some (.slice Av n cv)) (hb : ∀ x ∈ nodes, badV n x = false) (hl4 : nodes.length ≤ 4000) :
  Calls Try.prog 57 #[.slice A nodes.length c, .func (.func 58) #[] #[.pointer (some ⟨g, 0, none⟩)]] w fun e w' => e = .returned (.bool false) ∧ Below w.heap.size w w' := by
 have HI := aq (idx86 n g cl Av cv nodes A c w hC hg hl hb hl4)
 clear hC hg hl hb
 go_enter Try.func57, Try.ntmps57
 go_wp2_with (first | (go_at_call 86; refine HI.out.mono ?_; rintro e w7 ⟨rfl, hd⟩; have HB7 := aq hd; clear hd HI))
 refine bodyPost_ret (results_tmp rfl _ _ _) rfl ⟨rfl, HB7.out⟩
theorem el_at {α : Type} {d : Kd α} {w : World} {A : Option Addr} {n : Nat} {xs : List α} (h : Kd.C d w A n xs) (z : α) (i : Int) (h0 : 0 ≤ i) (h1 : i < n) :
  ∃ ad c, A = some ad ∧ d.K w (xs.getD i.toNat z) c ∧ ∀ (j : Nat) u, c[j]? = some u → w.cell? ((ad.add (i.toNat * d.sz)).add j) = some u := by
 obtain ⟨ad, c, e, _, hK, hc⟩ := Kd.C_get h z i h0 h1
 exact ⟨ad, c, e, hK, fun j u hu => by rw [add_add]; exact hc j u hu⟩
def qG (s : S80) : List Value := [.int .i64 s.f0.f0, .int .i64 s.f0.f1, .int .i64 s.f1.f0, .int .i64 s.f1.f1, .int .i64 s.f2.f0, .int .i64 s.f2.f1]
def vE (s : S80) : Array Value := #[.int .i64 s.f0.f0, .int .i64 s.f0.f1, .int .i64 s.f1.f0, .int .i64 s.f1.f1, .int .i64 s.f2.f0, .int .i64 s.f2.f1]
theorem k80_open {w : World} {s : S80} {cs : List Value} (h : k80.K w s cs) : cs = qG s := by
 obtain ⟨_, _, rfl, s0, ⟨_, _, rfl, s1, s2⟩⟩ := h
 obtain rfl := k32_open s0
 obtain rfl := sJ s1
 obtain rfl := sJ s2
 rfl
theorem st_at {w : World} {A : Option Addr} {n : Nat} {xs : List S80} (h : Kd.C k80 w A n xs) (i : Int) (h0 : 0 ≤ i) (h1 : i < n) :
  ∃ ad, A = some ad ∧ ∀ (j : Nat) u, (qG (zG z80 xs i))[j]? = some u → w.cell? ((ad.add (i.toNat * 6)).add j) = some u := by
 obtain ⟨ad, c, e, hK, hc⟩ := el_at h z80 i h0 h1
 obtain rfl := k80_open hK
 exact ⟨ad, e, hc⟩
theorem ev_st80 {a : Act} {W : World} {ops : Array Oper} {Q : Exit → Act → World → Prop} {rest : List Oper} {ty : TypeId} {pos : String} {after : Array Edge} {p v : Tmp} {g : Nat} {cur : Array Value} {x : S80} (hp : a.eval (.tmp p) = .pointer (some ⟨g, 0, none⟩)) (hv : a.eval (.tmp v) = .agg (vE x)) (hx : W.heap[g]? = some (.cells cur 80 (0, 0))) (hs : cur.size = 6)
  (h : ∀ W', W'.heap[g]? = some (.cells (vE x) 80 (0, 0)) → qK g W W' → wpList Try.prog ops Q rest a W') : wpList Try.prog ops Q (⟨none, .store 80 (.tmp p) (.tmp v), ty, pos, after, none⟩ :: rest) a W :=
 tV (t0 := 80) (c' := vE x) (cur' := vE x) hp hv hx (by kernel_rfl) (by show 0 + 6 ≤ cur.size; omega) (by kernel_rfl) (by rw [List.drop_eq_nil_of_le (by show cur.toList.length ≤ 6; rw [Array.length_toList]; omega)]; simp) h
theorem check33 (f : sV) (Av : Option Addr) (cv : Nat) (An : Option Addr) (cn : Nat) (Ae : Option Addr) (ce : Nat) (As : Option Addr) (cs : Nat) (w : World) (h : oB f Av cv An cn Ae ce As cs w) (ho : nP f) :
  Calls Try.prog 33 #[.agg (flA f Av cv An cn Ae ce As cs)] w fun e w' => e = .returned (.int .i64 0) ∧ Below w.heap.size w w' := by
 have HB8 := aq (fun (V : World) (hb : Below w.heap.size w V) => build8 f.nodes f.eqs An cn Ae ce V (Kd.xY h.nodes hb) h.nle ho.nodeI (Kd.xY h.eqs hb) h.ele ho.ele ho.right)
 have HCN := aq (fun (V : World) (hb : Below w.heap.size w V) (hg : V.heap[w.heap.size]? = some (.cells (flA f Av cv An cn Ae ce As cs) 47 (0, 0))) => cont57 f.vars.length w.heap.size _ Av cv f.nodes An cn V (Kd.xY h.nodes hb) hg rfl (fun x hx => by
  unfold badV
  by_cases k : x.f0 = 2
  ·rw [decide_eq_false (by have := ho.var x hx k; omega), Bool.and_false]
  ·rw [beq_eq_false_iff_ne.2 k]; rfl) (by have := ho.nle; omega))
 have HS := aq ho.start
 have HSC := aq h.zS
 have HSL := aq ho.sle
 have GB := aq (heap_alloc_last w (.cells (flA f Av cv An cn Ae ce As cs) 47))
 have B := aq (zY (Below.refl w.heap.size w) (.cells (flA f Av cv An cn Ae ce As cs) 47))
 have d1 := eq_false (show ¬ (2000 : Int) < (f.nodes.length : Int) by have := ho.nle; omega)
 have d2 := eq_false (show ¬ (2000 : Nat) < f.nodes.length by have := ho.nle; omega)
 clear h ho
 have z0 := (bq GB.out 0).trans (show _ = some (.slice Av f.vars.length cv) from rfl)
 have z1 := (bq GB.out 1).trans (show _ = some (.slice An f.nodes.length cn) from rfl)
 have z2 := (bq GB.out 2).trans (show _ = some (.slice Ae f.eqs.length ce) from rfl)
 have z3 := (bq GB.out 3).trans (show _ = some (.slice As f.zS.length cs) from rfl)
 go_enter Try.func33, Try.ntmps33
 go_wp2_with (first | (go_at_call 8; refine (HB8.out _ B.out).mono ?_; rintro e w2 ⟨vo, vr, rfl, _, _, hd⟩; clear HB8; have GB2 := aq (bb_ GB.out hd); have B2 := aq (bt_ B.out hd); clear GB B hd z0 z1 z2 z3; have GB := GB2; have B := B2; clear GB2 B2; have z0 := (bq GB.out 0).trans (show _ = some (.slice Av f.vars.length cv) from rfl); have z1 := (bq GB.out 1).trans (show _ = some (.slice An f.nodes.length cn) from rfl); have z2 := (bq GB.out 2).trans (show _ = some (.slice Ae f.eqs.length ce) from rfl); have z3 := (bq GB.out 3).trans (show _ = some (.slice As f.zS.length cs) from rfl)) | (go_at_call 57; refine (HCN.out _ B.out GB.out).mono ?_; rintro e w3 ⟨rfl, hd⟩; clear HCN; have GB2 := aq (bb_ GB.out hd); have B2 := aq (bt_ B.out hd); clear GB B hd z0 z1 z2 z3; have GB := GB2; have B := B2; clear GB2 B2; have z0 := (bq GB.out 0).trans (show _ = some (.slice Av f.vars.length cv) from rfl); have z1 := (bq GB.out 1).trans (show _ = some (.slice An f.nodes.length cn) from rfl); have z2 := (bq GB.out 2).trans (show _ = some (.slice Ae f.eqs.length ce) from rfl); have z3 := (bq GB.out 3).trans (show _ = some (.slice As f.zS.length cs) from rfl)))
 go_loopw [30] (fun i wr => ∃ (j : Int), 0 ≤ j ∧ j ≤ (f.zS.length : Int) ∧ i = .int .i64 j ∧ zV (wr.heap[w.heap.size]? = some (.cells (flA f Av cv An cn Ae ce As cs) 47 (0, 0))) ∧ zV (Below w.heap.size w wr)) (fun i _ => f.zS.length - (intOf i).toNat)
 case atStart => exact ⟨0, Int.le_refl _, by omega, rfl, GB, B⟩
 case round =>
  clear GB B z0 z1 z2 z3
  obtain ⟨j, j0, j1, rfl, GB, B⟩ := hrel
  by_cases hlt : j < (f.zS.length : Int)
  ·obtain ⟨ad, eA, hnd⟩ := st_at (Kd.xY HSC.out B.out) j j0 hlt
   subst eA
   have hme : zG z80 f.zS j ∈ f.zS := by
    unfold zG
    rw [List.getD_eq_getElem?_getD, List.getElem?_eq_getElem (by omega)]
    exact List.getElem_mem _
   have hs := HS.out _ hme
   have HND := aq hnd
   have HW := aq (show wrap64 (j + 1) = j + 1 by unfold wrap64; have := HSL.out; omega)
   generalize zG z80 f.zS j = s at HND hs
   have HLO := aq (fun (V : World) => sL hs.i1.1 hs.i1.2 V)
   have HHI := aq (fun (V : World) => sL hs.i2.1 hs.i2.2 V)
   rw [hs.lo] at HLO
   rw [hs.hi] at HHI
   have s0 := eq_false (show ¬ s.f0.f0 < 0 by have := hs.v0; omega)
   have s1 := eq_false (show ¬ (f.vars.length : Int) ≤ s.f0.f0 by have := hs.v1; omega)
   have s2 := eq_false (show ¬ s.f0.f1 < 0 by have := hs.k0; omega)
   have s3 := eq_false (show ¬ 6 < s.f0.f1 by have := hs.k1; omega)
   clear hnd hme hs
   have z0 := (bq GB.out 0).trans (show _ = some (.slice Av f.vars.length cv) from rfl)
   go_upto_region 11 with (first | ((with_reducible refine zA 80 ?_); refine wX (t := 80) (cs := qG s) rfl (by kernel_rfl) (by kernel_rfl) HND.out ?_) | ((with_reducible refine gD (N := 7) rfl ?_); refine bE ?hg (N := 7) ?hd (cs := vE z80) (t := 80) ?hr ?_; (case hd => rfl); (case hg => rfl); (case hr => first | (go_simp; done) | (go_simp; rfl)); intro g7 hgn w5 hbox hb; have HX := aq hbox; have HB5 := aq hb; have GN := aq (show wr.heap.size ≤ g7 by rw [hgn]; exact Nat.le_refl _); clear hbox hb hgn) | ((with_reducible refine xG 7 ?_); refine ev_st80 (g := g7) (x := s) rfl rfl HX.out rfl ?_; intro w6 hx6 h6; have SX := aq hx6; have hd := HB5.out.trans (h6.below GN.out); have GB2 := aq (bb_ GB.out hd); have B2 := aq (bt_ B.out hd); clear hx6 h6 hd HX HB5 GN GB B z0; have GB := GB2; have B := B2; clear GB2 B2))
   have z0 := (bq GB.out 0).trans (show _ = some (.slice Av f.vars.length cv) from rfl)
   have y0 := (bq SX.out 0).trans (show _ = some (.int .i64 s.f0.f0) from rfl)
   have y1 := (bq SX.out 1).trans (show _ = some (.int .i64 s.f0.f1) from rfl)
   have y2 := (bq SX.out 2).trans (show _ = some (.int .i64 s.f1.f0) from rfl)
   have y3 := (bq SX.out 3).trans (show _ = some (.int .i64 s.f1.f1) from rfl)
   have y4 := (bq SX.out 4).trans (show _ = some (.int .i64 s.f2.f0) from rfl)
   have y5 := (bq SX.out 5).trans (show _ = some (.int .i64 s.f2.f1) from rfl)
   go_wp2_with (first | (go_at_call 59; (with_reducible refine (HLO.out _).mono ?_); rintro e w7 ⟨rfl, hd⟩; have GB2 := aq (bb_ GB.out hd); have B2 := aq (bt_ B.out hd); have SX2 := aq (bb_ SX.out hd); clear GB B SX hd z0 y0 y1 y2 y3 y4 y5; have GB := GB2; have B := B2; have SX := SX2; clear GB2 B2 SX2; have z0 := (bq GB.out 0).trans (show _ = some (.slice Av f.vars.length cv) from rfl); have y0 := (bq SX.out 0).trans (show _ = some (.int .i64 s.f0.f0) from rfl); have y1 := (bq SX.out 1).trans (show _ = some (.int .i64 s.f0.f1) from rfl); have y2 := (bq SX.out 2).trans (show _ = some (.int .i64 s.f1.f0) from rfl); have y3 := (bq SX.out 3).trans (show _ = some (.int .i64 s.f1.f1) from rfl); have y4 := (bq SX.out 4).trans (show _ = some (.int .i64 s.f2.f0) from rfl); have y5 := (bq SX.out 5).trans (show _ = some (.int .i64 s.f2.f1) from rfl)) | (go_at_call 59; (with_reducible refine (HHI.out _).mono ?_); rintro e w8 ⟨rfl, hd⟩; have GB2 := aq (bb_ GB.out hd); have B2 := aq (bt_ B.out hd); have SX2 := aq (bb_ SX.out hd); clear GB B SX hd z0 y0 y1 y2 y3 y4 y5; have GB := GB2; have B := B2; have SX := SX2; clear GB2 B2 SX2; have z0 := (bq GB.out 0).trans (show _ = some (.slice Av f.vars.length cv) from rfl); have y0 := (bq SX.out 0).trans (show _ = some (.int .i64 s.f0.f0) from rfl); have y1 := (bq SX.out 1).trans (show _ = some (.int .i64 s.f0.f1) from rfl); have y2 := (bq SX.out 2).trans (show _ = some (.int .i64 s.f1.f0) from rfl); have y3 := (bq SX.out 3).trans (show _ = some (.int .i64 s.f1.f1) from rfl); have y4 := (bq SX.out 4).trans (show _ = some (.int .i64 s.f2.f0) from rfl); have y5 := (bq SX.out 5).trans (show _ = some (.int .i64 s.f2.f1) from rfl)))
   rw [HW.out]
   refine ⟨⟨j + 1, by omega, by omega, rfl, GB, B⟩, ?_⟩
   simp only [intOf]; omega
  ·have d3 := eq_false hlt
   go_wp2
   refine bodyPost_ret (results_tmp rfl _ _ _) rfl ⟨rfl, B.out⟩
def rF (x : S59) : Array Value := #[.string x.f0, .int .i64 x.f1.f0.f0.f0, .int .i64 x.f1.f0.f0.f1, .int .i64 x.f1.f0.f1.f0, .int .i64 x.f1.f0.f1.f1, .int .i64 x.f1.f0.f2.f0, .int .i64 x.f1.f0.f2.f1, .int .i64 x.f1.f0.f3.f0, .int .i64 x.f1.f0.f3.f1, .int .i64 x.f1.f0.f4.f0, .int .i64 x.f1.f0.f4.f1, .int .i64 x.f1.f0.f5.f0, .int .i64 x.f1.f0.f5.f1, .int .i64 x.f1.f0.f6.f0, .int .i64 x.f1.f0.f6.f1]
theorem k59_open {w : World} {x : S59} {cs : List Value} (h : k59.K w x cs) : cs = (rF x).toList := by
 obtain ⟨_, _, rfl, s0, s1⟩ := h
 obtain rfl := k35_open s1
 obtain rfl := s0
 rfl
theorem k59_mkM (w : World) (base : Nat) (ok : Nat → Prop) (x : S59) : k59.M w base ok x (rF x).toList := ⟨[.string x.f0], _, rfl, rfl, k35_mkM _ _ _ _⟩
theorem k80_mkM (w : World) (base : Nat) (ok : Nat → Prop) (x : S80) : k80.M w base ok x (vE x).toList := ⟨[.int .i64 x.f0.f0, .int .i64 x.f0.f1], _, rfl, nT _ _ _ _, ⟨[.int .i64 x.f1.f0, .int .i64 x.f1.f1], _, rfl, qZ _ _ _ _, qZ _ _ _ _⟩⟩
theorem var_at {w : World} {A : Option Addr} {n : Nat} {xs : List S59} (h : Kd.C k59 w A n xs) (i : Int) (h0 : 0 ≤ i) (h1 : i < n) :
  ∃ ad, A = some ad ∧ ∀ (j : Nat) u, ((rF (zG z59 xs i)).toList)[j]? = some u → w.cell? ((ad.add (i.toNat * 15)).add j) = some u := by
 obtain ⟨ad, c, e, hK, hc⟩ := el_at h z59 i h0 h1
 obtain rfl := k59_open hK
 exact ⟨ad, e, hc⟩
theorem info53 : (Try.prog.info? 53).map (fun i => (i.zero, i.size, i.bytes)) = some (some (.agg #[(.int .i64 0), (.int .i64 0)]), 2, 16) := by kernel_rfl
theorem info80 : (Try.prog.info? 80).map (fun i => (i.zero, i.size, i.bytes)) = some (some (.agg #[(.int .i64 0), (.int .i64 0), (.int .i64 0), (.int .i64 0), (.int .i64 0), (.int .i64 0)]), 6, 48) := by kernel_rfl
theorem info59 : (Try.prog.info? 59).map (fun i => (i.zero, i.size, i.bytes)) = some (some (.agg (rF ⟨ByteArray.empty, z35⟩)), 15, 128) := by kernel_rfl
section
variable {a : Act} {W : World} {ops : Array Oper} {Q : Exit → Act → World → Prop} {rest : List Oper} {ty : TypeId} {pos : String} {after : Array Edge} {d : Option Tmp}
theorem ev_st59 {p v : Tmp} {g : Nat} {cur : Array Value} {x : S59} (hp : a.eval (.tmp p) = .pointer (some ⟨g, 0, none⟩)) (hv : a.eval (.tmp v) = .agg (rF x)) (hx : W.heap[g]? = some (.cells cur 59 (0, 0))) (hs : cur.size = 15)
  (h : ∀ W', W'.heap[g]? = some (.cells (rF x) 59 (0, 0)) → qK g W W' → wpList Try.prog ops Q rest a W') : wpList Try.prog ops Q (⟨none, .store 59 (.tmp p) (.tmp v), ty, pos, after, none⟩ :: rest) a W :=
 tV (t0 := 59) (c' := rF x) (cur' := rF x) hp hv hx (by kernel_rfl) (by show 0 + 15 ≤ cur.size; omega) (by kernel_rfl) (by rw [List.drop_eq_nil_of_le (by show cur.toList.length ≤ 15; rw [Array.length_toList]; omega)]; simp) h
theorem oT {p : Operand} {g t n : Nat} {c : Array Value} (hp : a.eval p = .pointer (some ⟨g, 0, none⟩)) (hx : W.heap[g]? = some (.cells c t (0, 0))) (hag : (isAgg t).run Try.prog W = .ok true W) (hsz : (sizeOf t).run Try.prog W = .ok n W) (hn : c.size = n)
  (h : wpList Try.prog ops Q rest (a.put d (.agg c)) W) : wpList Try.prog ops Q (⟨d, .load t p, ty, pos, after, none⟩ :: rest) a W := by
 refine wX (t := t) (ad := ⟨g, 0, none⟩) (cs := c.toList) hp hag (by rw [Array.length_toList, hn]; exact hsz) (fun j v hj => ?_) (by rw [Array.toArray_toList]; exact h)
 have := sY hx 0 c.toList (by rw [List.drop_zero, List.take_length])
 exact this j v hj
theorem run_build44 (x : S59) (W : World) : (Instr.buildSlice 44 1 #[(0, .agg (rF x))]).run Try.prog W = .ok (.slice (some ⟨W.heap.size, 0, none⟩) 1 1) (W.alloc (.cells (rF x) 59)) := by kernel_rfl
theorem run_build45 (x : S80) (W : World) : (Instr.buildSlice 45 1 #[(0, .agg (vE x))]).run Try.prog W = .ok (.slice (some ⟨W.heap.size, 0, none⟩) 1 1) (W.alloc (.cells (vE x) 80)) := by kernel_rfl
theorem run_build49 (x : S32) (W : World) : (Instr.buildSlice 49 1 #[(0, .agg (aA x))]).run Try.prog W = .ok (.slice (some ⟨W.heap.size, 0, none⟩) 1 1) (W.alloc (.cells (aA x) 53)) := by kernel_rfl
theorem exec_build44 {o : Operand} {x : S59} (ho : a.eval o = .agg (rF x)) : (execOp a.eval ⟨d, .buildSlice 44 1 #[(0, o)], ty, pos, after, none⟩).run Try.prog W = .ok (.value (.slice (some ⟨W.heap.size, 0, none⟩) 1 1)) (W.alloc (.cells (rF x) 59)) := by
 unfold execOp
 simp only [List.map_toArray, List.map_cons, List.map_nil, ho, Sem.run_bind]
 rw [run_build44]
 rfl
theorem lW {o : Operand} {x : S80} (ho : a.eval o = .agg (vE x)) : (execOp a.eval ⟨d, .buildSlice 45 1 #[(0, o)], ty, pos, after, none⟩).run Try.prog W = .ok (.value (.slice (some ⟨W.heap.size, 0, none⟩) 1 1)) (W.alloc (.cells (vE x) 80)) := by
 unfold execOp
 simp only [List.map_toArray, List.map_cons, List.map_nil, ho, Sem.run_bind]
 rw [run_build45]
 rfl
theorem lZ {o : Operand} {x : S32} (ho : a.eval o = .agg (aA x)) : (execOp a.eval ⟨d, .buildSlice 49 1 #[(0, o)], ty, pos, after, none⟩).run Try.prog W = .ok (.value (.slice (some ⟨W.heap.size, 0, none⟩) 1 1)) (W.alloc (.cells (aA x) 53)) := by
 unfold execOp
 simp only [List.map_toArray, List.map_cons, List.map_nil, ho, Sem.run_bind]
 rw [run_build49]
 rfl
end
theorem results_ctt {P : Program} {fn : Func} {p t u : Tmp} {ty : TypeId} (h : fn.results = #[.cell p ty, .tmp t, .tmp u]) (tmps : Array Value) (w : World) (g : Nat) (t' : TypeId) (cs : Array Value) (fr : Nat × Nat) (d : TypeDesc)
  (hp : tmps.getD p undef = .pointer (some ⟨g, 0, none⟩)) (hg : w.heap[g]? = some (.cells cs t' fr))
  (hu : P.underlying ty = some d) (hd : (match d with | .struct _ | .array _ _ => true | _ => false) = true) (hi : (P.info? ty).map (·.size) = some cs.size) :
  (results fn tmps).run P w = .ok (.tuple #[.agg cs, tmps.getD t undef, tmps.getD u undef]) w := by
 have hp' : tmps[p]?.getD undef = .pointer (some ⟨g, 0, none⟩) := by simpa using hp
 simp [results, h, hp', asAddr, run_loadVar_row w g t' ty cs fr d hg hu hd hi]
structure KB (g : Nat) (w V : World) : Prop where
 os : V.os = w.os
 tape : V.tape = w.tape
 output : V.output = w.output
 size : w.heap.size ≤ V.heap.size
 block : ∀ k, k < w.heap.size → k ≠ g → V.heap[k]? = w.heap[k]?
section
variable {g : Nat} {w V V' : World}
theorem KB.refl (g : Nat) (w : World) : KB g w w := ⟨rfl, rfl, rfl, Nat.le_refl _, fun _ _ _ => rfl⟩
theorem KB.step (h : KB g w V) (hd : Below V.heap.size V V') : KB g w V' := ⟨hd.os.trans h.os, hd.tape.trans h.tape, hd.output.trans h.output, Nat.le_trans h.size hd.size, fun k hk hn => (hd.block k (Nat.lt_of_lt_of_le hk h.size)).trans (h.block k hk hn)⟩
theorem KB.one (h : KB g w V) (hd : qK g V V') : KB g w V' := ⟨hd.os.trans h.os, hd.tape.trans h.tape, hd.output.trans h.output, by rw [hd.size]; exact h.size, fun k hk hn => (hd.other k hn).trans (h.block k hk hn)⟩
theorem KB.low (h : KB g w V) (hd : Below w.heap.size V V') : KB g w V' := ⟨hd.os.trans h.os, hd.tape.trans h.tape, hd.output.trans h.output, Nat.le_trans h.size hd.size, fun k hk hn => (hd.block k hk).trans (h.block k hk hn)⟩
theorem KB.blk {k : Nat} {o : Obj} (h : KB g w V) (hx : w.heap[k]? = some o) (hn : k ≠ g) : V.heap[k]? = some o := (h.block k (zN hx) hn).trans hx
theorem KB.below {n : Nat} (h : KB g w V) (h1 : n ≤ g) (h2 : n ≤ w.heap.size) : Below n w V := ⟨h.os, h.tape, h.output, h.size, fun k hk => h.block k (by omega) (by omega)⟩
theorem KB.R {α : Type} {d : Kd α} {e base t : Nat} {ok : Nat → Prop} {v : Value} {xs : List α} {cells : Array Value} (h : KB g w V) (hr : Kd.R d e w base ok v xs) (hb : w.heap[g]? = some (.cells cells t (0, 0))) (ht : ∀ q, q ∈ e :: d.E → q ≠ t) : Kd.R d e V base ok v xs :=
 Kd.xC (Kd.oL (Kd.R_types hr hb ht) (fun k hk hl => h.block k hl hk.2)) (fun _ hk => hk.1)
end
theorem R_but {α : Type} {d : Kd α} {e base g : Nat} {V V' : World} {v : Value} {xs : List α} (h : Kd.R d e V base (fun _ => True) v xs) (hd : Below V.heap.size V V') (hg : V.heap.size ≤ g) : Kd.R d e V' base (fun k => k ≠ g) v xs :=
 Kd.yS (Kd.xC (Kd.uB h) (fun k hk => by have := hk.2.2.1; show k ≠ g; omega)) hd
end Go.Proofs.Ytoonahobmlnflaa.PC
