/- Texts of this claim, one behind the other. -/
import Derived.Test.YtoonahobmlnflaaVc19
set_option linter.unusedVariables false
set_option linter.unusedSimpArgs false
set_option maxRecDepth 100000
set_option maxHeartbeats 16000000
namespace Go.Proofs.Ytoonahobmlnflaa.PC
open Go.RowKit Go.Shelf A B C
theorem alb34 (nodes : List S37) (roots : List Int) (A : Option Addr) (c : Nat) (A1 : Option Addr) (c1 : Nat) (w : World) (hC : Kd.C k37 w A nodes.length nodes) (hc : nodes.length ≤ c) (hI : ∀ x ∈ nodes, wM x) (hR : Kd.C (Kd.int .i64) w A1 roots.length roots) (hc1 : roots.length ≤ c1) (hl : roots.length ≤ 17592186044416) (hg : tE nodes roots = true) :
    Calls Try.prog 34 #[.slice A nodes.length c, .slice A1 roots.length c1] w fun e w' => ∃ vo vr, e = .returned (.tuple #[vo, vr]) ∧ Kd.R k37 37 w' w.heap.size (fun _ => True) vo (xA yN nodes roots).1 ∧ Kd.R (Kd.int .i64) 3 w' w.heap.size (fun _ => True) vr (xA yN nodes roots).2 ∧ Below w.heap.size w w' := by
  have HB := aq (build8 nodes roots A c A1 c1 w hC hc hI hR hc1 hl hg)
  clear hC hI hR hg hl
  go_enter Try.func34, Try.ntmps34
  go_wp2_with (first | (go_at_call 8; refine HB.out.mono ?_; rintro e w2 ⟨vo, vr, rfl, h1, h2, h3⟩; have H1 := aq h1; have H2 := aq h2; have H3 := aq h3; clear h1 h2 h3 HB))
  refine bodyPost_ret (results_tmp2 rfl _ _ _) rfl ?_
  exact ⟨_, _, rfl, H1.out, H2.out, H3.out⟩
structure StartOK (n : Nat) (s : S80) : Prop where
  v0 : 0 ≤ s.f0.f0
  v1 : s.f0.f0 < (n : Int)
  k0 : 0 ≤ s.f0.f1
  k1 : s.f0.f1 ≤ 6
  lo : yU s.f1.f0 s.f1.f1 = true
  hi : yU s.f2.f0 s.f2.f1 = true
  i1 : I64 s.f1.f0 ∧ I64 s.f1.f1
  i2 : I64 s.f2.f0 ∧ I64 s.f2.f1
structure FlatC (f : rG) (Av : Option Addr) (cv : Nat) (An : Option Addr) (cn : Nat) (Ae : Option Addr) (ce : Nat) (As : Option Addr) (cs : Nat) (w : World) : Prop where
  vars : Kd.C k59 w Av f.vars.length f.vars
  nodes : Kd.C k37 w An f.nodes.length f.nodes
  eqs : Kd.C (Kd.int .i64) w Ae f.eqs.length f.eqs
  yM : Kd.C k80 w As f.yM.length f.yM
  nle : f.nodes.length ≤ cn
  ele : f.eqs.length ≤ ce
theorem FlatC.below {f : rG} {Av : Option Addr} {cv : Nat} {An : Option Addr} {cn : Nat} {Ae : Option Addr} {ce : Nat} {As : Option Addr} {cs : Nat} {w w' : World} (h : FlatC f Av cv An cn Ae ce As cs w) (hb : Below w.heap.size w w') : FlatC f Av cv An cn Ae ce As cs w' :=
  ⟨Kd.xZ h.vars hb, Kd.xZ h.nodes hb, Kd.xZ h.eqs hb, Kd.xZ h.yM hb, h.nle, h.ele⟩
def flA (f : rG) (Av : Option Addr) (cv : Nat) (An : Option Addr) (cn : Nat) (Ae : Option Addr) (ce : Nat) (As : Option Addr) (cs : Nat) : Array Value := #[.slice Av f.vars.length cv, .slice An f.nodes.length cn, .slice Ae f.eqs.length ce, .slice As f.yM.length cs]
structure FlatOK (f : rG) : Prop where
  right : tE f.nodes f.eqs = true
  nodeI : ∀ x ∈ f.nodes, wM x
  var : ∀ x ∈ f.nodes, x.f0 = 2 → x.f5.f0 < (f.vars.length : Int)
  start : ∀ s ∈ f.yM, StartOK f.vars.length s
  nle : f.nodes.length ≤ 1900
  ele : f.eqs.length ≤ 17592186044416
  vle : f.vars.length ≤ 100
  sle : f.yM.length ≤ 2932031007402
def badV (n : Nat) (x : S37) : Bool := x.f0 == 2 && decide ((n : Int) ≤ x.f5.f0)
theorem chk58 (x : S37) (n : Nat) (g : Nat) (cl : Array Value) (Av : Option Addr) (cv : Nat) (W : World) (hg : W.heap[g]? = some (.cells cl 47 (0, 0))) (hl : cl[0]? = some (.slice Av n cv)) :
    Calls Try.prog 58 #[.agg (zC x), .pointer (some ⟨g, 0, none⟩)] W fun e w' => e = .returned (.bool (badV n x)) ∧ Below W.heap.size W w' := by
  have hx := heap_alloc_last W (.cells (zC x) 37)
  have z0 := (bq hx 0).trans (show _ = some (.int .i64 x.f0) from rfl)
  have z6 := (bq hx 6).trans (show _ = some (.int .i64 x.f5.f0) from rfl)
  have zg := (bq (zM hg (.cells (zC x) 37)) 0).trans hl
  have HB := aq (zY (Below.refl W.heap.size W) (.cells (zC x) 37))
  clear hx hg hl
  by_cases c1 : x.f0 = 2
  · have d1 : (x.f0 == 2) = true := beq_iff_eq.2 c1
    have HE := aq (show badV n x = decide ((n : Int) ≤ x.f5.f0) by unfold badV; rw [d1]; rfl)
    rw [HE.out]
    go_enter Try.func58, Try.ntmps58
    go_wp2
    refine bodyPost_ret (results_tmp rfl _ _ _) rfl ⟨rfl, HB.out⟩
  · have d1 : (x.f0 == 2) = false := beq_eq_false_iff_ne.2 c1
    have HE := aq (show badV n x = false by unfold badV; rw [d1]; rfl)
    rw [HE.out]
    go_enter Try.func58, Try.ntmps58
    go_wp2
    refine bodyPost_ret (results_tmp rfl _ _ _) rfl ⟨rfl, HB.out⟩
theorem en58 (args : Array Value) (w : World) : (callFunc 58 args).run Try.prog w = .ok (.enter 58 args) w := enters_of Try.func58 (by kernel_rfl) rfl args w
theorem idx86 (n : Nat) (g : Nat) (cl : Array Value) (Av : Option Addr) (cv : Nat) (nodes : List S37) (A : Option Addr) (c : Nat) (w : World) (hC : Kd.C k37 w A nodes.length nodes) (hg : w.heap[g]? = some (.cells cl 47 (0, 0))) (hl : cl[0]? = some (.slice Av n cv)) (hb : ∀ x ∈ nodes, badV n x = false) (hl4 : nodes.length ≤ 4000) :
    Calls Try.prog 86 #[.slice A nodes.length c, .func (.func 58) #[] #[.pointer (some ⟨g, 0, none⟩)]] w fun e w' => e = .returned (.int .i64 (-1)) ∧ Below w.heap.size w w' := by
  have eg := en58
  have HC := aq hC
  have HCALL := aq (fun (W : World) (x : S37) (h : Below w.heap.size w W) => chk58 x n g cl Av cv W (bb_ hg h) hl)
  have HBD := aq hb
  have HL := aq hl4
  have HB0 := aq (Below.refl w.heap.size w)
  clear hC hg hl hb hl4
  go_enter Try.func86, Try.ntmps86
  go_wp2
  go_loopw [8] (fun i wr => ∃ (j : Int), 0 ≤ j ∧ j ≤ (nodes.length : Int) ∧ i = .int .i64 j ∧ zT (Below w.heap.size w wr)) (fun i _ => nodes.length - (intOf i).toNat)
  case atStart => exact ⟨0, Int.le_refl _, by omega, rfl, HB0⟩
  case round =>
    obtain ⟨j, j0, j1, rfl, HB⟩ := hrel
    clear HB0
    by_cases hlt : j < (nodes.length : Int)
    · obtain ⟨ad, eA, hnd⟩ := node_at HC.out HB.out (Nat.le_refl _) j j0 hlt
      subst eA
      have hme : rT nodes j ∈ nodes := by
        unfold rT
        rw [List.getD_eq_getElem?_getD, List.getElem?_eq_getElem (by omega)]
        exact List.getElem_mem _
      have HCJ := aq (HCALL.out wr (rT nodes j) HB.out)
      rw [HBD.out _ hme] at HCJ
      have HND := aq hnd
      have HW := aq (show wrap64 (j + 1) = j + 1 by unfold wrap64; have := HL.out; omega)
      generalize rT nodes j = x at HND HCJ
      clear hnd hme
      go_wp2_with (first | ((with_reducible refine yY 37 ?_); refine xC (t := 37) (cs := wY x) rfl (by kernel_rfl) (by kernel_rfl) HND.out ?_) | (go_at_call 58; refine HCJ.out.mono ?_; rintro e w7 ⟨rfl, hd⟩; have HB7 := aq (bt_ HB.out hd); clear hd HB HCJ))
      rw [HW.out]
      refine ⟨⟨j + 1, by omega, by omega, rfl, HB7⟩, ?_⟩
      simp only [intOf]; omega
    · have d1 := eq_false hlt
      go_wp2
      refine bodyPost_ret (results_tmp rfl _ _ _) rfl ⟨rfl, HB.out⟩
theorem cont57 (n : Nat) (g : Nat) (cl : Array Value) (Av : Option Addr) (cv : Nat) (nodes : List S37) (A : Option Addr) (c : Nat) (w : World) (hC : Kd.C k37 w A nodes.length nodes) (hg : w.heap[g]? = some (.cells cl 47 (0, 0))) (hl : cl[0]? = some (.slice Av n cv)) (hb : ∀ x ∈ nodes, badV n x = false) (hl4 : nodes.length ≤ 4000) :
    Calls Try.prog 57 #[.slice A nodes.length c, .func (.func 58) #[] #[.pointer (some ⟨g, 0, none⟩)]] w fun e w' => e = .returned (.bool false) ∧ Below w.heap.size w w' := by
  have HI := aq (idx86 n g cl Av cv nodes A c w hC hg hl hb hl4)
  clear hC hg hl hb
  go_enter Try.func57, Try.ntmps57
  go_wp2_with (first | (go_at_call 86; refine HI.out.mono ?_; rintro e w7 ⟨rfl, hd⟩; have HB7 := aq hd; clear hd HI))
  refine bodyPost_ret (results_tmp rfl _ _ _) rfl ⟨rfl, HB7.out⟩
theorem el_at {α : Type} {d : Kd α} {w : World} {A : Option Addr} {n : Nat} {xs : List α} (h : Kd.C d w A n xs) (z : α) (i : Int) (h0 : 0 ≤ i) (h1 : i < n) :
    ∃ ad c, A = some ad ∧ d.K w (xs.getD i.toNat z) c ∧ ∀ (j : Nat) u, c[j]? = some u → w.cell? ((ad.add (i.toNat * d.sz)).add j) = some u := by
  obtain ⟨ad, c, e, _, hK, hc⟩ := Kd.C_get h z i h0 h1
  exact ⟨ad, c, e, hK, fun j u hu => by rw [add_add]; exact hc j u hu⟩
def startL (s : S80) : List Value := [.int .i64 s.f0.f0, .int .i64 s.f0.f1, .int .i64 s.f1.f0, .int .i64 s.f1.f1, .int .i64 s.f2.f0, .int .i64 s.f2.f1]
def uL (s : S80) : Array Value := #[.int .i64 s.f0.f0, .int .i64 s.f0.f1, .int .i64 s.f1.f0, .int .i64 s.f1.f1, .int .i64 s.f2.f0, .int .i64 s.f2.f1]
theorem k80_open {w : World} {s : S80} {cs : List Value} (h : k80.K w s cs) : cs = startL s := by
  obtain ⟨_, _, rfl, s0, ⟨_, _, rfl, s1, s2⟩⟩ := h
  obtain rfl := k32_open s0
  obtain rfl := tO s1
  obtain rfl := tO s2
  rfl
theorem st_at {w : World} {A : Option Addr} {n : Nat} {xs : List S80} (h : Kd.C k80 w A n xs) (i : Int) (h0 : 0 ≤ i) (h1 : i < n) :
    ∃ ad, A = some ad ∧ ∀ (j : Nat) u, (startL (zJ z80 xs i))[j]? = some u → w.cell? ((ad.add (i.toNat * 6)).add j) = some u := by
  obtain ⟨ad, c, e, hK, hc⟩ := el_at h z80 i h0 h1
  obtain rfl := k80_open hK
  exact ⟨ad, e, hc⟩
theorem ev_st80 {a : Act} {W : World} {ops : Array Oper} {Q : Exit → Act → World → Prop} {rest : List Oper} {ty : TypeId} {pos : String} {after : Array Edge} {p v : Tmp} {g : Nat} {cur : Array Value} {x : S80} (hp : a.eval (.tmp p) = .pointer (some ⟨g, 0, none⟩)) (hv : a.eval (.tmp v) = .agg (uL x)) (hx : W.heap[g]? = some (.cells cur 80 (0, 0))) (hs : cur.size = 6)
    (h : ∀ W', W'.heap[g]? = some (.cells (uL x) 80 (0, 0)) → rJ g W W' → wpList Try.prog ops Q rest a W') : wpList Try.prog ops Q (⟨none, .store 80 (.tmp p) (.tmp v), ty, pos, after, none⟩ :: rest) a W :=
  uR (t0 := 80) (c' := uL x) (cur' := uL x) hp hv hx (by kernel_rfl) (by show 0 + 6 ≤ cur.size; omega) (by kernel_rfl) (by rw [List.drop_eq_nil_of_le (by show cur.toList.length ≤ 6; rw [Array.length_toList]; omega)]; simp) h
theorem check33 (f : rG) (Av : Option Addr) (cv : Nat) (An : Option Addr) (cn : Nat) (Ae : Option Addr) (ce : Nat) (As : Option Addr) (cs : Nat) (w : World) (h : FlatC f Av cv An cn Ae ce As cs w) (ho : FlatOK f) :
    Calls Try.prog 33 #[.agg (flA f Av cv An cn Ae ce As cs)] w fun e w' => e = .returned (.int .i64 0) ∧ Below w.heap.size w w' := by
  have HB8 := aq (fun (V : World) (hb : Below w.heap.size w V) => build8 f.nodes f.eqs An cn Ae ce V (Kd.xZ h.nodes hb) h.nle ho.nodeI (Kd.xZ h.eqs hb) h.ele ho.ele ho.right)
  have HCN := aq (fun (V : World) (hb : Below w.heap.size w V) (hg : V.heap[w.heap.size]? = some (.cells (flA f Av cv An cn Ae ce As cs) 47 (0, 0))) => cont57 f.vars.length w.heap.size _ Av cv f.nodes An cn V (Kd.xZ h.nodes hb) hg rfl (fun x hx => by
    unfold badV
    by_cases k : x.f0 = 2
    · rw [decide_eq_false (by have := ho.var x hx k; omega), Bool.and_false]
    · rw [beq_eq_false_iff_ne.2 k]; rfl) (by have := ho.nle; omega))
  have HS := aq ho.start
  have HSC := aq h.yM
  have HSL := aq ho.sle
  have GB := aq (heap_alloc_last w (.cells (flA f Av cv An cn Ae ce As cs) 47))
  have B := aq (zY (Below.refl w.heap.size w) (.cells (flA f Av cv An cn Ae ce As cs) 47))
  have d1 := eq_false (show ¬ (2000 : Int) < (f.nodes.length : Int) by have := ho.nle; omega)
  have d2 := eq_false (show ¬ (2000 : Nat) < f.nodes.length by have := ho.nle; omega)
  clear h ho
  have z0 := (bq GB.out 0).trans (show _ = some (.slice Av f.vars.length cv) from rfl)
  have z1 := (bq GB.out 1).trans (show _ = some (.slice An f.nodes.length cn) from rfl)
  have z2 := (bq GB.out 2).trans (show _ = some (.slice Ae f.eqs.length ce) from rfl)
  have z3 := (bq GB.out 3).trans (show _ = some (.slice As f.yM.length cs) from rfl)
  go_enter Try.func33, Try.ntmps33
  go_wp2_with (first | (go_at_call 8; refine (HB8.out _ B.out).mono ?_; rintro e w2 ⟨vo, vr, rfl, _, _, hd⟩; clear HB8; have GB2 := aq (bb_ GB.out hd); have B2 := aq (bt_ B.out hd); clear GB B hd z0 z1 z2 z3; have GB := GB2; have B := B2; clear GB2 B2; have z0 := (bq GB.out 0).trans (show _ = some (.slice Av f.vars.length cv) from rfl); have z1 := (bq GB.out 1).trans (show _ = some (.slice An f.nodes.length cn) from rfl); have z2 := (bq GB.out 2).trans (show _ = some (.slice Ae f.eqs.length ce) from rfl); have z3 := (bq GB.out 3).trans (show _ = some (.slice As f.yM.length cs) from rfl)) | (go_at_call 57; refine (HCN.out _ B.out GB.out).mono ?_; rintro e w3 ⟨rfl, hd⟩; clear HCN; have GB2 := aq (bb_ GB.out hd); have B2 := aq (bt_ B.out hd); clear GB B hd z0 z1 z2 z3; have GB := GB2; have B := B2; clear GB2 B2; have z0 := (bq GB.out 0).trans (show _ = some (.slice Av f.vars.length cv) from rfl); have z1 := (bq GB.out 1).trans (show _ = some (.slice An f.nodes.length cn) from rfl); have z2 := (bq GB.out 2).trans (show _ = some (.slice Ae f.eqs.length ce) from rfl); have z3 := (bq GB.out 3).trans (show _ = some (.slice As f.yM.length cs) from rfl)))
  go_loopw [30] (fun i wr => ∃ (j : Int), 0 ≤ j ∧ j ≤ (f.yM.length : Int) ∧ i = .int .i64 j ∧ zT (wr.heap[w.heap.size]? = some (.cells (flA f Av cv An cn Ae ce As cs) 47 (0, 0))) ∧ zT (Below w.heap.size w wr)) (fun i _ => f.yM.length - (intOf i).toNat)
  case atStart => exact ⟨0, Int.le_refl _, by omega, rfl, GB, B⟩
  case round =>
    clear GB B z0 z1 z2 z3
    obtain ⟨j, j0, j1, rfl, GB, B⟩ := hrel
    by_cases hlt : j < (f.yM.length : Int)
    · obtain ⟨ad, eA, hnd⟩ := st_at (Kd.xZ HSC.out B.out) j j0 hlt
      subst eA
      have hme : zJ z80 f.yM j ∈ f.yM := by
        unfold zJ
        rw [List.getD_eq_getElem?_getD, List.getElem?_eq_getElem (by omega)]
        exact List.getElem_mem _
      have hs := HS.out _ hme
      have HND := aq hnd
      have HW := aq (show wrap64 (j + 1) = j + 1 by unfold wrap64; have := HSL.out; omega)
      generalize zJ z80 f.yM j = s at HND hs
      have HLO := aq (fun (V : World) => tP hs.i1.1 hs.i1.2 V)
      have HHI := aq (fun (V : World) => tP hs.i2.1 hs.i2.2 V)
      rw [hs.lo] at HLO
      rw [hs.hi] at HHI
      have s0 := eq_false (show ¬ s.f0.f0 < 0 by have := hs.v0; omega)
      have s1 := eq_false (show ¬ (f.vars.length : Int) ≤ s.f0.f0 by have := hs.v1; omega)
      have s2 := eq_false (show ¬ s.f0.f1 < 0 by have := hs.k0; omega)
      have s3 := eq_false (show ¬ 6 < s.f0.f1 by have := hs.k1; omega)
      clear hnd hme hs
      have z0 := (bq GB.out 0).trans (show _ = some (.slice Av f.vars.length cv) from rfl)
      go_upto_region 11 with (first | ((with_reducible refine yY 80 ?_); refine xC (t := 80) (cs := startL s) rfl (by kernel_rfl) (by kernel_rfl) HND.out ?_) | ((with_reducible refine gD (N := 7) rfl ?_); refine bE ?hg (N := 7) ?hd (cs := uL z80) (t := 80) ?hr ?_; (case hd => rfl); (case hg => rfl); (case hr => first | (go_simp; done) | (go_simp; rfl)); intro g7 hgn w5 hbox hb; have HX := aq hbox; have HB5 := aq hb; have GN := aq (show wr.heap.size ≤ g7 by rw [hgn]; exact Nat.le_refl _); clear hbox hb hgn) | ((with_reducible refine xN 7 ?_); refine ev_st80 (g := g7) (x := s) rfl rfl HX.out rfl ?_; intro w6 hx6 h6; have SX := aq hx6; have hd := HB5.out.trans (h6.below GN.out); have GB2 := aq (bb_ GB.out hd); have B2 := aq (bt_ B.out hd); clear hx6 h6 hd HX HB5 GN GB B z0; have GB := GB2; have B := B2; clear GB2 B2))
      have z0 := (bq GB.out 0).trans (show _ = some (.slice Av f.vars.length cv) from rfl)
      have y0 := (bq SX.out 0).trans (show _ = some (.int .i64 s.f0.f0) from rfl)
      have y1 := (bq SX.out 1).trans (show _ = some (.int .i64 s.f0.f1) from rfl)
      have y2 := (bq SX.out 2).trans (show _ = some (.int .i64 s.f1.f0) from rfl)
      have y3 := (bq SX.out 3).trans (show _ = some (.int .i64 s.f1.f1) from rfl)
      have y4 := (bq SX.out 4).trans (show _ = some (.int .i64 s.f2.f0) from rfl)
      have y5 := (bq SX.out 5).trans (show _ = some (.int .i64 s.f2.f1) from rfl)
      go_wp2_with (first | (go_at_call 59; (with_reducible refine (HLO.out _).mono ?_); rintro e w7 ⟨rfl, hd⟩; have GB2 := aq (bb_ GB.out hd); have B2 := aq (bt_ B.out hd); have SX2 := aq (bb_ SX.out hd); clear GB B SX hd z0 y0 y1 y2 y3 y4 y5; have GB := GB2; have B := B2; have SX := SX2; clear GB2 B2 SX2; have z0 := (bq GB.out 0).trans (show _ = some (.slice Av f.vars.length cv) from rfl); have y0 := (bq SX.out 0).trans (show _ = some (.int .i64 s.f0.f0) from rfl); have y1 := (bq SX.out 1).trans (show _ = some (.int .i64 s.f0.f1) from rfl); have y2 := (bq SX.out 2).trans (show _ = some (.int .i64 s.f1.f0) from rfl); have y3 := (bq SX.out 3).trans (show _ = some (.int .i64 s.f1.f1) from rfl); have y4 := (bq SX.out 4).trans (show _ = some (.int .i64 s.f2.f0) from rfl); have y5 := (bq SX.out 5).trans (show _ = some (.int .i64 s.f2.f1) from rfl)) | (go_at_call 59; (with_reducible refine (HHI.out _).mono ?_); rintro e w8 ⟨rfl, hd⟩; have GB2 := aq (bb_ GB.out hd); have B2 := aq (bt_ B.out hd); have SX2 := aq (bb_ SX.out hd); clear GB B SX hd z0 y0 y1 y2 y3 y4 y5; have GB := GB2; have B := B2; have SX := SX2; clear GB2 B2 SX2; have z0 := (bq GB.out 0).trans (show _ = some (.slice Av f.vars.length cv) from rfl); have y0 := (bq SX.out 0).trans (show _ = some (.int .i64 s.f0.f0) from rfl); have y1 := (bq SX.out 1).trans (show _ = some (.int .i64 s.f0.f1) from rfl); have y2 := (bq SX.out 2).trans (show _ = some (.int .i64 s.f1.f0) from rfl); have y3 := (bq SX.out 3).trans (show _ = some (.int .i64 s.f1.f1) from rfl); have y4 := (bq SX.out 4).trans (show _ = some (.int .i64 s.f2.f0) from rfl); have y5 := (bq SX.out 5).trans (show _ = some (.int .i64 s.f2.f1) from rfl)))
      rw [HW.out]
      refine ⟨⟨j + 1, by omega, by omega, rfl, GB, B⟩, ?_⟩
      simp only [intOf]; omega
    · have d3 := eq_false hlt
      go_wp2
      refine bodyPost_ret (results_tmp rfl _ _ _) rfl ⟨rfl, B.out⟩
def varA (x : S59) : Array Value := #[.string x.f0, .int .i64 x.f1.f0.f0.f0, .int .i64 x.f1.f0.f0.f1, .int .i64 x.f1.f0.f1.f0, .int .i64 x.f1.f0.f1.f1, .int .i64 x.f1.f0.f2.f0, .int .i64 x.f1.f0.f2.f1, .int .i64 x.f1.f0.f3.f0, .int .i64 x.f1.f0.f3.f1, .int .i64 x.f1.f0.f4.f0, .int .i64 x.f1.f0.f4.f1, .int .i64 x.f1.f0.f5.f0, .int .i64 x.f1.f0.f5.f1, .int .i64 x.f1.f0.f6.f0, .int .i64 x.f1.f0.f6.f1]
theorem k59_open {w : World} {x : S59} {cs : List Value} (h : k59.K w x cs) : cs = (varA x).toList := by
  obtain ⟨_, _, rfl, s0, s1⟩ := h
  obtain rfl := k35_open s1
  obtain rfl := s0
  rfl
theorem pZ (w : World) (base : Nat) (ok : Nat → Prop) (x : S59) : k59.M w base ok x (varA x).toList := ⟨[.string x.f0], _, rfl, rfl, k35_mkM _ _ _ _⟩
theorem k80_mkM (w : World) (base : Nat) (ok : Nat → Prop) (x : S80) : k80.M w base ok x (uL x).toList := ⟨[.int .i64 x.f0.f0, .int .i64 x.f0.f1], _, rfl, pH _ _ _ _, ⟨[.int .i64 x.f1.f0, .int .i64 x.f1.f1], _, rfl, rZ _ _ _ _, rZ _ _ _ _⟩⟩
theorem var_at {w : World} {A : Option Addr} {n : Nat} {xs : List S59} (h : Kd.C k59 w A n xs) (i : Int) (h0 : 0 ≤ i) (h1 : i < n) :
    ∃ ad, A = some ad ∧ ∀ (j : Nat) u, ((varA (zJ z59 xs i)).toList)[j]? = some u → w.cell? ((ad.add (i.toNat * 15)).add j) = some u := by
  obtain ⟨ad, c, e, hK, hc⟩ := el_at h z59 i h0 h1
  obtain rfl := k59_open hK
  exact ⟨ad, e, hc⟩
theorem info53 : (Try.prog.info? 53).map (fun i => (i.zero, i.size, i.bytes)) = some (some (.agg #[(.int .i64 0), (.int .i64 0)]), 2, 16) := by kernel_rfl
theorem info80 : (Try.prog.info? 80).map (fun i => (i.zero, i.size, i.bytes)) = some (some (.agg #[(.int .i64 0), (.int .i64 0), (.int .i64 0), (.int .i64 0), (.int .i64 0), (.int .i64 0)]), 6, 48) := by kernel_rfl
theorem oS : (Try.prog.info? 59).map (fun i => (i.zero, i.size, i.bytes)) = some (some (.agg (varA ⟨ByteArray.empty, z35⟩)), 15, 128) := by kernel_rfl
section
variable {a : Act} {W : World} {ops : Array Oper} {Q : Exit → Act → World → Prop} {rest : List Oper} {ty : TypeId} {pos : String} {after : Array Edge} {d : Option Tmp}
theorem ev_st59 {p v : Tmp} {g : Nat} {cur : Array Value} {x : S59} (hp : a.eval (.tmp p) = .pointer (some ⟨g, 0, none⟩)) (hv : a.eval (.tmp v) = .agg (varA x)) (hx : W.heap[g]? = some (.cells cur 59 (0, 0))) (hs : cur.size = 15)
    (h : ∀ W', W'.heap[g]? = some (.cells (varA x) 59 (0, 0)) → rJ g W W' → wpList Try.prog ops Q rest a W') : wpList Try.prog ops Q (⟨none, .store 59 (.tmp p) (.tmp v), ty, pos, after, none⟩ :: rest) a W :=
  uR (t0 := 59) (c' := varA x) (cur' := varA x) hp hv hx (by kernel_rfl) (by show 0 + 15 ≤ cur.size; omega) (by kernel_rfl) (by rw [List.drop_eq_nil_of_le (by show cur.toList.length ≤ 15; rw [Array.length_toList]; omega)]; simp) h
theorem ev_ld {p : Operand} {g t n : Nat} {c : Array Value} (hp : a.eval p = .pointer (some ⟨g, 0, none⟩)) (hx : W.heap[g]? = some (.cells c t (0, 0))) (hag : (isAgg t).run Try.prog W = .ok true W) (hsz : (sizeOf t).run Try.prog W = .ok n W) (hn : c.size = n)
    (h : wpList Try.prog ops Q rest (a.put d (.agg c)) W) : wpList Try.prog ops Q (⟨d, .load t p, ty, pos, after, none⟩ :: rest) a W := by
  refine xC (t := t) (ad := ⟨g, 0, none⟩) (cs := c.toList) hp hag (by rw [Array.length_toList, hn]; exact hsz) (fun j v hj => ?_) (by rw [Array.toArray_toList]; exact h)
  have := vL hx 0 c.toList (by rw [List.drop_zero, List.take_length])
  exact this j v hj
theorem run_build44 (x : S59) (W : World) : (Instr.buildSlice 44 1 #[(0, .agg (varA x))]).run Try.prog W = .ok (.slice (some ⟨W.heap.size, 0, none⟩) 1 1) (W.alloc (.cells (varA x) 59)) := by kernel_rfl
theorem run_build45 (x : S80) (W : World) : (Instr.buildSlice 45 1 #[(0, .agg (uL x))]).run Try.prog W = .ok (.slice (some ⟨W.heap.size, 0, none⟩) 1 1) (W.alloc (.cells (uL x) 80)) := by kernel_rfl
theorem run_build49 (x : S32) (W : World) : (Instr.buildSlice 49 1 #[(0, .agg (aA x))]).run Try.prog W = .ok (.slice (some ⟨W.heap.size, 0, none⟩) 1 1) (W.alloc (.cells (aA x) 53)) := by kernel_rfl
theorem vA {o : Operand} {x : S59} (ho : a.eval o = .agg (varA x)) : (execOp a.eval ⟨d, .buildSlice 44 1 #[(0, o)], ty, pos, after, none⟩).run Try.prog W = .ok (.value (.slice (some ⟨W.heap.size, 0, none⟩) 1 1)) (W.alloc (.cells (varA x) 59)) := by
  unfold execOp
  simp only [List.map_toArray, List.map_cons, List.map_nil, ho, Sem.run_bind]
  rw [run_build44]
  rfl
theorem nK {o : Operand} {x : S80} (ho : a.eval o = .agg (uL x)) : (execOp a.eval ⟨d, .buildSlice 45 1 #[(0, o)], ty, pos, after, none⟩).run Try.prog W = .ok (.value (.slice (some ⟨W.heap.size, 0, none⟩) 1 1)) (W.alloc (.cells (uL x) 80)) := by
  unfold execOp
  simp only [List.map_toArray, List.map_cons, List.map_nil, ho, Sem.run_bind]
  rw [run_build45]
  rfl
theorem nL {o : Operand} {x : S32} (ho : a.eval o = .agg (aA x)) : (execOp a.eval ⟨d, .buildSlice 49 1 #[(0, o)], ty, pos, after, none⟩).run Try.prog W = .ok (.value (.slice (some ⟨W.heap.size, 0, none⟩) 1 1)) (W.alloc (.cells (aA x) 53)) := by
  unfold execOp
  simp only [List.map_toArray, List.map_cons, List.map_nil, ho, Sem.run_bind]
  rw [run_build49]
  rfl
end
theorem results_ctt {P : Program} {fn : Func} {p t u : Tmp} {ty : TypeId} (h : fn.results = #[.cell p ty, .tmp t, .tmp u]) (tmps : Array Value) (w : World) (g : Nat) (t' : TypeId) (cs : Array Value) (fr : Nat × Nat) (d : TypeDesc)
    (hp : tmps.getD p undef = .pointer (some ⟨g, 0, none⟩)) (hg : w.heap[g]? = some (.cells cs t' fr))
    (hu : P.underlying ty = some d) (hd : (match d with | .struct _ | .array _ _ => true | _ => false) = true) (hi : (P.info? ty).map (·.size) = some cs.size) :
    (results fn tmps).run P w = .ok (.tuple #[.agg cs, tmps.getD t undef, tmps.getD u undef]) w := by
  have hp' : tmps[p]?.getD undef = .pointer (some ⟨g, 0, none⟩) := by simpa using hp
  simp [results, h, hp', asAddr, run_loadVar_row w g t' ty cs fr d hg hu hd hi]
structure KB (g : Nat) (w V : World) : Prop where
  os : V.os = w.os
  tape : V.tape = w.tape
  output : V.output = w.output
  size : w.heap.size ≤ V.heap.size
  block : ∀ k, k < w.heap.size → k ≠ g → V.heap[k]? = w.heap[k]?
section
variable {g : Nat} {w V V' : World}
theorem KB.refl (g : Nat) (w : World) : KB g w w := ⟨rfl, rfl, rfl, Nat.le_refl _, fun _ _ _ => rfl⟩
theorem KB.step (h : KB g w V) (hd : Below V.heap.size V V') : KB g w V' := ⟨hd.os.trans h.os, hd.tape.trans h.tape, hd.output.trans h.output, Nat.le_trans h.size hd.size, fun k hk hn => (hd.block k (Nat.lt_of_lt_of_le hk h.size)).trans (h.block k hk hn)⟩
theorem KB.one (h : KB g w V) (hd : rJ g V V') : KB g w V' := ⟨hd.os.trans h.os, hd.tape.trans h.tape, hd.output.trans h.output, by rw [hd.size]; exact h.size, fun k hk hn => (hd.other k hn).trans (h.block k hk hn)⟩
theorem KB.low (h : KB g w V) (hd : Below w.heap.size V V') : KB g w V' := ⟨hd.os.trans h.os, hd.tape.trans h.tape, hd.output.trans h.output, Nat.le_trans h.size hd.size, fun k hk hn => (hd.block k hk).trans (h.block k hk hn)⟩
theorem KB.blk {k : Nat} {o : Obj} (h : KB g w V) (hx : w.heap[k]? = some o) (hn : k ≠ g) : V.heap[k]? = some o := (h.block k (zN hx) hn).trans hx
theorem KB.below {n : Nat} (h : KB g w V) (h1 : n ≤ g) (h2 : n ≤ w.heap.size) : Below n w V := ⟨h.os, h.tape, h.output, h.size, fun k hk => h.block k (by omega) (by omega)⟩
theorem KB.R {α : Type} {d : Kd α} {e base t : Nat} {ok : Nat → Prop} {v : Value} {xs : List α} {cells : Array Value} (h : KB g w V) (hr : Kd.R d e w base ok v xs) (hb : w.heap[g]? = some (.cells cells t (0, 0))) (ht : ∀ q, q ∈ e :: d.E → q ≠ t) : Kd.R d e V base ok v xs :=
  Kd.xF (Kd.pD (Kd.R_types hr hb ht) (fun k hk hl => h.block k hl hk.2)) (fun _ hk => hk.1)
end
theorem R_but {α : Type} {d : Kd α} {e base g : Nat} {V V' : World} {v : Value} {xs : List α} (h : Kd.R d e V base (fun _ => True) v xs) (hd : Below V.heap.size V V') (hg : V.heap.size ≤ g) : Kd.R d e V' base (fun k => k ≠ g) v xs :=
  Kd.zL (Kd.xF (Kd.uP h) (fun k hk => by have := hk.2.2.1; show k ≠ g; omega)) hd
end Go.Proofs.Ytoonahobmlnflaa.PC
