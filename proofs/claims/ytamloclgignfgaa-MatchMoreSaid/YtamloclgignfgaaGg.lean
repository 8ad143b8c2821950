import Derived.Test.YtamloclgignfgaaGf
import Derived.Scope
import Derived.WalkMore
namespace Go.Proofs.Ytamloclgignfgaa.PA
open Go.RowKit Go.Proofs.YtamloclgignfgaaW.PrintWords Go.Proofs.YtamloclgignfgaaW.PrintLast Go.Proofs.YtamloclgignfgaaW.PrintMore
set_option linter.unusedVariables false
set_option linter.unusedSimpArgs false

/-- A body laid in a scope (it holds a label, but no goto): as if there were none. -/
theorem wp_scope_body {P : Program} {fn : Func} {R : Ending → World → Prop} {c : Code} {a : Act} {w : World} (h : c.wp P (bodyPost P fn R) a w) : (Code.scope c).wp P (bodyPost P fn R) a w :=
  wp_scope_straight (Code.wp_mono (fun e a w q => by cases e <;> first | exact q | exact q.elim) h)

/-- An edge between a row and a column. -/
def isE (i j : Int) (e : S40) : Bool := if e.f0 = i then decide (e.f1 = j) else false
/-- Is what is told a whole matching? What is still to come. -/
def toldL (n : Int) (l : List S40) : List Int → Int → List Bool → Bool
  | [], _, _ => true
  | j :: js, i, s => if j < 0 then false else if j ≥ n then false else if rdOf false s j = true then false else if l.any (isE i j) = true then toldL n l js (i + 1) (s.set j.toNat true) else false
def toldB (n : Int) (l : List S40) (told : List Int) : Bool :=
  if rightB n n l = true then (if (told.length : Int) = n then toldL n l told 0 (List.replicate n.toNat false) else false) else false
def offset_right.f (a0 : Int) (l1 : List S40) (l2 : List Int) : Option Bool := some (toldB a0 l1 l2)

set_option maxHeartbeats 1000000 in
set_option maxRecDepth 100000 in
theorem clo36 (a b : Int) (e : S40) (B1 B2 : Addr) (w : World) (h1 : w.cell? B1 = some (.int .i64 a)) (h2 : w.cell? B2 = some (.int .i64 b)) :
    Calls Try.prog 36 #[.agg #[.int .i64 e.f0, .int .i64 e.f1, .int .i64 e.f2], .pointer (some B1), .pointer (some B2)] w fun r w' => r = .returned (.bool (isE a b e)) ∧ Below w.heap.size w w' := by
  have hu40 := Try.underlying40
  have g1 : ∀ o, (w.alloc o).cell? B1 = some (.int .i64 a) := fun o => (World.cell?_alloc_lt w o B1 (World.block_lt_of_cell? w B1 h1)).trans h1
  have g2 : ∀ o, (w.alloc o).cell? B2 = some (.int .i64 b) := fun o => (World.cell?_alloc_lt w o B2 (World.block_lt_of_cell? w B2 h2)).trans h2
  clear h1 h2
  have hb : ∀ o, Below w.heap.size w (w.alloc o) := fun o => below_alloc (Below.refl _ _) o
  have HB := Aside0.mk hb
  clear hb
  generalize hx : isE a b e = r
  unfold isE at hx
  have H := Aside0.mk hx
  clear hx
  go_enter Try.func36, Try.ntmps36
  by_cases c1 : e.f0 = a
  · have d1 : (e.f0 == a) = true := by simpa using c1
    have H1 := Aside0.mk (show decide (e.f1 = b) = r by have := H.out; rw [if_pos c1] at this; exact this)
    clear c1 H
    by_cases c2 : e.f1 = b
    · have d2 : (e.f1 == b) = true := by simpa using c2
      have hr : true = r := by have := H1.out; rw [decide_eq_true c2] at this; exact this
      subst hr; clear c2 H1
      go_wp2
      go_ret
      exact ⟨rfl, HB.out _⟩
    · have d2 : (e.f1 == b) = false := by simpa using c2
      have hr : false = r := by have := H1.out; rw [decide_eq_false c2] at this; exact this
      subst hr; clear c2 H1
      go_wp2
      go_ret
      exact ⟨rfl, HB.out _⟩
  · have d1 : (e.f0 == a) = false := by simpa using c1
    have hr : false = r := by have := H.out; rw [if_neg c1] at this; exact this
    subst hr; clear c1 H
    go_wp2
    go_ret
    exact ⟨rfl, HB.out _⟩
theorem e36 : ∀ args w, (callFunc 36 args).run Try.prog w = .ok (.enter 36 args) w := enters_of Try.func36 (by kernel_rfl) rfl
theorem cont36 (i j : Int) (B1 B2 : Addr) (A : Option Addr) (c : Nat) (l : List S40) (w : World) (hr : Kd.C k40 w A l.length l) (hc : l.length ≤ c) (h1 : w.cell? B1 = some (.int .i64 i)) (h2 : w.cell? B2 = some (.int .i64 j)) :
    Calls Try.prog 34 #[.slice A l.length c, .func (.func 36) #[] #[.pointer (some B1), .pointer (some B2)]] w fun e w' => e = .returned (.bool (l.any (isE i j))) ∧ Below w.heap.size w w' :=
  cont34 36 _ (isE i j) e36 A c l w hr hc fun W x hb => clo36 i j x _ _ W ((hb.cell (World.block_lt_of_cell? w _ h1)).trans h1) ((hb.cell (World.block_lt_of_cell? w _ h2)).trans h2)

set_option maxHeartbeats 2000000 in
set_option maxRecDepth 100000 in
theorem offset_right.calls (a0 : Int) (A1 : Option Addr) (c1 : Nat) (l1 : List S40) (A2 : Option Addr) (c2 : Nat) (l2 : List Int) (r : Bool) (w : World) (hr1 : Kd.C k40 w A1 l1.length l1) (hc1 : l1.length ≤ c1) (hr2 : Kd.C (Kd.int .i64) w A2 l2.length l2) (hc2 : l2.length ≤ c2) (h : offset_right.f a0 l1 l2 = some r) :
    Calls Try.prog 30 #[.int .i64 a0, .slice A1 l1.length c1, .slice A2 l2.length c2] w fun e w' => e = .returned (.bool r) ∧ Below w.heap.size w w' := by
  have hr0 : toldB a0 l1 l2 = r := Option.some.inj h
  clear h
  have hlen2 := hr2.2.1
  have HR1 := Aside0.mk hr1
  have HR2 := Aside0.mk hr2
  have HC1 := Aside0.mk hc1
  clear hr1 hr2 hc1 hc2
  by_cases hb : rightB a0 a0 l1 = true
  · have hm := match_Most.calls a0 a0 A1 c1 l1 (mostL a0.toNat a0.toNat l1) 0 w HR1.out HC1.out (by unfold match_Most.f; rw [if_pos hb])
    obtain ⟨⟨ha0, ha1, _, _, hlen⟩, hed⟩ := rightB_iff a0 a0 l1 hb
    have HM := Aside0.mk hm
    unfold toldB at hr0
    rw [if_pos hb] at hr0
    clear hm hb hed hlen
    by_cases hl : (l2.length : Int) = a0
    · rw [if_pos hl] at hr0
      have d1 : ((l2.length : Int) != a0) = false := by simpa using hl
      have HA := Aside0.mk (show 0 ≤ a0 ∧ a0 ≤ 64 ∧ (l2.length : Int) = a0 from ⟨ha0, ha1, hl⟩)
      have HR0 := Aside0.mk hr0
      clear hl hr0 ha0 ha1
      obtain ⟨yS, hyS⟩ : ∃ y_ : List Bool, y_ = List.replicate a0.toNat false := ⟨_, rfl⟩
      have HYS := Aside0.mk hyS
      clear hyS
      go_enter Try.func30, Try.ntmps30
      go_wp2_with (first | (go_at_call 13; refine HM.out.mono ?_; rintro e w5 ⟨vM, rfl, hR_, hb'⟩; have HB := Aside0.mk hb'; clear hb' hR_) | ((with_reducible refine gate_dst (N := 28) rfl ?_); refine Kd.R_make Kd.bool _ 4 rfl (N := 28) rfl 50 _ _ rfl a0 rfl rfl Try.underlying50 (.bool false) 1 info50 rfl (by decide) (by omega) false (ok := fun _ => True) (okp := fun _ => True) rfl (fun _ hk => hk) trivial HA.out.1 (by have := HA.out; omega) (Below.refl _ _) (Nat.le_refl _) ?_; intro vS w6 ho_ hb hg_ hnew_; clear hg_ hnew_; rw [← HYS.out] at ho_; have n0_ := Aside0.mk (Kd.R_lower ho_ (below_size HB.out)); have n1_ := Aside0.mk (below_step HB.out hb); clear HB; have HSF := n0_; have HB := n1_; clear n0_ n1_ hb ho_; obtain ⟨AS, cS, eS⟩ := Kd.R_slice HSF.out; subst eS))
      go_loopg [31] l2.length (fun gg v31 W' => ∃ (kk : Nat) (s : List Bool), v31 = .int .i64 kk ∧ Aside0 (kk ≤ l2.length ∧ l2.length - kk ≤ gg) ∧ Aside0 (toldL a0 l1 (l2.drop kk) kk s = r) ∧ Aside0 (s.length = yS.length) ∧ Aside0 (Kd.R Kd.bool 4 W' w.heap.size (fun _ => True) (.slice AS yS.length cS) s) ∧ Aside0 (Below w.heap.size w W'))
      case atStart => exact ⟨0, yS, rfl, ⟨by omega, by omega⟩, ⟨by have := HR0.out; rw [← HYS.out] at this; exact this⟩, ⟨rfl⟩, HSF, HB⟩
      case round =>
        clear HSF HB HR0
        obtain ⟨kk, s, rfl, HK, HE, HSL, HSF, HB⟩ := hrel
        have hyl : Aside0 ((yS.length : Int) = a0) := ⟨by rw [HYS.out, List.length_replicate]; have := HA.out; omega⟩
        by_cases hlt : kk < l2.length
        · have hltz : (kk : Int) < (l2.length : Int) := by omega
          obtain ⟨aj, rfl, hxj⟩ := Kd.at_int HR2.out (kk : Int) (by omega) hltz
          rw [Int.toNat_natCast] at hxj
          replace hxj := (HB.out.cell (World.block_lt_of_cell? w _ hxj)).trans hxj
          have hd : l2.drop kk = rd l2 (kk : Int) :: l2.drop (kk + 1) := by
            rw [List.drop_eq_getElem_cons hlt]; congr 1; simp [rd, List.getD_eq_getElem?_getD, List.getElem?_eq_getElem hlt]
          have he := HE.out
          rw [hd] at he
          generalize rd l2 (kk : Int) = j at hxj he
          clear hd HE
          unfold toldL at he
          by_cases q1 : j < 0
          · rw [if_pos q1] at he
            have d2 : decide (j < 0) = true := decide_eq_true q1
            clear q1
            subst he
            go_wp2
            go_ret
            exact ⟨rfl, by repeat (first | (with_reducible first | exact HB.out | apply below_alloc | apply pw_below_drewN | apply below_drew1) | exact HB.out)⟩
          rw [if_neg q1] at he
          have d2 : decide (j < 0) = false := decide_eq_false q1
          by_cases q2 : j ≥ a0
          · rw [if_pos q2] at he
            have d3 : decide (a0 ≤ j) = true := decide_eq_true q2
            clear q1 q2
            subst he
            go_wp2
            go_ret
            exact ⟨rfl, by repeat (first | (with_reducible first | exact HB.out | apply below_alloc | apply pw_below_drewN | apply below_drew1) | exact HB.out)⟩
          rw [if_neg q2] at he
          have d3 : decide (a0 ≤ j) = false := decide_eq_false q2
          have hjs : j < (s.length : Int) := by have := HSL.out; have := hyl.out; omega
          have hjy : j < (yS.length : Int) := by have := hyl.out; omega
          have hj0 : 0 ≤ j := by omega
          clear q1 q2
          obtain ⟨gS, cS', eS, hgS, hgS2, hgS3⟩ := Kd.R_form HSF.out (by omega)
          injection eS with e1 e2 e3
          subst e1
          clear e2 e3 hgS2
          obtain ⟨hS1, hS2⟩ := Kd.R_celln false HSF.out j hj0 hjy
          have p1 := eq_true hj0
          have p2 := eq_true hjy
          have hgl : gS < wr.heap.size := (Array.getElem?_eq_some_iff.1 hgS3.choose_spec).1
          have GS := Aside0.mk hgS
          have GT := Aside0.mk hgS3
          have HJS := Aside0.mk hjs
          clear hgS hgS3 hjs
          by_cases q3 : rdOf false s j = true
          · rw [if_pos q3] at he
            have q3' := q3
            rw [q3'] at hS1
            subst he
            clear q3 q3'
            go_wp2
            go_ret
            exact ⟨rfl, by repeat (first | (with_reducible first | exact HB.out | apply below_alloc | apply pw_below_drewN | apply below_drew1) | exact HB.out)⟩
          · rw [if_neg q3] at he
            have q3' : rdOf false s j = false := by simpa using q3
            rw [q3'] at hS1
            clear q3 q3'
            have hcall := cont36 (kk : Int) j ⟨wr.heap.size, 0, none⟩ ⟨wr.heap.size + 1, 0, none⟩ A1 c1 l1 ((wr.alloc (.cells #[.int .i64 (kk : Int)] 3)).alloc (.cells #[.int .i64 j] 3)) (Kd.C_below HR1.out (by repeat (first | (with_reducible first | exact HB.out | apply below_alloc | apply pw_below_drewN | apply below_drew1) | exact HB.out))) HC1.out (by simp) (by simp)
            by_cases q4 : l1.any (isE (kk : Int) j) = true
            · rw [if_pos q4] at he
              rw [q4] at hcall
              have HCALL := Aside0.mk hcall
              have HE := Aside0.mk he
              clear hcall he q4
              have hbr : Below wr.heap.size wr ((wr.alloc (.cells #[.int .i64 (kk : Int)] 3)).alloc (.cells #[.int .i64 j] 3)) := by repeat (first | (with_reducible first | exact Below.refl _ _ | apply below_alloc | apply pw_below_drewN | apply below_drew1) | exact Below.refl _ _)
              have HBR := Aside0.mk hbr
              clear hbr
              go_wp2_with (go_at_call 34; refine HCALL.out.mono ?_; rintro e w9 ⟨rfl, hb'⟩; have hcj : w9.cell? ⟨wr.heap.size + 1, 0, none⟩ = some (.int .i64 j) := (hb'.cell (p := ⟨wr.heap.size + 1, 0, none⟩) (by simp)).trans (by simp); have hb2 := Aside0.mk (below_step HBR.out hb'); clear hb'; have HS9 := Aside0.mk (Kd.R_below HSF.out hb2.out); clear hS1 hS2; obtain ⟨hS1, hS2⟩ := Kd.R_celln false HS9.out j hj0 hjy)
              have hR := Kd.R_putg HS9.out j true
              go_roundg (l2.length - (kk + 1))
              case measure => have := HK.out; omega
              case rel => exact ⟨kk + 1, s.set j.toNat true, by go_num, ⟨by have := HK.out; omega⟩, ⟨by have := HE.out; rw [show ((kk + 1 : Nat) : Int) = (kk : Int) + 1 by omega]; exact this⟩, ⟨by rw [List.length_set]; exact HSL.out⟩, ⟨hR.1⟩, ⟨below_set (below_step HB.out hb2.out) GS.out⟩⟩
            · have q4' : l1.any (isE (kk : Int) j) = false := by simpa using q4
              rw [if_neg q4] at he
              rw [q4'] at hcall
              have HCALL := Aside0.mk hcall
              subst he
              clear hcall q4 q4'
              go_wp2_with (go_at_call 34; refine HCALL.out.mono ?_; rintro e w9 ⟨rfl, hb'⟩)
              go_ret
              exact ⟨rfl, below_step (by repeat (first | (with_reducible first | exact HB.out | apply below_alloc | apply pw_below_drewN | apply below_drew1) | exact HB.out)) hb'⟩
        · have hltz : ¬ (kk : Int) < (l2.length : Int) := by omega
          have hr : true = r := by have := HE.out; rw [List.drop_eq_nil_of_le (by omega)] at this; exact this
          subst hr
          go_wp2
          go_ret
          exact ⟨rfl, HB.out⟩
    · rw [if_neg hl] at hr0
      subst hr0
      have d1 : ((l2.length : Int) != a0) = true := by simpa using hl
      clear hl
      go_enter Try.func30, Try.ntmps30
      go_wp2_with (go_at_call 13; refine HM.out.mono ?_; rintro e w5 ⟨vM, rfl, hR_, hb'⟩; have HB := Aside0.mk hb'; clear hb' hR_)
      go_ret
      exact ⟨rfl, HB.out⟩
  · have hm := match_Most.calls a0 a0 A1 c1 l1 [] 170 w HR1.out HC1.out (by unfold match_Most.f; rw [if_neg hb])
    have HM := Aside0.mk hm
    unfold toldB at hr0
    rw [if_neg hb] at hr0
    subst hr0
    clear hm hb
    go_enter Try.func30, Try.ntmps30
    go_wp2_with (go_at_call 13; refine HM.out.mono ?_; rintro e w5 ⟨vM, rfl, hR_, hb'⟩; have HB := Aside0.mk hb'; clear hb' hR_)
    go_ret
    exact ⟨rfl, HB.out⟩
end Go.Proofs.Ytamloclgignfgaa.PA
