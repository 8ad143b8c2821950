/- The law OffsetPlain holds of the given program at every input: its contract, and the plain statement behind it. No condition. -/
import Derived.Test.YtamloclgignfgaaRowA
import Derived.Test.YtamloclgignfgaaPAx18
import Derived.Test.YtamloclgignfgaaPureOffsetPlain
import Derived.Test.YtamloclgignfgaaWSized
namespace Go.Proofs.Ytamloclgignfgaa.offsetPlain
open Go.ChangeShapes Go.WideShapes Go.ChangeAt Go.RowKit Go.Deep Go.Proofs.Ytamloclgignfgaa.PA
set_option linter.unusedVariables false
set_option maxRecDepth 100000 in
theorem lifted (os : Os) (started : os.Started) (H : Type) (enc : TypeId × Value → H) :
    ReturnsInHanded {} Try.checked os 6 .any (Rows.offsetPlainSpec.pre6 enc Try.prog Try.f6 Rows.offsetPlainRow.domain false) (Rows.offsetPlainSpec.post enc Try.prog Try.f6 false true false false) := by
  refine returnsInHanded_of_change_sized (C := Try.checked) ownK started (by kernel_rfl) Try.func6
    (ChangeSpec.witness6 (enc := enc) (C := Try.checked) false ⟨#[], #[.slice none 0 0, .slice none 0 0], []⟩ 8 (by kernel_rfl) (by kernel_rfl) (by kernel_rfl) (by kernel_rfl)) ?_
  intro W base args ds gs before hval0 hW hcnd hsz0 _
  have hsz : (DataW.weightsEach Try.prog (Try.f6.params.toList ++ Rows.offsetPlainSpec.plain.varTypes Try.prog) (ds ++ gs)).all (· ≤ reachBytes) = true := hsz0
  have hval : ∀ (j : Nat) t v, Try.f6.params[j]? = some t → args[j]? = some v → Value.okWide Try.prog W .any base t v := hval0
  have hW' := hW
  obtain ⟨p, q, hA0, hV, rfl, hfz, hnd⟩ := hW
  have hA : DataW.TrodAll enc Try.prog W 0 (fun _ => true) true Try.f6.params.toList args.toList ds p := hA0
  rw [Try.params6] at hA hval hsz
  obtain ⟨v0, vs0, d0, ds0, p0, q0, hargs, rfl, rfl, h0, r0⟩ := trodAll_cons hA
  obtain ⟨v1, vs1, d1, ds1, p1, q1, rfl, rfl, rfl, h1, r1⟩ := trodAll_cons r0
  obtain ⟨rfl, rfl, rfl⟩ := trodAll_nil r1
  obtain rfl : args = #[v0, v1] := by cases args; simp_all
  obtain ⟨rfl, rfl⟩ := trodVars_none hV
  obtain ⟨A0, len0, cap0, rfl⟩ := okWide_slice Try.underlying23 (hval 0 23 v0 rfl rfl)
  have k0 := h0
  have lt0 : ∀ x ∈ p0, x.block < W.heap.size := by obtain ⟨m, hm⟩ := k0; exact DataW.trod_lt m _ _ _ hm
  have y0 : len0 * 8 ≤ 140737488351232 := Go.Proofs.YtamloclgignfgaaW.PrintWords.sized_ints hsz (j := 0) (t := 23) rfl rfl Try.underlying23 Try.underlying3 (by kernel_rfl) (by kernel_rfl) h0
  obtain ⟨l0, e0, hc0, hr0, hb0⟩ := open_ints_C h0
  subst e0
  obtain ⟨A1, len1, cap1, rfl⟩ := okWide_slice Try.underlying23 (hval 1 23 v1 rfl rfl)
  have k1 := h1
  have lt1 : ∀ x ∈ p1, x.block < W.heap.size := by obtain ⟨m, hm⟩ := k1; exact DataW.trod_lt m _ _ _ hm
  have y1 : len1 * 8 ≤ 140737488351232 := Go.Proofs.YtamloclgignfgaaW.PrintWords.sized_ints hsz (j := 1) (t := 23) rfl rfl Try.underlying23 Try.underlying3 (by kernel_rfl) (by kernel_rfl) h1
  obtain ⟨l1, e1, hc1, hr1, hb1⟩ := open_ints_C h1
  subst e1
  clear hA0 hval0 hsz0
  obtain ⟨k, hk⟩ := OffsetPlain_pure l0 l1 (⟨hb0, by have := y0; omega⟩) (⟨hb1, by have := y1; omega⟩)
  refine (orrerylaw20_OffsetPlain.calls k A0 cap0 l0 A1 cap1 l1 true W hr0 hc0 hr1 hc1 hk).mono fun e W' ⟨he, bel0⟩ => ?_
  have bel : Below W.heap.size W W' := bel0
  subst he
  exact ⟨_, rfl, _, _, _, [], _, [], hW', trodAll_mk1 (shut_bool Try.underlying4 _), (trodAll_cons_mk (Below.trod laidOutK (by kernel_rfl) (of_decide_eq_true (by kernel_rfl)) k0 bel lt0) (trodAll_cons_mk (Below.trod laidOutK (by kernel_rfl) (of_decide_eq_true (by kernel_rfl)) k1 bel lt1) trodAll_mk0)), rfl, bel.frame _, fun h => by cases h⟩
theorem over : Rows.offsetPlainRow.holds Try.pinned (OpenSpec.ofChange Rows.offsetPlainSpec) :=
  OpenClaim.holds_of_wide 6 Try.f6 rfl rfl rfl rfl rfl rfl rfl ⟨rfl, rfl, rfl, rfl, rfl⟩ rfl rfl rfl rfl rfl (by kernel_rfl) Try.func6 (by kernel_rfl)
    (of_decide_eq_true (by kernel_rfl)) (by unfold Func.isWrapper; first | (rw [if_pos (by decide +kernel)]; kernel_rfl) | (rw [if_neg (by decide +kernel)]; exact ⟨rfl, rfl⟩))
    (fun os started H enc _ => lifted os started H enc)
theorem proved : Rows.OffsetPlainSaid := over
#print axioms proved
end Go.Proofs.Ytamloclgignfgaa.offsetPlain
namespace Go.Proofs.Ytamloclgignfgaa
/-- The row, under a short name, for the claim. -/
theorem offsetPlain_holds : Rows.OffsetPlainSaid := offsetPlain.proved
end Go.Proofs.Ytamloclgignfgaa
