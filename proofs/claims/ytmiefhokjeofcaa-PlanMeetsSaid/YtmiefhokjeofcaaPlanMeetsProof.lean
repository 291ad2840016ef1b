/- WHAT IS PROVED: umlautlaw22.PlanMeets returns true whatever two ranges and key are given, and its arguments read as before. Conditions: none. -/
import Derived.Test.YtmiefhokjeofcaaRows
import Derived.Test.YtmiefhokjeofcaaPlanC
import Derived.Test.YtmiefhokjeofcaaGlue
import Derived.Lib.SmallJoins
import Derived.ShutString
namespace Go.Proofs.Ytmiefhokjeofcaa
open Go Go.ChangeShapes Go.WideShapes Go.ChangeAt Go.RowKit Go.Joins
open Go.ChangeMaps (open_string shut_string)
set_option linter.unusedVariables false

theorem planMeets_own : ownKnob Try.prog.godebug = none := by kernel_rfl
theorem planMeets_laidOut : laidOutB Try.prog = true := by kernel_rfl
theorem planMeets_cells : Try.prog.cellsOf 23 = 3 := by kernel_rfl

set_option maxRecDepth 100000 in
theorem planMeets_lifted (os : Os) (started : os.Started) (H : Type) (enc : TypeId × Value → H) :
    ReturnsInHanded {} Try.checked os 3 .any (Rows.planMeetsSpec.pre6 enc Try.prog Try.f3 Rows.planMeetsRow.domain false) (Rows.planMeetsSpec.post enc Try.prog Try.f3 false true false false) := by
  refine returnsInHanded_of_change (C := Try.checked) planMeets_own started (by kernel_rfl) Try.func3
    (ChangeSpec.witness6 (enc := enc) (C := Try.checked) false ⟨#[], #[.agg #[.string ByteArray.empty, .string ByteArray.empty, .bool false], .agg #[.string ByteArray.empty, .string ByteArray.empty, .bool false], .string ByteArray.empty], []⟩ 8 (by kernel_rfl) (by kernel_rfl) (by kernel_rfl) (by kernel_rfl)) ?_
  intro W base args ds gs before hval0 hW hcnd _
  have hval : ∀ (j : Nat) t v, Try.f3.params[j]? = some t → args[j]? = some v → Value.okWide Try.prog W .any base t v := hval0
  have hW' := hW
  obtain ⟨p, q, hA0, hV, rfl, hfz, hnd⟩ := hW
  have hA : DataW.TrodAll enc Try.prog W 0 (fun _ => true) true Try.f3.params.toList args.toList ds p := hA0
  have hA1 := hA
  rw [Try.params3] at hA hval
  obtain ⟨v0, v1, v2, d0, d1, d2, p0, p1, p2, rfl, rfl, rfl, h0, h1, h2⟩ := trodAll_three hA
  obtain ⟨rfl, rfl⟩ := trodVars_none hV
  obtain ⟨a0, a1, a2, y0, y1, y2, m, rfl, rfl, rfl, ha0, ha1, ha2⟩ := open_agg3 Try.underlying23 (by kernel_rfl) planMeets_cells (hval 0 23 v0 rfl rfl) h0
  obtain ⟨b0, b1, b2, z0, z1, z2, m', rfl, rfl, rfl, hb0, hb1, hb2⟩ := open_agg3 Try.underlying23 (by kernel_rfl) planMeets_cells (hval 1 23 v1 rfl rfl) h1
  obtain ⟨sa0, e, rfl, _⟩ := DataW.trod_string Try.underlying9 ha0
  simp only [List.cons.injEq, and_true] at e
  subst e
  obtain ⟨sa1, e, rfl, _⟩ := DataW.trod_string Try.underlying9 ha1
  simp only [List.cons.injEq, and_true] at e
  subst e
  obtain ⟨sa2, e, rfl⟩ := DataW.trod_bool Try.underlying4 ha2
  simp only [List.cons.injEq, and_true] at e
  subst e
  obtain ⟨sb0, e, rfl, _⟩ := DataW.trod_string Try.underlying9 hb0
  simp only [List.cons.injEq, and_true] at e
  subst e
  obtain ⟨sb1, e, rfl, _⟩ := DataW.trod_string Try.underlying9 hb1
  simp only [List.cons.injEq, and_true] at e
  subst e
  obtain ⟨sb2, e, rfl⟩ := DataW.trod_bool Try.underlying4 hb2
  simp only [List.cons.injEq, and_true] at e
  subst e
  obtain ⟨s2, rfl, rfl, rfl, _⟩ := open_string Try.underlying9 (hval 2 9 v2 rfl rfl) h2
  clear hA0 hval0
  obtain ⟨⟨sa0⟩⟩ := sa0
  obtain ⟨⟨sa1⟩⟩ := sa1
  obtain ⟨⟨sb0⟩⟩ := sb0
  obtain ⟨⟨sb1⟩⟩ := sb1
  obtain ⟨⟨s2⟩⟩ := s2
  refine (Eng.Fn.calls (Eng.planMeets_fn sa0 sa1 sb0 sb1 s2 sa2 sb2 (Eng.heapOf W))).mono ?_
  rintro e W' ⟨v, S', M', rfl, rfl, bel⟩
  exact ⟨_, rfl, _, _, _, [], _, [], hW', trodAll_mk1 (shut_bool Try.underlying4 _), Eng.trodAll_below planMeets_laidOut bel _ _ _ _ (by kernel_rfl) hA1, rfl, bel.frame _, fun h => by cases h⟩

theorem planMeets_said : Rows.PlanMeetsSaid :=
  OpenClaim.holds_of_wide 3 Try.f3 rfl rfl rfl rfl rfl rfl rfl ⟨rfl, rfl, rfl, rfl, rfl⟩ rfl rfl rfl rfl rfl (by kernel_rfl) Try.func3 (by kernel_rfl)
    (of_decide_eq_true (by kernel_rfl)) (by unfold Func.isWrapper; first | (rw [if_pos (by decide +kernel)]; kernel_rfl) | (rw [if_neg (by decide +kernel)]; exact ⟨rfl, rfl⟩))
    (fun os started H enc _ => planMeets_lifted os started H enc)
end Go.Proofs.Ytmiefhokjeofcaa
