/- WHAT IS PROVED: umlaut/umlautlaw14.KencTakes returns true whatever bytes, way round, two values and bytes behind them are given, and its arguments read as before; the tied card. Conditions: what it reads is of bulk at most 1048576; the listed tables are as the program's text lays them. -/
import Derived.Test.YtmiefhokjeofcaaDoorCards
import Derived.Test.YtmiefhokjeofcaaDoorTie
import Derived.Test.YtmiefhokjeofcaaDoorTakesLaw
import Derived.Test.YtmiefhokjeofcaaDoorGlue
import Derived.WalkKit
import Derived.ProofKit
import Derived.OpenShut
import Derived.ShutString
import Derived.Lib.SmallJoins
import Derived.Deep.DeepHandedRow
import Derived.LaidMore
namespace Go.Proofs.YtmiefhokjeofcaaDoor.kencTakes
open Go Go.ChangeShapes Go.WideShapes Go.ChangeAt Go.RowKit Go.Joins
open Go.ChangeMaps (open_string shut_string)
set_option linter.unusedVariables false
set_option linter.unusedSimpArgs false

theorem own : ownKnob Tryd.prog.godebug = none := by kernel_rfl
theorem laidOut : laidOutB Tryd.prog = true := by kernel_rfl
theorem cells : Tryd.prog.cellsOf 38 = 3 := by kernel_rfl
set_option maxRecDepth 100000 in
theorem contract (H : Type) (enc : TypeId × Value → H) (W : World) (base : Nat) (args : Array Value) (ds gs : List (DataW H)) (before : List MemPlace)
    (hval : ∀ (j : Nat) t v, Tryd.f6.params[j]? = some t → args[j]? = some v → Value.okWide Tryd.prog W .any base t v)
    (hW : DataW.Whole enc Tryd.prog Tryd.f6.params.toList Rows.kencTakesSpec.vars false W args.toList ds gs before) (hL : laidMetH Tryd.prog Rows.kencTakesUptoRow.laid W)
    (hk : Rows.uptoSmall H (ds ++ gs) = true) :
    Calls Tryd.prog 6 args W fun e W' => ∃ v, e = .returned v ∧ Rows.kencTakesSpec.post enc Tryd.prog Tryd.f6 false true false false W args v W' := by
  have hW' := hW
  obtain ⟨p, q, hA0, hV, rfl, hfz, hnd⟩ := hW
  have hA : DataW.TrodAll enc Tryd.prog W 0 (fun _ => true) true Tryd.f6.params.toList args.toList ds p := hA0
  have hA1 := hA
  rw [Tryd.params6] at hA hval
  obtain ⟨v0, vs0, d0, ds0, p0, q0, hargs, rfl, rfl, h0, r0⟩ := trodAll_cons hA
  obtain ⟨v1, vs1, d1, ds1, p1, q1, rfl, rfl, rfl, h1, r1⟩ := trodAll_cons r0
  obtain ⟨v2, vs2, d2, ds2, p2, q2, rfl, rfl, rfl, h2, r2⟩ := trodAll_cons r1
  obtain ⟨v3, vs3, d3, ds3, p3, q3, rfl, rfl, rfl, h3, r3⟩ := trodAll_cons r2
  obtain ⟨v4, vs4, d4, ds4, p4, q4, rfl, rfl, rfl, h4, r4⟩ := trodAll_cons r3
  obtain ⟨rfl, rfl, rfl⟩ := trodAll_nil r4
  obtain rfl : args = #[v0, v1, v2, v3, v4] := by cases args; simp_all
  obtain ⟨rfl, rfl⟩ := trodVars_none hV
  obtain ⟨s0, rfl, rfl, rfl, _⟩ := open_string Tryd.underlying9 (hval 0 9 v0 rfl rfl) h0
  obtain ⟨⟨s0⟩⟩ := s0
  obtain ⟨b1, rfl, rfl, rfl⟩ := open_bool Tryd.underlying4 (hval 1 4 v1 rfl rfl) h1
  obtain ⟨a0, a1, a2, ya0, ya1, ya2, ma, rfl, rfl, rfl, ha0, ha1, ha2⟩ := open_agg3 Tryd.underlying38 (by kernel_rfl) cells (hval 2 38 v2 rfl rfl) h2
  obtain ⟨ka, e, rfl, _⟩ := DataW.trod_int Tryd.underlying3 ha0
  simp only [List.cons.injEq, and_true] at e
  subst e
  obtain ⟨na, e, rfl, _⟩ := DataW.trod_int Tryd.underlying2 ha1
  simp only [List.cons.injEq, and_true] at e
  subst e
  obtain ⟨ta, e, rfl, _⟩ := DataW.trod_string Tryd.underlying9 ha2
  simp only [List.cons.injEq, and_true] at e
  subst e
  obtain ⟨⟨ta⟩⟩ := ta
  obtain ⟨b0, b1, b2, yb0, yb1, yb2, mb, rfl, rfl, rfl, hb0, hb1, hb2⟩ := open_agg3 Tryd.underlying38 (by kernel_rfl) cells (hval 3 38 v3 rfl rfl) h3
  obtain ⟨kb, e, rfl, _⟩ := DataW.trod_int Tryd.underlying3 hb0
  simp only [List.cons.injEq, and_true] at e
  subst e
  obtain ⟨nb, e, rfl, _⟩ := DataW.trod_int Tryd.underlying2 hb1
  simp only [List.cons.injEq, and_true] at e
  subst e
  obtain ⟨tb, e, rfl, _⟩ := DataW.trod_string Tryd.underlying9 hb2
  simp only [List.cons.injEq, and_true] at e
  subst e
  obtain ⟨⟨tb⟩⟩ := tb
  obtain ⟨s4, rfl, rfl, rfl, _⟩ := open_string Tryd.underlying9 (hval 4 9 v4 rfl rfl) h4
  obtain ⟨⟨s4⟩⟩ := s4
  have hk' := of_decide_eq_true hk
  simp only [List.cons_append, List.nil_append, List.append_nil, Rows.uptoBulkAll, Rows.uptoBulk] at hk'

  clear hA0
  refine (Eng.Fn.calls Tryd.call6 (Eng.kencTakes_fn s0 b1 ka na ta kb nb tb s4 (by omega) (by omega) (by omega) (by omega) (Eng.heapOf W))).mono ?_
  rintro e W' ⟨v, S', M', rfl, rfl, bel⟩
  exact ⟨_, rfl, _, _, _, [], _, [], hW', trodAll_mk1 (shut_bool Tryd.underlying4 _), Eng.trodAll_below laidOut bel _ _ _ _ (by kernel_rfl) hA1, rfl, bel.frame _, fun h => by cases h⟩

noncomputable def laidWorld (os : Os) : World :=
  { World.doorLaid Tryd.prog 400 os with heap := (World.doorLaid Tryd.prog 400 os).heap.modify ((Tryd.prog.globalNamed "unicode/utf8.first").getD 0) fun
      | .cells _ t frozen => .cells (Pinned.utf8FirstZ.map fun (n : Nat) => Value.int .u8 (Int.ofNat n)).toArray t frozen
      | o => o }
theorem laid_met (os : Os) : laidMet Tryd.prog Rows.kencTakesUptoRow.laid ((laidWorld os).forCall (fun _ _ => 0) ⟨#[], #[.string ByteArray.empty, .bool false, .agg #[.int .i64 0, .int .i64 0, .string ByteArray.empty], .agg #[.int .i64 0, .int .i64 0, .string ByteArray.empty], .string ByteArray.empty], []⟩).memory :=
  laidMet_of_run' 8 (by kernel_rfl) (by kernel_rfl)
theorem reads (os : Os) {H : Type} (enc : TypeId × Value → H) : ∃ places, DataW.whole enc Tryd.prog ((laidWorld os).forCall (fun _ _ => 0) ⟨#[], #[.string ByteArray.empty, .bool false, .agg #[.int .i64 0, .int .i64 0, .string ByteArray.empty], .agg #[.int .i64 0, .int .i64 0, .string ByteArray.empty], .string ByteArray.empty], []⟩).memory Tryd.f6.params.toList Rows.kencTakesSpec.vars false (#[.string ByteArray.empty, .bool false, .agg #[.int .i64 0, .int .i64 0, .string ByteArray.empty], .agg #[.int .i64 0, .int .i64 0, .string ByteArray.empty], .string ByteArray.empty] : Array Value).toList 8 = some ([.lit (.string []), .lit (.bool false), .agg [.lit (.int .i64 0), .lit (.int .i64 0), .lit (.string [])], .agg [.lit (.int .i64 0), .lit (.int .i64 0), .lit (.string [])], .lit (.string [])], [], places) :=
  ⟨[], by kernel_rfl⟩

set_option maxRecDepth 100000 in
theorem lifted (os : Os) (started : os.Started) (H : Type) (enc : TypeId × Value → H) (F : Stop.Interp) :
    ReturnsInHanded {} Tryd.checked os 6 .any ((Rows.OpenSpec.upto Rows.kencTakesSpec).preRow enc Tryd.prog Tryd.f6 Rows.kencTakesUptoRow.domain false Rows.kencTakesUptoRow.laid) (((Rows.OpenSpec.upto Rows.kencTakesSpec).at F).post enc Tryd.prog Tryd.f6 false true false false) := by
  obtain ⟨places, hx⟩ := reads os enc
  refine returnsInHanded_of_row (C := Tryd.checked) (s := (Rows.OpenSpec.upto Rows.kencTakesSpec)) own started (by kernel_rfl) Tryd.func6
    (witness_row_at (enc := enc) (C := Tryd.checked) false (laidWorld os) #[.string ByteArray.empty, .bool false, .agg #[.int .i64 0, .int .i64 0, .string ByteArray.empty], .agg #[.int .i64 0, .int .i64 0, .string ByteArray.empty], .string ByteArray.empty] rfl (by kernel_rfl) (by kernel_rfl) (by kernel_rfl)
      (OpenSpec.preRow_of_cond 8 hx (by kernel_rfl) (fun k hk => by cases hk; kernel_rfl) (by kernel_rfl) (laid_met os))) ?_
  intro W base args ds gs before hval hW _ hcond _ hL _ _
  exact contract H enc W base args ds gs before hval hW hL (hcond _ rfl)

theorem said : Rows.KencTakesUptoSaid :=
  OpenClaim.holds_of_cond 6 Tryd.f6 rfl rfl rfl rfl rfl rfl rfl ⟨rfl, rfl, rfl, rfl, rfl⟩ rfl rfl rfl rfl rfl (by kernel_rfl) Tryd.func6 (by kernel_rfl)
    (of_decide_eq_true (by kernel_rfl)) (by unfold Func.isWrapper; first | (rw [if_pos (by decide +kernel)]; kernel_rfl) | (rw [if_neg (by decide +kernel)]; exact ⟨rfl, rfl⟩))
    (fun os started H enc _ F => by rw [OpenClaim.pre_eq_preRow]; exact lifted os started H enc F)

theorem plain (f : FuncId) (fn : Func) (hf : Tryd.pinned.checked.prog.funcNamed "umlaut/umlautlaw14.KencTakes" = some f) (hfn : Tryd.pinned.checked.prog.funcs[f]? = some fn) :
    false = Tryd.pinned.checked.prog.looks [] ∧ ∀ (j : Nat) t, fn.params[j]? = some t → Tryd.pinned.checked.prog.wantsStandIn t = false := by
  obtain rfl : f = 6 := Option.some.inj ((show Tryd.prog.funcNamed "umlaut/umlautlaw14.KencTakes" = some 6 by kernel_rfl).symm.trans hf) |>.symm
  obtain rfl : fn = Tryd.f6 := (Option.some.inj (Tryd.func6.symm.trans hfn)).symm
  refine ⟨by kernel_rfl, fun j t ht => ?_⟩
  rw [Tryd.params6] at ht
  have hm : t ∈ [9, 4, 38, 38, 9] := by
    have := Array.mem_of_getElem? ht
    simp only [List.mem_cons, List.mem_nil_iff, or_false]
    simpa using this
  have hall : ([9, 4, 38, 38, 9].all fun u => !Tryd.prog.wantsStandIn u) = true := by kernel_rfl
  exact (show Tryd.prog.wantsStandIn t = false by simpa using List.all_eq_true.1 hall t hm)

theorem card : Rows.KencTakesUptoCardSaid :=
  Claim7.holds_tied_plain_at .later [] _ _ _ _ said (fun _ h => by cases h) (by kernel_rfl) (fun _ h => by cases h) kencTakesUpto_row_tie rfl ⟨rfl, rfl⟩ (by kernel_rfl) rfl plain (by kernel_rfl)
end Go.Proofs.YtmiefhokjeofcaaDoor.kencTakes
