/- DERIVED. Ranges: what plan.Empty, plan.Meet and the law's own 'in' answer. Conditions: none. -/
import Derived.Test.YtmiefhokjeofcaaBase
import Derived.Test.YtmiefhokjeofcaaEng8
set_option linter.unusedVariables false
set_option linter.unusedSimpArgs false
namespace Go.Proofs.Ytmiefhokjeofcaa.Eng
open Go
set_option maxRecDepth 8000
set_option maxHeartbeats 1000000

abbrev rng (lo hi : List UInt8) (op : Bool) : Value := .agg ⟨[vs lo, vs hi, vb op]⟩
def emptyB (lo hi : List UInt8) (op : Bool) : Bool := !op && (Op.bytesLess hi lo || decide (hi = lo))
theorem fn_empty (lo hi : List UInt8) (op : Bool) (S : Heap) : Fn pg 8 [rng lo hi op] S [] (fun v S' M' => v = vb (emptyB lo hi op)) := by
  cases op
  all_goals
    refine Fn_of Try.func8 rfl Try.ntmps8 Try.results8 Try.call8 rfl (fun w0 h0 => ?_)
    repeat (first | refine WL_ev rfl rfl rfl trivial ?_ | refine WL_skip rfl rfl ?_ | refine W_seq ?_ | refine W_region ?_ | refine WL_nil ?_ | refine WL_load1 rfl rfl rfl rfl rfl (by first | exact Kn.ofM 0 rfl rfl | exact Kn.ofM 1 rfl rfl | exact Kn.ofM 2 rfl rfl | exact Kn.ofM 3 rfl rfl | exact Kn.ofM 4 rfl rfl | exact Kn.ofM 5 rfl rfl | exact Kn.ofS (by assumption)) ?_ | refine WL_ev2 rfl rfl rfl trivial ?_ | refine WL_build rfl rfl rfl ?_ | refine WL_loadN rfl rfl rfl rfl rfl rfl (by first | exact KnRow.ofM 0 rfl | exact KnRow.ofM 1 rfl | exact KnRow.ofM 2 rfl | exact KnRow.ofM 3 rfl | exact KnRow.ofM 4 rfl | exact KnRow.ofM 5 rfl | exact KnRow.ofS (by assumption)) (by first | rfl | assumption) ?_ | refine W_block ?_ | refine W_skip ?_ | refine W_condT rfl ?_ | refine W_condF rfl ?_ | refine W_exit ?_ | refine WL_boxA rfl rfl rfl (fun _ => ?_) | refine WL_alloc rfl rfl rfl (fun _ => ?_) | refine WL_box1 rfl rfl rfl rfl (fun _ => ?_) | refine WL_st 0 rfl rfl rfl rfl rfl rfl rfl rfl rfl rfl rfl ?_ | refine WL_st 1 rfl rfl rfl rfl rfl rfl rfl rfl rfl rfl rfl ?_ | refine WL_st 2 rfl rfl rfl rfl rfl rfl rfl rfl rfl rfl rfl ?_ | refine WL_st 3 rfl rfl rfl rfl rfl rfl rfl rfl rfl rfl rfl ?_ | refine WL_st 4 rfl rfl rfl rfl rfl rfl rfl rfl rfl rfl rfl ?_ | refine WL_st 5 rfl rfl rfl rfl rfl rfl rfl rfl rfl rfl rfl ?_ | refine WL_lit rfl rfl rfl (fun _ => ?_) | refine W_ret ?_)
    exact ⟨.inr rfl, _, Res_1 rfl, rfl⟩

def inB (lo hi : List UInt8) (op : Bool) (key : List UInt8) : Bool := !Op.bytesLess key lo && (op || Op.bytesLess key hi)
theorem fn_in (lo hi : List UInt8) (op : Bool) (key : List UInt8) (S : Heap) : Fn pg 7 [rng lo hi op, vs key] S [] (fun v S' M' => v = vb (inB lo hi op key)) := by
  unfold inB
  cases h1 : Op.bytesLess key lo <;> cases op
  all_goals
    refine Fn_of Try.func7 rfl Try.ntmps7 Try.results7 Try.call7 rfl (fun w0 h0 => ?_)
    repeat (first | refine WL_ev rfl rfl rfl trivial ?_ | refine WL_skip rfl rfl ?_ | refine W_seq ?_ | refine W_region ?_ | refine WL_nil ?_ | refine WL_load1 rfl rfl rfl rfl rfl (by first | exact Kn.ofM 0 rfl rfl | exact Kn.ofM 1 rfl rfl | exact Kn.ofM 2 rfl rfl | exact Kn.ofM 3 rfl rfl | exact Kn.ofM 4 rfl rfl | exact Kn.ofM 5 rfl rfl | exact Kn.ofS (by assumption)) ?_ | refine WL_ev2 rfl rfl rfl trivial ?_ | refine WL_build rfl rfl rfl ?_ | refine WL_loadN rfl rfl rfl rfl rfl rfl (by first | exact KnRow.ofM 0 rfl | exact KnRow.ofM 1 rfl | exact KnRow.ofM 2 rfl | exact KnRow.ofM 3 rfl | exact KnRow.ofM 4 rfl | exact KnRow.ofM 5 rfl | exact KnRow.ofS (by assumption)) (by first | rfl | assumption) ?_ | refine W_block ?_ | refine W_skip ?_ | refine W_condT rfl ?_ | refine W_condF rfl ?_ | refine W_exit ?_ | refine WL_boxA rfl rfl rfl (fun _ => ?_) | refine WL_alloc rfl rfl rfl (fun _ => ?_) | refine WL_box1 rfl rfl rfl rfl (fun _ => ?_) | refine WL_st 0 rfl rfl rfl rfl rfl rfl rfl rfl rfl rfl rfl ?_ | refine WL_st 1 rfl rfl rfl rfl rfl rfl rfl rfl rfl rfl rfl ?_ | refine WL_st 2 rfl rfl rfl rfl rfl rfl rfl rfl rfl rfl rfl ?_ | refine WL_st 3 rfl rfl rfl rfl rfl rfl rfl rfl rfl rfl rfl ?_ | refine WL_st 4 rfl rfl rfl rfl rfl rfl rfl rfl rfl rfl rfl ?_ | refine WL_st 5 rfl rfl rfl rfl rfl rfl rfl rfl rfl rfl rfl ?_ | refine WL_lit rfl rfl rfl (fun _ => ?_) | refine W_ret ?_)
    try rw [h1]
    repeat (first | refine WL_ev rfl rfl rfl trivial ?_ | refine WL_skip rfl rfl ?_ | refine W_seq ?_ | refine W_region ?_ | refine WL_nil ?_ | refine WL_load1 rfl rfl rfl rfl rfl (by first | exact Kn.ofM 0 rfl rfl | exact Kn.ofM 1 rfl rfl | exact Kn.ofM 2 rfl rfl | exact Kn.ofM 3 rfl rfl | exact Kn.ofM 4 rfl rfl | exact Kn.ofM 5 rfl rfl | exact Kn.ofS (by assumption)) ?_ | refine WL_ev2 rfl rfl rfl trivial ?_ | refine WL_build rfl rfl rfl ?_ | refine WL_loadN rfl rfl rfl rfl rfl rfl (by first | exact KnRow.ofM 0 rfl | exact KnRow.ofM 1 rfl | exact KnRow.ofM 2 rfl | exact KnRow.ofM 3 rfl | exact KnRow.ofM 4 rfl | exact KnRow.ofM 5 rfl | exact KnRow.ofS (by assumption)) (by first | rfl | assumption) ?_ | refine W_block ?_ | refine W_skip ?_ | refine W_condT rfl ?_ | refine W_condF rfl ?_ | refine W_exit ?_ | refine WL_boxA rfl rfl rfl (fun _ => ?_) | refine WL_alloc rfl rfl rfl (fun _ => ?_) | refine WL_box1 rfl rfl rfl rfl (fun _ => ?_) | refine WL_st 0 rfl rfl rfl rfl rfl rfl rfl rfl rfl rfl rfl ?_ | refine WL_st 1 rfl rfl rfl rfl rfl rfl rfl rfl rfl rfl rfl ?_ | refine WL_st 2 rfl rfl rfl rfl rfl rfl rfl rfl rfl rfl rfl ?_ | refine WL_st 3 rfl rfl rfl rfl rfl rfl rfl rfl rfl rfl rfl ?_ | refine WL_st 4 rfl rfl rfl rfl rfl rfl rfl rfl rfl rfl rfl ?_ | refine WL_st 5 rfl rfl rfl rfl rfl rfl rfl rfl rfl rfl rfl ?_ | refine WL_lit rfl rfl rfl (fun _ => ?_) | refine W_ret ?_)
    exact ⟨.inr rfl, _, Res_1 rfl, rfl⟩

def meetHi (ahi bhi : List UInt8) (ao bo : Bool) : List UInt8 := match ao, bo with
  | true, true => []
  | true, false => bhi
  | false, true => ahi
  | false, false => minL ahi bhi
theorem fn_meet (alo ahi blo bhi : List UInt8) (ao bo : Bool) (S : Heap) : Fn pg 6 [rng alo ahi ao, rng blo bhi bo] S [] (fun v S' M' => v = rng (maxL alo blo) (meetHi ahi bhi ao bo) (ao && bo)) := by
  cases ao <;> cases bo
  all_goals
    refine Fn_of Try.func6 rfl Try.ntmps6 Try.results6 Try.call6 rfl (fun w0 h0 => ?_)
    repeat (first | refine WL_ev rfl rfl rfl trivial ?_ | refine WL_skip rfl rfl ?_ | refine W_seq ?_ | refine W_region ?_ | refine WL_nil ?_ | refine WL_load1 rfl rfl rfl rfl rfl (by first | exact Kn.ofM 0 rfl rfl | exact Kn.ofM 1 rfl rfl | exact Kn.ofM 2 rfl rfl | exact Kn.ofM 3 rfl rfl | exact Kn.ofM 4 rfl rfl | exact Kn.ofM 5 rfl rfl | exact Kn.ofS (by assumption)) ?_ | refine WL_ev2 rfl rfl rfl trivial ?_ | refine WL_build rfl rfl rfl ?_ | refine WL_loadN rfl rfl rfl rfl rfl rfl (by first | exact KnRow.ofM 0 rfl | exact KnRow.ofM 1 rfl | exact KnRow.ofM 2 rfl | exact KnRow.ofM 3 rfl | exact KnRow.ofM 4 rfl | exact KnRow.ofM 5 rfl | exact KnRow.ofS (by assumption)) (by first | rfl | assumption) ?_ | refine W_block ?_ | refine W_skip ?_ | refine W_condT rfl ?_ | refine W_condF rfl ?_ | refine W_exit ?_ | refine WL_boxA rfl rfl rfl (fun _ => ?_) | refine WL_alloc rfl rfl rfl (fun _ => ?_) | refine WL_box1 rfl rfl rfl rfl (fun _ => ?_) | refine WL_st 0 rfl rfl rfl rfl rfl rfl rfl rfl rfl rfl rfl ?_ | refine WL_st 1 rfl rfl rfl rfl rfl rfl rfl rfl rfl rfl rfl ?_ | refine WL_st 2 rfl rfl rfl rfl rfl rfl rfl rfl rfl rfl rfl ?_ | refine WL_st 3 rfl rfl rfl rfl rfl rfl rfl rfl rfl rfl rfl ?_ | refine WL_st 4 rfl rfl rfl rfl rfl rfl rfl rfl rfl rfl rfl ?_ | refine WL_st 5 rfl rfl rfl rfl rfl rfl rfl rfl rfl rfl rfl ?_ | refine WL_lit rfl rfl rfl (fun _ => ?_) | refine W_ret ?_)
    (first | exact ⟨.inr rfl, _, Res_cellA 0 rfl rfl rfl rfl rfl, rfl⟩ | exact ⟨.inr rfl, _, Res_cellA 1 rfl rfl rfl rfl rfl, rfl⟩ | exact ⟨.inr rfl, _, Res_cellA 2 rfl rfl rfl rfl rfl, rfl⟩ | exact ⟨.inr rfl, _, Res_cellA 3 rfl rfl rfl rfl rfl, rfl⟩ | exact ⟨.inr rfl, _, Res_cellA 4 rfl rfl rfl rfl rfl, rfl⟩ | exact ⟨.inr rfl, _, Res_cellA 5 rfl rfl rfl rfl rfl, rfl⟩)
end Go.Proofs.Ytmiefhokjeofcaa.Eng
