/- DERIVED. From a contract of the engine to what a given row asks of a law: the result is true, memory that was there is as it was. Conditions: none. -/
import Derived.Test.YtmiefhokjeofcaaDoorBase
import Derived.Test.YtmiefhokjeofcaaDoorEng9
import Derived.ProofKit
import Derived.OpenShut
import Derived.Below
import Derived.Carry
set_option linter.unusedVariables false
set_option linter.unusedSimpArgs false
namespace Go.Proofs.YtmiefhokjeofcaaDoor.Eng
open Go Go.ChangeShapes Go.WideShapes Go.ChangeAt Go.RowKit

def heapOf (w : World) : Heap := fun b => w.heap[b]?
theorem heapOf_stl (w : World) : StL (heapOf w) [] Heap.emp w := ⟨rfl, fun _ => .inl rfl, (fun _ _ h => by cases h), fun _ _ h => h⟩
theorem cell_hcell {w : World} {b off : Nat} {v : Value} (h : w.cell? ⟨b, off, none⟩ = some v) : hcell (heapOf w) ⟨b, off, none⟩ = some v := by
  unfold hcell heapOf
  unfold World.cell? at h
  exact h
theorem Fn.calls {f : FuncId} {args : List Value} {w : World} {Post : PostT} (hc : ∀ xs w, (callFunc f xs).run Tryd.prog w = .ok (.enter f xs) w) (h : Fn pg f args (heapOf w) [] Post) :
    Calls Tryd.prog f ⟨args⟩ w fun e w' => ∃ v S M, e = .returned v ∧ Post v S M ∧ Below w.heap.size w w' := by
  rcases h with h | h
  rotate_left
  · obtain ⟨v, S', M', w', e, _⟩ := h w Heap.emp (heapOf_stl w)
    rw [show pg.P = Tryd.prog from rfl, hc] at e
    cases e
  refine (h.2 w Heap.emp (heapOf_stl w)).mono ?_
  rintro e w' ⟨v, S', M', he, hp, h', st, q⟩
  exact ⟨v, S', M', he, hp, q.os, q.tape, q.output, q.size, fun b hb => (q.old b hb rfl).1⟩

theorem trodAll_below {H : Type} {P : Program} {enc : TypeId × Value → H} {W W' : World} (hl : laidOutB P = true) (hb : Below W.heap.size W W') : ∀ (ts : List TypeId) (vs : List Value) (ds : List (DataW H)) (p : List MemPlace),
    ts.all (fun t => P.readableRec t && decide (t < P.types.size)) = true → DataW.TrodAll enc P W 0 (fun _ => true) true ts vs ds p →
    DataW.TrodAll enc P W' 0 (fun b => decide (b < W.heap.size)) true ts vs ds p
  | [], vs, ds, p, _, h => by
    obtain ⟨rfl, rfl, rfl⟩ := trodAll_nil h
    exact trodAll_mk0
  | t :: ts, vs, ds, p, ha, h => by
    obtain ⟨v, vs', d, ds', p', q', rfl, rfl, rfl, h1, h2⟩ := trodAll_cons h
    simp only [List.all_cons, Bool.and_eq_true, decide_eq_true_eq] at ha
    have lt0 : ∀ x ∈ p', x.block < W.heap.size := by obtain ⟨m, hm⟩ := h1; exact DataW.trod_lt m _ _ _ hm
    exact trodAll_cons_mk (Below.trod hl ha.1.1 ha.1.2 h1 hb lt0) (trodAll_below hl hb ts vs' ds' q' (by simpa using ha.2) h2)
end Go.Proofs.YtmiefhokjeofcaaDoor.Eng
