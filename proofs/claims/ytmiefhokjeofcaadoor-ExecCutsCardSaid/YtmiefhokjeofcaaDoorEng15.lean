/- DERIVED. The engine, sixteenth part: a part of a block of one's own, loaded as a whole. Conditions: none. -/
import Derived.Test.YtmiefhokjeofcaaDoorEng14
set_option linter.unusedVariables false
set_option linter.unusedSimpArgs false
set_option linter.unusedSectionVars false
namespace Go.Proofs.YtmiefhokjeofcaaDoor.Eng
open Go

theorem KnRow.ofMp {S : Heap} {M : List Asn} (k : Nat) {b : Nat} {cs : List Value} {t : TypeId} {fz : Nat × Nat} {off sz : Nat} {ds : List Value} (hk : M[k]? = some (objA b (.cells ⟨cs⟩ t fz))) (hf : forceL ((cs.drop off).take sz) = some ds) : KnRow S M ⟨b, off, none⟩ ds := fun j v e => by
  rw [forceL_eq hf] at e
  refine Kn.ofM k hk ?_
  have hj := (List.getElem?_eq_some_iff.1 e).1
  simp only [List.length_take, List.length_drop] at hj
  rw [List.getElem?_take_of_lt (by omega), List.getElem?_drop] at e
  exact e
section
variable {g : Pg} {n : Nat} {w0 : World} {h0 S0 : Heap} {rd : Option Nat} {ops : List Oper} {K : Cont} {fr : Frm} {S : Heap} {M N : List Asn} {rest : List Oper} {dst : Option Tmp} {ty : TypeId} {pos : String} {after : Array Edge} {gd : Option (Nat × Bool)}
theorem WL_loadP (k : Nat) {t : TypeId} {x : Operand} {b off : Nat} {cs ds : List Value} {tt : TypeId} {fz : Nat × Nat} {i : TI}
    (hw : wantedF ops fr ⟨dst, .load t x, ty, pos, after, gd⟩ = some true) (hd : dstOk n dst = true) (hx : ev? fr x = some (.pointer (some ⟨b, off, none⟩))) (ht : tget g.tab t = some i) (ha : i.agg = true)
    (hk : M[k]? = some (objA b (.cells ⟨cs⟩ tt fz))) (hf : forceL ((cs.drop off).take i.size) = some ds) (hl : Nat.beq ds.length i.size = true)
    (h : WL (ctx g n w0 h0 S0 rd) ops rest K (put fr dst (.agg ⟨ds⟩)) S M) : WL (ctx g n w0 h0 S0 rd) ops (⟨dst, .load t x, ty, pos, after, gd⟩ :: rest) K fr S M :=
  WL_loadN hw hd hx ht ha rfl (KnRow.ofMp k hk hf) (Nat.eq_of_beq_eq_true hl) h
theorem WD_loadP (k : Nat) {opss : Array Oper} {σ : Sch} {j : Nat} {t : TypeId} {x : Operand} {b off : Nat} {cs ds : List Value} {tt : TypeId} {fz : Nat × Nat} {i : TI} (ho : opss[j]? = some ⟨dst, .load t x, ty, pos, after, gd⟩)
    (hw : wantedF opss.toList fr ⟨dst, .load t x, ty, pos, after, gd⟩ = some true) (hd : dstOk n dst = true) (hx : ev? fr x = some (.pointer (some ⟨b, off, none⟩))) (ht : tget g.tab t = some i) (ha : i.agg = true)
    (hk : M[k]? = some (objA b (.cells ⟨cs⟩ tt fz))) (hf : forceL ((cs.drop off).take i.size) = some ds) (hl : Nat.beq ds.length i.size = true)
    (h : WD (ctx g n w0 h0 S0 rd) opss σ K (put fr dst (.agg ⟨ds⟩)) S M M) : WD (ctx g n w0 h0 S0 rd) opss (.look j σ) K fr S M N :=
  WD_loadN ho hw hd hx ht ha rfl (KnRow.ofMp k hk hf) hl h
end
end Go.Proofs.YtmiefhokjeofcaaDoor.Eng
