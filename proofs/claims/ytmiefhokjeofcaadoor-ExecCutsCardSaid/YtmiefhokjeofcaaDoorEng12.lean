/- DERIVED. The engine, thirteenth part: pieces of slices where the order is drawn, a copy of nothing, new rows of whatever bytes. Conditions: none. -/
import Derived.Test.YtmiefhokjeofcaaDoorEng11
set_option linter.unusedVariables false
set_option linter.unusedSimpArgs false
namespace Go.Proofs.YtmiefhokjeofcaaDoor.Eng
open Go Go.Lib
section
variable {g : Pg} {n : Nat} {w0 : World} {h0 S0 : Heap} {rd : Option Nat} {ops : List Oper} {K : Cont} {fr : Frm} {S : Heap} {M N : List Asn} {rest : List Oper} {dst : Option Tmp} {ty : TypeId} {pos : String} {after : Array Edge} {gd : Option (Nat × Bool)}
theorem WD_sliceS {opss : Array Oper} {σ : Sch} {k : Nat} {t : TypeId} {x : Operand} {lo hi mx : Option Operand} {vlo vhi vmx : Option Value} {ti ei : TI} {e : TypeId} {A : Option Addr} {len cap : Nat} (i j m : Nat)
    (ho : opss[k]? = some ⟨dst, .slice t x lo hi mx, ty, pos, after, gd⟩) (hw : wantedF opss.toList fr ⟨dst, .slice t x lo hi mx, ty, pos, after, gd⟩ = some true) (hd : dstOk n dst = true) (hx : ev? fr x = some (.slice A len cap)) (ht : tget g.tab t = some ti) (htd : ti.desc = .slice e) (he : tget g.tab e = some ei)
    (e1 : lo.map (ev? fr) = vlo.map some) (e2 : hi.map (ev? fr) = vhi.map some) (e3 : mx.map (ev? fr) = vmx.map some)
    (hlo : vlo = none ∧ i = 0 ∨ ∃ k, vlo = some (.int k i)) (hhi : vhi = none ∧ j = len ∧ vmx = none ∨ ∃ k, vhi = some (.int k j)) (hmx : vmx = none ∧ m = cap ∨ ∃ k, vmx = some (.int k m))
    (hij : i ≤ j) (hjm : j ≤ m) (hmc : m ≤ cap)
    (h : ∀ A', (j ≤ len → SubOf A len ei.size i j A') → (i = 0 → A' = A) → WD (ctx g n w0 h0 S0 rd) opss σ K (put fr dst (.slice A' (j - i) (m - i))) S M N) : WD (ctx g n w0 h0 S0 rd) opss (.look k σ) K fr S M N :=
  WD_pure ho hw hd (fun a w hr => by
    have conv : ∀ {o : Option Operand} {v : Option Value}, o.map (ev? fr) = v.map some → o.map a.eval = v := fun {o v} h => by
      cases o <;> cases v <;> simp only [Option.map_none, Option.map_some, reduceCtorEq, Option.some.injEq] at h ⊢
      exact hr.ev h
    show Sem.run g.P _ w = _
    simp only [execOp, hr.ev hx, conv e1, conv e2, conv e3, Sem.run_bind, sliceS_ok ht htd he A len cap i j m hij hjm hmc vlo vhi vmx w hlo hhi hmx, Result.andThen_ok, Sem.run_pure])
    (h _ (fun hj => subOf_mk A len cap ei.size i j m hij hjm hj) (fun h0 => by
      subst h0
      split
      · rfl
      · cases A <;> simp [Addr.add]))
/-- copy out of a nil slice. -/
theorem WL_copy0 {x y : Operand} {t u e : TypeId} {ti ei : TI} {A : Option Addr} {m c c2 : Nat} (hw : wantedF ops fr ⟨dst, .call ⟨.builtin .copy, ⟨[x, y]⟩, ⟨[t, u]⟩⟩, ty, pos, after, gd⟩ = some true) (hd : dstOk n dst = true)
    (hx : ev? fr x = some (.slice A m c)) (hy : ev? fr y = some (.slice none 0 c2)) (ht : tget g.tab t = some ti) (htd : ti.desc = .slice e) (he : tget g.tab e = some ei)
    (h : WL (ctx g n w0 h0 S0 rd) ops rest K (put fr dst (.int .i64 0)) S M) : WL (ctx g n w0 h0 S0 rd) ops (⟨dst, .call ⟨.builtin .copy, ⟨[x, y]⟩, ⟨[t, u]⟩⟩, ty, pos, after, gd⟩ :: rest) K fr S M :=
  WL_val hw hd (fun a w hr hst => by
    show Sem.run g.P _ w = _
    have : ((⟨[x, y]⟩ : Array Operand).map a.eval) = #[.slice A m c, .slice none 0 c2] := by
      apply Array.ext'
      simp [hr.ev hx, hr.ev hy]
    simp only [execOp, resolve, Sem.run_bind, Sem.run_pure, Result.andThen_ok, invoke, builtin, this]
    have hcopy : (Builtin.copy_ #[t, u] ty #[.slice A m c, .slice none 0 c2]).run g.P w = .ok (.int .i64 0) w := by
      cases A <;> simp [Builtin.copy_, run_underlying (show g.P.underlying t = some (.slice e) by rw [und_of ht, htd]), Builtin.lenOf, Builtin.firstCells, storeCells, goInt, Pg.szOf he]
    have hc := hcopy
    simp only [hc, Result.andThen_ok]) h
/-- make of a slice whose elements are one cell. -/
theorem WL_make {x y : Operand} {t e : TypeId} {ti ei : TI} {kl kc : IntKind} {m : Nat} {z : Value} (hw : wantedF ops fr ⟨dst, .makeSlice t x y, ty, pos, after, gd⟩ = some true) (hd : dstOk n dst = true)
    (hx : ev? fr x = some (.int kl m)) (hy : ev? fr y = some (.int kc m)) (ht : tget g.tab t = some ti) (htd : ti.desc = .slice e) (he : tget g.tab e = some ei) (hes : ei.size = 1) (hz : ei.zcs = [z]) (hb : (ei.bytes : Int) * m ≤ 281474976710656) (hm : m ≤ 9223372036854775807)
    (h : ∀ b, WL (ctx g n w0 h0 S0 rd) ops rest K (put fr dst (.slice (some ⟨b, 0, none⟩) m m)) S (cellsA b e (List.replicate m z) :: M)) : WL (ctx g n w0 h0 S0 rd) ops (⟨dst, .makeSlice t x y, ty, pos, after, gd⟩ :: rest) K fr S M :=
  WL_new (f := fun b => .slice (some ⟨b, 0, none⟩) m m) (ob := .cells ⟨List.replicate m z⟩ e) hw hd (fun a w hr hs => by
    obtain ⟨_, i, hi, x1, x2, x3, x4⟩ := g.ok.get he
    have hr' := run_make (P := g.P) w t e i ei.zero (by rw [und_of ht, htd]) hi x3 kl kc m m (by omega) (Int.le_refl _) (by rw [x2]; exact hb) (by omega)
    have hc : madeCells ei.zero.cells ((m : Int).toNat * i.size) = ⟨List.replicate m z⟩ := by
      rw [x4, hz, x1, hes, Nat.mul_one, Int.toNat_natCast]
      apply Array.ext'
      simp only [madeCells, Array.toList_map, Array.toList_range]
      apply List.ext_getElem
      · simp
      · intro k h1 h2
        simp [Nat.mod_one]
    rw [hc, Int.toNat_natCast] at hr'
    simp only [execOp, hr.ev hx, hr.ev hy, Sem.run_bind, hr', Result.andThen_ok, Sem.run_pure]
    rfl) h
end
theorem rowA_none {e : TypeId} {b : Nat} {cs : Array Value} {h : Heap} (hc : cs.size ≤ maxLen) (a : objA b (.cells cs e) h) : rowA e 1 (some ⟨b, 0, none⟩) 0 cs.size [] h :=
  ⟨rfl, .inr ⟨b, cs, rfl, a, Nat.zero_le _, hc, by simp, by simp⟩⟩
/-- A new row of whatever bytes. -/
theorem Fn_noZero {g : Pg} {f : FuncId} {fn : Func} {t e : TypeId} {ti : TI} {S : Heap} {m : Nat} (hf : g.P.funcs[f]? = some fn) (hname : (fn.name == "runtime.NumGoroutine") = false) (hb : fn.body.isNone = true) (hn : Extern.findNext fn = none)
    {ps : Array TypeId} (he : Extern.find fn = some (Extern.BytealgMakeNoZero.makeNoZero ps #[t])) (ht : tget g.tab t = some ti) (htd : ti.desc = .slice e) (hm : m ≤ 140737488355328) :
    Fn g f [.int .i64 m] S [] (fun v _ M' => ∃ b cs, v = .slice (some ⟨b, 0, none⟩) m cs.size ∧ m ≤ cs.size ∧ cs.size ≤ maxLen ∧ M' = [objA b (.cells cs e)]) :=
  .inr fun w hh st => by
    obtain ⟨cs, hr, h1, h2⟩ := Lib.run_makeNoZero (P := g.P) w ps t e (by rw [und_of ht, htd]) m (by omega)
    have hst : St ⟨g.P, 0, w, hh, S, none⟩ S [] w := ⟨hh, st, Since.refl _ _ _⟩
    refine ⟨_, S, _, _, ?_, ⟨w.heap.size, cs, rfl, h1, h2 (by simp only [maxLen]; omega), rfl⟩, ((hst.alloc (.cells cs e)).drawnN (w.drawn + 2))⟩
    rw [run_callFunc_extern hf hname hb hn he]
    have hr' := hr
    rw [show (⟨[.int .i64 (m : Int)]⟩ : Array Value) = #[.int .i64 m] from rfl, hr']
    rfl
end Go.Proofs.YtmiefhokjeofcaaDoor.Eng
