/- DERIVED. The engine, fourth part: operations that read, write or make memory. Conditions: none. -/
import Derived.Test.YtmiefhokjeofcaaDoorEng2
set_option linter.unusedVariables false
set_option linter.unusedSimpArgs false
namespace Go.Proofs.YtmiefhokjeofcaaDoor.Eng
open Go

/-! ### 1. Known cells -/
def hcell (h : Heap) (p : Addr) : Option Value :=
  match h p.block with
  | some (.cells c _ _) => if p.spot.isSome then none else c[p.off]?
  | _ => none
theorem Heap.In.cell {h : Heap} {w : World} (i : h.In w) {p : Addr} {v : Value} (e : hcell h p = some v) : w.cell? p = some v := by
  unfold hcell at e
  unfold World.cell?
  cases hb : h p.block with
  | none => rw [hb] at e; cases e
  | some o => rw [hb] at e; rw [i _ _ hb]; exact e
theorem hcell_le {S S' : Heap} (h : S.Le S') {p : Addr} {v : Value} (e : hcell S p = some v) : hcell S' p = some v := by
  unfold hcell at *
  cases hb : S p.block with
  | none => rw [hb] at e; cases e
  | some o => rw [hb] at e; rw [h _ _ hb]; exact e
def Kn (S : Heap) (M : List Asn) (p : Addr) (v : Value) : Prop := ∀ h w, StL S M h w → w.cell? p = some v
theorem Kn.ofS {S : Heap} {M : List Asn} {p : Addr} {v : Value} (e : hcell S p = some v) : Kn S M p v := fun h w st => st.sin.cell e
theorem Own.get : ∀ {M : List Asn} {h : Heap} {k : Nat} {b : Nat} {o : Obj}, Own M h → M[k]? = some (objA b o) → h b = some o
  | [], _, _, _, _, _, e => by simp at e
  | A :: M, h, 0, b, o, ⟨h1, h2, a, _, _, e'⟩, e => by
    simp only [List.getElem?_cons_zero, Option.some.injEq] at e
    subst e
    have : h1 = Heap.one b o := a
    rw [e', this]
    exact Heap.union_left (Heap.one_self b o)
  | A :: M, h, k + 1, b, o, ⟨h1, h2, _, o2, d, e'⟩, e => by
    simp only [List.getElem?_cons_succ] at e
    have := Own.get o2 e
    rw [e']
    rcases d b with h' | h'
    · rw [Heap.union_right h', this]
    · rw [this] at h'; cases h'
theorem Kn.ofM {S : Heap} {M : List Asn} (k : Nat) {b : Nat} {cs : List Value} {t : TypeId} {fz : Nat × Nat} {off : Nat} {v : Value} (hk : M[k]? = some (objA b (.cells ⟨cs⟩ t fz))) (hc : cs[off]? = some v) :
    Kn S M ⟨b, off, none⟩ v := fun h w st => by
  have := st.hin _ _ (st.own.get hk)
  unfold World.cell?
  simp only [this]
  simpa using hc
/-- A row of cells from an address on. -/
def Row (S : Heap) (p : Addr) (cs : List Value) : Prop := ∀ j v, cs[j]? = some v → hcell S (addrAt p j) = some v
theorem Row.le {S S' : Heap} (h : S.Le S') {p : Addr} {cs : List Value} (r : Row S p cs) : Row S' p cs := fun j v e => hcell_le h (r j v e)
theorem Row.at0 {S : Heap} {b off : Nat} {cs : List Value} (r : Row S ⟨b, off, none⟩ cs) (j : Nat) {v : Value} (e : cs[j]? = some v) : hcell S ⟨b, off + j, none⟩ = some v := r j v e
theorem Row.append {S : Heap} {p : Addr} {cs ds : List Value} (r : Row S p (cs ++ ds)) : Row S p cs ∧ Row S (addrAt p cs.length) ds := by
  refine ⟨fun j v e => r j v ?_, fun j v e => ?_⟩
  · rw [List.getElem?_append_left (List.getElem?_eq_some_iff.1 e).1, e]
  · have := r (cs.length + j) v (by rw [List.getElem?_append_right (by omega), Nat.add_sub_cancel_left, e])
    unfold addrAt at *
    simpa [Nat.add_assoc] using this
def KnRow (S : Heap) (M : List Asn) (p : Addr) (cs : List Value) : Prop := ∀ j v, cs[j]? = some v → Kn S M (addrAt p j) v
theorem KnRow.ofS {S : Heap} {M : List Asn} {p : Addr} {cs : List Value} (r : Row S p cs) : KnRow S M p cs := fun j v e => Kn.ofS (r j v e)
theorem KnRow.ofM {S : Heap} {M : List Asn} (k : Nat) {b : Nat} {cs : List Value} {t : TypeId} {fz : Nat × Nat} (hk : M[k]? = some (objA b (.cells ⟨cs⟩ t fz))) :
    KnRow S M ⟨b, 0, none⟩ cs := fun j v e => by
  unfold addrAt
  exact Kn.ofM k hk (by simpa using e)

/-! ### 2. Loads -/
theorem loadCellsFrom_ok {P : Program} {w : World} {a : Addr} (ha : a.spot = none) : ∀ (cs : List Value) (i : Nat) (acc : Array Value), (∀ j v, cs[j]? = some v → w.cell? (addrAt a (i + j)) = some v) →
    (loadCellsFrom a i cs.length acc).run P w = .ok (acc ++ (⟨cs⟩ : Array Value)) w
  | [], i, acc, _ => by simp [loadCellsFrom]
  | v :: cs, i, acc, h => by
    have h0 := h 0 v rfl
    have := loadCellsFrom_ok ha (P := P) (w := w) cs (i + 1) (acc.push v) (fun j u e => by have := h (j + 1) u (by simpa using e); rwa [show i + 1 + j = i + (j + 1) by omega])
    simp only [List.length_cons, loadCellsFrom, Sem.run_bind, load, Sem.run, addrAt_add _ ha]
    rw [show addrAt a i = addrAt a (i + 0) from rfl, h0]
    simp only [Result.andThen_ok, this]
    congr 1
    apply Array.ext'
    simp
theorem loadCells_ok {P : Program} {w : World} {a : Addr} (ha : a.spot = none) {cs : List Value} (h : ∀ j v, cs[j]? = some v → w.cell? (addrAt a j) = some v) : (loadCells a cs.length).run P w = .ok ⟨cs⟩ w := by
  unfold loadCells
  rw [loadCellsFrom_ok ha cs 0 #[] (fun j v e => by rw [Nat.zero_add]; exact h j v e)]
  congr 1
  apply Array.ext'
  simp
theorem load_ok {P : Program} {w : World} {p : Addr} {v : Value} (h : w.cell? p = some v) : (load p).run P w = .ok v w := by simp [load, Sem.run, h]
section
variable {g : Pg} {n : Nat} {w0 : World} {h0 S0 : Heap} {rd : Option Nat} {ops : List Oper} {K : Cont} {fr : Frm} {S : Heap} {M : List Asn} {rest : List Oper} {dst : Option Tmp} {ty : TypeId} {pos : String} {after : Array Edge} {gd : Option (Nat × Bool)}
theorem loadVar1 {t : TypeId} {i : TI} (ht : tget g.tab t = some i) (ha : i.agg = false) {p : Addr} {v : Value} {w : World} (h : w.cell? p = some v) : (loadVar t p).run g.P w = .ok v w := by
  simp only [loadVar, Sem.run_bind, Pg.isAg ht, ha, Result.andThen_ok, Bool.false_eq_true, if_false, load_ok h]
theorem loadVarN {t : TypeId} {i : TI} (ht : tget g.tab t = some i) (ha : i.agg = true) {p : Addr} (hp : p.spot = none) {cs : List Value} {w : World} (hl : cs.length = i.size) (h : ∀ j v, cs[j]? = some v → w.cell? (addrAt p j) = some v) :
    (loadVar t p).run g.P w = .ok (.agg ⟨cs⟩) w := by
  simp only [loadVar, Sem.run_bind, Pg.isAg ht, ha, Result.andThen_ok, if_true, Pg.szOf ht, ← hl, loadCells_ok hp h, Sem.run_pure]
theorem WL_load1 {t : TypeId} {x : Operand} {p : Addr} {v : Value} {i : TI}
    (hw : wantedF ops fr ⟨dst, .load t x, ty, pos, after, gd⟩ = some true) (hd : dstOk n dst = true) (hx : ev? fr x = some (.pointer (some p))) (ht : tget g.tab t = some i) (ha : i.agg = false) (hk : Kn S M p v)
    (h : WL (ctx g n w0 h0 S0 rd) ops rest K (put fr dst v) S M) : WL (ctx g n w0 h0 S0 rd) ops (⟨dst, .load t x, ty, pos, after, gd⟩ :: rest) K fr S M :=
  WL_val hw hd (fun a w hr hs => by
    obtain ⟨hp, st, _⟩ := hs
    show Sem.run g.P _ w = _
    simp [execOp, hr.ev hx, Instr.loadAt, Instr.sureAddr, loadVar1 ht ha (hk hp w st)]) h
theorem WL_loadN {t : TypeId} {x : Operand} {p : Addr} {cs : List Value} {i : TI}
    (hw : wantedF ops fr ⟨dst, .load t x, ty, pos, after, gd⟩ = some true) (hd : dstOk n dst = true) (hx : ev? fr x = some (.pointer (some p))) (ht : tget g.tab t = some i) (ha : i.agg = true) (hs : p.spot = none) (hk : KnRow S M p cs) (hl : cs.length = i.size)
    (h : WL (ctx g n w0 h0 S0 rd) ops rest K (put fr dst (.agg ⟨cs⟩)) S M) : WL (ctx g n w0 h0 S0 rd) ops (⟨dst, .load t x, ty, pos, after, gd⟩ :: rest) K fr S M :=
  WL_val hw hd (fun a w hr hst => by
    obtain ⟨hp, st, _⟩ := hst
    show Sem.run g.P _ w = _
    simp [execOp, hr.ev hx, Instr.loadAt, Instr.sureAddr, loadVarN ht ha hs hl (fun j v e => hk j v e hp w st)]) h

/-! ### 3. New blocks -/
theorem St.alloc {c : Ctx} {S : Heap} {M : List Asn} {w : World} (hs : St c S M w) (o : Obj) : St c S (objA w.heap.size o :: M) { w with heap := w.heap.push o } := by
  obtain ⟨h, st, q⟩ := hs
  have hn : h w.heap.size = none := by
    cases e : h w.heap.size with
    | none => rfl
    | some x => exact absurd (st.hin.lt (b := w.heap.size) (by rw [e]; simp)) (Nat.lt_irrefl _)
  have hS : S w.heap.size = none := by
    cases e : S w.heap.size with
    | none => rfl
    | some x => exact absurd (st.sin.lt (b := w.heap.size) (by rw [e]; simp)) (Nat.lt_irrefl _)
  have keep : ∀ b x, w.heap[b]? = some x → (w.heap.push o)[b]? = some x := fun b x e => by
    have hb := (Array.getElem?_eq_some_iff.1 e).1
    rw [Array.getElem?_push, if_neg (Nat.ne_of_lt hb), e]
  refine ⟨(Heap.one w.heap.size o).union h, ⟨⟨_, h, rfl, st.own, fun b => ?_, rfl⟩, fun b => ?_, fun b x e => ?_, fun b x e => keep b x (st.sin b x e)⟩, ?_⟩
  · by_cases hb : b = w.heap.size
    · subst hb; exact .inr hn
    · exact .inl (Heap.one_ne o hb)
  · by_cases hb : b = w.heap.size
    · subst hb; exact .inr hS
    · rcases st.dis b with e | e
      · exact .inl (Heap.union_none.2 ⟨Heap.one_ne o hb, e⟩)
      · exact .inr e
  · by_cases hb : b = w.heap.size
    · subst hb
      rw [Heap.union_left (Heap.one_self _ o)] at e
      simp only [Option.some.injEq] at e
      subst e
      simp
    · rw [Heap.union_right (Heap.one_ne o hb)] at e
      exact keep b x (st.hin b x e)
  · refine ⟨Nat.le_trans q.size (by simp), q.os, q.tape, q.output, q.le, fun b hb e => ?_⟩
    obtain ⟨u, v, z⟩ := q.old b hb e
    have hlt : b < w.heap.size := Nat.lt_of_lt_of_le hb q.size
    refine ⟨?_, Heap.union_none.2 ⟨Heap.one_ne o (Nat.ne_of_lt hlt), v⟩, z⟩
    show (w.heap.push o)[b]? = _
    rw [Array.getElem?_push, if_neg (Nat.ne_of_lt hlt), u]
/-- A step that makes one new block and gives a value that names it. -/
theorem WL_new {o : Oper} {f : Nat → Value} {ob : Obj} (hw : wantedF ops fr o = some true) (hd : dstOk n o.dst = true)
    (hrun : ∀ a w, Rep n a fr → St (ctx g n w0 h0 S0 rd) S M w → (execOp a.eval o).run g.P w = .ok (.value (f w.heap.size)) { w with heap := w.heap.push ob })
    (h : ∀ b, WL (ctx g n w0 h0 S0 rd) ops rest K (put fr o.dst (f b)) S (objA b ob :: M)) : WL (ctx g n w0 h0 S0 rd) ops (o :: rest) K fr S M :=
  WL_gen hw fun a w hr hs => by
    rw [show (ctx g n w0 h0 S0 rd).P = g.P from rfl, hrun a w hr hs]
    exact h w.heap.size _ _ (hr.put _ _ hd) (hs.alloc ob)
theorem WL_alloc {t : TypeId} {i : TI} (hw : wantedF ops fr ⟨dst, .alloc t, ty, pos, after, gd⟩ = some true) (hd : dstOk n dst = true) (ht : tget g.tab t = some i)
    (h : ∀ b, WL (ctx g n w0 h0 S0 rd) ops rest K (put fr dst (.pointer (some ⟨b, 0, none⟩))) S (cellsA b t i.zcs :: M)) : WL (ctx g n w0 h0 S0 rd) ops (⟨dst, .alloc t, ty, pos, after, gd⟩ :: rest) K fr S M :=
  WL_new (f := fun b => .pointer (some ⟨b, 0, none⟩)) (ob := .cells ⟨i.zcs⟩ t) hw hd (fun a w hr hs => by
    simp only [execOp, Instr.alloc, Sem.run_bind, Pg.zero ht, Result.andThen_ok, newVar, newRow, newObj, Sem.run, Pg.zcells ht, Sem.run_pure]) h
theorem WL_boxA {t : TypeId} {x : Operand} {cs : List Value} (hw : wantedF ops fr ⟨dst, .box t x, ty, pos, after, gd⟩ = some true) (hd : dstOk n dst = true) (hx : ev? fr x = some (.agg ⟨cs⟩))
    (h : ∀ b, WL (ctx g n w0 h0 S0 rd) ops rest K (put fr dst (.pointer (some ⟨b, 0, none⟩))) S (cellsA b t cs :: M)) : WL (ctx g n w0 h0 S0 rd) ops (⟨dst, .box t x, ty, pos, after, gd⟩ :: rest) K fr S M :=
  WL_new (f := fun b => .pointer (some ⟨b, 0, none⟩)) (ob := .cells ⟨cs⟩ t) hw hd (fun a w hr hs => by
    simp only [execOp, hr.ev hx, Instr.box, Sem.run_bind, Result.andThen_ok, newVar, newRow, newObj, Sem.run, Sem.run_pure, Value.cells]) h
def scalarB : Value → Bool
  | .agg _ | .tuple _ => false
  | _ => true
theorem scalar_cells {v : Value} (h : scalarB v = true) : v.cells = ⟨[v]⟩ := by cases v <;> first | rfl | cases h
theorem WL_box1 {t : TypeId} {x : Operand} {v : Value} (hw : wantedF ops fr ⟨dst, .box t x, ty, pos, after, gd⟩ = some true) (hd : dstOk n dst = true) (hx : ev? fr x = some v) (hv : scalarB v = true)
    (h : ∀ b, WL (ctx g n w0 h0 S0 rd) ops rest K (put fr dst (.pointer (some ⟨b, 0, none⟩))) S (cellsA b t [v] :: M)) : WL (ctx g n w0 h0 S0 rd) ops (⟨dst, .box t x, ty, pos, after, gd⟩ :: rest) K fr S M :=
  WL_new (f := fun b => .pointer (some ⟨b, 0, none⟩)) (ob := .cells ⟨[v]⟩ t) hw hd (fun a w hr hs => by
    simp only [execOp, hr.ev hx, Instr.box, Sem.run_bind, Result.andThen_ok, newVar, newRow, newObj, Sem.run, Sem.run_pure, scalar_cells hv]) h

/-! ### 4. Stores into an own block -/
theorem Own.set {b : Nat} {o o' : Obj} : ∀ {M : List Asn} {h : Heap} {k : Nat}, Own M h → M[k]? = some (objA b o) → Own (M.set k (objA b o')) (fun x => if x = b then some o' else h x)
  | [], _, _, _, e => by simp at e
  | A :: M, h, 0, ⟨h1, h2, a, o2, d, e'⟩, e => by
    simp only [List.getElem?_cons_zero, Option.some.injEq] at e
    subst e
    have hh : h1 = Heap.one b o := a
    subst hh
    have hb2 : h2 b = none := by
      rcases d b with h' | h'
      · rw [Heap.one_self] at h'; cases h'
      · exact h'
    refine ⟨Heap.one b o', h2, rfl, o2, fun x => ?_, ?_⟩
    · by_cases hx : x = b
      · subst hx; exact .inr hb2
      · exact .inl (Heap.one_ne _ hx)
    · funext x
      by_cases hx : x = b
      · subst hx; simp [Heap.union, Heap.one]
      · simp only [hx, if_false, e', Heap.union, Heap.one]
  | A :: M, h, k + 1, ⟨h1, h2, a, o2, d, e'⟩, e => by
    simp only [List.getElem?_cons_succ] at e
    have hb2 : h2 b = some o := o2.get e
    have hb1 : h1 b = none := by
      rcases d b with h' | h'
      · exact h'
      · rw [hb2] at h'; cases h'
    refine ⟨h1, _, a, Own.set o2 e, fun x => ?_, ?_⟩
    · by_cases hx : x = b
      · subst hx; exact .inl hb1
      · simp only [hx, if_false]; exact d x
    · funext x
      by_cases hx : x = b
      · subst hx; simp [Heap.union, hb1]
      · simp only [hx, if_false, e', Heap.union]
theorem St.set {c : Ctx} {S : Heap} {M : List Asn} {w : World} (hs : St c S M w) {k b : Nat} {o : Obj} (hk : M[k]? = some (objA b o)) (o' : Obj) : St c S (M.set k (objA b o')) { w with heap := w.heap.setIfInBounds b o' } := by
  obtain ⟨h, st, q⟩ := hs
  have hb : h b = some o := st.own.get hk
  have hlt : b < w.heap.size := st.hin.lt (by rw [hb]; simp)
  have hS : S b = none := (st.dis b).resolve_left (by rw [hb]; simp)
  refine ⟨_, ⟨st.own.set hk, fun x => ?_, fun x y e => ?_, fun x y e => ?_⟩, ?_⟩
  · by_cases hx : x = b
    · subst hx; exact .inr hS
    · simp only [hx, if_false]; exact st.dis x
  · by_cases hx : x = b
    · subst hx
      simp only [if_true, Option.some.injEq] at e
      subst e
      simp [hlt]
    · simp only [hx, if_false] at e
      show (w.heap.setIfInBounds b o')[x]? = _
      rw [Array.getElem?_setIfInBounds_ne (Ne.symm hx)]
      exact st.hin x y e
  · have hx : x ≠ b := fun hx => by subst hx; rw [hS] at e; cases e
    show (w.heap.setIfInBounds b o')[x]? = _
    rw [Array.getElem?_setIfInBounds_ne (Ne.symm hx)]
    exact st.sin x y e
  · refine ⟨Nat.le_trans q.size (by simp), q.os, q.tape, q.output, q.le, fun x hx e => ?_⟩
    obtain ⟨u, v, z⟩ := q.old x hx e
    have hxb : x ≠ b := fun hxb => by subst hxb; rw [hb] at v; cases v
    refine ⟨?_, by simp only [hxb, if_false]; exact v, z⟩
    show (w.heap.setIfInBounds b o')[x]? = _
    rw [Array.getElem?_setIfInBounds_ne (Ne.symm hxb), u]
/-- cells set one behind the other -/
def setR : List Value → Nat → List Value → List Value
  | l, _, [] => l
  | l, i, v :: r => setR (l.set i v) (i + 1) r
theorem setCell_eq {w : World} {b i : Nat} {c : Array Value} {t : TypeId} {fz : Nat × Nat} {v : Value} (h : w.heap[b]? = some (.cells c t fz)) :
    w.setCell ⟨b, i, none⟩ v = { w with heap := w.heap.setIfInBounds b (.cells (c.setIfInBounds i v) t fz) } := by
  unfold World.setCell
  congr 1
  apply Array.ext_getElem?
  intro k
  obtain ⟨hb, hv⟩ := Array.getElem?_eq_some_iff.1 h
  by_cases hk : b = k
  · subst hk
    rw [Array.getElem?_modify, if_pos rfl, h, Array.getElem?_setIfInBounds_self_of_lt hb]
    simp
  · rw [Array.getElem?_modify, if_neg hk, Array.getElem?_setIfInBounds_ne hk]
theorem storeCells_ok {P : Program} {b : Nat} {t : TypeId} : ∀ (ds : List Value) (w : World) (cs : List Value) (off i : Nat), w.heap[b]? = some (.cells ⟨cs⟩ t (0, 0)) → off + i + ds.length ≤ cs.length → ds.all scalarB = true →
    (storeCells ⟨b, off, none⟩ ds i).run P w = .ok () { w with heap := w.heap.setIfInBounds b (.cells ⟨setR cs (off + i) ds⟩ t (0, 0)) }
  | [], w, cs, off, i, h, _, _ => by
    simp only [storeCells, Sem.run_pure, setR]
    congr 1
    obtain ⟨hb, hv⟩ := Array.getElem?_eq_some_iff.1 h
    have : w.heap.setIfInBounds b (.cells ⟨cs⟩ t (0, 0)) = w.heap := by
      apply Array.ext_getElem?
      intro k
      by_cases hk : b = k
      · subst hk; rw [Array.getElem?_setIfInBounds_self_of_lt hb, h]
      · rw [Array.getElem?_setIfInBounds_ne hk]
    rw [this]
  | v :: ds, w, cs, off, i, h, hl, hs => by
    simp only [List.length_cons] at hl
    simp only [List.all_cons, Bool.and_eq_true] at hs
    obtain ⟨hb, hv⟩ := Array.getElem?_eq_some_iff.1 h
    have hcell : w.cell? ⟨b, off + i, none⟩ = some cs[off + i] := by
      unfold World.cell?
      simp [h, List.getElem?_eq_getElem (show off + i < cs.length by omega)]
    have hfz : w.frozen? ⟨b, off + i, none⟩ = false := by
      unfold World.frozen?
      simp [h]
    have hstore : ∀ k : Sem Unit, (Sem.store .plain ⟨b, off + i, none⟩ v k).run P w = k.run P (w.setCell ⟨b, off + i, none⟩ v) := fun k => by
      cases v <;> first | (simp [scalarB] at hs; done) | simp [Sem.run, hcell, hfz]
    have h' : (w.setCell ⟨b, off + i, none⟩ v).heap[b]? = some (.cells ⟨cs.set (off + i) v⟩ t (0, 0)) := by
      rw [setCell_eq h]
      simp [hb]
    have ih := storeCells_ok (P := P) ds _ _ off (i + 1) h' (by rw [List.length_set]; omega) hs.2
    simp only [storeCells, Sem.run_bind, store, addrAt_add ⟨b, off, none⟩ rfl, addrAt]
    rw [hstore, Sem.run]
    simp only [Result.andThen_ok, ih, setR]
    rw [setCell_eq h]
    congr 1
    simp [Nat.add_assoc]
theorem storeVar_ok {t : TypeId} {i : TI} (ht : tget g.tab t = some i) {b off : Nat} {v : Value} {ds cs : List Value} {tt : TypeId} {w : World} (hv : v.cells = ⟨ds⟩) (hl : ds.length = i.size) (h : w.heap[b]? = some (.cells ⟨cs⟩ tt (0, 0)))
    (hb : off + ds.length ≤ cs.length) (hs : ds.all scalarB = true) : (storeVar t ⟨b, off, none⟩ v).run g.P w = .ok () { w with heap := w.heap.setIfInBounds b (.cells ⟨setR cs off ds⟩ tt (0, 0)) } := by
  simp only [storeVar, Sem.run_bind, Pg.szOf ht, Result.andThen_ok, hv]
  have e : (⟨ds⟩ : Array Value).size = i.size := hl
  rw [if_neg (by rw [e]; simp)]
  exact storeCells_ok ds w cs off 0 h (by omega) hs
def cellsOf : Value → List Value
  | .agg ⟨cs⟩ => cs
  | v => [v]
theorem cellsOf_ok (v : Value) : v.cells = ⟨cellsOf v⟩ := by
  cases v <;> rfl
/-- A store into own block number k of the list. -/
theorem WL_store (k : Nat) {t : TypeId} {x y : Operand} {b off : Nat} {v : Value} {cs : List Value} {tt : TypeId} {i : TI}
    (hw : wantedF ops fr ⟨dst, .store t x y, ty, pos, after, gd⟩ = some true) (hd : dstOk n dst = true) (hx : ev? fr x = some (.pointer (some ⟨b, off, none⟩))) (hy : ev? fr y = some v) (ht : tget g.tab t = some i)
    (hk : M[k]? = some (objA b (.cells ⟨cs⟩ tt (0, 0)))) (hl : Nat.beq (cellsOf v).length i.size = true) (hb : Nat.ble (off + (cellsOf v).length) cs.length = true) (hs : (cellsOf v).all scalarB = true)
    (h : WL (ctx g n w0 h0 S0 rd) ops rest K (put fr dst undef) S (M.set k (objA b (.cells ⟨setR cs off (cellsOf v)⟩ tt (0, 0))))) : WL (ctx g n w0 h0 S0 rd) ops (⟨dst, .store t x y, ty, pos, after, gd⟩ :: rest) K fr S M :=
  WL_unit hw hd (fun a w hr hst => by
    have hbk : w.heap[b]? = some (.cells ⟨cs⟩ tt (0, 0)) := by
      obtain ⟨hp, st, _⟩ := hst
      exact st.hin _ _ (st.own.get hk)
    refine ⟨_, ?_, hst.set hk _⟩
    show Sem.run g.P _ w = _
    simp only [execOp, hr.ev hx, hr.ev hy, Instr.storeAt, Instr.sureAddr, Sem.run_bind, Sem.run_pure, Result.andThen_ok, storeVar_ok ht (cellsOf_ok v) (Nat.eq_of_beq_eq_true hl) hbk (Nat.le_of_ble_eq_true hb) hs]) h
theorem Res_cellA (k : Nat) {p : Nat} {b : Nat} {t : TypeId} {cs : List Value} {tt : TypeId} {fz : Nat × Nat} {i : TI} (e : get? fr p = some (.pointer (some ⟨b, 0, none⟩))) (ht : tget g.tab t = some i) (ha : i.agg = true) (hl : Nat.beq cs.length i.size = true)
    (hk : M[k]? = some (objA b (.cells ⟨cs⟩ tt fz))) (hm : fr.ds = [] := by rfl) : Res (ctx g n w0 h0 S0 rd) #[.cell p t] fr S M (.agg ⟨cs⟩) := ⟨hm, fun fn a w h hr hs => by
  obtain ⟨hp, st, _⟩ := hs
  have hv : a.tmps[p]?.getD undef = .pointer (some ⟨b, 0, none⟩) := by rw [hr.slots p _ e]; rfl
  have hl' := loadVarN (g := g) (w := w) ht ha (p := ⟨b, 0, none⟩) rfl (Nat.eq_of_beq_eq_true hl) (fun j v e => KnRow.ofM (S := S) k hk j v e hp w st)
  show Sem.run g.P _ w = _
  unfold results
  rw [h]
  simp [hv, asAddr, hl']⟩
end
end Go.Proofs.YtmiefhokjeofcaaDoor.Eng
