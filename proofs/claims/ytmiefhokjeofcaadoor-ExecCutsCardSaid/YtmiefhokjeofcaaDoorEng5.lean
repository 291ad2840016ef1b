/- DERIVED. The engine, sixth part: structs, rows that grow, slices. Conditions: none. -/
import Derived.Test.YtmiefhokjeofcaaDoorEng4
import Derived.Maps.AppendAt
set_option linter.unusedVariables false
set_option linter.unusedSimpArgs false
namespace Go.Proofs.YtmiefhokjeofcaaDoor.Eng
open Go

/-! ### 1. Structs and literals put together -/
def forceL : List Value → Option (List Value)
  | [] => some []
  | x :: r => match forceL r with
    | some l => some (x :: l)
    | none => none
theorem forceL_eq : ∀ {l m : List Value}, forceL l = some m → m = l
  | [], m, h => by simp only [forceL, Option.some.injEq] at h; exact h.symm
  | x :: r, m, h => by
    simp only [forceL] at h
    cases e : forceL r with
    | none => rw [e] at h; cases h
    | some l =>
      rw [e] at h
      simp only [Option.some.injEq] at h
      rw [← h, forceL_eq e]
def fillL (place : Nat → Option (Nat × Nat)) : List Value → List (Nat × Value) → Option (List Value)
  | cells, [] => some cells
  | cells, (i, v) :: rest => match place i with
    | none => none
    | some (off, size) => match Nat.beq (cellsOf v).length size, Nat.ble (off + (cellsOf v).length) cells.length with
      | true, true => fillL place (setR cells off (cellsOf v)) rest
      | _, _ => none
theorem setR_length : ∀ (ds cs : List Value) (i : Nat), (setR cs i ds).length = cs.length
  | [], _, _ => rfl
  | v :: ds, cs, i => by simp only [setR, setR_length ds, List.length_set]
theorem foldl_setR : ∀ (ds : List Value) (cs : List Value) (off k : Nat), (ds.zipIdx k).foldl (fun (c : Array Value) (x : Value × Nat) => c.setIfInBounds (off + x.2) x.1) ⟨cs⟩ = ⟨setR cs (off + k) ds⟩
  | [], cs, off, k => rfl
  | v :: ds, cs, off, k => by
    simp only [List.zipIdx_cons, List.foldl_cons, setR]
    rw [show (⟨cs⟩ : Array Value).setIfInBounds (off + k) v = ⟨cs.set (off + k) v⟩ by apply Array.ext'; simp]
    rw [foldl_setR ds, Nat.add_assoc]
theorem fill_ok (place : Nat → Option (Nat × Nat)) : ∀ (parts : List (Nat × Value)) (cells out : List Value), fillL place cells parts = some out → Instr.fill place ⟨cells⟩ parts = some ⟨out⟩
  | [], cells, out, h => by simp only [fillL, Option.some.injEq] at h; subst h; rfl
  | (i, v) :: rest, cells, out, h => by
    simp only [fillL] at h
    simp only [Instr.fill]
    cases hp : place i with
    | none => rw [hp] at h; cases h
    | some q =>
      obtain ⟨off, size⟩ := q
      rw [hp] at h
      simp only at h
      cases h1 : Nat.beq (cellsOf v).length size <;> cases h2 : Nat.ble (off + (cellsOf v).length) cells.length <;> rw [h1, h2] at h <;> first | cases h | skip
      have e1 : (cellsOf v).length = size := Nat.eq_of_beq_eq_true h1
      have e2 : off + (cellsOf v).length ≤ cells.length := Nat.le_of_ble_eq_true h2
      have hs : v.cells.size = (cellsOf v).length := by rw [cellsOf_ok]; simp
      simp only [hs]
      rw [if_neg (by simp [e1]; omega)]
      have : v.cells.zipIdx.foldl (fun (cs : Array Value) (x : Value × Nat) => cs.setIfInBounds (off + x.2) x.1) (⟨cells⟩ : Array Value) = ⟨setR cells off (cellsOf v)⟩ := by
        rw [cellsOf_ok]
        rw [← Array.foldl_toList]
        simpa using foldl_setR (cellsOf v) cells off 0
      rw [this]
      exact fill_ok place rest _ out h
def evParts (fr : Frm) : List (Nat × Operand) → Option (List (Nat × Value))
  | [] => some []
  | (i, x) :: r => match ev? fr x with
    | some v => match evParts fr r with
      | some l => some ((i, v) :: l)
      | none => none
    | none => none
theorem Rep.parts {n : Nat} {a : Act} {fr : Frm} (h : Rep n a fr) : ∀ {l : List (Nat × Operand)} {vs : List (Nat × Value)}, evParts fr l = some vs → l.map (fun (i, x) => (i, a.eval x)) = vs
  | [], vs, e => by simp only [evParts, Option.some.injEq] at e; subst e; rfl
  | (i, x) :: r, vs, e => by
    simp only [evParts] at e
    cases h1 : ev? fr x with
    | none => rw [h1] at e; cases e
    | some v =>
      cases h2 : evParts fr r with
      | none => rw [h1, h2] at e; cases e
      | some l =>
        rw [h1, h2] at e
        simp only [Option.some.injEq] at e
        subst e
        simp only [List.map_cons, h.ev h1, h.parts h2]
def placesOf (tab : Tab) : List Field → Option (List (Nat × Nat))
  | [] => some []
  | f :: r => match tget tab f.type with
    | some i => match placesOf tab r with
      | some l => some ((f.offset, i.size) :: l)
      | none => none
    | none => none
theorem placesOf_ok {g : Pg} {w : World} : ∀ {fs : List Field} {l : List (Nat × Nat)}, placesOf g.tab fs = some l → (fs.mapM (fun f => do pure (f.offset, ← sizeOf f.type) : Field → Sem (Nat × Nat))).run g.P w = .ok l w
  | [], l, h => by simp only [placesOf, Option.some.injEq] at h; subst h; rfl
  | f :: r, l, h => by
    simp only [placesOf] at h
    cases h1 : tget g.tab f.type with
    | none => rw [h1] at h; cases h
    | some i =>
      cases h2 : placesOf g.tab r with
      | none => rw [h1, h2] at h; cases h
      | some m =>
        rw [h1, h2] at h
        simp only [Option.some.injEq] at h
        subst h
        simp only [List.mapM_cons, Sem.run_bind, Pg.szOf h1, Result.andThen_ok, Sem.run_pure, placesOf_ok h2]
def evBuild (g : Pg) (fr : Frm) (t : TypeId) (parts : List (Nat × Operand)) : Option Value :=
  match tget g.tab t, evParts fr parts with
  | some ⟨.struct fs, _, _, _, zcs⟩, some ps => match placesOf g.tab fs.toList with
    | some l => match fillL (fun i => l[i]?) zcs ps with
      | some cs => match forceL cs with
        | some ds => some (.agg ⟨ds⟩)
        | none => none
      | none => none
    | none => none
  | some ⟨.array _ e, _, _, _, zcs⟩, some ps => match tget g.tab e with
    | some ⟨_, sz, _, _, _⟩ => match fillL (fun i => some (i * sz, sz)) zcs ps with
      | some cs => match forceL cs with
        | some ds => some (.agg ⟨ds⟩)
        | none => none
      | none => none
    | none => none
  | _, _ => none
theorem evBuild_ok {g : Pg} {n : Nat} {a : Act} {fr : Frm} (hr : Rep n a fr) {t : TypeId} {parts : List (Nat × Operand)} {v : Value} (h : evBuild g fr t parts = some v) (w : World) :
    (Instr.build t ((⟨parts⟩ : Array (Nat × Operand)).map fun (i, x) => (i, a.eval x))).run g.P w = .ok v w := by
  have hm : ∀ ps, evParts fr parts = some ps → (((⟨parts⟩ : Array (Nat × Operand)).map fun (i, x) => (i, a.eval x))).toList = ps := fun ps e => by
    have := hr.parts e
    simpa using this
  unfold evBuild at h
  split at h
  · rename_i fs sz by_ z zcs ps ht hp
    split at h
    · rename_i l hl
      split at h
      · rename_i cs hcs
        split at h <;> simp only [Option.some.injEq, reduceCtorEq] at h
        rename_i ds hds
        subst h
        have hf := fill_ok _ _ _ _ hcs
        have hmap : (fs.mapM (fun f => do pure (f.offset, ← sizeOf f.type) : Field → Sem (Nat × Nat))).run g.P w = .ok ⟨l⟩ w := by
          rw [Array.mapM_eq_mapM_toList, map_eq_pure_bind, Sem.run_bind, placesOf_ok hl]
          rfl
        have hf' : Instr.fill (fun i => (⟨l⟩ : Array (Nat × Nat))[i]?) ⟨zcs⟩ ps = some ⟨cs⟩ := by
          rw [← hf]
          congr 1
          funext i
          simp
        simp only [Instr.build, Sem.run_bind, Pg.zero ht, Pg.zcells ht, Pg.und ht, Result.andThen_ok, hmap, hm _ hp, hf', forceL_eq hds, Sem.run_pure]
      · cases h
    · cases h
  · rename_i m el sz by_ z zcs ps ht hp
    split at h
    · rename_i d sz' by' z' zc' he
      split at h
      · rename_i cs hcs
        split at h <;> simp only [Option.some.injEq, reduceCtorEq] at h
        rename_i ds hds
        subst h
        have hf := fill_ok _ _ _ _ hcs
        simp only [Instr.build, Sem.run_bind, Pg.zero ht, Pg.zcells ht, Pg.und ht, Result.andThen_ok, Pg.szOf he, hm _ hp, hf, forceL_eq hds, Sem.run_pure]
      · cases h
    · cases h
  · cases h
def forceM : List Asn → Option (List Asn)
  | [] => some []
  | x :: r => match forceM r with
    | some l => some (x :: l)
    | none => none
theorem forceM_eq : ∀ {l m : List Asn}, forceM l = some m → m = l
  | [], m, h => by simp only [forceM, Option.some.injEq] at h; exact h.symm
  | x :: r, m, h => by
    simp only [forceM] at h
    cases e : forceM r with
    | none => rw [e] at h; cases h
    | some l =>
      rw [e] at h
      simp only [Option.some.injEq] at h
      rw [← h, forceM_eq e]
section
variable {g : Pg} {n : Nat} {w0 : World} {h0 S0 : Heap} {rd : Option Nat} {ops : List Oper} {K : Cont} {fr : Frm} {S : Heap} {M : List Asn} {rest : List Oper} {dst : Option Tmp} {ty : TypeId} {pos : String} {after : Array Edge} {gd : Option (Nat × Bool)}
/-- A store into own block number k, all written out. -/
theorem WL_st (k : Nat) {t : TypeId} {x y : Operand} {b off : Nat} {v : Value} {cs cs' : List Value} {tt : TypeId} {i : TI} {M' : List Asn}
    (hw : wantedF ops fr ⟨dst, .store t x y, ty, pos, after, gd⟩ = some true) (hd : dstOk n dst = true) (hx : ev? fr x = some (.pointer (some ⟨b, off, none⟩))) (hy : ev? fr y = some v) (ht : tget g.tab t = some i)
    (hk : M[k]? = some (objA b (.cells ⟨cs⟩ tt (0, 0)))) (hl : Nat.beq (cellsOf v).length i.size = true) (hb : Nat.ble (off + (cellsOf v).length) cs.length = true) (hs : (cellsOf v).all scalarB = true)
    (hf : forceL (setR cs off (cellsOf v)) = some cs') (hM : forceM (M.set k (objA b (.cells ⟨cs'⟩ tt (0, 0)))) = some M')
    (h : WL (ctx g n w0 h0 S0 rd) ops rest K (put fr dst undef) S M') : WL (ctx g n w0 h0 S0 rd) ops (⟨dst, .store t x y, ty, pos, after, gd⟩ :: rest) K fr S M := by
  refine WL_store k hw hd hx hy ht hk hl hb hs ?_
  rw [← forceL_eq hf, ← forceM_eq hM]
  exact h
theorem WL_build {t : TypeId} {parts : List (Nat × Operand)} {v : Value} (hw : wantedF ops fr ⟨dst, .build t ⟨parts⟩, ty, pos, after, gd⟩ = some true) (hd : dstOk n dst = true) (he : evBuild g fr t parts = some v)
    (h : WL (ctx g n w0 h0 S0 rd) ops rest K (put fr dst v) S M) : WL (ctx g n w0 h0 S0 rd) ops (⟨dst, .build t ⟨parts⟩, ty, pos, after, gd⟩ :: rest) K fr S M :=
  WL_val hw hd (fun a w hr hs => by
    show Sem.run g.P _ w = _
    have := evBuild_ok hr he w
    simp only [execOp, Sem.run_bind, this, Result.andThen_ok, Sem.run_pure]) h
theorem WD_build {arr : Array Oper} {N : List Asn} {σ : Sch} {i : Nat} {t : TypeId} {parts : List (Nat × Operand)} {v : Value} (ho : arr[i]? = some ⟨dst, .build t ⟨parts⟩, ty, pos, after, gd⟩) (hw : wantedF arr.toList fr ⟨dst, .build t ⟨parts⟩, ty, pos, after, gd⟩ = some true) (hd : dstOk n dst = true) (he : evBuild g fr t parts = some v)
    (h : WD (ctx g n w0 h0 S0 rd) arr σ K (put fr dst v) S M N) : WD (ctx g n w0 h0 S0 rd) arr (.look i σ) K fr S M N :=
  WD_pure ho hw hd (fun a w hr => by
    show Sem.run g.P _ w = _
    have := evBuild_ok hr he w
    simp only [execOp, Sem.run_bind, this, Result.andThen_ok, Sem.run_pure]) h
/-- a literal's row: all cells -/
def zeroRow (zcs : List Value) : Nat → List Value
  | 0 => []
  | n + 1 => zcs ++ zeroRow zcs n
theorem zeroRow_length (zcs : List Value) : ∀ n, (zeroRow zcs n).length = n * zcs.length
  | 0 => by simp [zeroRow]
  | n + 1 => by rw [zeroRow, List.length_append, zeroRow_length zcs n, Nat.succ_mul, Nat.add_comm]
theorem zeroRow_get (zcs : List Value) : ∀ (n j : Nat), j < n * zcs.length → (zeroRow zcs n)[j]? = zcs[j % zcs.length]?
  | 0, j, h => by simp at h
  | n + 1, j, h => by
    rw [zeroRow]
    by_cases hj : j < zcs.length
    · rw [List.getElem?_append_left hj, Nat.mod_eq_of_lt hj]
    · rw [List.getElem?_append_right (by omega), zeroRow_get zcs n (j - zcs.length) (by rw [Nat.succ_mul] at h; omega)]
      rw [← Nat.mod_eq_sub_mod (by omega)]
theorem zeroRow_arr (zcs : List Value) (n : Nat) : (Array.range (n * zcs.length)).map ((⟨zcs⟩ : Array Value)[· % (⟨zcs⟩ : Array Value).size]!) = ⟨zeroRow zcs n⟩ := by
  apply Array.ext'
  apply List.ext_getElem?
  intro j
  rw [Array.toList_map, Array.toList_range, List.getElem?_map]
  by_cases hj : j < n * zcs.length
  · have hpos : 0 < zcs.length := by
      rcases Nat.eq_zero_or_pos zcs.length with e | e
      · rw [e] at hj; omega
      · exact e
    have hm : j % zcs.length < zcs.length := Nat.mod_lt _ hpos
    have hm' : j % (⟨zcs⟩ : Array Value).size < (⟨zcs⟩ : Array Value).size := hm
    rw [List.getElem?_range hj, zeroRow_get zcs n j hj, List.getElem?_eq_getElem hm]
    simp only [Option.map_some]
    rw [getElem!_pos (⟨zcs⟩ : Array Value) _ hm']
    rfl
  · rw [List.getElem?_eq_none (by simp; omega), List.getElem?_eq_none (by rw [zeroRow_length]; omega)]
    rfl
def evRow (g : Pg) (fr : Frm) (t : TypeId) (len : Nat) (parts : List (Nat × Operand)) : Option (TypeId × List Value) :=
  match tget g.tab t, evParts fr parts with
  | some ⟨.slice e, _, _, _, _⟩, some ps => match tget g.tab e with
    | some ⟨_, sz, _, _, zcs⟩ => match Nat.beq zcs.length sz, Nat.ble (len * sz) 16777216 with
      | true, true => match fillL (fun i => some (i * sz, sz)) (zeroRow zcs len) ps with
        | some cs => match forceL cs with
          | some ds => some (e, ds)
          | none => none
        | none => none
      | _, _ => none
    | none => none
  | _, _ => none
theorem evRow_ok {a : Act} {n : Nat} (hr : Rep n a fr) {t e : TypeId} {len : Nat} {parts : List (Nat × Operand)} {cs : List Value} (h : evRow g fr t len parts = some (e, cs)) (w : World) :
    (Instr.buildSlice t len ((⟨parts⟩ : Array (Nat × Operand)).map fun (i, x) => (i, a.eval x))).run g.P w = .ok (.slice (some ⟨w.heap.size, 0, none⟩) len len) { w with heap := w.heap.push (.cells ⟨cs⟩ e) } := by
  unfold evRow at h
  split at h
  · rename_i el sz by_ z zc ps ht hp
    split at h
    · rename_i d sz' by' z' zcs he
      split at h
      · rename_i h1 h2
        have e1 : zcs.length = sz' := Nat.eq_of_beq_eq_true h1
        have e2 : len * sz' ≤ 16777216 := Nat.le_of_ble_eq_true h2
        split at h
        · rename_i ds hds
          split at h <;> simp only [Option.some.injEq, Prod.mk.injEq, reduceCtorEq] at h
          rename_i ds' hds'
          obtain ⟨rfl, rfl⟩ := h
          have hps : ((⟨parts⟩ : Array (Nat × Operand)).map fun (i, x) => (i, a.eval x)).toList = ps := by
            have := hr.parts hp
            simpa using this
          have hf := fill_ok _ _ _ _ hds
          subst e1
          simp only [Instr.buildSlice, Sem.run_bind, Pg.und ht, Result.andThen_ok, Pg.szOf he]
          rw [if_neg (by omega)]
          by_cases h0 : len * zcs.length = 0
          · have hz : ∀ z : Array Value, (Array.range (len * zcs.length)).map (fun x => z[x % z.size]!) = ⟨zeroRow zcs len⟩ := fun z => by
              have : zeroRow zcs len = [] := List.eq_nil_of_length_eq_zero (by rw [zeroRow_length, h0])
              rw [this, h0]
              simp
            rw [if_pos h0]
            simp only [Sem.run_bind, Sem.run_pure, Result.andThen_ok, hz, hps, hf, newRow, newObj, Sem.run, forceL_eq hds']
          · rw [if_neg h0]
            simp only [Sem.run_bind, Sem.run_pure, Pg.zero he, Pg.zcells he, Result.andThen_ok, zeroRow_arr, hps, hf, newRow, newObj, Sem.run, forceL_eq hds']
        · cases h
      · cases h
    · cases h
  · cases h
theorem WL_lit {t e : TypeId} {len : Nat} {parts : List (Nat × Operand)} {cs : List Value} (hw : wantedF ops fr ⟨dst, .buildSlice t len ⟨parts⟩, ty, pos, after, gd⟩ = some true) (hd : dstOk n dst = true) (he : evRow g fr t len parts = some (e, cs))
    (h : ∀ b, WL (ctx g n w0 h0 S0 rd) ops rest K (put fr dst (.slice (some ⟨b, 0, none⟩) len len)) S (cellsA b e cs :: M)) : WL (ctx g n w0 h0 S0 rd) ops (⟨dst, .buildSlice t len ⟨parts⟩, ty, pos, after, gd⟩ :: rest) K fr S M :=
  WL_new (f := fun b => .slice (some ⟨b, 0, none⟩) len len) (ob := .cells ⟨cs⟩ e) hw hd (fun a w hr hs => by
    simp only [execOp, Sem.run_bind, evRow_ok hr he w, Result.andThen_ok, Sem.run_pure]) h
theorem WD_lit {arr : Array Oper} {N : List Asn} {σ : Sch} {i : Nat} {t e : TypeId} {len : Nat} {parts : List (Nat × Operand)} {cs : List Value} (ho : arr[i]? = some ⟨dst, .buildSlice t len ⟨parts⟩, ty, pos, after, gd⟩) (hw : wantedF arr.toList fr ⟨dst, .buildSlice t len ⟨parts⟩, ty, pos, after, gd⟩ = some true) (hd : dstOk n dst = true) (he : evRow g fr t len parts = some (e, cs))
    (h : ∀ b, WD (ctx g n w0 h0 S0 rd) arr σ K (put fr dst (.slice (some ⟨b, 0, none⟩) len len)) S (cellsA b e cs :: M) N) : WD (ctx g n w0 h0 S0 rd) arr (.step i σ) K fr S M N :=
  WD_new (f := fun b => .slice (some ⟨b, 0, none⟩) len len) (ob := .cells ⟨cs⟩ e) ho hw hd (fun a w hr hs => by
    simp only [execOp, Sem.run_bind, evRow_ok hr he w, Result.andThen_ok, Sem.run_pure]) h
theorem WD_freeze {arr : Array Oper} {N : List Asn} {σ : Sch} {b : Nat} {o : Obj} {c : Ctx} (h : ∀ S', S.Le S' → S' b = some o → WD c arr σ K fr S' M N) (hN : N.Sublist M) : WD c arr σ K fr S (objA b o :: M) N := fun _ a w C hr hs hc => by
  obtain ⟨S', h1, h2, hs'⟩ := hs.freeze
  exact h S' h1 h2 hN a w C hr hs' fun S'' x hl hx => hc S'' x (h1.trans hl) hx
end
end Go.Proofs.YtmiefhokjeofcaaDoor.Eng
