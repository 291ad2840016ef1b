/- DERIVED. The engine, eleventh part: bytes and texts, functions of the library that the model stands in for. Conditions: none. -/
import Derived.Test.YtmiefhokjeofcaaDoorEng9
import Derived.Lib.ConvBytes
import Derived.Lib.AppendStr
import Derived.Lib.Builder
import Derived.Lib.MakeNoZero
import Derived.Laws.Externs
import Derived.Laws.BytesString
set_option linter.unusedVariables false
set_option linter.unusedSimpArgs false
namespace Go.Proofs.YtmiefhokjeofcaaDoor.Eng
open Go

/-! ### 1. Bytes -/
def bc (l : List UInt8) : List Value := l.map fun b => .int .u8 b.toNat
theorem bc_length (l : List UInt8) : (bc l).length = l.length := by simp [bc]
theorem bc_flat (l : List UInt8) : (bc l).all scalarB = true := by
  unfold bc
  rw [List.all_map, List.all_eq_true]
  intro x _
  rfl
theorem bc_append (l m : List UInt8) : bc (l ++ m) = bc l ++ bc m := by simp [bc]
theorem bc_get (l : List UInt8) (i : Nat) : (bc l)[i]? = l[i]?.map fun b => Value.int .u8 b.toNat := by simp [bc]
theorem bc_at {l : List UInt8} {i : Nat} {x : UInt8} (h : l[i]? = some x) : (bc l)[0 + ((i : Nat) : Int).toNat * 1]? = some (.int .u8 x.toNat) := by
  rw [show 0 + ((i : Nat) : Int).toNat * 1 = i by omega, bc_get, h]
  rfl
theorem bc_set (l : List UInt8) (i : Nat) (x : UInt8) : (bc l).set i (.int .u8 x.toNat) = bc (l.set i x) := by simp [bc, List.map_set]

/-! ### 2. A store beside what is frozen -/
theorem setCell_eqF {w : World} {b off : Nat} {cs : List Value} {t : TypeId} {fz : Nat × Nat} {v : Value} (h : w.heap[b]? = some (.cells ⟨cs⟩ t fz)) :
    w.setCell ⟨b, off, none⟩ v = { w with heap := w.heap.setIfInBounds b (.cells ⟨cs.set off v⟩ t fz) } := by
  obtain ⟨hb, hv⟩ := Array.getElem?_eq_some_iff.1 h
  unfold World.setCell
  congr 1
  apply Array.ext_getElem?
  intro k
  by_cases hk : b = k
  · subst hk
    rw [Array.getElem?_modify, if_pos rfl, h, Array.getElem?_setIfInBounds_self_of_lt hb]
    simp
  · rw [Array.getElem?_modify, if_neg hk, Array.getElem?_setIfInBounds_ne hk]
theorem storeCellsF_ok {P : Program} {b : Nat} {t : TypeId} {fz : Nat × Nat} : ∀ (ds : List Value) (w : World) (cs : List Value) (off i : Nat), w.heap[b]? = some (.cells ⟨cs⟩ t fz) → off + i + ds.length ≤ cs.length → off + i + ds.length ≤ fz.1 → ds.all scalarB = true →
    (storeCells ⟨b, off, none⟩ ds i).run P w = .ok () { w with heap := w.heap.setIfInBounds b (.cells ⟨setR cs (off + i) ds⟩ t fz) }
  | [], w, cs, off, i, h, _, _, _ => by
    simp only [storeCells, Sem.run_pure, setR]
    congr 1
    obtain ⟨hb, hv⟩ := Array.getElem?_eq_some_iff.1 h
    have : w.heap.setIfInBounds b (.cells ⟨cs⟩ t fz) = w.heap := by
      apply Array.ext_getElem?
      intro k
      by_cases hk : b = k
      · subst hk; rw [Array.getElem?_setIfInBounds_self_of_lt hb, h]
      · rw [Array.getElem?_setIfInBounds_ne hk]
    rw [this]
  | v :: ds, w, cs, off, i, h, hl, hz, hs => by
    simp only [List.length_cons] at hl hz
    simp only [List.all_cons, Bool.and_eq_true] at hs
    obtain ⟨hb, hv⟩ := Array.getElem?_eq_some_iff.1 h
    have hcell : w.cell? ⟨b, off + i, none⟩ = some cs[off + i] := by
      unfold World.cell?
      simp [h, List.getElem?_eq_getElem (show off + i < cs.length by omega)]
    have hfz : w.frozen? ⟨b, off + i, none⟩ = false := by
      unfold World.frozen?
      simp [h]
      omega
    have hstore : ∀ k : Sem Unit, (Sem.store .plain ⟨b, off + i, none⟩ v k).run P w = k.run P (w.setCell ⟨b, off + i, none⟩ v) := fun k => by
      cases v <;> first | (simp [scalarB] at hs; done) | simp [Sem.run, hcell, hfz]
    have h' : (w.setCell ⟨b, off + i, none⟩ v).heap[b]? = some (.cells ⟨cs.set (off + i) v⟩ t fz) := by
      rw [setCell_eqF h]
      simp [hb]
    have ih := storeCellsF_ok (P := P) ds _ _ off (i + 1) h' (by rw [List.length_set]; omega) (by omega) hs.2
    simp only [storeCells, Sem.run_bind, store, addrAt_add ⟨b, off, none⟩ rfl, addrAt]
    rw [hstore, Sem.run]
    simp only [Result.andThen_ok, ih, setR]
    rw [setCell_eqF h]
    congr 1
    simp [Nat.add_assoc]
section
variable {g : Pg} {n : Nat} {w0 : World} {h0 S0 : Heap} {rd : Option Nat} {ops : List Oper} {K : Cont} {fr : Frm} {S : Heap} {M N : List Asn} {rest : List Oper} {dst : Option Tmp} {ty : TypeId} {pos : String} {after : Array Edge} {gd : Option (Nat × Bool)}
theorem storeVarF_ok {t : TypeId} {i : TI} (ht : tget g.tab t = some i) {b off : Nat} {v : Value} {ds cs : List Value} {tt : TypeId} {fz : Nat × Nat} {w : World} (hv : v.cells = ⟨ds⟩) (hl : ds.length = i.size) (h : w.heap[b]? = some (.cells ⟨cs⟩ tt fz))
    (hb : off + ds.length ≤ cs.length) (hz : off + ds.length ≤ fz.1) (hs : ds.all scalarB = true) : (storeVar t ⟨b, off, none⟩ v).run g.P w = .ok () { w with heap := w.heap.setIfInBounds b (.cells ⟨setR cs off ds⟩ tt fz) } := by
  simp only [storeVar, Sem.run_bind, Pg.szOf ht, Result.andThen_ok, hv]
  have e : (⟨ds⟩ : Array Value).size = i.size := hl
  rw [if_neg (by rw [e]; simp)]
  exact storeCellsF_ok ds w cs off 0 h (by omega) (by omega) hs
/-- A store into own block number k whose frozen end lies behind the cells. -/
theorem WL_storeF (k : Nat) {t : TypeId} {x y : Operand} {b off : Nat} {v : Value} {cs : List Value} {tt : TypeId} {fz : Nat × Nat} {i : TI}
    (hw : wantedF ops fr ⟨dst, .store t x y, ty, pos, after, gd⟩ = some true) (hd : dstOk n dst = true) (hx : ev? fr x = some (.pointer (some ⟨b, off, none⟩))) (hy : ev? fr y = some v) (ht : tget g.tab t = some i)
    (hk : M[k]? = some (objA b (.cells ⟨cs⟩ tt fz))) (hl : Nat.beq (cellsOf v).length i.size = true) (hb : off + (cellsOf v).length ≤ cs.length) (hz : off + (cellsOf v).length ≤ fz.1) (hs : (cellsOf v).all scalarB = true)
    (h : WL (ctx g n w0 h0 S0 rd) ops rest K (put fr dst undef) S (M.set k (objA b (.cells ⟨setR cs off (cellsOf v)⟩ tt fz)))) : WL (ctx g n w0 h0 S0 rd) ops (⟨dst, .store t x y, ty, pos, after, gd⟩ :: rest) K fr S M :=
  WL_unit hw hd (fun a w hr hst => by
    have hbk : w.heap[b]? = some (.cells ⟨cs⟩ tt fz) := by
      obtain ⟨hp, st, _⟩ := hst
      exact st.hin _ _ (st.own.get hk)
    refine ⟨_, ?_, hst.set hk _⟩
    show Sem.run g.P _ w = _
    simp only [execOp, hr.ev hx, hr.ev hy, Instr.storeAt, Instr.sureAddr, Sem.run_bind, Sem.run_pure, Result.andThen_ok, storeVarF_ok ht (cellsOf_ok v) (Nat.eq_of_beq_eq_true hl) hbk hb hz hs]) h

/-! ### 3. Functions of the library that the model stands in for -/
theorem Fn_ext {f : FuncId} {args : List Value} {v : Value} {Post : PostT} (h : ∀ w, (callFunc f ⟨args⟩).run g.P w = .ok (.value v) w) (hp : Post v S M) : Fn g f args S M Post :=
  .inr fun w hh st => ⟨v, S, M, w, h w, hp, ⟨hh, st, Since.refl _ _ _⟩⟩
end

/-! ### 4. Texts to bytes and back -/
theorem bytesWorld_eq (w : World) (e : TypeId) (l : List UInt8) : ∃ k, Lib.bytesWorld w e ⟨⟨l⟩⟩ = { w with drawn := k, heap := w.heap.push (.cells ⟨bc (l ++ List.replicate (grownCap w l.length 0 e - l.length) 0)⟩ e ((bc (l ++ List.replicate (grownCap w l.length 0 e - l.length) 0)).length, (bc (l ++ List.replicate (grownCap w l.length 0 e - l.length) 0)).length + 1)) } := by
  have hcells : Lib.bytesCells w e ⟨⟨l⟩⟩ = (⟨bc (l ++ List.replicate (grownCap w l.length 0 e - l.length) 0)⟩ : Array Value) := by
    apply Array.ext'
    simp [Lib.bytesCells, bc, ByteArray.size]
  refine ⟨w.drew.drawn, ?_⟩
  have hsz : (Lib.bytesCells w e ⟨⟨l⟩⟩).size = (bc (l ++ List.replicate (grownCap w l.length 0 e - l.length) 0)).length := by rw [hcells]; rfl
  have hh : (Lib.bytesWorld w e ⟨⟨l⟩⟩).heap = w.heap.push (.cells ⟨bc (l ++ List.replicate (grownCap w l.length 0 e - l.length) 0)⟩ e ((bc (l ++ List.replicate (grownCap w l.length 0 e - l.length) 0)).length, (bc (l ++ List.replicate (grownCap w l.length 0 e - l.length) 0)).length + 1)) := by
    apply Array.ext_getElem?
    intro k
    rcases Nat.lt_trichotomy k w.heap.size with hk | hk | hk
    · rw [Lib.bytesWorld_at_old w e _ k hk, Array.getElem?_push, if_neg (Nat.ne_of_lt hk)]
    · subst hk
      rw [Lib.bytesWorld_at_new, Array.getElem?_push, if_pos rfl, hsz, hcells]
    · rw [Array.getElem?_eq_none (by rw [Lib.bytesWorld_size]; omega), Array.getElem?_eq_none (by rw [Array.size_push]; omega)]
  rw [← hh]
  unfold Lib.bytesWorld World.freeze
  rfl
theorem foldl_push (l : List UInt8) : ∀ (acc : ByteArray), (l.map fun b => (b.toNat : Int)).foldl (fun r n => r.push (UInt8.ofNat n.toNat)) acc = ⟨acc.data ++ ⟨l⟩⟩ := by
  induction l with
  | nil => intro acc; cases acc; simp
  | cons x l ih =>
    intro acc
    simp only [List.map_cons, List.foldl_cons, ih]
    have : UInt8.ofNat ((x.toNat : Int)).toNat = x := by simp
    rw [this]
    cases acc
    simp [ByteArray.push]
section
variable {g : Pg} {n : Nat} {w0 : World} {h0 S0 : Heap} {rd : Option Nat} {ops : List Oper} {K : Cont} {fr : Frm} {S : Heap} {M N : List Asn} {rest : List Oper} {dst : Option Tmp} {ty : TypeId} {pos : String} {after : Array Edge} {gd : Option (Nat × Bool)}
theorem und_of {t : Nat} {i : TI} (e : tget g.tab t = some i) : g.P.underlying t = some i.desc := (g.ok.get e).1
theorem WL_bytes {s d e : TypeId} {x : Operand} {l : List UInt8} {si di ei : TI} (hw : wantedF ops fr ⟨dst, .convert s d x, ty, pos, after, gd⟩ = some true) (hd : dstOk n dst = true)
    (hx : ev? fr x = some (vs l)) (hs : tget g.tab s = some si) (hdt : tget g.tab d = some di) (hde : di.desc = .slice e) (he : tget g.tab e = some ei) (hee : ei.desc = .int .u8)
    (h : ∀ b p, (l.length ≤ maxLen → l.length + p ≤ maxLen) → WL (ctx g n w0 h0 S0 rd) ops rest K (put fr dst (.slice (some ⟨b, 0, none⟩) l.length (l.length + p))) S (objA b (.cells ⟨bc (l ++ List.replicate p 0)⟩ e (l.length + p, l.length + p + 1)) :: M)) :
    WL (ctx g n w0 h0 S0 rd) ops (⟨dst, .convert s d x, ty, pos, after, gd⟩ :: rest) K fr S M :=
  WL_gen hw fun a w hr hst => by
    have hrun := Lib.run_convert_string_bytes (P := g.P) w s d e ⟨⟨l⟩⟩ (und_of hs) (by rw [und_of hdt, hde]) (by rw [und_of he, hee])
    obtain ⟨k, hk⟩ := bytesWorld_eq w e l
    rw [show (ctx g n w0 h0 S0 rd).P = g.P from rfl]
    have hex : (execOp a.eval ⟨dst, .convert s d x, ty, pos, after, gd⟩).run g.P w = .ok (.value (.slice (some ⟨w.heap.size, 0, none⟩) l.length (grownCap w l.length 0 e))) (Lib.bytesWorld w e ⟨⟨l⟩⟩) := by
      simp only [execOp, hr.ev hx, Sem.run_bind, hrun, Result.andThen_ok, Sem.run_pure]
      rfl
    rw [hex, hk]
    have hge := grownCap_ge w l.length 0 e
    have hle := grownCap_le_maxLen w l.length 0 e
    have := h w.heap.size (grownCap w l.length 0 e - l.length) (by intro h'; have := hle h'; omega)
    have hlen : (bc (l ++ List.replicate (grownCap w l.length 0 e - l.length) 0)).length = l.length + (grownCap w l.length 0 e - l.length) := by simp [bc]
    rw [hlen]
    rw [show l.length + (grownCap w l.length 0 e - l.length) = grownCap w l.length 0 e by omega] at this ⊢
    exact this _ _ (hr.put _ _ hd) ((hst.alloc _).drawnN k)
theorem text_run {w : World} {s d e : TypeId} {si di ei : TI} {A : Option Addr} {m c : Nat} {l : List UInt8} (hs : tget g.tab s = some si) (hsd : si.desc = .slice e) (he : tget g.tab e = some ei) (hee : ei.desc = .int .u8) (hdt : tget g.tab d = some di) (hdd : di.desc = .string)
    (hA : (m = 0 ∧ l = []) ∨ ∃ p : Addr, A = some p ∧ p.spot = none ∧ l.length = m ∧ ∀ j v, (bc l)[j]? = some v → w.cell? (addrAt p j) = some v) : (convert s d (.slice A m c)).run g.P w = .ok (vs l) w := by
  rw [run_convert_bytes_string w s d e A m c (by rw [und_of hs, hsd]) (by rw [und_of he, hee]) (by rw [und_of hdt, hdd])]
  rcases hA with ⟨rfl, rfl⟩ | ⟨p, rfl, hp, rfl, hk⟩
  · cases A with
    | none => rfl
    | some p =>
      have hl := run_loadCells_list (P := g.P) w p [] (fun j v e => by simp at e)
      rw [run_bytesToString w p 0 c [] hl]
      rfl
  · have hl := run_loadCells_list (P := g.P) w p (bc l) (fun j v e => by rw [addrAt_add p hp]; exact hk j v e)
    rw [bc_length] at hl
    have hm : (bc l).toArray = ((l.map fun b => (b.toNat : Int)).map (Value.int .u8)).toArray := by simp [bc]
    rw [hm] at hl
    rw [run_bytesToString w p l.length c _ hl, foldl_push]
    simp [vs]
/-- What a row of bytes that is done gives a conversion. -/
theorem RowO.text {S : Heap} {M : List Asn} {A : Option Addr} {l : List UInt8} (h : RowO S A (bc l)) : ((l.length = 0 ∧ l = []) ∨ ∃ p : Addr, A = some p ∧ p.spot = none ∧ l.length = l.length ∧ KnRow S M p (bc l)) := by
  rcases h with h | ⟨b, rfl, h⟩
  · have : l = [] := by simpa [bc] using h
    exact .inl ⟨by rw [this]; rfl, this⟩
  · exact .inr ⟨_, rfl, rfl, rfl, KnRow.ofS h⟩
theorem WL_text {s d e : TypeId} {x : Operand} {A : Option Addr} {m c : Nat} {l : List UInt8} {si di ei : TI} (hw : wantedF ops fr ⟨dst, .convert s d x, ty, pos, after, gd⟩ = some true) (hd : dstOk n dst = true)
    (hx : ev? fr x = some (.slice A m c)) (hs : tget g.tab s = some si) (hsd : si.desc = .slice e) (he : tget g.tab e = some ei) (hee : ei.desc = .int .u8) (hdt : tget g.tab d = some di) (hdd : di.desc = .string)
    (hA : (m = 0 ∧ l = []) ∨ ∃ p : Addr, A = some p ∧ p.spot = none ∧ l.length = m ∧ KnRow S M p (bc l))
    (h : WL (ctx g n w0 h0 S0 rd) ops rest K (put fr dst (vs l)) S M) : WL (ctx g n w0 h0 S0 rd) ops (⟨dst, .convert s d x, ty, pos, after, gd⟩ :: rest) K fr S M :=
  WL_val hw hd (fun a w hr hst => by
    obtain ⟨hp, st, q⟩ := hst
    show Sem.run g.P _ w = _
    simp only [execOp, hr.ev hx, Sem.run_bind, Sem.run_pure, Result.andThen_ok, text_run (c := c) hs hsd he hee hdt hdd (w := w) (hA.imp id fun ⟨p, e1, e2, e3, e4⟩ => ⟨p, e1, e2, e3, fun j v e => e4 j v e hp w st⟩)]) h
/-- A conversion between kinds of integers that may wrap. -/
theorem WL_convW {s d : TypeId} {x : Operand} {m : Int} {k0 k1 k : IntKind} {si di : TI} (hw : wantedF ops fr ⟨dst, .convert s d x, ty, pos, after, gd⟩ = some true) (hd : dstOk n dst = true)
    (hx : ev? fr x = some (.int k0 m)) (hs : tget g.tab s = some si) (hsd : si.desc = .int k1) (hdt : tget g.tab d = some di) (hdd : di.desc = .int k)
    (h : WL (ctx g n w0 h0 S0 rd) ops rest K (put fr dst (.int k (k.wrap m))) S M) : WL (ctx g n w0 h0 S0 rd) ops (⟨dst, .convert s d x, ty, pos, after, gd⟩ :: rest) K fr S M :=
  WL_val hw hd (fun a w hr hst => by
    show Sem.run g.P _ w = _
    simp only [execOp, hr.ev hx, convert, Sem.run_bind, Pg.und hs, Pg.und hdt, hsd, hdd, Result.andThen_ok, Conv.intToInt, Sem.run_pure]) h
end
end Go.Proofs.YtmiefhokjeofcaaDoor.Eng
