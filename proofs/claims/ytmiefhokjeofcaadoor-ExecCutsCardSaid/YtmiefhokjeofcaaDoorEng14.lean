/- DERIVED. The engine, fifteenth part: texts where the order is drawn, whole arrays as slices, maps: made, looked into, written, ranged over. Conditions: none. -/
import Derived.Test.YtmiefhokjeofcaaDoorEng13
import Derived.Maps.RangeRun
import Derived.ChangeKeysEq
set_option linter.unusedVariables false
set_option linter.unusedSimpArgs false
set_option linter.unusedSectionVars false
namespace Go.Proofs.YtmiefhokjeofcaaDoor.Eng
open Go

section
variable {g : Pg} {n : Nat} {w0 : World} {h0 S0 : Heap} {rd : Option Nat} {ops : List Oper} {K : Cont} {fr : Frm} {S : Heap} {M N : List Asn} {rest : List Oper} {dst : Option Tmp} {ty : TypeId} {pos : String} {after : Array Edge} {gd : Option (Nat × Bool)}
theorem WD_text {opss : Array Oper} {σ : Sch} {i : Nat} {s d e : TypeId} {x : Operand} {A : Option Addr} {m c : Nat} {l : List UInt8} {si di ei : TI} (ho : opss[i]? = some ⟨dst, .convert s d x, ty, pos, after, gd⟩)
    (hw : wantedF opss.toList fr ⟨dst, .convert s d x, ty, pos, after, gd⟩ = some true) (hd : dstOk n dst = true)
    (hx : ev? fr x = some (.slice A m c)) (hs : tget g.tab s = some si) (hsd : si.desc = .slice e) (he : tget g.tab e = some ei) (hee : ei.desc = .int .u8) (hdt : tget g.tab d = some di) (hdd : di.desc = .string)
    (hA : (m = 0 ∧ l = []) ∨ ∃ p : Addr, A = some p ∧ p.spot = none ∧ l.length = m ∧ KnRow S M p (bc l))
    (h : WD (ctx g n w0 h0 S0 rd) opss σ K (put fr dst (vs l)) S M M) : WD (ctx g n w0 h0 S0 rd) opss (.look i σ) K fr S M N :=
  WD_float ho hw hd (fun a w hr hst => by
    obtain ⟨hp, st⟩ := hst
    show Sem.run g.P _ w = _
    simp only [execOp, hr.ev hx, Sem.run_bind, Sem.run_pure, Result.andThen_ok, text_run (c := c) hs hsd he hee hdt hdd (w := w) (hA.imp id fun ⟨p, e1, e2, e3, e4⟩ => ⟨p, e1, e2, e3, fun j v e => e4 j v e hp w st⟩)]) h
theorem WD_textS {opss : Array Oper} {σ : Sch} {i : Nat} {s d e : TypeId} {x : Operand} {A : Option Addr} {m c : Nat} {l : List UInt8} {si di ei : TI} (ho : opss[i]? = some ⟨dst, .convert s d x, ty, pos, after, gd⟩)
    (hw : wantedF opss.toList fr ⟨dst, .convert s d x, ty, pos, after, gd⟩ = some true) (hd : dstOk n dst = true) (hN : N.Sublist M)
    (hx : ev? fr x = some (.slice A m c)) (hs : tget g.tab s = some si) (hsd : si.desc = .slice e) (he : tget g.tab e = some ei) (hee : ei.desc = .int .u8) (hdt : tget g.tab d = some di) (hdd : di.desc = .string)
    (hA : (m = 0 ∧ l = []) ∨ ∃ p : Addr, A = some p ∧ p.spot = none ∧ l.length = m ∧ KnRow S M p (bc l))
    (h : WD (ctx g n w0 h0 S0 rd) opss σ K (put fr dst (vs l)) S M N) : WD (ctx g n w0 h0 S0 rd) opss (.step i σ) K fr S M N :=
  WD_gen ho hw (fun a w hr hst hN' Q => by
    have hst' := hst
    obtain ⟨hp, st, q⟩ := hst
    have hrun : (execOp a.eval ⟨dst, .convert s d x, ty, pos, after, gd⟩).run g.P w = .ok (.value (vs l)) w := by
      simp only [execOp, hr.ev hx, Sem.run_bind, Sem.run_pure, Result.andThen_ok, text_run (c := c) hs hsd he hee hdt hdd (w := w) (hA.imp id fun ⟨p, e1, e2, e3, e4⟩ => ⟨p, e1, e2, e3, fun j v e => e4 j v e hp w st⟩)]
    unfold Oper.wp
    rw [show (ctx g n w0 h0 S0 rd).P = g.P from rfl, hrun]
    exact ⟨_, S, M, rfl, Heap.Le.refl _, hN, hst', h⟩) hd
/-- 'x[:]' of an array. -/
theorem WL_sliceArr {t e : TypeId} {x : Operand} {m : Nat} {b off : Nat} {ti ei : TI} (hw : wantedF ops fr ⟨dst, .slice t x none none none, ty, pos, after, gd⟩ = some true) (hd : dstOk n dst = true)
    (hx : ev? fr x = some (.pointer (some ⟨b, off, none⟩))) (ht : tget g.tab t = some ti) (htd : ti.desc = .array m e) (he : tget g.tab e = some ei)
    (h : WL (ctx g n w0 h0 S0 rd) ops rest K (put fr dst (.slice (some ⟨b, off, none⟩) m m)) S M) : WL (ctx g n w0 h0 S0 rd) ops (⟨dst, .slice t x none none none, ty, pos, after, gd⟩ :: rest) K fr S M :=
  WL_val hw hd (fun a w hr hst => by
    show Sem.run g.P _ w = _
    simp only [execOp, hr.ev hx, Option.map_none, Sem.run_bind, Instr.sliceAt, Pg.und ht, htd, Result.andThen_ok, Instr.sureAddr, Instr.sliceBounds, Sem.run_pure, Pg.szOf he]
    have ha : (⟨b, off, none⟩ : Addr).add (0 * ei.size) = ⟨b, off, none⟩ := by simp [Addr.add]
    by_cases hm : m = 0
    · subst hm; simp
    · have ha' : (⟨b, off, none⟩ : Addr).add 0 = ⟨b, off, none⟩ := by simp [Addr.add]
      simp [ha', hm]) h
end

/-! ### Maps -/
/-- A kind of keys. -/
structure KeyK (g : Pg) (kt : TypeId) (κ : Type) [DecidableEq κ] (vk : κ → Value) : Prop where
  eq : ∀ a b w, (Op.equal kt (vk a) (vk b)).run g.P w = .ok (decide (a = b)) w
  ck : ∀ e a w, (Instr.checkKey e 10000 kt (vk a)).run g.P w = .ok () w
  now : ∀ a b r d, (∀ w, (underlying kt).run g.P w = .ok d w) → Instr.sameNow d (vk a) (vk b) = some r → r = decide (a = b)
  stay : ∀ a, Instr.sameBits 10000 (vk a) (vk a) = true
  und : ∃ d, ∀ w, (underlying kt).run g.P w = .ok d w
section
variable {κ : Type} [DecidableEq κ] {vk : κ → Value}
def ents (vk : κ → Value) : Nat → List (κ × Value) → List MapEntry
  | _, [] => []
  | i, (k, v) :: r => ⟨vk k, v, i⟩ :: ents vk (i + 1) r
def mget : List (κ × Value) → κ → Nat → Option (Nat × Value)
  | [], _, _ => none
  | (k, v) :: r, x, i => if x = k then some (i, v) else mget r x (i + 1)
def mlook : List (κ × Value) → κ → Option Value
  | [], _ => none
  | (k, v) :: r, x => if x = k then some v else mlook r x
def mput : List (κ × Value) → κ → Value → List (κ × Value)
  | [], x, v => [(x, v)]
  | (k, u) :: r, x, v => if x = k then (k, v) :: r else (k, u) :: mput r x v
theorem mget_look : ∀ (l : List (κ × Value)) (x : κ) (i : Nat), (mget l x i).map (·.2) = mlook l x
  | [], _, _ => rfl
  | (k, v) :: r, x, i => by
    unfold mget mlook
    split
    · rfl
    · exact mget_look r x (i + 1)
theorem ents_length : ∀ (l : List (κ × Value)) (i : Nat), (ents vk i l).length = l.length
  | [], _ => rfl
  | (k, v) :: r, i => by simp [ents, ents_length r]
theorem ents_get : ∀ (l : List (κ × Value)) (i j : Nat), (ents vk i l)[j]? = (l[j]?).map fun p => ⟨vk p.1, p.2, i + j⟩
  | [], _, _ => by simp [ents]
  | (k, v) :: r, i, 0 => by simp [ents]
  | (k, v) :: r, i, j + 1 => by
    simp only [ents, List.getElem?_cons_succ, ents_get r (i + 1) j]
    rw [show i + 1 + j = i + (j + 1) by omega]
theorem mput_length_some : ∀ (l : List (κ × Value)) (x : κ) (v : Value) (i : Nat) (p : Nat × Value), mget l x i = some p → (mput l x v).length = l.length
  | [], _, _, _, _, h => by cases h
  | (k, u) :: r, x, v, i, p, h => by
    unfold mget at h
    unfold mput
    by_cases hx : x = k
    · rw [if_pos hx]; rfl
    · rw [if_neg hx] at h ⊢
      simp [mput_length_some r x v (i + 1) p h]
theorem mput_none : ∀ (l : List (κ × Value)) (x : κ) (v : Value), mlook l x = none → mput l x v = l ++ [(x, v)]
  | [], _, _, _ => rfl
  | (k, u) :: r, x, v, h => by
    unfold mlook at h
    unfold mput
    by_cases hx : x = k
    · rw [if_pos hx] at h; cases h
    · rw [if_neg hx] at h ⊢
      rw [mput_none r x v h]
      rfl
theorem ents_append : ∀ (l m : List (κ × Value)) (i : Nat), ents vk i (l ++ m) = ents vk i l ++ ents vk (i + l.length) m
  | [], m, i => rfl
  | (k, v) :: r, m, i => by
    simp only [List.cons_append, ents, ents_append r m (i + 1), List.length_cons]
    rw [show i + 1 + r.length = i + (r.length + 1) by omega]
theorem mget_at : ∀ (l : List (κ × Value)) (x : κ) (i j : Nat) (v : Value), mget l x i = some (j, v) → i ≤ j ∧ l[j - i]? = some (x, v)
  | [], _, _, _, _, h => by cases h
  | (k, u) :: r, x, i, j, v, h => by
    unfold mget at h
    by_cases hx : x = k
    · rw [if_pos hx] at h
      simp only [Option.some.injEq, Prod.mk.injEq] at h
      obtain ⟨rfl, rfl⟩ := h
      subst hx
      simp
    · rw [if_neg hx] at h
      obtain ⟨h1, h2⟩ := mget_at r x (i + 1) j v h
      refine ⟨by omega, ?_⟩
      rw [show j - i = (j - (i + 1)) + 1 by omega]
      exact h2
theorem ents_put : ∀ (l : List (κ × Value)) (x : κ) (v : Value) (i j : Nat) (u : Value), mget l x i = some (j, u) →
    (ents vk i l).modify (j - i) (fun e => { e with key := vk x, val := v }) = ents vk i (mput l x v)
  | [], _, _, _, _, _, h => by cases h
  | (k, w) :: r, x, v, i, j, u, h => by
    have h0 := h
    unfold mget at h
    by_cases hx : x = k
    · rw [if_pos hx] at h
      simp only [Option.some.injEq, Prod.mk.injEq] at h
      obtain ⟨rfl, rfl⟩ := h
      subst hx
      simp [mput, ents]
    · rw [if_neg hx] at h
      have h1 := (mget_at r x (i + 1) j u h).1
      have := ents_put r x v (i + 1) j u h
      rw [mput, if_neg hx]
      simp only [ents]
      rw [show j - i = (j - (i + 1)) + 1 by omega, List.modify_succ_cons, this]
variable {g : Pg} {kt : TypeId}
theorem findNow_ok (hk : KeyK g kt κ vk) {d : TypeDesc} (hd : ∀ w, (underlying kt).run g.P w = .ok d w) (x : κ) : ∀ (l : List (κ × Value)) (i b : Nat) (r : Option (Nat × Value)), Instr.findNow d (vk x) (ents vk b l) i = some r → r = mget l x i
  | [], i, b, r, h => by simp only [ents, Instr.findNow, Option.some.injEq] at h; exact h.symm
  | (k, v) :: l, i, b, r, h => by
    simp only [ents, Instr.findNow] at h
    unfold mget
    cases hs : Instr.sameNow d (vk x) (vk k) with
    | none => rw [hs] at h; cases h
    | some q =>
      rw [hs] at h
      have hq := hk.now x k q d hd hs
      cases q with
      | true =>
        simp only [Option.some.injEq] at h
        rw [if_pos (of_decide_eq_true hq.symm)]
        exact h.symm
      | false =>
        rw [if_neg (of_decide_eq_false hq.symm)]
        exact findNow_ok hk hd x l (i + 1) (b + 1) r h
theorem findAsking_ok (hk : KeyK g kt κ vk) (x : κ) (w : World) : ∀ (l : List (κ × Value)) (i b : Nat), (Instr.findAsking kt (vk x) (ents vk b l) i).run g.P w = .ok (mget l x i) w
  | [], i, b => rfl
  | (k, v) :: l, i, b => by
    simp only [ents, Instr.findAsking, Sem.run_bind, hk.eq, Result.andThen_ok]
    unfold mget
    by_cases hx : x = k
    · simp [hx]
    · simp only [hx, decide_false, Bool.false_eq_true, if_false]
      exact findAsking_ok hk x w l (i + 1) (b + 1)
theorem findKey_ok (hk : KeyK g kt κ vk) (x : κ) (w : World) (l : List (κ × Value)) (b : Nat) : (Instr.findKey kt (vk x) (ents vk b l)).run g.P w = .ok (mget l x 0) w := by
  obtain ⟨d, hd⟩ := hk.und
  simp only [Instr.findKey, Sem.run_bind, hd, Result.andThen_ok]
  cases h : Instr.findNow d (vk x) (ents vk b l) 0 with
  | none => exact findAsking_ok hk x w l 0 b
  | some r => rw [findNow_ok hk hd x l 0 b r h]; rfl
end
/-- A map of one's own (from which nothing was struck). -/
abbrev mapO {κ : Type} (vk : κ → Value) (l : List (κ × Value)) : Obj := .map ⟨ents vk 0 l⟩ l.length
/-- A block that is known. -/
def KnO (S : Heap) (M : List Asn) (b : Nat) (o : Obj) : Prop := ∀ h w, StL S M h w → w.heap[b]? = some o
theorem KnO.ofS {S : Heap} {M : List Asn} {b : Nat} {o : Obj} (h : S b = some o) : KnO S M b o := fun hh w st => st.sin b o h
theorem KnO.ofM {S : Heap} {M : List Asn} (k : Nat) {b : Nat} {o : Obj} (h : M[k]? = some (objA b o)) : KnO S M b o := fun hh w st => st.hin b o (st.own.get h)
theorem run_getObj_at {P : Program} {w : World} {b : Nat} {e : Array MapEntry} {c : Nat} (h : w.heap[b]? = some (.map e c)) : (getObj b).run P w = .ok (.map e c) w := by simp [getObj, Sem.run, h]
theorem run_setMap {P : Program} {w : World} {b : Nat} {e : Array MapEntry} {c : Nat} (h : w.heap[b]? = some (.map e c)) (o' : Obj) : (setObj b o').run P w = .ok () { w with heap := w.heap.setIfInBounds b o' } := by
  simp [setObj, Sem.run, h]
section
variable {κ : Type} [DecidableEq κ] {vk : κ → Value} {kt et : TypeId}
variable {g : Pg} {n : Nat} {w0 : World} {h0 S0 : Heap} {rd : Option Nat} {ops : List Oper} {K : Cont} {fr : Frm} {S : Heap} {M N : List Asn} {rest : List Oper} {dst : Option Tmp} {ty : TypeId} {pos : String} {after : Array Edge} {gd : Option (Nat × Bool)}
theorem WL_makeMap {t : TypeId} (vk : κ → Value) (hw : wantedF ops fr ⟨dst, .makeMap t none, ty, pos, after, gd⟩ = some true) (hd : dstOk n dst = true)
    (h : ∀ b, WL (ctx g n w0 h0 S0 rd) ops rest K (put fr dst (.map (some b))) S (objA b (mapO vk []) :: M)) : WL (ctx g n w0 h0 S0 rd) ops (⟨dst, .makeMap t none, ty, pos, after, gd⟩ :: rest) K fr S M :=
  WL_new (f := fun b => .map (some b)) (ob := mapO vk []) hw hd (fun a w hr hs => by
    simp only [execOp, Option.map_none, Instr.makeMap, Sem.run_bind, Sem.run_pure, Result.andThen_ok]
    rfl) h
def lookV (ok : Bool) (z : Value) (o : Option Value) : Value := match ok, o with
  | true, some v => .tuple ⟨[v, .bool true]⟩
  | true, none => .tuple ⟨[z, .bool false]⟩
  | false, some v => v
  | false, none => z
theorem lookup_run {t : TypeId} {ti ei : TI} {b : Nat} {x : κ} {l : List (κ × Value)} {w : World} (ok : Bool) (hk : KeyK g kt κ vk) (ht : tget g.tab t = some ti) (htd : ti.desc = .map kt et) (he : tget g.tab et = some ei)
    (hb : w.heap[b]? = some (mapO vk l)) : (Instr.lookup t (.map (some b)) (vk x) ok).run g.P w = .ok (lookV ok ei.zero (mlook l x)) w := by
  have hf := findKey_ok (vk := vk) hk x w l 0
  simp only [Instr.lookup, Sem.run_bind, Pg.und ht, htd, Result.andThen_ok, run_getObj_at hb, Sem.run_pure, hk.ck]
  rw [hf]
  have hl := mget_look l x 0
  simp only [Result.andThen_ok]
  cases hm : mget l x 0 with
  | none =>
    rw [hm] at hl
    rw [← hl]
    simp only [Pg.zero he, Sem.run_bind, Result.andThen_ok, Sem.run_pure, Option.map_none]
    cases ok <;> rfl
  | some p =>
    rw [hm] at hl
    rw [← hl]
    obtain ⟨i, v⟩ := p
    simp only [Sem.run_bind, Result.andThen_ok, Sem.run_pure, Option.map_some]
    cases ok <;> rfl
theorem WL_lookup {t : TypeId} {ti ei : TI} {xo io : Operand} {b : Nat} {ok : Bool} {l : List (κ × Value)} (x : κ) (hk : KeyK g kt κ vk) (hw : wantedF ops fr ⟨dst, .lookup t xo io ok, ty, pos, after, gd⟩ = some true) (hd : dstOk n dst = true)
    (hx : ev? fr xo = some (.map (some b))) (hi : ev? fr io = some (vk x)) (ht : tget g.tab t = some ti) (htd : ti.desc = .map kt et) (he : tget g.tab et = some ei) (hb : KnO S M b (mapO vk l))
    (h : WL (ctx g n w0 h0 S0 rd) ops rest K (put fr dst (lookV ok ei.zero (mlook l x))) S M) : WL (ctx g n w0 h0 S0 rd) ops (⟨dst, .lookup t xo io ok, ty, pos, after, gd⟩ :: rest) K fr S M :=
  WL_val hw hd (fun a w hr hst => by
    obtain ⟨hp, st, q⟩ := hst
    show Sem.run g.P _ w = _
    simp only [execOp, hr.ev hx, hr.ev hi, Sem.run_bind, lookup_run ok hk ht htd he (hb hp w st), Result.andThen_ok, Sem.run_pure]) h
theorem mapUpdate_run {t : TypeId} {ti : TI} {b : Nat} {x : κ} {v : Value} {l : List (κ × Value)} {w : World} (hk : KeyK g kt κ vk) (ht : tget g.tab t = some ti) (htd : ti.desc = .map kt et) 
    (hb : w.heap[b]? = some (mapO vk l)) : (Instr.mapUpdate t (.map (some b)) (vk x) v).run g.P w = .ok () { w with heap := w.heap.setIfInBounds b (mapO vk (mput l x v)) } := by
  have hf := findKey_ok (vk := vk) hk x w l 0
  simp only [Instr.mapUpdate, Sem.run_bind, Pg.und ht, htd, Result.andThen_ok, run_getObj_at hb, Sem.run_pure, hk.ck]
  rw [hf]
  have hl := mget_look l x 0
  simp only [Result.andThen_ok]
  cases hm : mget l x 0 with
  | none =>
    rw [hm] at hl
    simp only [run_setMap hb]
    rw [mput_none l x v hl.symm]
    congr 3
    simp only [mapO, List.length_append, List.length_cons, List.length_nil, Nat.zero_add, ents_append, ents]
    rw [show (⟨ents vk 0 l ++ [⟨vk x, v, l.length⟩]⟩ : Array MapEntry) = (⟨ents vk 0 l⟩ : Array MapEntry).push ⟨vk x, v, l.length⟩ by apply Array.ext'; simp]
  | some p =>
    obtain ⟨i, u⟩ := p
    obtain ⟨_, h2⟩ := mget_at l x 0 i u hm
    have h3 : (⟨ents vk 0 l⟩ : Array MapEntry)[i]? = some ⟨vk x, u, i⟩ := by
      rw [Nat.sub_zero] at h2
      have := ents_get (vk := vk) l 0 i
      rw [h2] at this
      simpa using this
    have h4 := ents_put (vk := vk) l x v 0 i u hm
    simp only [h3, Option.map_some, Option.getD_some, Instr.keyThatStays, hk.stay, if_true, Sem.run_bind, Sem.run_pure, Result.andThen_ok, run_setMap hb]
    congr 3
    rw [mapO, mput_length_some l x v 0 _ hm, ← h4, Nat.sub_zero]
    congr 1
    apply Array.ext'
    simp
theorem WL_mapUpdate (k : Nat) {t : TypeId} {ti : TI} {xo io vo : Operand} {b : Nat} {l : List (κ × Value)} {v : Value} (x : κ) (hk : KeyK g kt κ vk) (hw : wantedF ops fr ⟨dst, .mapUpdate t xo io vo, ty, pos, after, gd⟩ = some true) (hd : dstOk n dst = true)
    (hx : ev? fr xo = some (.map (some b))) (hi : ev? fr io = some (vk x)) (hv : ev? fr vo = some v) (ht : tget g.tab t = some ti) (htd : ti.desc = .map kt et) (hb : M[k]? = some (objA b (mapO vk l)))
    (h : WL (ctx g n w0 h0 S0 rd) ops rest K (put fr dst undef) S (M.set k (objA b (mapO vk (mput l x v))))) : WL (ctx g n w0 h0 S0 rd) ops (⟨dst, .mapUpdate t xo io vo, ty, pos, after, gd⟩ :: rest) K fr S M :=
  WL_unit hw hd (fun a w hr hst => by
    have hbk : w.heap[b]? = some (mapO vk l) := by
      obtain ⟨hp, st, _⟩ := hst
      exact st.hin _ _ (st.own.get hb)
    refine ⟨_, ?_, hst.set hb _⟩
    show Sem.run g.P _ w = _
    simp only [execOp, hr.ev hx, hr.ev hi, hr.ev hv, Sem.run_bind, Sem.run_pure, Result.andThen_ok, mapUpdate_run hk ht htd hbk]) h
/-! ### Ranges over a map that stays -/
theorem WL_rangeMap {t : TypeId} {ti : TI} {xo : Operand} {b : Nat} {l : List (κ × Value)} (hw : wantedF ops fr ⟨dst, .range t xo, ty, pos, after, gd⟩ = some true) (hd : dstOk n dst = true)
    (hx : ev? fr xo = some (.map (some b))) (ht : tget g.tab t = some ti) (htd : ti.desc = .map kt et) (hb : KnO S M b (mapO vk l))
    (h : ∀ it, WL (ctx g n w0 h0 S0 rd) ops rest K (put fr dst (.pointer (some ⟨it, 0, none⟩))) S (objA it (.mapIter (some b) l.length ⟨[]⟩ l.length) :: M)) : WL (ctx g n w0 h0 S0 rd) ops (⟨dst, .range t xo, ty, pos, after, gd⟩ :: rest) K fr S M :=
  WL_new (f := fun it => .pointer (some ⟨it, 0, none⟩)) (ob := .mapIter (some b) l.length ⟨[]⟩ l.length) hw hd (fun a w hr hs => by
    obtain ⟨hp, st, q⟩ := hs
    simp only [execOp, hr.ev hx, Sem.run_bind, Instr.range, Pg.und ht, htd, Result.andThen_ok, run_getObj_at (hb hp w st), Sem.run_pure]
    rfl) h
theorem ents_born : ∀ (l : List (κ × Value)) (i : Nat) (e : MapEntry), e ∈ ents vk i l → ∃ j p, l[j]? = some p ∧ e = ⟨vk p.1, p.2, i + j⟩
  | [], _, _, h => by simp [ents] at h
  | (k, v) :: r, i, e, h => by
    simp only [ents, List.mem_cons] at h
    rcases h with rfl | h
    · exact ⟨0, (k, v), rfl, rfl⟩
    · obtain ⟨j, p, hj, rfl⟩ := ents_born r (i + 1) e h
      exact ⟨j + 1, p, hj, by rw [show i + 1 + j = i + (j + 1) by omega]⟩
theorem WL_nextMap (k : Nat) {iter : Operand} {it b : Nat} {seen : List Nat} {l : List (κ × Value)} (hw : wantedF ops fr ⟨dst, .next iter false, ty, pos, after, gd⟩ = some true) (hd : dstOk n dst = true)
    (hx : ev? fr iter = some (.pointer (some ⟨it, 0, none⟩))) (hk : M[k]? = some (objA it (.mapIter (some b) l.length ⟨seen⟩ l.length))) (hb : KnO S M b (mapO vk l))
    (hover : (∀ i, i < l.length → i ∈ seen) → WL (ctx g n w0 h0 S0 rd) ops rest K (put fr dst (.tuple ⟨[.bool false]⟩)) S M)
    (hmore : ∀ i p, l[i]? = some p → i ∉ seen → WL (ctx g n w0 h0 S0 rd) ops rest K (put fr dst (.tuple ⟨[.bool true, vk p.1, p.2]⟩)) S (M.set k (objA it (.mapIter (some b) l.length ⟨seen ++ [i]⟩ l.length)))) :
    WL (ctx g n w0 h0 S0 rd) ops (⟨dst, .next iter false, ty, pos, after, gd⟩ :: rest) K fr S M :=
  WL_gen hw fun a w hr hst => by
    have hst' := hst
    obtain ⟨hp, st, q⟩ := hst
    have hit : w.heap[it]? = some (.mapIter (some b) l.length ⟨seen⟩ l.length) := st.hin _ _ (st.own.get hk)
    have hbb := hb hp w st
    have hrunop : ∀ r, (Instr.next (.pointer (some ⟨it, 0, none⟩)) false ty).run g.P w = r → (execOp a.eval ⟨dst, .next iter false, ty, pos, after, gd⟩).run g.P w = r.andThen (fun v w' => .ok (Next.value v) w') := fun r hr' => by
      simp only [execOp, hr.ev hx, Sem.run_bind, hr', Sem.run_pure]
    rcases run_next_at (P := g.P) w ty it b l.length l.length ⟨seen⟩ ⟨ents vk 0 l⟩ l.length hit hbb (fun x hx => by
        obtain ⟨j, p, hj, rfl⟩ := ents_born l 0 x (by simpa using hx)
        have := (List.getElem?_eq_some_iff.1 hj).1
        simpa using this) (Nat.le_refl _) with ⟨hl, hrun⟩ | ⟨e, he, w1, hw1, hrun⟩
    · rw [show (ctx g n w0 h0 S0 rd).P = g.P from rfl, hrunop _ hrun]
      refine hover (fun i hi => ?_) _ _ (hr.put _ _ hd) hst'
      have h0 : leftOf (⟨ents vk 0 l⟩ : Array MapEntry) ⟨seen⟩ = #[] := Array.eq_empty_of_size_eq_zero hl
      unfold leftOf at h0
      rw [Array.filter_eq_empty_iff] at h0
      have hi' := ents_get (vk := vk) l 0 i
      rw [List.getElem?_eq_getElem hi] at hi'
      have := h0 ⟨vk l[i].1, l[i].2, i⟩ (by
        have := List.mem_of_getElem? hi'
        simpa using this)
      simpa using this
    · rw [show (ctx g n w0 h0 S0 rd).P = g.P from rfl, hrunop _ hrun]
      unfold leftOf at he
      simp only [Array.toList_filter, List.mem_filter] at he
      obtain ⟨he1, he2⟩ := he
      obtain ⟨j, p, hj, rfl⟩ := ents_born l 0 e he1
      simp only [Nat.zero_add] at he2 ⊢
      have hns : j ∉ seen := by simpa using he2
      refine hmore j p hj hns _ _ (hr.put _ _ hd) ?_
      have hpush : (⟨seen⟩ : Array Nat).push j = ⟨seen ++ [j]⟩ := by apply Array.ext'; simp
      rw [hpush]
      have hst1 : St (ctx g n w0 h0 S0 rd) S M w1 := by
        rcases hw1 with rfl | rfl
        · exact hst'
        · exact hst'.drew
      exact hst1.set hk _
end

/-! ### Keys of one cell, and arrays of such -/
structure ElK (g : Pg) (e : TypeId) (α : Type) [DecidableEq α] (ve : α → Value) : Prop where
  eq : ∀ d a b w, (Op.equalIn (d + 1) e (ve a) (ve b)).run g.P w = .ok (decide (a = b)) w
  ck : ∀ em d a w, (Instr.checkKey em (d + 1) e (ve a)).run g.P w = .ok () w
  now : ∀ a b r d, (∀ w, (underlying e).run g.P w = .ok d w) → Instr.sameNow d (ve a) (ve b) = some r → r = decide (a = b)
  stay : ∀ d a, Instr.sameBits d (ve a) (ve a) = true
  sc : ∀ a, scalarB (ve a) = true
  ti : ∃ ti, tget g.tab e = some ti ∧ ti.size = 1 ∧ ti.agg = false
theorem ba_beq (a b : List UInt8) : ((⟨⟨a⟩⟩ : ByteArray) == ⟨⟨b⟩⟩) = decide (a = b) := by
  have h : ((⟨⟨a⟩⟩ : ByteArray) == ⟨⟨b⟩⟩) = ((⟨a⟩ : Array UInt8) == ⟨b⟩) := by rfl
  rw [h]
  by_cases h : a = b
  · subst h; simp
  · simp [h]
theorem ElK.int {g : Pg} {e : TypeId} {ti : TI} {k : IntKind} (ht : tget g.tab e = some ti) (hd : ti.desc = .int k) (hs : ti.size = 1) : ElK g e Int (fun i => .int k i) where
  eq d a b w := by
    rw [Op.equalIn]
    simp only [Sem.run_bind, Pg.und ht, hd, Result.andThen_ok, if_true, Sem.run_pure, Result.ok.injEq, and_true]
    rfl
  ck em d a w := by
    rw [Instr.checkKey]
    simp only [Sem.run_bind, Pg.und ht, hd, Result.andThen_ok, Sem.run_pure]
  now a b r d h h' := by
    have : d = .int k := by
      have := h default
      rw [Pg.und ht, hd] at this
      simpa using this.symm
    subst this
    simp only [Instr.sameNow, if_true, Option.some.injEq] at h'
    subst h'
    rfl
  stay d a := by cases d <;> simp [Instr.sameBits]
  sc a := rfl
  ti := ⟨ti, ht, hs, by unfold TI.agg; rw [hd]⟩
theorem ElK.str {g : Pg} {e : TypeId} {ti : TI} (ht : tget g.tab e = some ti) (hd : ti.desc = .string) (hs : ti.size = 1) : ElK g e (List UInt8) vs where
  eq d a b w := by
    rw [Op.equalIn]
    simp only [Sem.run_bind, Pg.und ht, hd, Result.andThen_ok, if_true, Sem.run_pure, Result.ok.injEq, and_true]
    exact ba_beq a b
  ck em d a w := by
    rw [Instr.checkKey]
    simp only [Sem.run_bind, Pg.und ht, hd, Result.andThen_ok, Sem.run_pure]
  now a b r d h h' := by
    have : d = .string := by
      have := h default
      rw [Pg.und ht, hd] at this
      simpa using this.symm
    subst this
    simp only [Instr.sameNow, Option.some.injEq] at h'
    rw [← h']
    exact ba_beq a b
  stay d a := by cases d <;> simp only [Instr.sameBits, ba_beq, decide_true]
  sc a := rfl
  ti := ⟨ti, ht, hs, by unfold TI.agg; rw [hd]⟩
theorem KeyK.one {g : Pg} {e : TypeId} {α : Type} [DecidableEq α] {ve : α → Value} (h : ElK g e α ve) : KeyK g e α ve where
  eq a b w := h.eq 9999 a b w
  ck em a w := h.ck em 9999 a w
  now := h.now
  stay a := h.stay 10000 a
  und := let ⟨ti, ht, _⟩ := h.ti; ⟨_, fun w => Pg.und ht w⟩
theorem KeyK.int {g : Pg} {kt : TypeId} {ti : TI} {k : IntKind} (ht : tget g.tab kt = some ti) (hd : ti.desc = .int k) (hs : ti.size = 1) : KeyK g kt Int (fun i => .int k i) := .one (.int ht hd hs)
theorem KeyK.str {g : Pg} {kt : TypeId} {ti : TI} (ht : tget g.tab kt = some ti) (hd : ti.desc = .string) (hs : ti.size = 1) : KeyK g kt (List UInt8) vs := .one (.str ht hd hs)
theorem ElK.part {g : Pg} {e : TypeId} {α : Type} [DecidableEq α] {ve : α → Value} (h : ElK g e α ve) {cs : List Value} {off : Nat} {a : α} (hc : cs[off]? = some (ve a)) (w : World) : (part e ⟨cs⟩ off).run g.P w = .ok (ve a) w := by
  obtain ⟨ti, ht, hs, ha⟩ := h.ti
  refine evPart_ok (g := g) (t := e) (cs := cs) (off := off) ?_
  unfold evPart
  rw [ht]
  simp only [ha]
  rw [hc]
def vAgg {α : Type} (ve : α → Value) {n : Nat} (l : {l : List α // l.length = n}) : Value := .agg ⟨l.1.map ve⟩
theorem eqItems_ok {g : Pg} {e : TypeId} {α : Type} [DecidableEq α] {ve : α → Value} (h : ElK g e α ve) (hc : g.P.cellsOf e = 1) (d : Nat) (w : World) (xs ys : List α) (hl : xs.length = ys.length) : ∀ (k i : Nat), i + k = xs.length →
    (Op.eqItems (d + 1) e (g.P.cellsOf e) ⟨xs.map ve⟩ ⟨ys.map ve⟩ (List.range' i k)).run g.P w = .ok (decide (xs.drop i = ys.drop i)) w
  | 0, i, hi => by
    rw [List.drop_of_length_le (by omega), List.drop_of_length_le (by omega)]
    rfl
  | k + 1, i, hi => by
    have h1 : i < xs.length := by omega
    have h2 : i < ys.length := by omega
    rw [List.range'_succ, Op.eqItems, hc]
    have p1 := h.part (cs := xs.map ve) (off := i * 1) (a := xs[i]) (by simp [h1]) w
    have p2 := h.part (cs := ys.map ve) (off := i * 1) (a := ys[i]) (by simp [h2]) w
    have ih := eqItems_ok h hc d w xs ys hl k (i + 1) (by omega)
    rw [hc] at ih
    simp only [Sem.run_bind, p1, p2, Result.andThen_ok, h.eq]
    rw [List.drop_eq_getElem_cons h1, List.drop_eq_getElem_cons h2]
    simp only [List.cons.injEq]
    by_cases he : xs[i] = ys[i]
    · simp only [he, decide_true, Bool.not_true, Bool.false_eq_true, if_false, true_and]
      exact ih
    · simp only [he, decide_false, Bool.not_false, if_true, false_and]
      rfl
theorem ckItems_ok {g : Pg} {e : TypeId} {α : Type} [DecidableEq α] {ve : α → Value} (h : ElK g e α ve) (em : Bool) (d : Nat) (w : World) (xs : List α) : ∀ (k i : Nat), i + k = xs.length →
    (forIn (m := Sem) (List.range' i k) PUnit.unit (fun j _ => do
      Instr.checkKey em (d + 1) e (← part e ⟨xs.map ve⟩ (j * (← sizeOf e)))
      pure (ForInStep.yield PUnit.unit))).run g.P w = .ok PUnit.unit w
  | 0, i, hi => rfl
  | k + 1, i, hi => by
    obtain ⟨ti, ht, hs, ha⟩ := h.ti
    have h1 : i < xs.length := by omega
    have p1 := h.part (cs := xs.map ve) (off := i * 1) (a := xs[i]) (by simp [h1]) w
    rw [List.range'_succ]
    simp only [List.forIn_cons, Sem.run_bind, Pg.szOf ht, hs, p1, h.ck, Sem.run_pure, Result.andThen_ok]
    exact ckItems_ok h em d w xs k (i + 1) (by omega)
theorem KeyK.arr {g : Pg} {kt e : TypeId} {n : Nat} {ti : TI} {α : Type} [DecidableEq α] {ve : α → Value} (h : ElK g e α ve) (ht : tget g.tab kt = some ti) (hd : ti.desc = .array n e) : KeyK g kt {l : List α // l.length = n} (vAgg ve) where
  eq a b w := by
    obtain ⟨xs, hx⟩ := a
    obtain ⟨ys, hy⟩ := b
    obtain ⟨te, he, hs, ha⟩ := h.ti
    obtain ⟨_, i, hi, hsz, _⟩ := g.ok.get he
    have hc : g.P.cellsOf e = 1 := by
      unfold Program.cellsOf
      rw [hi]
      simp [hsz, hs]
    show (Op.equalIn (9999 + 1) kt (.agg ⟨xs.map ve⟩) (.agg ⟨ys.map ve⟩)).run g.P w = _
    rw [run_equalIn_array w 9999 _ _ (by rw [und_of ht, hd]) hi, List.range_eq_range', eqItems_ok h hc 9998 w xs ys (by omega) n 0 (by omega)]
    simp only [List.drop_zero, Subtype.mk.injEq]
  ck em a w := by
    obtain ⟨xs, hx⟩ := a
    show (Instr.checkKey em (9999 + 1) kt (.agg ⟨xs.map ve⟩)).run g.P w = _
    rw [Instr.checkKey]
    simp only [Sem.run_bind, Pg.und ht, hd, Result.andThen_ok]
    simp only [Std.Legacy.Range.forIn_eq_forIn_range', Std.Legacy.Range.size, Nat.sub_zero, Nat.add_one_sub_one, Nat.div_one]
    have := ckItems_ok h em 9998 w xs n 0 (by omega)
    simp only [Sem.run_bind, this, Result.andThen_ok, Sem.run_pure]
  now a b r d hd' h' := by
    obtain ⟨xs, hx⟩ := a
    obtain ⟨ys, hy⟩ := b
    have : d = .array n e := by
      have := hd' default
      rw [Pg.und ht, hd] at this
      simpa using this.symm
    subst this
    simp [Instr.sameNow, vAgg] at h'
  stay a := by
    obtain ⟨xs, hx⟩ := a
    show Instr.sameBits (9999 + 1) (.agg ⟨xs.map ve⟩) (.agg ⟨xs.map ve⟩) = true
    rw [Instr.sameBits]
    simp only [beq_self_eq_true, Bool.true_and, List.all_eq_true]
    intro p hp
    have : ∀ (l : List α), ∀ p ∈ (l.map ve).zip (l.map ve), Instr.sameBits 9999 p.1 p.2 = true := by
      intro l
      induction l with
      | nil => simp
      | cons x l ih =>
        intro p hp
        simp only [List.map_cons, List.zip_cons_cons, List.mem_cons] at hp
        rcases hp with rfl | hp
        · exact h.stay _ _
        · exact ih p hp
    exact this xs p (by simpa using hp)
  und := ⟨_, fun w => Pg.und ht w⟩
end Go.Proofs.YtmiefhokjeofcaaDoor.Eng
