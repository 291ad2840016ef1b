/- DERIVED. The engine, third part: what an operation gives that touches no memory, as a function that the kernel reckons. Conditions: none. -/
import Derived.Test.YtmiefhokjeofcaaDoorEng1
import Derived.IntWalk
set_option linter.unusedVariables false
set_option linter.unusedSimpArgs false
namespace Go.Proofs.YtmiefhokjeofcaaDoor.Eng
open Go

/-- A text. -/
abbrev vs (l : List UInt8) : Value := .string ⟨⟨l⟩⟩
abbrev vi (n : Int) : Value := .int .i64 n
abbrev vb (b : Bool) : Value := .bool b
abbrev vu8 (n : Int) : Value := .int .u8 n

theorem toList_mk (l : List UInt8) : (⟨⟨l⟩⟩ : ByteArray).toList = l := by rw [ByteArray.toList_eq]
theorem ba_eq (x y : ByteArray) : (x.toList == y.toList) = decide (x = y) := by
  rw [ByteArray.toList_eq, ByteArray.toList_eq]
  obtain ⟨⟨a⟩⟩ := x
  obtain ⟨⟨b⟩⟩ := y
  by_cases h : a = b
  · subst h; simp
  · simp [h]

/-! ### 1. The evaluator: a value, and what must hold -/
def inI64 (n : Int) : Prop := -9223372036854775808 ≤ n ∧ n ≤ 9223372036854775807
def evInt (op : BinOp) (k : IntKind) (a b : Int) : Option (Value × Prop) :=
  match op with
  | .add => match k with
    | .i64 => some (.int .i64 (a + b), -9223372036854775808 ≤ a + b ∧ a + b ≤ 9223372036854775807)
    | k => some (.int k (k.wrap (a + b)), True)
  | .sub => match k with
    | .i64 => some (.int .i64 (a - b), -9223372036854775808 ≤ a - b ∧ a - b ≤ 9223372036854775807)
    | k => some (.int k (k.wrap (a - b)), True)
  | .mul => match k with
    | .i64 => some (.int .i64 (a * b), -9223372036854775808 ≤ a * b ∧ a * b ≤ 9223372036854775807)
    | k => some (.int k (k.wrap (a * b)), True)
  | .eql => some (.bool (decide (a = b)), True)
  | .neq => some (.bool (!decide (a = b)), True)
  | .lss => some (.bool (decide (a < b)), True)
  | .leq => some (.bool (decide (a ≤ b)), True)
  | .gtr => some (.bool (decide (b < a)), True)
  | .geq => some (.bool (decide (b ≤ a)), True)
  | .quo => some (.int k (k.wrap (a.tdiv b)), b ≠ 0)
  | .rem => some (.int k (a.tmod b), b ≠ 0)
  | _ => none
def evStr (op : BinOp) (a b : List UInt8) : Option (Value × Prop) :=
  match op with
  | .add => some (vs (a ++ b), ((a.length : Int) + b.length ≤ 9223372036854775807))
  | .eql => some (.bool (decide (a = b)), True)
  | .neq => some (.bool (!decide (a = b)), True)
  | .lss => some (.bool (Op.bytesLess a b), True)
  | .geq => some (.bool (!Op.bytesLess a b), True)
  | .leq => some (.bool (Op.bytesLess a b || decide (a = b)), True)
  | .gtr => some (.bool (!(Op.bytesLess a b || decide (a = b))), True)
  | _ => none
def evBin (op : BinOp) (x y : Value) : Option (Value × Prop) :=
  match x, y with
  | .int k a, .int k' b => match decide (k = k') with
    | true => evInt op k a b
    | false => none
  | .string ⟨⟨a⟩⟩, .string ⟨⟨b⟩⟩ => evStr op a b
  | _, _ => none
def evUn (op : UnOp) (x : Value) : Option (Value × Prop) :=
  match op, x with
  | .not, .bool b => some (.bool (!b), True)
  | .neg, .int .i64 n => some (.int .i64 (-n), -9223372036854775807 ≤ n ∧ n ≤ 9223372036854775807)
  | _, _ => none
def addrAt (a : Addr) (n : Nat) : Addr := ⟨a.block, a.off + n, none⟩
theorem addrAt_add (a : Addr) (h : a.spot = none) (n : Nat) : a.add n = addrAt a n := by
  obtain ⟨b, o, s⟩ := a
  simp only at h
  subst h
  unfold Addr.add addrAt
  by_cases hn : n = 0 <;> simp [hn]
def slo (lo : Option Value) : Option Int := match lo with
  | none => some 0
  | some (.int _ i) => some i
  | _ => none
/-- 'x[lo:hi]' of a text; of a slice without a third bound. -/
def evSlice (tab : Tab) (t : TypeId) (x : Value) (lo hi : Option Value) : Option (Value × Prop) :=
  match tget tab t with
  | some ⟨.string, _, _, _, _⟩ => match x with
    | .string ⟨⟨l⟩⟩ => match lo, hi with
      | none, none => some (vs l, True)
      | some (.int _ i), none => some (vs (l.drop i.toNat), 0 ≤ i ∧ i ≤ l.length)
      | none, some (.int _ j) => some (vs (l.take j.toNat), 0 ≤ j ∧ j ≤ l.length)
      | some (.int _ i), some (.int _ j) => some (vs ((l.drop i.toNat).take (j.toNat - i.toNat)), 0 ≤ i ∧ i ≤ j ∧ j ≤ l.length)
      | _, _ => none
    | _ => none
  | _ => none
def evOp (g : Pg) (fr : Frm) (o : Op) : Option (Value × Prop) :=
  match o with
  | .move x => match ev? fr x with
    | some v => some (v, True)
    | none => none
  | .assign x => match ev? fr x with
    | some v => some (v, True)
    | none => none
  | .pick c a b => match ev? fr c with
    | some (.bool true) => match ev? fr a with
      | some v => some (v, True)
      | none => none
    | some (.bool false) => match ev? fr b with
      | some v => some (v, True)
      | none => none
    | _ => none
  | .binOp op t x y u => match ev? fr x, ev? fr y with
    | some v, some w => evBin op v w
    | _, _ => none
  | .unOp op t x => match ev? fr x with
    | some v => evUn op v
    | _ => none
  | .fieldAddr s x f => match tget g.tab s, ev? fr x with
    | some ⟨.struct fs, _, _, _, _⟩, some (.pointer (some ⟨b, off, none⟩)) => match fs.toList[f]? with
      | some fd => match tget g.tab fd.type with
        | some ti => match ti.size with
          | 0 => none
          | _ + 1 => some (.pointer (some ⟨b, off + fd.offset, none⟩), True)
        | none => none
      | none => none
    | _, _ => none
  | .index t x i => match tget g.tab t, ev? fr x, ev? fr i with
    | some ⟨.string, _, _, _, _⟩, some (.string ⟨⟨l⟩⟩), some (.int _ n) => some (.int .u8 ((l.getD n.toNat 0).toNat : Int), 0 ≤ n ∧ n < l.length)
    | _, _, _ => none
  | .indexAddr t x i => match tget g.tab t, ev? fr x, ev? fr i with
    | some ⟨.slice e, _, _, _, _⟩, some (.slice (some ⟨b, off, none⟩) len _), some (.int _ n) => match tget g.tab e with
      | some ti => some (.pointer (some ⟨b, off + n.toNat * ti.size, none⟩), 0 ≤ n ∧ n < len)
      | none => none
    | some ⟨.array m e, _, _, _, _⟩, some (.pointer (some ⟨b, off, none⟩)), some (.int _ n) => match tget g.tab e with
      | some ti => some (.pointer (some ⟨b, off + n.toNat * ti.size, none⟩), 0 ≤ n ∧ n < m)
      | none => none
    | _, _, _ => none
  | .extract x i => match ev? fr x with
    | some (.tuple ⟨l⟩) => match l[i]? with
      | some v => some (v, True)
      | none => none
    | _ => none
  | .nilCheck x => match ev? fr x with
    | some (.pointer (some p)) => some (.pointer (some p), True)
    | some (.iface t v) => some (.iface t v, True)
    | _ => none
  | .makeFunc fn first captured => match evs? fr first.toList, evs? fr captured.toList with
    | some l, some r => some (.func fn ⟨l⟩ ⟨r⟩, True)
    | _, _ => none
  | .slice t x lo hi none => match ev? fr x, lo, hi with
    | some v, none, none => evSlice g.tab t v none none
    | some v, some l, none => match ev? fr l with
      | some l => evSlice g.tab t v (some l) none
      | none => none
    | some v, none, some h => match ev? fr h with
      | some h => evSlice g.tab t v none (some h)
      | none => none
    | some v, some l, some h => match ev? fr l, ev? fr h with
      | some l, some h => evSlice g.tab t v (some l) (some h)
      | _, _ => none
    | _, _, _ => none
  | .call ⟨.builtin .len, as, ts⟩ => match as.toList, ts.toList with
    | [x], [t] => match tget g.tab t, ev? fr x with
      | some ⟨.string, _, _, _, _⟩, some (.string ⟨⟨l⟩⟩) => some (.int .i64 (l.length : Int), True)
      | some ⟨.slice _, _, _, _, _⟩, some (.slice _ n _) => some (.int .i64 (n : Int), True)
      | _, _ => none
    | _, _ => none
  | .call ⟨.builtin .cap, as, ts⟩ => match as.toList, ts.toList with
    | [x], [t] => match tget g.tab t, ev? fr x with
      | some ⟨.slice _, _, _, _, _⟩, some (.slice _ _ n) => some (.int .i64 (n : Int), True)
      | _, _ => none
    | _, _ => none
  | _ => none

/-! ### 2. It is right -/
section
variable {g : Pg} {w : World}
theorem evInt_ok {op : BinOp} {k : IntKind} {a b : Int} {t : TypeId} {v : Value} {p : Prop} (h : evInt op k a b = some (v, p)) (hp : p) : (binOp op t (.int k a) (.int k b)).run g.P w = .ok v w := by
  cases op <;> cases k <;> simp only [evInt, Option.some.injEq, Prod.mk.injEq, reduceCtorEq] at h <;> obtain ⟨rfl, rfl⟩ := h <;>
    simp only [binOp, Op.intArith, Op.intCmp, Op.intDiv, ne_eq, not_true_eq_false, if_false, Sem.run_pure, Result.ok.injEq, and_true] <;>
    first
      | rfl
      | (rw [if_neg hp]; rfl)
      | (rw [IntWalk.i64_in _ hp])
      | (simp only [Value.bool.injEq]; first | rfl | (simp [bne, BEq.beq]))
      | skip
theorem evStr_ok {op : BinOp} {a b : List UInt8} {t : TypeId} {v : Value} {p : Prop} (h : evStr op a b = some (v, p)) (hp : p) : (binOp op t (vs a) (vs b)).run g.P w = .ok v w := by
  cases op <;> simp only [evStr, Option.some.injEq, Prod.mk.injEq, reduceCtorEq] at h <;> obtain ⟨rfl, rfl⟩ := h <;>
    simp only [binOp, Op.stringOp, toList_mk, Sem.run_pure, Result.ok.injEq, and_true, Value.bool.injEq]
  case add =>
    rw [if_neg ?_]
    · simp only [Sem.run_pure]
      congr 2
    · have : IntKind.i64.max = 9223372036854775807 := rfl
      rw [this]
      have e1 : (⟨⟨a⟩⟩ : ByteArray).size = a.length := rfl
      have e2 : (⟨⟨b⟩⟩ : ByteArray).size = b.length := rfl
      rw [e1, e2]
      omega
  all_goals
    first
      | rfl
      | (by_cases hab : a = b <;> simp [hab])
theorem evBin_ok {op : BinOp} {x y : Value} {t : TypeId} {v : Value} {p : Prop} (h : evBin op x y = some (v, p)) (hp : p) : (binOp op t x y).run g.P w = .ok v w := by
  unfold evBin at h
  split at h
  · rename_i k a k' b
    by_cases hk : k = k'
    · subst hk
      rw [decide_eq_true rfl] at h
      exact evInt_ok h hp
    · rw [decide_eq_false hk] at h; cases h
  · exact evStr_ok h hp
  · cases h
def noAgg (a b : Value) : Prop := match a, b with
  | .nilIface, .nilIface => False
  | .agg _, .agg _ => False
  | _, _ => True
theorem eqGuard_plain {op : BinOp} {t : TypeId} {x y : Operand} {a b : Value} (h : noAgg a b) :
    (eqGuard op t x y a b).run g.P w = .ok () w := by
  unfold eqGuard
  cases op <;> first
    | rfl
    | (cases a <;> first
        | rfl
        | (cases b <;> first | rfl | exact h.elim))
theorem evBin_shape {op : BinOp} {x y : Value} {v : Value} {p : Prop} (h : evBin op x y = some (v, p)) : noAgg x y := by
  unfold evBin at h
  split at h <;> first | trivial | cases h
theorem evUn_ok {op : UnOp} {x : Value} {v : Value} {p : Prop} (h : evUn op x = some (v, p)) (hp : p) : (Op.unary op x).run g.P w = .ok v w := by
  unfold evUn at h
  split at h
  · simp only [Option.some.injEq, Prod.mk.injEq] at h
    obtain ⟨rfl, rfl⟩ := h
    rfl
  · simp only [Option.some.injEq, Prod.mk.injEq] at h
    obtain ⟨rfl, rfl⟩ := h
    simp only [Op.unary, Op.intArith, Sem.run_pure]
    rw [IntWalk.i64_in _ (by omega), Int.zero_sub]
  · cases h
theorem slice_str {l : List UInt8} {t : TypeId} {i : TI} (e : tget g.tab t = some i) (hd : i.desc = .string) (lo hi : Option Value) :
    (Instr.slice t (vs l) lo hi none).run g.P w = (do
      let (a, b, _) ← Instr.sliceBounds false l.length l.length lo hi none
      pure (.string ((⟨⟨l⟩⟩ : ByteArray).extract a b)) : Sem Value).run g.P w := by
  simp only [Instr.slice, Sem.run_bind, Pg.und e w, hd, Result.andThen_ok]
  rw [if_neg (by simp)]
  simp only [Sem.run_bind]
  rfl
theorem extract_mk (l : List UInt8) (a b : Nat) : (⟨⟨l⟩⟩ : ByteArray).extract a b = ⟨⟨(l.drop a).take (b - a)⟩⟩ := by
  rw [ByteArray.ext_iff, ByteArray.data_extract]
  apply Array.ext'
  simp [List.extract_eq_take_drop]
theorem sliceBound_ok {k : IntKind} {i : Int} {y : Nat} {code : BoundsCode} (h : 0 ≤ i ∧ i ≤ y) : (Instr.sliceBound (.int k i) y code).run g.P w = .ok i.toNat w := by
  simp only [Instr.sliceBound, asIntOf, Sem.run_bind, Sem.run_pure, Result.andThen_ok]
  rw [if_pos h]
  rfl
theorem evSlice_ok {t : TypeId} {x : Value} {lo hi : Option Value} {v : Value} {p : Prop} (h : evSlice g.tab t x lo hi = some (v, p)) (hp : p) : (Instr.slice t x lo hi none).run g.P w = .ok v w := by
  unfold evSlice at h
  split at h
  · rename_i d sz by_ z zc heq
    split at h
    · rename_i l
      rw [slice_str heq rfl]
      split at h <;> simp only [Option.some.injEq, Prod.mk.injEq, reduceCtorEq] at h <;> (try obtain ⟨rfl, rfl⟩ := h)
      · simp only [Instr.sliceBounds, Sem.run_bind, Sem.run_pure, Result.andThen_ok, extract_mk]
        simp
      · rename_i k i
        simp only [Instr.sliceBounds, Sem.run_bind, Sem.run_pure, Result.andThen_ok, sliceBound_ok hp, extract_mk]
        rw [List.take_of_length_le (by simp)]
      · rename_i k j
        simp only [Instr.sliceBounds, Sem.run_bind, Sem.run_pure, Result.andThen_ok, sliceBound_ok hp, extract_mk]
        simp
      · rename_i k i k' j
        simp only [Instr.sliceBounds, Sem.run_bind, Sem.run_pure, Result.andThen_ok, sliceBound_ok (show 0 ≤ j ∧ j ≤ (l.length : Int) by omega),
          sliceBound_ok (show 0 ≤ i ∧ i ≤ (j.toNat : Int) by omega), extract_mk]
    · cases h
  · cases h
end
theorem evOp_ok {g : Pg} {n : Nat} {a : Act} {fr : Frm} (hr : Rep n a fr) {op : Op} {v : Value} {p : Prop} (h : evOp g fr op = some (v, p)) (hp : p)
    (dst : Option Tmp) (ty : TypeId) (pos : String) (after : Array Edge) (gd : Option (Nat × Bool)) (w : World) :
    (execOp a.eval ⟨dst, op, ty, pos, after, gd⟩).run g.P w = .ok (.value v) w := by
  unfold evOp at h
  split at h
  · -- move
    split at h <;> simp only [Option.some.injEq, Prod.mk.injEq, reduceCtorEq] at h
    obtain ⟨rfl, rfl⟩ := h
    rename_i e
    simp [execOp, hr.ev e]
  · -- assign
    split at h <;> simp only [Option.some.injEq, Prod.mk.injEq, reduceCtorEq] at h
    obtain ⟨rfl, rfl⟩ := h
    rename_i e
    simp [execOp, hr.ev e]
  · -- pick
    split at h
    · rename_i e
      split at h <;> simp only [Option.some.injEq, Prod.mk.injEq, reduceCtorEq] at h
      obtain ⟨rfl, rfl⟩ := h
      rename_i e'
      simp [execOp, hr.ev e, hr.ev e', asBool]
    · rename_i e
      split at h <;> simp only [Option.some.injEq, Prod.mk.injEq, reduceCtorEq] at h
      obtain ⟨rfl, rfl⟩ := h
      rename_i e'
      simp [execOp, hr.ev e, hr.ev e', asBool]
    · cases h
  · -- binOp
    split at h
    · rename_i e e'
      simp only [execOp, hr.ev e, hr.ev e', Sem.run_bind, eqGuard_plain (evBin_shape h), Result.andThen_ok, evBin_ok h hp, Sem.run_pure]
    · cases h
  · -- unOp
    split at h
    · rename_i e
      simp only [execOp, hr.ev e, Sem.run_bind, evUn_ok h hp, Result.andThen_ok, Sem.run_pure]
    · cases h
  · -- fieldAddr
    split at h
    · rename_i fs sz by_ z zc b off heq e
      split at h
      · rename_i fd hfd
        split at h
        · rename_i ti hti
          split at h
          · cases h
          · rename_i m hm
            simp only [Option.some.injEq, Prod.mk.injEq] at h
            obtain ⟨rfl, rfl⟩ := h
            have hfd' : ∀ j, fs.toList[j]? = some fd → fs[j]? = some fd := fun j hj => by rw [← Array.getElem?_toList]; exact hj
            simp only [execOp, hr.ev e, Instr.fieldAt, Sem.run_bind, Pg.und heq, Result.andThen_ok, hfd' _ hfd, Instr.sureAddr, Sem.run_pure, fieldPlace, Pg.szOf hti, hm]
            rw [if_neg (by omega)]
            simp only [Sem.run_pure, Result.andThen_ok]
            rw [addrAt_add _ rfl]
            rfl
        · cases h
      · cases h
    · cases h
  · -- index
    split at h
    · rename_i heq e e'
      simp only [Option.some.injEq, Prod.mk.injEq] at h
      obtain ⟨rfl, rfl⟩ := h
      rename_i l k n
      have hlt : n.toNat < l.length := by omega
      have hget : (⟨⟨l⟩⟩ : ByteArray)[n.toNat]? = some (l.getD n.toNat 0) := by
        have h1 : n.toNat < (⟨⟨l⟩⟩ : ByteArray).size := hlt
        rw [getElem?_pos (⟨⟨l⟩⟩ : ByteArray) n.toNat h1]
        rw [List.getD_eq_getElem?_getD, List.getElem?_eq_getElem hlt]
        rfl
      simp only [execOp, hr.ev e, hr.ev e', Instr.index, asIntOf, Sem.run_bind, Sem.run_pure, Result.andThen_ok, Pg.und heq]
      rw [if_pos hp.1, hget]
      rfl
    · cases h
  · -- indexAddr
    split at h
    · rename_i el sz by_ z zc b off len cp k n heq e e'
      split at h
      · rename_i ti hti
        simp only [Option.some.injEq, Prod.mk.injEq] at h
        obtain ⟨rfl, rfl⟩ := h
        simp only [execOp, hr.ev e, hr.ev e', Instr.indexAt, asIntOf, Sem.run_bind, Sem.run_pure, Result.andThen_ok, Pg.und heq]
        rw [if_pos hp]
        simp only [Sem.run_bind, Pg.szOf hti, Result.andThen_ok, Sem.run_pure]
        rw [addrAt_add _ rfl]
        rfl
      · cases h
    · rename_i m el sz by_ z zc b off k n heq e e'
      split at h
      · rename_i ti hti
        simp only [Option.some.injEq, Prod.mk.injEq] at h
        obtain ⟨rfl, rfl⟩ := h
        simp only [execOp, hr.ev e, hr.ev e', Instr.indexAt, Instr.sureAddr, asIntOf, Sem.run_bind, Sem.run_pure, Result.andThen_ok, Pg.und heq]
        rw [if_pos hp]
        simp only [Sem.run_bind, Pg.szOf hti, Result.andThen_ok, Sem.run_pure]
        rw [addrAt_add _ rfl]
        rfl
      · cases h
    · cases h
  · -- extract
    split at h
    · rename_i e
      split at h <;> simp only [Option.some.injEq, Prod.mk.injEq, reduceCtorEq] at h
      obtain ⟨rfl, rfl⟩ := h
      rename_i hv
      simp [execOp, hr.ev e, Instr.extract, hv]
    · cases h
  · -- nilCheck
    split at h <;> simp only [Option.some.injEq, Prod.mk.injEq, reduceCtorEq] at h
    · rename_i e
      obtain ⟨rfl, rfl⟩ := h
      simp [execOp, hr.ev e]
    · rename_i e
      obtain ⟨rfl, rfl⟩ := h
      simp [execOp, hr.ev e]
  · -- makeFunc
    split at h <;> simp only [Option.some.injEq, Prod.mk.injEq, reduceCtorEq] at h
    rename_i e e'
    obtain ⟨rfl, rfl⟩ := h
    have h1 := hr.evs e
    have h2 := hr.evs e'
    simp only [execOp, Instr.makeFunc, Sem.run_bind, Sem.run_pure, Result.andThen_ok, Result.ok.injEq, Next.value.injEq, Value.func.injEq, true_and, and_true]
    exact ⟨by apply Array.ext'; simpa using h1, by apply Array.ext'; simpa using h2⟩
  · -- slice
    have key : ∀ (x : Value) (l h' : Option Value), (∀ t, evSlice g.tab t x l h' = some (v, p) → (Instr.sliceAt t x l h' none).run g.P w = .ok v w) := fun x l h' t hh => by
      have hs := evSlice_ok (w := w) hh hp
      unfold evSlice at hh
      split at hh
      · rename_i heq
        simp only [Instr.sliceAt, Sem.run_bind, Pg.und heq, Result.andThen_ok]
        exact hs
      · cases hh
    split at h
    · rename_i e
      simp only [execOp, hr.ev e, Option.map_none, Sem.run_bind, key _ _ _ _ h, Result.andThen_ok, Sem.run_pure]
    · rename_i e
      split at h
      · rename_i e1
        simp only [execOp, hr.ev e, hr.ev e1, Option.map_none, Option.map_some, Sem.run_bind, key _ _ _ _ h, Result.andThen_ok, Sem.run_pure]
      · cases h
    · rename_i e
      split at h
      · rename_i e1
        simp only [execOp, hr.ev e, hr.ev e1, Option.map_none, Option.map_some, Sem.run_bind, key _ _ _ _ h, Result.andThen_ok, Sem.run_pure]
      · cases h
    · rename_i e
      split at h
      · rename_i e1 e2
        simp only [execOp, hr.ev e, hr.ev e1, hr.ev e2, Option.map_none, Option.map_some, Sem.run_bind, key _ _ _ _ h, Result.andThen_ok, Sem.run_pure]
      · cases h
    · cases h
  · -- len
    rename_i as ts
    split at h
    · rename_i x t ha ht
      have ha' : as = #[x] := by apply Array.ext'; simpa using ha
      have ht' : ts = #[t] := by apply Array.ext'; simpa using ht
      subst ha' ht'
      split at h <;> simp only [Option.some.injEq, Prod.mk.injEq, reduceCtorEq] at h
      · rename_i heq e
        obtain ⟨rfl, rfl⟩ := h
        simp [execOp, resolve, invoke, builtin, Builtin.len_, hr.ev e, Pg.und heq, goInt]
        rfl
      · rename_i heq e
        obtain ⟨rfl, rfl⟩ := h
        simp [execOp, resolve, invoke, builtin, Builtin.len_, hr.ev e, Pg.und heq, goInt]
    · cases h
  · -- cap
    rename_i as ts
    split at h
    · rename_i x t ha ht
      have ha' : as = #[x] := by apply Array.ext'; simpa using ha
      have ht' : ts = #[t] := by apply Array.ext'; simpa using ht
      subst ha' ht'
      split at h <;> simp only [Option.some.injEq, Prod.mk.injEq, reduceCtorEq] at h
      · rename_i heq e
        obtain ⟨rfl, rfl⟩ := h
        simp [execOp, resolve, invoke, builtin, Builtin.cap_, hr.ev e, Pg.und heq, goInt]
    · cases h
  · cases h
theorem WL_ev {g : Pg} {n : Nat} {w0 : World} {h0 S0 : Heap} {rd : Option Nat} {ops : List Oper} {K : Cont} {fr : Frm} {S : Heap} {M : List Asn} {rest : List Oper} {dst : Option Tmp} {op : Op} {ty : TypeId} {pos : String} {after : Array Edge} {gd : Option (Nat × Bool)} {v : Value} {p : Prop}
    (hw : wantedF ops fr ⟨dst, op, ty, pos, after, gd⟩ = some true) (hd : dstOk n dst = true) (he : evOp g fr op = some (v, p)) (hp : p)
    (h : WL (ctx g n w0 h0 S0 rd) ops rest K (put fr dst v) S M) : WL (ctx g n w0 h0 S0 rd) ops (⟨dst, op, ty, pos, after, gd⟩ :: rest) K fr S M :=
  WL_val hw hd (fun a w hr hs => evOp_ok hr he hp _ _ _ _ _ w) h
end Go.Proofs.YtmiefhokjeofcaaDoor.Eng
