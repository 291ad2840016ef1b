/- DERIVED. The engine, ninth part: more operations without memory. Conditions: none. -/
import Derived.Test.YtmiefhokjeofcaaDoorEng7
set_option linter.unusedVariables false
set_option linter.unusedSimpArgs false
namespace Go.Proofs.YtmiefhokjeofcaaDoor.Eng
open Go

def ibits (op : BinOp) (k : IntKind) (x y : Int) : Int :=
  match op with
  | .and => k.wrap (BitVec.ofInt k.bits x &&& BitVec.ofInt k.bits y).toNat
  | .or => k.wrap (BitVec.ofInt k.bits x ||| BitVec.ofInt k.bits y).toNat
  | .xor => k.wrap (BitVec.ofInt k.bits x ^^^ BitVec.ofInt k.bits y).toNat
  | _ => k.wrap (BitVec.ofInt k.bits x &&& ~~~BitVec.ofInt k.bits y).toNat
def ishl (k : IntKind) (x y : Int) : Int := k.wrap (x * 2 ^ min y.toNat k.bits)
def ishr (k : IntKind) (x y : Int) : Int := x.fdiv (2 ^ min y.toNat k.bits)
def maxL (a b : List UInt8) : List UInt8 := match Op.bytesLess a b with | true => b | false => a
def minL (a b : List UInt8) : List UInt8 := match (Op.bytesLess a b || decide (a = b)) with | true => a | false => b
def kmin : IntKind → Int
  | .i8 => -128 | .i16 => -32768 | .i32 => -2147483648 | .i64 => -9223372036854775808 | _ => 0
def kmax : IntKind → Int
  | .i8 => 127 | .i16 => 32767 | .i32 => 2147483647 | .i64 => 9223372036854775807 | .u8 => 255 | .u16 => 65535 | .u32 => 4294967295 | .u64 => 18446744073709551615
theorem wrap_in (k : IntKind) {n : Int} (h : kmin k ≤ n ∧ n ≤ kmax k) : k.wrap n = n := by
  cases k <;> simp only [kmin, kmax] at h <;> simp only [IntKind.wrap, IntKind.signed, IntKind.bits] <;> simp <;> omega
theorem u8_inU64 (b : UInt8) : kmin .u64 ≤ (b.toNat : Int) ∧ (b.toNat : Int) ≤ kmax .u64 := by have := b.toNat_lt; simp only [kmin, kmax]; omega
theorem u8_inI64 (b : UInt8) : kmin .i64 ≤ (b.toNat : Int) ∧ (b.toNat : Int) ≤ kmax .i64 := by have := b.toNat_lt; simp only [kmin, kmax]; omega
theorem u8_inI32 (b : UInt8) : kmin .i32 ≤ (b.toNat : Int) ∧ (b.toNat : Int) ≤ kmax .i32 := by have := b.toNat_lt; simp only [kmin, kmax]; omega
def isIface : TypeDesc → Bool
  | .interface _ => true
  | _ => false
def isConstB : Operand → Bool
  | .const _ => true
  | _ => false
def evEq (d : TypeDesc) (cst : Bool) (x y : Value) : Option Bool :=
  match d, x, y with
  | .bool, .bool a, .bool b => some (decide (a = b))
  | .pointer _, .pointer none, .pointer none => some true
  | .pointer _, .pointer none, .pointer (some _) => some false
  | .pointer _, .pointer (some _), .pointer none => some false
  | .slice _, .slice none _ _, .slice none _ _ => some true
  | .slice _, .slice none _ _, .slice (some _) _ _ => some false
  | .slice _, .slice (some _) _ _, .slice none _ _ => some false
  | .interface _, .nilIface, .iface _ _ => some false
  | .interface _, .iface _ _, .nilIface => some false
  | .interface _, .nilIface, .nilIface => match cst with
    | true => some true
    | false => none
  | .func _ _ _, .nilFunc, .nilFunc => some true
  | .func _ _ _, .nilFunc, .func _ _ _ => some false
  | .func _ _ _, .func _ _ _, .nilFunc => some false
  | _, _, _ => none
def evPart (tab : Tab) (t : TypeId) (cs : List Value) (off : Nat) : Option Value :=
  match tget tab t with
  | some i => match i.agg with
    | true => match forceL ((cs.drop off).take i.size) with
      | some ds => some (.agg ⟨ds⟩)
      | none => none
    | false => cs[off]?
  | none => none
def evOp2 (g : Pg) (fr : Frm) (o : Op) : Option (Value × Prop) :=
  match o with
  | .call ⟨.builtin .max, ⟨[x, y]⟩, _⟩ => match ev? fr x, ev? fr y with
    | some (.int k a), some (.int _ b) => some (.int k (max a b), True)
    | some (.string ⟨⟨a⟩⟩), some (.string ⟨⟨b⟩⟩) => some (vs (maxL a b), True)
    | _, _ => none
  | .call ⟨.builtin .min, ⟨[x, y]⟩, _⟩ => match ev? fr x, ev? fr y with
    | some (.int k a), some (.int _ b) => some (.int k (min a b), True)
    | some (.string ⟨⟨a⟩⟩), some (.string ⟨⟨b⟩⟩) => some (vs (minL a b), True)
    | _, _ => none
  | .convert s d x => match tget g.tab s, tget g.tab d, ev? fr x with
    | some ⟨.int _, _, _, _, _⟩, some ⟨.int k, _, _, _, _⟩, some (.int _ n) => some (.int k n, kmin k ≤ n ∧ n ≤ kmax k)
    | some ⟨.string, _, _, _, _⟩, some ⟨.string, _, _, _, _⟩, some (.string b) => some (.string b, True)
    | _, _, _ => none
  | .makeInterface t x => match tget g.tab t, ev? fr x with
    | some i, some v => match isIface i.desc with
      | true => none
      | false => some (.iface t v, True)
    | _, _ => none
  | .binOp .eql t x y _ => match tget g.tab t, ev? fr x, ev? fr y with
    | some i, some v, some w => match evEq i.desc (isConstB x || isConstB y) v w with
      | some b => some (.bool b, True)
      | none => none
    | _, _, _ => none
  | .binOp .neq t x y _ => match tget g.tab t, ev? fr x, ev? fr y with
    | some i, some v, some w => match evEq i.desc (isConstB x || isConstB y) v w with
      | some b => some (.bool (!b), True)
      | none => none
    | _, _, _ => none
  | .binOp .and _ x y _ => match ev? fr x, ev? fr y with
    | some (.int k a), some (.int k' b) => some (.int k (ibits .and k a b), k = k')
    | _, _ => none
  | .binOp .or _ x y _ => match ev? fr x, ev? fr y with
    | some (.int k a), some (.int k' b) => some (.int k (ibits .or k a b), k = k')
    | _, _ => none
  | .binOp .xor _ x y _ => match ev? fr x, ev? fr y with
    | some (.int k a), some (.int k' b) => some (.int k (ibits .xor k a b), k = k')
    | _, _ => none
  | .binOp .andNot _ x y _ => match ev? fr x, ev? fr y with
    | some (.int k a), some (.int k' b) => some (.int k (ibits .andNot k a b), k = k')
    | _, _ => none
  | .binOp .shl _ x y _ => match ev? fr x, ev? fr y with
    | some (.int k a), some (.int _ b) => some (.int k (ishl k a b), 0 ≤ b)
    | _, _ => none
  | .binOp .shr _ x y _ => match ev? fr x, ev? fr y with
    | some (.int k a), some (.int _ b) => some (.int k (ishr k a b), 0 ≤ b)
    | _, _ => none
  | .unOp .neg _ x => match ev? fr x with
    | some (.int k a) => some (.int k (k.wrap (0 - a)), True)
    | _ => none
  | .field t x f => match tget g.tab t, ev? fr x with
    | some ⟨.struct fs, _, _, _, _⟩, some (.agg ⟨cs⟩) => match fs.toList[f]? with
      | some fd => match evPart g.tab fd.type cs fd.offset with
        | some v => some (v, True)
        | none => none
      | none => none
    | _, _ => none
  | .index t x i => match tget g.tab t, ev? fr x, ev? fr i with
    | some ⟨.array m e, _, _, _, _⟩, some (.agg ⟨cs⟩), some (.int _ j) => match tget g.tab e with
      | some ti => match evPart g.tab e cs (j.toNat * ti.size) with
        | some v => some (v, 0 ≤ j ∧ j < m)
        | none => none
      | none => none
    | _, _, _ => none
  | _ => none
section
variable {g : Pg} {w : World}
theorem evEq_ok {t : TypeId} {i : TI} (ht : tget g.tab t = some i) {c : Bool} {x y : Value} {b : Bool} (h : evEq i.desc c x y = some b) : (Op.equal t x y).run g.P w = .ok b w := by
  unfold evEq at h
  unfold Op.equal Op.maxDepth Op.equalIn
  simp only [Sem.run_bind, Pg.und ht, Result.andThen_ok]
  split at h
  · rename_i a b hd
    simp only [Option.some.injEq] at h
    subst h
    rw [hd]
    cases a <;> cases b <;> rfl
  all_goals first
    | (rename_i hd
       simp only [Option.some.injEq] at h
       subst h
       rw [hd]
       rfl)
    | (rename_i hd
       split at h
       · simp only [Option.some.injEq] at h
         subst h
         rw [hd]
         rfl
       · cases h)
    | cases h
theorem evEq_guard {t : TypeId} {i : TI} (ht : tget g.tab t = some i) {op : BinOp} {p q : Operand} {x y : Value} {b : Bool} (h : evEq i.desc (isConstB p || isConstB q) x y = some b) : (eqGuard op t p q x y).run g.P w = .ok () w := by
  by_cases hn : noAgg x y
  · exact eqGuard_plain hn
  · unfold evEq at h
    split at h <;> first | (exact absurd trivial hn) | skip
    · split at h
      · rename_i hc
        unfold eqGuard
        cases op <;> first
          | rfl
          | (cases p <;> cases q <;> first | rfl | (simp [isConstB] at hc))
      · cases h
    · cases h
theorem evPart_ok {t : TypeId} {cs : List Value} {off : Nat} {v : Value} (h : evPart g.tab t cs off = some v) : (part t ⟨cs⟩ off).run g.P w = .ok v w := by
  unfold evPart at h
  split at h
  · rename_i i ht
    unfold part
    simp only [Sem.run_bind, Pg.isAg ht, Result.andThen_ok]
    split at h
    · rename_i ha
      split at h <;> simp only [Option.some.injEq, reduceCtorEq] at h
      rename_i ds hds
      subst h
      rw [ha, if_pos rfl]
      simp only [Sem.run_bind, Pg.szOf ht, Result.andThen_ok, Sem.run_pure, forceL_eq hds]
      congr 2
      apply Array.ext'
      simp [List.extract_eq_take_drop]
    · rename_i ha
      rw [ha, if_neg (by simp)]
      have : (⟨cs⟩ : Array Value)[off]? = some v := by simpa using h
      rw [this]
      rfl
  · cases h
theorem binEq_run {t : TypeId} {i : TI} (ht : tget g.tab t = some i) {c : Bool} {x y : Value} {b : Bool} (h : evEq i.desc c x y = some b) (hq : (Op.equal t x y).run g.P w = .ok b w) : (binOp .eql t x y).run g.P w = .ok (.bool b) w := by
  unfold evEq at h
  split at h <;> first | (simp only [binOp, Sem.run_bind, hq, Result.andThen_ok, Sem.run_pure]; done) | cases h
theorem binNe_run {t : TypeId} {i : TI} (ht : tget g.tab t = some i) {c : Bool} {x y : Value} {b : Bool} (h : evEq i.desc c x y = some b) (hq : (Op.equal t x y).run g.P w = .ok b w) : (binOp .neq t x y).run g.P w = .ok (.bool (!b)) w := by
  unfold evEq at h
  split at h <;> first | (simp only [binOp, Sem.run_bind, hq, Result.andThen_ok, Sem.run_pure]; done) | cases h
theorem eqGuard_int (op : BinOp) (t : TypeId) (x y : Operand) (k k' : IntKind) (a b : Int) : (eqGuard op t x y (.int k a) (.int k' b)).run g.P w = .ok () w := eqGuard_plain (a := .int k a) (b := .int k' b) trivial
theorem bits_and (t : TypeId) (k : IntKind) (a b : Int) : (binOp .and t (.int k a) (.int k b)).run g.P w = .ok (.int k (ibits .and k a b)) w := by
  simp only [binOp, ne_eq, not_true_eq_false, if_false]
  rfl
theorem bits_or (t : TypeId) (k : IntKind) (a b : Int) : (binOp .or t (.int k a) (.int k b)).run g.P w = .ok (.int k (ibits .or k a b)) w := by
  simp only [binOp, ne_eq, not_true_eq_false, if_false]
  rfl
theorem bits_xor (t : TypeId) (k : IntKind) (a b : Int) : (binOp .xor t (.int k a) (.int k b)).run g.P w = .ok (.int k (ibits .xor k a b)) w := by
  simp only [binOp, ne_eq, not_true_eq_false, if_false]
  rfl
theorem bits_andNot (t : TypeId) (k : IntKind) (a b : Int) : (binOp .andNot t (.int k a) (.int k b)).run g.P w = .ok (.int k (ibits .andNot k a b)) w := by
  simp only [binOp, ne_eq, not_true_eq_false, if_false]
  rfl
theorem max2_str (a b : List UInt8) : (Builtin.max2 (vs a) (vs b)).run g.P w = .ok (vs (maxL a b)) w := by
  simp only [Builtin.max2, Sem.run_bind, Op.stringOp, toList_mk, Sem.run_pure, Result.andThen_ok, asBool, maxL]
  cases Op.bytesLess a b <;> rfl
theorem min2_str (a b : List UInt8) : (Builtin.min2 (vs a) (vs b)).run g.P w = .ok (vs (minL a b)) w := by
  have : (a == b) = decide (a = b) := by by_cases h : a = b <;> simp [h]
  simp only [Builtin.min2, Sem.run_bind, Op.stringOp, toList_mk, Sem.run_pure, Result.andThen_ok, asBool, minL, this]
  cases (Op.bytesLess a b || decide (a = b)) <;> rfl
end
theorem evOp2_ok {g : Pg} {n : Nat} {a : Act} {fr : Frm} (hr : Rep n a fr) {op : Op} {v : Value} {p : Prop} (h : evOp2 g fr op = some (v, p)) (hp : p)
    (dst : Option Tmp) (ty : TypeId) (pos : String) (after : Array Edge) (gd : Option (Nat × Bool)) (w : World) :
    (execOp a.eval ⟨dst, op, ty, pos, after, gd⟩).run g.P w = .ok (.value v) w := by
  have args2 : ∀ x y v w, ev? fr x = some v → ev? fr y = some w → ((⟨[x, y]⟩ : Array Operand).map a.eval) = #[v, w] := fun x y v w h1 h2 => by
    apply Array.ext'
    simp [hr.ev h1, hr.ev h2]
  unfold evOp2 at h
  split at h
  · split at h <;> simp only [Option.some.injEq, Prod.mk.injEq, reduceCtorEq] at h <;> rename_i e e' <;> obtain ⟨rfl, rfl⟩ := h
    · simp only [execOp, resolve, Sem.run_bind, Sem.run_pure, Result.andThen_ok, invoke, builtin, args2 _ _ _ _ e e', Builtin.max_, List.foldlM_cons, List.foldlM_nil, Builtin.max2]
      congr 3
      rw [Int.max_def]
      split <;> split <;> omega
    · simp only [execOp, resolve, Sem.run_bind, Sem.run_pure, Result.andThen_ok, invoke, builtin, args2 _ _ _ _ e e', Builtin.max_, List.foldlM_cons, List.foldlM_nil, max2_str]
  · split at h <;> simp only [Option.some.injEq, Prod.mk.injEq, reduceCtorEq] at h <;> rename_i e e' <;> obtain ⟨rfl, rfl⟩ := h
    · simp only [execOp, resolve, Sem.run_bind, Sem.run_pure, Result.andThen_ok, invoke, builtin, args2 _ _ _ _ e e', Builtin.min_, List.foldlM_cons, List.foldlM_nil, Builtin.min2]
      congr 3
      rw [Int.min_def]
      split <;> split <;> omega
    · simp only [execOp, resolve, Sem.run_bind, Sem.run_pure, Result.andThen_ok, invoke, builtin, args2 _ _ _ _ e e', Builtin.min_, List.foldlM_cons, List.foldlM_nil, min2_str]
  · split at h <;> simp only [Option.some.injEq, Prod.mk.injEq, reduceCtorEq] at h <;> obtain ⟨rfl, rfl⟩ := h <;> rename_i h1 h2 e
    · simp only [execOp, hr.ev e, convert, Sem.run_bind, Pg.und h1, Pg.und h2, Result.andThen_ok, Conv.intToInt, Sem.run_pure, wrap_in _ hp]
    · simp only [execOp, hr.ev e, convert, Sem.run_bind, Pg.und h1, Pg.und h2, Result.andThen_ok, Sem.run_pure]
  · split at h
    · rename_i i v' h1 e
      split at h <;> simp only [Option.some.injEq, Prod.mk.injEq, reduceCtorEq] at h
      rename_i hi
      obtain ⟨rfl, rfl⟩ := h
      simp only [execOp, hr.ev e, Instr.makeInterface, Sem.run_bind, Pg.und h1, Result.andThen_ok]
      obtain ⟨d, _, _, _, _⟩ := i
      simp only at hi ⊢
      cases d <;> first | (simp [isIface] at hi; done) | simp only [Sem.run_pure, Result.andThen_ok]
    · cases h
  · split at h
    · rename_i i v1 v2 h1 e e'
      split at h <;> simp only [Option.some.injEq, Prod.mk.injEq, reduceCtorEq] at h
      rename_i b hb
      obtain ⟨rfl, rfl⟩ := h
      have hq := evEq_ok (w := w) h1 hb
      have hbin : (binOp .eql _ v1 v2).run g.P w = .ok (.bool b) w := binEq_run h1 hb hq
      simp only [execOp, hr.ev e, hr.ev e', Sem.run_bind, evEq_guard h1 hb, Result.andThen_ok, hbin, Sem.run_pure]
    · cases h
  · split at h
    · rename_i i v1 v2 h1 e e'
      split at h <;> simp only [Option.some.injEq, Prod.mk.injEq, reduceCtorEq] at h
      rename_i b hb
      obtain ⟨rfl, rfl⟩ := h
      have hq := evEq_ok (w := w) h1 hb
      have hbin : (binOp .neq _ v1 v2).run g.P w = .ok (.bool (!b)) w := binNe_run h1 hb hq
      simp only [execOp, hr.ev e, hr.ev e', Sem.run_bind, evEq_guard h1 hb, Result.andThen_ok, hbin, Sem.run_pure]
    · cases h
  · split at h <;> simp only [Option.some.injEq, Prod.mk.injEq, reduceCtorEq] at h
    rename_i e e'
    obtain ⟨rfl, rfl⟩ := h
    subst hp
    simp only [execOp, hr.ev e, hr.ev e', Sem.run_bind, eqGuard_int, bits_and, Result.andThen_ok, Sem.run_pure]
  · split at h <;> simp only [Option.some.injEq, Prod.mk.injEq, reduceCtorEq] at h
    rename_i e e'
    obtain ⟨rfl, rfl⟩ := h
    subst hp
    simp only [execOp, hr.ev e, hr.ev e', Sem.run_bind, eqGuard_int, bits_or, Result.andThen_ok, Sem.run_pure]
  · split at h <;> simp only [Option.some.injEq, Prod.mk.injEq, reduceCtorEq] at h
    rename_i e e'
    obtain ⟨rfl, rfl⟩ := h
    subst hp
    simp only [execOp, hr.ev e, hr.ev e', Sem.run_bind, eqGuard_int, bits_xor, Result.andThen_ok, Sem.run_pure]
  · split at h <;> simp only [Option.some.injEq, Prod.mk.injEq, reduceCtorEq] at h
    rename_i e e'
    obtain ⟨rfl, rfl⟩ := h
    subst hp
    simp only [execOp, hr.ev e, hr.ev e', Sem.run_bind, eqGuard_int, bits_andNot, Result.andThen_ok, Sem.run_pure]
  · split at h <;> simp only [Option.some.injEq, Prod.mk.injEq, reduceCtorEq] at h
    rename_i e e'
    obtain ⟨rfl, rfl⟩ := h
    simp only [execOp, hr.ev e, hr.ev e', Sem.run_bind, eqGuard_int, Result.andThen_ok]
    simp only [binOp, Op.shift]
    rw [if_neg (by omega)]
    simp only [Sem.run_pure, Result.andThen_ok, ishl]
  · split at h <;> simp only [Option.some.injEq, Prod.mk.injEq, reduceCtorEq] at h
    rename_i e e'
    obtain ⟨rfl, rfl⟩ := h
    simp only [execOp, hr.ev e, hr.ev e', Sem.run_bind, eqGuard_int, Result.andThen_ok]
    simp only [binOp, Op.shift]
    rw [if_neg (by omega)]
    simp only [Sem.run_pure, Result.andThen_ok, ishr]
  · split at h <;> simp only [Option.some.injEq, Prod.mk.injEq, reduceCtorEq] at h
    rename_i e
    obtain ⟨rfl, rfl⟩ := h
    simp only [execOp, hr.ev e, Op.unary, Op.intArith, Sem.run_bind, Sem.run_pure, Result.andThen_ok]
  · split at h
    · rename_i fs sz by_ z zc cs h1 e
      split at h
      · rename_i fd hfd
        split at h <;> simp only [Option.some.injEq, Prod.mk.injEq, reduceCtorEq] at h
        rename_i v' hv
        obtain ⟨rfl, rfl⟩ := h
        have hfd' : ∀ j, fs.toList[j]? = some fd → fs[j]? = some fd := fun j hj => by rw [← Array.getElem?_toList]; exact hj
        simp only [execOp, hr.ev e, Instr.field, Sem.run_bind, Pg.und h1, Result.andThen_ok, hfd' _ hfd, asAgg, Sem.run_pure, evPart_ok hv]
      · cases h
    · cases h
  · split at h
    · rename_i m el sz by_ z zc cs k j h1 e e'
      split at h
      · rename_i ti hti
        split at h <;> simp only [Option.some.injEq, Prod.mk.injEq, reduceCtorEq] at h
        rename_i v' hv
        obtain ⟨rfl, rfl⟩ := h
        simp only [execOp, hr.ev e, hr.ev e', Instr.index, asIntOf, Sem.run_bind, Sem.run_pure, Pg.und h1, Result.andThen_ok]
        rw [if_pos hp]
        simp only [Sem.run_bind, Pg.szOf hti, Result.andThen_ok, evPart_ok hv, Sem.run_pure]
      · cases h
    · cases h
  · cases h
section
variable {g : Pg} {n : Nat} {w0 : World} {h0 S0 : Heap} {rd : Option Nat} {K : Cont} {fr : Frm} {S : Heap} {M : List Asn} {rest : List Oper} {dst : Option Tmp} {op : Op} {ty : TypeId} {pos : String} {after : Array Edge} {gd : Option (Nat × Bool)} {v : Value} {p : Prop}
theorem WL_ev2 {ops : List Oper} (hw : wantedF ops fr ⟨dst, op, ty, pos, after, gd⟩ = some true) (hd : dstOk n dst = true) (he : evOp2 g fr op = some (v, p)) (hp : p)
    (h : WL (ctx g n w0 h0 S0 rd) ops rest K (put fr dst v) S M) : WL (ctx g n w0 h0 S0 rd) ops (⟨dst, op, ty, pos, after, gd⟩ :: rest) K fr S M :=
  WL_val hw hd (fun a w hr hs => evOp2_ok hr he hp _ _ _ _ _ w) h
theorem WD_ev2 {ops : Array Oper} {N : List Asn} {σ : Sch} {i : Nat} (ho : ops[i]? = some ⟨dst, op, ty, pos, after, gd⟩)
    (hw : wantedF ops.toList fr ⟨dst, op, ty, pos, after, gd⟩ = some true) (hd : dstOk n dst = true) (he : evOp2 g fr op = some (v, p)) (hp : p)
    (h : WD (ctx g n w0 h0 S0 rd) ops σ K (put fr dst v) S M N) : WD (ctx g n w0 h0 S0 rd) ops (.look i σ) K fr S M N :=
  WD_pure ho hw hd (fun a w hr => evOp2_ok hr he hp _ _ _ _ _ w) h
/-- A value under another name. -/
theorem WL_evE {ops : List Oper} {v' : Value} (hw : wantedF ops fr ⟨dst, op, ty, pos, after, gd⟩ = some true) (hd : dstOk n dst = true) (he : evOp g fr op = some (v, p)) (hp : p) (hv : v = v')
    (h : WL (ctx g n w0 h0 S0 rd) ops rest K (put fr dst v') S M) : WL (ctx g n w0 h0 S0 rd) ops (⟨dst, op, ty, pos, after, gd⟩ :: rest) K fr S M := by
  subst hv; exact WL_ev hw hd he hp h
theorem WL_ev2E {ops : List Oper} {v' : Value} (hw : wantedF ops fr ⟨dst, op, ty, pos, after, gd⟩ = some true) (hd : dstOk n dst = true) (he : evOp2 g fr op = some (v, p)) (hp : p) (hv : v = v')
    (h : WL (ctx g n w0 h0 S0 rd) ops rest K (put fr dst v') S M) : WL (ctx g n w0 h0 S0 rd) ops (⟨dst, op, ty, pos, after, gd⟩ :: rest) K fr S M := by
  subst hv; exact WL_ev2 hw hd he hp h
end

/-! ### Calls, in the forms in which they are used -/
theorem St.drops {c : Ctx} {S : Heap} {L M : List Asn} {w : World} (h : St c S (L ++ M) w) : St c S M w := by
  induction L with
  | nil => exact h
  | cons A L ih => exact ih h.drop
section
variable {g : Pg} {n : Nat} {w0 : World} {h0 S0 : Heap} {rd : Option Nat} {K : Cont} {fr : Frm} {S : Heap} {M N : List Asn} {rest : List Oper} {dst : Option Tmp} {ty : TypeId} {pos : String} {after : Array Edge} {gd : Option (Nat × Bool)}
  {x : Operand} {as : List Operand} {ts : Array TypeId} {f : FuncId} {first captured : List Value} {vals : List Value} {Q : Value → Heap → Prop} {Post : PostT}
/-- A call that owns nothing and hands nothing back to own. -/
theorem WL_callP {ops : List Oper} (hw : wantedF ops fr ⟨dst, .call ⟨.value x, ⟨as⟩, ts⟩, ty, pos, after, gd⟩ = some true) (hd : dstOk n dst = true)
    (hx : ev? fr x = some (.func (.func f) ⟨first⟩ ⟨captured⟩)) (ha : evs? fr as = some vals)
    (hf : Fn g f (first ++ vals ++ captured) S [] (fun v S' _ => Q v S'))
    (h : ∀ v S', S.Le S' → Q v S' → WL (ctx g n w0 h0 S0 rd) ops rest K (put fr dst v) S' M) :
    WL (ctx g n w0 h0 S0 rd) ops (⟨dst, .call ⟨.value x, ⟨as⟩, ts⟩, ty, pos, after, gd⟩ :: rest) K fr S M :=
  WL_call (L := []) (R := M) hw hd hx ha rfl hf fun v S' L' hl hq => fun a w hr hs => h v S' hl hq a w hr hs.drops
/-- A call that owns nothing ahead. -/
theorem WL_call0 {ops : List Oper} (hw : wantedF ops fr ⟨dst, .call ⟨.value x, ⟨as⟩, ts⟩, ty, pos, after, gd⟩ = some true) (hd : dstOk n dst = true)
    (hx : ev? fr x = some (.func (.func f) ⟨first⟩ ⟨captured⟩)) (ha : evs? fr as = some vals)
    (hf : Fn g f (first ++ vals ++ captured) S [] Post)
    (h : ∀ v S' L', S.Le S' → Post v S' L' → WL (ctx g n w0 h0 S0 rd) ops rest K (put fr dst v) S' (L' ++ M)) :
    WL (ctx g n w0 h0 S0 rd) ops (⟨dst, .call ⟨.value x, ⟨as⟩, ts⟩, ty, pos, after, gd⟩ :: rest) K fr S M :=
  WL_call (L := []) (R := M) hw hd hx ha rfl hf h
/-- A call that is lent the first own assertion. -/
theorem WL_call1 {ops : List Oper} {A : Asn} (hw : wantedF ops fr ⟨dst, .call ⟨.value x, ⟨as⟩, ts⟩, ty, pos, after, gd⟩ = some true) (hd : dstOk n dst = true)
    (hx : ev? fr x = some (.func (.func f) ⟨first⟩ ⟨captured⟩)) (ha : evs? fr as = some vals)
    (hf : Fn g f (first ++ vals ++ captured) S [A] Post)
    (h : ∀ v S' L', S.Le S' → Post v S' L' → WL (ctx g n w0 h0 S0 rd) ops rest K (put fr dst v) S' (L' ++ M)) :
    WL (ctx g n w0 h0 S0 rd) ops (⟨dst, .call ⟨.value x, ⟨as⟩, ts⟩, ty, pos, after, gd⟩ :: rest) K fr S (A :: M) :=
  WL_call (L := [A]) (R := M) hw hd hx ha rfl hf h
/-- A call that is lent the first two. -/
theorem WL_call2 {ops : List Oper} {A B : Asn} (hw : wantedF ops fr ⟨dst, .call ⟨.value x, ⟨as⟩, ts⟩, ty, pos, after, gd⟩ = some true) (hd : dstOk n dst = true)
    (hx : ev? fr x = some (.func (.func f) ⟨first⟩ ⟨captured⟩)) (ha : evs? fr as = some vals)
    (hf : Fn g f (first ++ vals ++ captured) S [A, B] Post)
    (h : ∀ v S' L', S.Le S' → Post v S' L' → WL (ctx g n w0 h0 S0 rd) ops rest K (put fr dst v) S' (L' ++ M)) :
    WL (ctx g n w0 h0 S0 rd) ops (⟨dst, .call ⟨.value x, ⟨as⟩, ts⟩, ty, pos, after, gd⟩ :: rest) K fr S (A :: B :: M) :=
  WL_call (L := [A, B]) (R := M) hw hd hx ha rfl hf h
theorem WD_callP {ops : Array Oper} {σ : Sch} {i : Nat} (ho : ops[i]? = some ⟨dst, .call ⟨.value x, ⟨as⟩, ts⟩, ty, pos, after, gd⟩)
    (hw : wantedF ops.toList fr ⟨dst, .call ⟨.value x, ⟨as⟩, ts⟩, ty, pos, after, gd⟩ = some true) (hd : dstOk n dst = true)
    (hx : ev? fr x = some (.func (.func f) ⟨first⟩ ⟨captured⟩)) (ha : evs? fr as = some vals)
    (hf : Fn g f (first ++ vals ++ captured) S [] (fun v S' _ => Q v S'))
    (h : ∀ v S', S.Le S' → Q v S' → WD (ctx g n w0 h0 S0 rd) ops σ K (put fr dst v) S' M N) :
    WD (ctx g n w0 h0 S0 rd) ops (.step i σ) K fr S M N := fun hN =>
  WD_call ho hw hd hx ha rfl hf (fun v S' L' hl hq => fun _ a w C hr hs hc => h v S' hl hq hN a w C hr hs.drops hc) hN
theorem WD_call0 {ops : Array Oper} {σ : Sch} {i : Nat} (ho : ops[i]? = some ⟨dst, .call ⟨.value x, ⟨as⟩, ts⟩, ty, pos, after, gd⟩)
    (hw : wantedF ops.toList fr ⟨dst, .call ⟨.value x, ⟨as⟩, ts⟩, ty, pos, after, gd⟩ = some true) (hd : dstOk n dst = true)
    (hx : ev? fr x = some (.func (.func f) ⟨first⟩ ⟨captured⟩)) (ha : evs? fr as = some vals)
    (hf : Fn g f (first ++ vals ++ captured) S [] Post)
    (h : ∀ v S' L', S.Le S' → Post v S' L' → WD (ctx g n w0 h0 S0 rd) ops σ K (put fr dst v) S' (L' ++ M) N) :
    WD (ctx g n w0 h0 S0 rd) ops (.step i σ) K fr S M N :=
  WD_call ho hw hd hx ha rfl hf h
end
end Go.Proofs.YtmiefhokjeofcaaDoor.Eng
