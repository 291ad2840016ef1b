/- DERIVED. A small separation logic over the model's weakest preconditions: sparse frames, a stable heap, own assertions. Conditions: none. -/
import Derived.WalkKit
import Derived.TacticsIn
import Derived.OrdersIn
set_option linter.unusedVariables false
set_option linter.unusedSimpArgs false
namespace Go.Proofs.YtmiefhokjeofcaaDoor.Eng
open Go

/-! ### 1. Heaps -/
abbrev Heap := Nat → Option Obj
def Heap.Le (S S' : Heap) : Prop := ∀ b o, S b = some o → S' b = some o
def Heap.Disj (h k : Heap) : Prop := ∀ b, h b = none ∨ k b = none
def Heap.In (h : Heap) (w : World) : Prop := ∀ b o, h b = some o → w.heap[b]? = some o
def Heap.union (h k : Heap) : Heap := fun b => match h b with | some o => some o | none => k b
def Heap.one (b : Nat) (o : Obj) : Heap := fun x => if x = b then some o else none
def Heap.emp : Heap := fun _ => none

theorem Heap.Le.refl (S : Heap) : S.Le S := fun _ _ h => h
theorem Heap.Le.trans {S T U : Heap} (h : S.Le T) (k : T.Le U) : S.Le U := fun b o e => k b o (h b o e)
theorem Heap.Disj.symm {h k : Heap} (d : h.Disj k) : k.Disj h := fun b => (d b).symm
theorem Heap.one_self (b : Nat) (o : Obj) : Heap.one b o b = some o := by simp [Heap.one]
theorem Heap.one_ne {b x : Nat} (o : Obj) (h : x ≠ b) : Heap.one b o x = none := by simp [Heap.one, h]
theorem Heap.union_left {h k : Heap} {b : Nat} {o : Obj} (e : h b = some o) : h.union k b = some o := by simp [Heap.union, e]
theorem Heap.union_right {h k : Heap} {b : Nat} (e : h b = none) : h.union k b = k b := by simp [Heap.union, e]
theorem Heap.union_none {h k : Heap} {b : Nat} : h.union k b = none ↔ h b = none ∧ k b = none := by
  unfold Heap.union
  split <;> simp_all
theorem Heap.union_emp (h : Heap) : h.union Heap.emp = h := by
  funext b
  unfold Heap.union Heap.emp
  split <;> simp_all
theorem Heap.union_assoc (h k l : Heap) : (h.union k).union l = h.union (k.union l) := by
  funext b
  unfold Heap.union
  cases h b <;> simp
theorem Heap.union_comm {h k : Heap} (d : h.Disj k) : h.union k = k.union h := by
  funext b
  rcases d b with e | e <;> unfold Heap.union <;> rw [e] <;> cases h b <;> cases k b <;> simp_all
theorem Heap.Disj.union_l {h k l : Heap} (d : (h.union k).Disj l) : h.Disj l := fun b => by
  rcases d b with e | e
  · exact .inl (Heap.union_none.1 e).1
  · exact .inr e
theorem Heap.Disj.union_r {h k l : Heap} (d : (h.union k).Disj l) : k.Disj l := fun b => by
  rcases d b with e | e
  · exact .inl (Heap.union_none.1 e).2
  · exact .inr e
theorem Heap.Disj.union_mk {h k l : Heap} (d : h.Disj l) (d' : k.Disj l) : (h.union k).Disj l := fun b => by
  rcases d b with e | e
  · rcases d' b with e' | e'
    · exact .inl (Heap.union_none.2 ⟨e, e'⟩)
    · exact .inr e'
  · exact .inr e
theorem Heap.emp_disj (h : Heap) : Heap.emp.Disj h := fun _ => .inl rfl
theorem Heap.In.union_l {h k : Heap} {w : World} (i : (h.union k).In w) : h.In w := fun b o e => i b o (Heap.union_left e)
theorem Heap.In.union_r {h k : Heap} {w : World} (i : (h.union k).In w) (d : h.Disj k) : k.In w := fun b o e => by
  refine i b o ?_
  rcases d b with e' | e'
  · rw [Heap.union_right e', e]
  · rw [e'] at e; cases e
theorem Heap.In.union_mk {h k : Heap} {w : World} (i : h.In w) (j : k.In w) : (h.union k).In w := fun b o e => by
  unfold Heap.union at e
  split at e
  · rename_i e'; rw [e] at e'; exact i b o e'
  · exact j b o e
theorem Heap.In.lt {h : Heap} {w : World} (i : h.In w) {b : Nat} (e : h b ≠ none) : b < w.heap.size := by
  cases e' : h b with
  | none => exact absurd e' e
  | some o => exact (Array.getElem?_eq_some_iff.1 (i b o e')).1

/-! ### 2. Assertions -/
abbrev Asn := Heap → Prop
/-- One block with just this in it. -/
def objA (b : Nat) (o : Obj) : Asn := fun h => h = Heap.one b o
/-- A variable or a row of cells. -/
abbrev cellsA (b : Nat) (t : TypeId) (cs : List Value) : Asn := objA b (.cells ⟨cs⟩ t (0, 0))
def Own : List Asn → Heap → Prop
  | [], h => h = Heap.emp
  | A :: M, h => ∃ h1 h2, A h1 ∧ Own M h2 ∧ h1.Disj h2 ∧ h = h1.union h2

theorem Own.append {L R : List Asn} : ∀ {h : Heap}, Own (L ++ R) h ↔ ∃ h1 h2, Own L h1 ∧ Own R h2 ∧ h1.Disj h2 ∧ h = h1.union h2 := by
  induction L with
  | nil =>
    intro h
    constructor
    · intro o; exact ⟨Heap.emp, h, rfl, o, Heap.emp_disj _, by funext b; rfl⟩
    · rintro ⟨h1, h2, rfl, o, _, rfl⟩
      have : Heap.union Heap.emp h2 = h2 := by funext b; rfl
      rw [this]; exact o
  | cons A L ih =>
    intro h
    constructor
    · rintro ⟨h1, h2, a, o, d, rfl⟩
      obtain ⟨k1, k2, o1, o2, d2, rfl⟩ := ih.1 o
      exact ⟨h1.union k1, k2, ⟨h1, k1, a, o1, d.symm.union_l.symm, rfl⟩, o2, Heap.Disj.union_mk d.symm.union_r.symm d2, by rw [Heap.union_assoc]⟩
    · rintro ⟨h1, h2, ⟨k1, k2, a, o1, d1, rfl⟩, o2, d, rfl⟩
      exact ⟨k1, k2.union h2, a, ih.2 ⟨k2, h2, o1, o2, d.union_r, rfl⟩, (Heap.Disj.union_mk d1.symm d.union_l.symm).symm, by rw [Heap.union_assoc]⟩

theorem Own.perm {L R : List Asn} (p : L.Perm R) : ∀ {h : Heap}, Own L h → Own R h := by
  induction p with
  | nil => exact fun o => o
  | cons A _ ih => rintro h ⟨h1, h2, a, o, d, rfl⟩; exact ⟨h1, h2, a, ih o, d, rfl⟩
  | swap A B L =>
    rintro h ⟨h1, h2, b, ⟨k1, k2, a, o, d, rfl⟩, e, rfl⟩
    have d12 : h1.Disj k1 := e.symm.union_l.symm
    have d1k : h1.Disj k2 := e.symm.union_r.symm
    refine ⟨k1, h1.union k2, a, ⟨h1, k2, b, o, d1k, rfl⟩, (Heap.Disj.union_mk d12 d.symm).symm, ?_⟩
    rw [← Heap.union_assoc, ← Heap.union_assoc, Heap.union_comm d12]
  | trans _ _ ih ih' => exact fun o => ih' (ih o)

/-! ### 3. What has turned since the entry -/
structure Since (w0 : World) (h0 S0 : Heap) (w : World) (h S : Heap) : Prop where
  size : w0.heap.size ≤ w.heap.size
  os : w.os = w0.os
  tape : w.tape = w0.tape
  output : w.output = w0.output
  le : S0.Le S
  old : ∀ b, b < w0.heap.size → h0 b = none → w.heap[b]? = w0.heap[b]? ∧ h b = none ∧ S b = S0 b
theorem Since.refl (w : World) (h S : Heap) : Since w h S w h S := ⟨Nat.le_refl _, rfl, rfl, rfl, Heap.Le.refl _, fun _ _ e => ⟨rfl, e, rfl⟩⟩
theorem Since.trans {w0 w1 w2 : World} {h0 h1 h2 S0 S1 S2 : Heap} (p : Since w0 h0 S0 w1 h1 S1) (q : Since w1 h1 S1 w2 h2 S2) : Since w0 h0 S0 w2 h2 S2 :=
  ⟨Nat.le_trans p.size q.size, q.os.trans p.os, q.tape.trans p.tape, q.output.trans p.output, p.le.trans q.le, fun b hb e => by
    obtain ⟨e1, e2, e3⟩ := p.old b hb e
    obtain ⟨f1, f2, f3⟩ := q.old b (Nat.lt_of_lt_of_le hb p.size) e2
    exact ⟨f1.trans e1, f2, f3.trans e3⟩⟩

structure StL (S : Heap) (M : List Asn) (h : Heap) (w : World) : Prop where
  own : Own M h
  dis : h.Disj S
  hin : h.In w
  sin : S.In w

/-- A function's entry: the program, the frame's size, the world and the heaps as they were. -/
structure Ctx where
  P : Program
  n : Nat
  w0 : World
  h0 : Heap
  S0 : Heap
  rd : Option Nat
def St (c : Ctx) (S : Heap) (M : List Asn) (w : World) : Prop := ∃ h, StL S M h w ∧ Since c.w0 c.h0 c.S0 w h S

theorem St.perm {c : Ctx} {S : Heap} {M N : List Asn} {w : World} (p : M.Perm N) : St c S M w → St c S N w := by
  rintro ⟨h, st, q⟩
  exact ⟨h, ⟨st.own.perm p, st.dis, st.hin, st.sin⟩, q⟩
theorem St.sin {c : Ctx} {S : Heap} {M : List Asn} {w : World} (h : St c S M w) : S.In w := by
  obtain ⟨_, st, _⟩ := h; exact st.sin
theorem St.le {c : Ctx} {S : Heap} {M : List Asn} {w : World} (h : St c S M w) : c.S0.Le S := by
  obtain ⟨_, _, q⟩ := h; exact q.le
/-- What is let go: nobody looks at it any more. -/
theorem St.drop {c : Ctx} {S : Heap} {A : Asn} {M : List Asn} {w : World} : St c S (A :: M) w → St c S M w := by
  rintro ⟨h, st, q⟩
  obtain ⟨h1, h2, _, o, d, rfl⟩ := st.own
  exact ⟨h2, ⟨o, st.dis.union_r, st.hin.union_r d, st.sin⟩, q.size, q.os, q.tape, q.output, q.le, fun b hb e =>
    let ⟨x, y, z⟩ := q.old b hb e; ⟨x, (Heap.union_none.1 y).2, z⟩⟩
/-- An own block is written no more: it becomes stable. -/
theorem St.freeze {c : Ctx} {S : Heap} {b : Nat} {o : Obj} {M : List Asn} {w : World} (h : St c S (objA b o :: M) w) :
    ∃ S', S.Le S' ∧ S' b = some o ∧ St c S' M w := by
  obtain ⟨h, st, q⟩ := h
  obtain ⟨h1, h2, rfl, o2, d, rfl⟩ := st.own
  have hb : S b = none := by
    rcases st.dis b with e | e
    · rw [Heap.union_left (Heap.one_self b o)] at e; cases e
    · exact e
  have hb2 : h2 b = none := by
    rcases d b with e | e
    · rw [Heap.one_self] at e; cases e
    · exact e
  have hle : S.Le (fun x => if x = b then some o else S x) := fun x y e => by
    by_cases hx : x = b
    · subst hx; rw [hb] at e; cases e
    · simp [hx, e]
  refine ⟨fun x => if x = b then some o else S x, hle, by simp, h2, ⟨o2, fun x => ?_, st.hin.union_r d, fun x y e => ?_⟩, q.size, q.os, q.tape, q.output, q.le.trans hle, fun x hx e => ?_⟩
  · by_cases hx : x = b
    · subst hx; exact .inl hb2
    · simp only [hx, if_false]; exact st.dis.union_r x
  · by_cases hx : x = b
    · subst hx; simp only [if_true, Option.some.injEq] at e; subst e; exact st.hin x o (Heap.union_left (Heap.one_self x o))
    · simp only [hx, if_false] at e; exact st.sin x y e
  · obtain ⟨u, v, z⟩ := q.old x hx e
    have hxb : x ≠ b := fun e' => by subst e'; rw [Heap.union_left (Heap.one_self x o)] at v; cases v
    exact ⟨u, (Heap.union_none.1 v).2, by simp only [hxb, if_false]; exact z⟩

/-! ### 4. Sparse frames -/
/-- The slots that are known, and the marks (Machine: '.collected') among the deferred calls. -/
structure Frm where
  l : List (Nat × Value)
  ds : List Nat
def getL : List (Nat × Value) → Nat → Option Value
  | [], _ => none
  | (k, v) :: r, t => match Nat.beq k t with | true => some v | false => getL r t
def get? (fr : Frm) (t : Nat) : Option Value := getL fr.l t
def marks (ds : List Nat) : List Deferred := ds.map fun D => { target := .collected D, args := #[] }
structure Rep (n : Nat) (a : Act) (fr : Frm) : Prop where
  size : a.tmps.size = n
  defers : a.defers = marks fr.ds
  slots : ∀ t v, get? fr t = some v → a.tmps[t]? = some v
def put (fr : Frm) : Option Tmp → Value → Frm
  | some d, v => ⟨(d, v) :: fr.l, fr.ds⟩
  | none, _ => fr
def dstOk (n : Nat) : Option Tmp → Bool
  | some d => Nat.blt d n
  | none => true
theorem Rep.put {n : Nat} {a : Act} {fr : Frm} (h : Rep n a fr) (d : Option Tmp) (v : Value) (hd : dstOk n d = true) : Rep n (a.put d v) (put fr d v) := by
  cases d with
  | none => exact h
  | some d =>
    have hd' : d < n := by simpa [dstOk, Nat.blt_eq] using hd
    refine ⟨by simp [Act.put, h.size], h.defers, fun t u e => ?_⟩
    simp only [Eng.put, get?, getL] at e
    cases hb : Nat.beq d t with
    | true =>
      rw [hb] at e
      have : d = t := Nat.eq_of_beq_eq_true hb
      subst this
      simp only [Option.some.injEq] at e
      subst e
      simp [Act.put, h.size, hd']
    | false =>
      rw [hb] at e
      have hne : d ≠ t := fun e' => by subst e'; simp [Nat.beq_refl] at hb
      simp only [Act.put, Array.getElem?_setIfInBounds_ne hne]
      exact h.slots t u e
def ev? (fr : Frm) : Operand → Option Value
  | .tmp t => get? fr t
  | .const v => some v
  | .global g => some (.pointer (some ⟨g, 0, none⟩))
  | .func f => some (.func (.func f) #[] #[])
theorem Rep.ev {n : Nat} {a : Act} {fr : Frm} (h : Rep n a fr) {x : Operand} {v : Value} (e : ev? fr x = some v) : a.eval x = v := by
  cases x with
  | tmp t => simp only [ev?] at e; simp [Act.eval, h.slots t v e]
  | _ => simp only [ev?, Option.some.injEq] at e; subst e; rfl
/-- The slots that are named, and no others. -/
def sameDs : List Nat → List Nat → Prop
  | [], [] => True
  | _, _ => False
def subL (fr : Frm) (ds : List Nat) : List (Nat × Value) → Prop
  | [] => sameDs fr.ds ds
  | (k, v) :: r => get? fr k = some v ∧ subL fr ds r
def sub (fr fs : Frm) : Prop := subL fr fs.ds fs.l
theorem subL.ds {fr : Frm} {ds : List Nat} : ∀ {l : List (Nat × Value)}, subL fr ds l → fr.ds = ds
  | [], h => by
    unfold subL at h
    cases e : fr.ds <;> cases ds <;> rw [e] at h <;> first | rfl | exact h.elim
  | _ :: _, h => subL.ds h.2
theorem subL.get {fr : Frm} {ds : List Nat} {l : List (Nat × Value)} (h : subL fr ds l) : ∀ {t : Nat} {v : Value}, getL l t = some v → get? fr t = some v := by
  induction l with
  | nil => intro t v e; cases e
  | cons p r ih =>
    obtain ⟨k, u⟩ := p
    intro t v e
    simp only [getL] at e
    cases hb : Nat.beq k t with
    | true =>
      rw [hb] at e
      have : k = t := Nat.eq_of_beq_eq_true hb
      subst this
      simp only [Option.some.injEq] at e
      subst e
      exact h.1
    | false => rw [hb] at e; exact ih h.2 e
theorem Rep.weak {n : Nat} {a : Act} {fr fs : Frm} (h : Rep n a fr) (k : sub fr fs) : Rep n a fs := ⟨h.size, by rw [h.defers, subL.ds k], fun t v e => h.slots t v (subL.get k e)⟩
def argL : Nat → List Value → List (Nat × Value)
  | _, [] => []
  | i, v :: r => (i, v) :: argL (i + 1) r
def argFr (i : Nat) (l : List Value) : Frm := ⟨argL i l, []⟩
theorem argFr_get : ∀ (l : List Value) (i t : Nat) (v : Value), getL (argL i l) t = some v → i ≤ t ∧ l[t - i]? = some v
  | [], _, _, _, e => by cases e
  | u :: r, i, t, v, e => by
    simp only [argL, getL] at e
    cases hb : Nat.beq i t with
    | true =>
      rw [hb] at e
      have : i = t := Nat.eq_of_beq_eq_true hb
      subst this
      simp only [Option.some.injEq] at e
      subst e
      simp
    | false =>
      rw [hb] at e
      obtain ⟨h1, h2⟩ := argFr_get r (i + 1) t v e
      have : t - i = (t - (i + 1)) + 1 := by omega
      exact ⟨by omega, by rw [this]; exact h2⟩

/-! ### 5. Code -/
abbrev Cont := Exit → Frm → Heap → List Asn → Prop
def lift (c : Ctx) (K : Cont) : Exit → Act → World → Prop := fun e a w => ∃ fr S M, Rep c.n a fr ∧ St c S M w ∧ K e fr S M
/-- The fence that asks nothing; in a round of a range over a function, that round's. -/
def fen (r : Option Nat) : Fence := { fn := fun _ => True, depth := none, alive := false, round := r }
theorem fen_room (r : Option Nat) (n : Nat) : (fen r).room n := fun _ h => by cases h
theorem fen_fenced (P : Program) (r : Option Nat) (m : Machine) : m.fenced P (fen r) := fenced_wide P m
theorem fen_calls {r : Option Nat} {n : Nat} {P : Program} {f : FuncId} {args : Array Value} {w : World} {R : Ending → World → Prop} : CallsIn (fen r) n P f args w R ↔ Calls P f args w R :=
  callsIn_wide (n := n)
def W (c : Ctx) (x : Code) (K : Cont) (fr : Frm) (S : Heap) (M : List Asn) : Prop := ∀ a w, Rep c.n a fr → St c S M w → x.wpIn (fen c.rd) 0 c.P (lift c K) a w
def WL (c : Ctx) (ops : List Oper) (l : List Oper) (K : Cont) (fr : Frm) (S : Heap) (M : List Asn) : Prop :=
  ∀ a w, Rep c.n a fr → St c S M w → wpListIn (fen c.rd) 0 c.P ops.toArray (lift c K) l a w
@[reducible] def seqK (c : Ctx) (y : Code) (K : Cont) : Cont := fun e fr S M => match e with
  | .normal => W c y K fr S M
  | e => K e fr S M
@[reducible] def blockK (id : Nat) (K : Cont) : Cont := fun e fr S M => match e with
  | .exit i => match Nat.beq i id with | true => K .normal fr S M | false => K (.exit i) fr S M
  | e => K e fr S M
section
variable {c : Ctx} {K : Cont} {fr : Frm} {S : Heap} {M : List Asn}
theorem W_seq {x y : Code} (h : W c x (seqK c y K) fr S M) : W c (.seq x y) K fr S M := fun a w hr hs =>
  wpIn_seq (wpIn_mono (h a w hr hs) fun e a w => by
    rintro ⟨fr, S, M, hr, hs, k⟩
    cases e <;> first | exact k a w hr hs | exact ⟨fr, S, M, hr, hs, k⟩)
theorem W_block {id : Nat} {x : Code} (h : W c x (blockK id K) fr S M) : W c (.block id x) K fr S M := fun a w hr hs =>
  wpIn_block (wpIn_mono (h a w hr hs) fun e a w => by
    rintro ⟨fr, S, M, hr, hs, k⟩
    cases e with
    | exit i =>
      simp only [Exit.inBlock]
      simp only [blockK] at k
      by_cases hi : i = id
      · subst hi
        rw [if_pos rfl]
        rw [show Nat.beq i i = true from Nat.beq_refl i] at k
        exact ⟨fr, S, M, hr, hs, k⟩
      · rw [if_neg hi]
        have : Nat.beq i id = false := by
          cases hb : Nat.beq i id with
          | true => exact absurd (Nat.eq_of_beq_eq_true hb) hi
          | false => rfl
        rw [this] at k
        exact ⟨fr, S, M, hr, hs, k⟩
    | _ => exact ⟨fr, S, M, hr, hs, k⟩)
theorem W_skip (h : K .normal fr S M) : W c .skip K fr S M := fun a w hr hs => wpIn_skip ⟨fr, S, M, hr, hs, h⟩
theorem W_exit {id : Nat} (h : K (.exit id) fr S M) : W c (.exit id) K fr S M := fun a w hr hs => wpIn_exit ⟨fr, S, M, hr, hs, h⟩
theorem W_ret (h : K .ret fr S M) : W c .ret K fr S M := fun a w hr hs => wpIn_ret ⟨fr, S, M, hr, hs, h⟩
theorem W_cond {x : Operand} {p q : Code} {b : Bool} (e : ev? fr x = some (.bool b)) (ht : b = true → W c p K fr S M) (hf : b = false → W c q K fr S M) : W c (.cond x p q) K fr S M := fun a w hr hs =>
  wpIn_cond_split (hr.ev e) (fun hb => ht hb a w hr hs) (fun hb => hf hb a w hr hs)
theorem W_condT {x : Operand} {p q : Code} (e : ev? fr x = some (.bool true)) (ht : W c p K fr S M) : W c (.cond x p q) K fr S M := fun a w hr hs =>
  wpIn_cond_true (hr.ev e) (ht a w hr hs)
theorem W_condF {x : Operand} {p q : Code} (e : ev? fr x = some (.bool false)) (hf : W c q K fr S M) : W c (.cond x p q) K fr S M := fun a w hr hs =>
  wpIn_cond_false (hr.ev e) (hf a w hr hs)
theorem W_weak {x : Code} (fs : List (Nat × Value)) (hf : sub fr ⟨fs, []⟩) (h : W c x K ⟨fs, []⟩ S M) : W c x K fr S M := fun a w hr hs => h a w (hr.weak hf) hs
theorem W_perm {x : Code} (N : List Asn) (p : M.Perm N) (h : W c x K fr S N) : W c x K fr S M := fun a w hr hs => h a w hr (hs.perm p)
theorem W_drop {x : Code} {A : Asn} (h : W c x K fr S M) : W c x K fr S (A :: M) := fun a w hr hs => h a w hr hs.drop
theorem W_freeze {x : Code} {b : Nat} {o : Obj} (h : ∀ S', S.Le S' → S' b = some o → W c x K fr S' M) : W c x K fr S (objA b o :: M) := fun a w hr hs =>
  let ⟨S', h1, h2, hs'⟩ := hs.freeze; h S' h1 h2 a w hr hs'
/-- A loop. σ: what the rounds hang on; F: the slots at a round's head. -/
theorem W_loop {x : Code} (σ : Type) (F : σ → List (Nat × Value)) (H : σ → Heap → Prop) (N : σ → List Asn) (μ : σ → Nat) (s0 : σ) (h0 : sub fr ⟨F s0, []⟩) (h1 : H s0 S) (h2 : M = N s0)
    (round : ∀ s T, S.Le T → H s T → W c x (fun e fr' T' M' => match e with
      | .normal => ∃ s', sub fr' ⟨F s', []⟩ ∧ T.Le T' ∧ H s' T' ∧ M' = N s' ∧ μ s' < μ s
      | e => K e fr' T' M') ⟨F s, []⟩ T (N s)) : W c (.loop x) K fr S M := fun a w hr hs => by
  intro b k cs hro hb hroom
  have key : ∀ n, ∀ a w s T, μ s = n → Rep c.n a ⟨F s, []⟩ → S.Le T → H s T → St c T (N s) w →
      ∃ e a' w', lift c K e a' w' ∧ ArrivesIn (Machine.fenced c.P (fen c.rd)) c.P (lone (b.atR a (.code x :: .inLoop x :: k)) cs w) b k cs e a' w' := by
    intro n
    induction n using Nat.strongRecOn with
    | _ n ih =>
      intro a w s T hn hr hle hH hs
      obtain ⟨e, a1, w1, hq, harr⟩ := round s T hle hH a w hr hs b (.inLoop x :: k) cs hro hb hroom
      obtain ⟨fr', T', M', hr', hs', hk⟩ := hq
      cases e with
      | normal =>
        obtain ⟨s', g1, g2, g3, rfl, g5⟩ := hk
        obtain ⟨e2, a2, w2, hq2, harr2⟩ := ih (μ s') (hn ▸ g5) a1 w1 s' T' rfl (hr'.weak g1) (hle.trans g2) g3 hs'
        exact ⟨e2, a2, w2, hq2, .of_steps (StepsIn.trans harr (.one (fenced_calm hb hroom rfl) stepR_inLoop)) harr2⟩
      | exit id => exact ⟨_, a1, w1, ⟨fr', T', M', hr', hs', hk⟩, .pass (x := .inLoop x) rfl (fun _ _ => .inl (by simp)) harr⟩
      | goto l => exact ⟨_, a1, w1, ⟨fr', T', M', hr', hs', hk⟩, .pass (x := .inLoop x) rfl (fun _ _ => .inl (by simp)) harr⟩
      | ret => exact ⟨_, a1, w1, ⟨fr', T', M', hr', hs', hk⟩, .pass (x := .inLoop x) rfl (fun _ _ => .inl (by simp)) harr⟩
      | panic ch => exact ⟨_, a1, w1, ⟨fr', T', M', hr', hs', hk⟩, .pass (x := .inLoop x) rfl (fun _ _ => .inl (by simp)) harr⟩
      | outgrown => exact ⟨_, a1, w1, ⟨fr', T', M', hr', hs', hk⟩, .pass (x := .inLoop x) rfl (fun _ _ => .inl (by simp)) harr⟩
  subst h2
  obtain ⟨e, a', w', hq, harr⟩ := key _ a w s0 S rfl (hr.weak h0) (Heap.Le.refl _) h1 hs
  exact ⟨e, a', w', hq, .of_steps (.one (fenced_calm hb hroom rfl) stepR_loop) harr⟩
end
end Go.Proofs.YtmiefhokjeofcaaDoor.Eng
