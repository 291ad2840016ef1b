/- DERIVED. The engine, second part: the table of types, contracts of functions, what an operation without memory gives. Conditions: none. -/
import Derived.Test.YtmiefhokjeofcaaDoorEng0
set_option linter.unusedVariables false
set_option linter.unusedSimpArgs false
namespace Go.Proofs.YtmiefhokjeofcaaDoor.Eng
open Go

/-! ### 1. The table of types -/
structure TI where
  desc : TypeDesc
  size : Nat
  bytes : Nat
  zero : Value
  zcs : List Value
abbrev Tab := List (Nat × TI)
def tget : Tab → Nat → Option TI
  | [], _ => none
  | (k, v) :: r, t => match Nat.beq k t with | true => some v | false => tget r t
def TabOk (P : Program) (tab : Tab) : Prop :=
  tab.map (fun p => (P.underlying p.1, (P.info? p.1).map fun x => (x.size, x.bytes, x.zero, x.zero.map fun z => z.cells.toList))) = tab.map fun p => (some p.2.desc, some (p.2.size, p.2.bytes, some p.2.zero, some p.2.zcs))
theorem tget_mem : ∀ (tab : Tab) (t : Nat) (i : TI), tget tab t = some i → (t, i) ∈ tab
  | [], _, _, e => by cases e
  | (k, v) :: r, t, i, e => by
    simp only [tget] at e
    cases hb : Nat.beq k t with
    | true =>
      rw [hb] at e
      have : k = t := Nat.eq_of_beq_eq_true hb
      subst this
      simp only [Option.some.injEq] at e
      subst e
      exact List.mem_cons_self
    | false => rw [hb] at e; exact List.mem_cons_of_mem _ (tget_mem r t i e)
theorem map_eq_mem {α β : Type} {f g : α → β} : ∀ {l : List α}, l.map f = l.map g → ∀ x ∈ l, f x = g x
  | [], _, x, hx => by cases hx
  | y :: l, h, x, hx => by
    simp only [List.map_cons, List.cons.injEq] at h
    rcases List.mem_cons.1 hx with e | e
    · subst e; exact h.1
    · exact map_eq_mem h.2 x e
theorem TabOk.get {P : Program} {tab : Tab} (h : TabOk P tab) {t : Nat} {i : TI} (e : tget tab t = some i) :
    P.underlying t = some i.desc ∧ ∃ x, P.info? t = some x ∧ x.size = i.size ∧ x.bytes = i.bytes ∧ x.zero = some i.zero ∧ i.zero.cells = ⟨i.zcs⟩ := by
  have hm := map_eq_mem h _ (tget_mem tab t i e)
  simp only [Prod.mk.injEq] at hm
  obtain ⟨h1, h2⟩ := hm
  obtain ⟨x, hx, hy⟩ := Option.map_eq_some_iff.1 h2
  simp only [Prod.mk.injEq] at hy
  obtain ⟨y1, y2, y3, y4⟩ := hy
  refine ⟨h1, x, hx, y1, y2, y3, ?_⟩
  rw [y3] at y4
  simp only [Option.map_some, Option.some.injEq] at y4
  apply Array.ext'
  simpa using y4

/-- A program and what is known of its types. -/
structure Pg where
  P : Program
  tab : Tab
  ok : TabOk P tab
section
variable {g : Pg}
theorem Pg.und {t : Nat} {i : TI} (e : tget g.tab t = some i) (w : World) : (underlying t).run g.P w = .ok i.desc w := by
  have := (g.ok.get e).1
  simp [underlying, program, Sem.run, bind, Sem.bind, this, pure]
theorem Pg.tinfo {t : Nat} {i : TI} (e : tget g.tab t = some i) : ∃ x, (∀ w, (typeInfo t).run g.P w = .ok x w) ∧ x.size = i.size ∧ x.bytes = i.bytes ∧ x.zero = some i.zero ∧ i.zero.cells = ⟨i.zcs⟩ := by
  obtain ⟨x, hx, h⟩ := (g.ok.get e).2
  exact ⟨x, fun w => by simp [typeInfo, program, Sem.run, bind, Sem.bind, hx, pure], h⟩
theorem Pg.szOf {t : Nat} {i : TI} (e : tget g.tab t = some i) (w : World) : (sizeOf t).run g.P w = .ok i.size w := by
  obtain ⟨x, hx, h, _⟩ := Pg.tinfo e
  simp [Go.sizeOf, hx w, h]
theorem Pg.zero {t : Nat} {i : TI} (e : tget g.tab t = some i) (w : World) : (zeroValue t).run g.P w = .ok i.zero w := by
  obtain ⟨x, hx, _, _, h, _⟩ := Pg.tinfo e
  simp [zeroValue, hx w, h]
theorem Pg.zcells {t : Nat} {i : TI} (e : tget g.tab t = some i) : i.zero.cells = ⟨i.zcs⟩ := by
  obtain ⟨x, hx, _, _, _, h⟩ := Pg.tinfo e
  exact h
def TI.agg (i : TI) : Bool := match i.desc with
  | .struct _ | .array _ _ => true
  | _ => false
theorem Pg.isAg {t : Nat} {i : TI} (e : tget g.tab t = some i) (w : World) : (isAgg t).run g.P w = .ok i.agg w := by
  simp only [isAgg, Sem.run_bind, Pg.und e w, Result.andThen_ok, TI.agg]
  cases i.desc <;> rfl
end

/-! ### 2. Contracts -/
def ctx (g : Pg) (n : Nat) (w0 : World) (h0 S0 : Heap) (rd : Option Nat) : Ctx := ⟨g.P, n, w0, h0, S0, rd⟩
abbrev PostT := Value → Heap → List Asn → Prop
def Fn (g : Pg) (f : FuncId) (args : List Value) (S : Heap) (M : List Asn) (Post : PostT) : Prop :=
  ((∀ as w, (callFunc f as).run g.P w = .ok (.enter f as) w) ∧
  ∀ w h, StL S M h w → Calls g.P f ⟨args⟩ w fun e w' => ∃ v S' M', e = .returned v ∧ Post v S' M' ∧ St ⟨g.P, 0, w, h, S, none⟩ S' M' w') ∨
  ∀ w h, StL S M h w → ∃ v S' M' w', (callFunc f ⟨args⟩).run g.P w = .ok (.value v) w' ∧ Post v S' M' ∧ St ⟨g.P, 0, w, h, S, none⟩ S' M' w'
def Res (c : Ctx) (rs : Array ResultVar) (fr : Frm) (S : Heap) (M : List Asn) (v : Value) : Prop :=
  fr.ds = [] ∧ ∀ (fn : Func) a w, fn.results = rs → Rep c.n a fr → St c S M w → (results fn a.tmps).run c.P w = .ok v w
def retK (c : Ctx) (rs : Array ResultVar) (Post : PostT) : Cont := fun e fr S M =>
  (e = .normal ∨ e = .ret) ∧ ∃ v, Res c rs fr S M v ∧ Post v S M
theorem St.toFn {g : Pg} {n : Nat} {w0 : World} {h0 S0 : Heap} {rd : Option Nat} {S : Heap} {M : List Asn} {w : World} (h : St ⟨g.P, n, w0, h0, S0, rd⟩ S M w) : St ⟨g.P, 0, w0, h0, S0, none⟩ S M w := h
theorem argFr_rep {args : List Value} {n : Nat} (hn : args.length ≤ n) :
    Rep n { tmps := (⟨args⟩ : Array Value) ++ Array.replicate (n - (⟨args⟩ : Array Value).size) undef, defers := [] } (argFr 0 args) := by
  refine ⟨by simp; omega, rfl, fun t v e => ?_⟩
  obtain ⟨_, h⟩ := argFr_get args 0 t v e
  rw [Nat.sub_zero] at h
  have hlt := (List.getElem?_eq_some_iff.1 h).1
  rw [Array.getElem?_append_left (by simpa using hlt)]
  simpa using h
theorem Fn_of {g : Pg} {f : FuncId} {fn : Func} {x : Code} {n : Nat} {rs : Array ResultVar} {args : List Value} {S : Heap} {M : List Asn} {Post : PostT}
    (hf : g.P.funcs[f]? = some fn) (hb : fn.body = some x) (hn : fn.ntmps = n) (hr : fn.results = rs) (hc : ∀ as w, (callFunc f as).run g.P w = .ok (.enter f as) w) (hl : Nat.ble args.length n = true)
    (h : ∀ w0 h0, W (ctx g n w0 h0 S none) x (retK (ctx g n w0 h0 S none) rs Post) (argFr 0 args) S M) : Fn g f args S M Post := by
  refine .inl ⟨hc, fun w hp st => calls_of_wp hf hb ?_⟩
  rw [hn]
  refine wp_mono ((wpIn_wide (n := 0)).1 (h w hp _ w (argFr_rep (Nat.le_of_ble_eq_true hl)) ⟨hp, st, Since.refl _ _ _⟩)) ?_
  rintro e a w' ⟨fr, S', M', hrep, hst, he, v, hres, hpost⟩
  have hv := hres.2 fn a w' hr hrep hst
  have hdf : a.defers = [] := by rw [hrep.defers, hres.1]; rfl
  rcases he with rfl | rfl <;> exact ⟨hdf, v, hv, v, S', M', rfl, hpost, hst⟩
theorem Fn.mono {g : Pg} {f : FuncId} {args : List Value} {S : Heap} {M : List Asn} {Post Post' : PostT} (h : Fn g f args S M Post) (k : ∀ v S' M', S.Le S' → Post v S' M' → Post' v S' M') : Fn g f args S M Post' :=
  match h with
  | .inl h => .inl ⟨h.1, fun w hp st => (h.2 w hp st).mono fun e w' ⟨v, S', M', he, hp, hs⟩ => ⟨v, S', M', he, k v S' M' hs.le hp, hs⟩⟩
  | .inr h => .inr fun w hp st => let ⟨v, S', M', w', he, hp, hs⟩ := h w hp st; ⟨v, S', M', w', he, k v S' M' hs.le hp, hs⟩

section
variable {c : Ctx} {rs : Array ResultVar} {fr : Frm} {S : Heap} {M : List Asn}
theorem Res_0 (hm : fr.ds = [] := by rfl) : Res c #[] fr S M (.tuple #[]) := ⟨hm, fun fn a w h hr hs => results_none h _ _ _⟩
theorem Res_1 {t : Nat} {v : Value} (e : get? fr t = some v) (hm : fr.ds = [] := by rfl) : Res c #[.tmp t] fr S M v := ⟨hm, fun fn a w h hr hs => by
  rw [results_tmp h]; simp [hr.slots t v e]⟩
theorem Res_2 {t u : Nat} {v x : Value} (e : get? fr t = some v) (e' : get? fr u = some x) (hm : fr.ds = [] := by rfl) : Res c #[.tmp t, .tmp u] fr S M (.tuple #[v, x]) := ⟨hm, fun fn a w h hr hs => by
  rw [results_tmp2 h]; simp [hr.slots t v e, hr.slots u x e']⟩
theorem Res_3 {t u s : Nat} {v x y : Value} (e : get? fr t = some v) (e' : get? fr u = some x) (e'' : get? fr s = some y) (hm : fr.ds = [] := by rfl) : Res c #[.tmp t, .tmp u, .tmp s] fr S M (.tuple #[v, x, y]) := ⟨hm, fun fn a w h hr hs => by
  rw [results_tmp3 h]; simp [hr.slots t v e, hr.slots u x e', hr.slots s y e'']⟩
theorem Res_4 {t u s q : Nat} {v x y z : Value} (e : get? fr t = some v) (e' : get? fr u = some x) (e'' : get? fr s = some y) (e3 : get? fr q = some z) (hm : fr.ds = [] := by rfl) : Res c #[.tmp t, .tmp u, .tmp s, .tmp q] fr S M (.tuple #[v, x, y, z]) := ⟨hm, fun fn a w h hr hs => by
  simp [results, h, hr.slots t v e, hr.slots u x e', hr.slots s y e'', hr.slots q z e3]⟩
theorem ret_of {g : Pg} {Post : PostT} {e : Exit} {v : Value} (he : e = .normal ∨ e = .ret) (hr : Res c rs fr S M v) (hp : Post v S M) : retK c rs Post e fr S M := ⟨he, v, hr, hp⟩
end

/-! ### 3. Steps through a region -/
def wantedF (ops : List Oper) (fr : Frm) (o : Oper) : Option Bool :=
  match o.guard with
  | none => some true
  | some (j, want) => match ops[j]? with
    | none => none
    | some p => match p.dst with
      | none => none
      | some d => match get? fr d with
        | some (.bool b) => some (b == want)
        | some (.tuple _) => some false
        | _ => none
section
variable {c : Ctx} {ops : List Oper} {K : Cont} {fr : Frm} {S : Heap} {M : List Asn} {rest : List Oper} {o : Oper}
theorem wantedF_ok {n : Nat} {a : Act} (hr : Rep n a fr) {b : Bool} (h : wantedF ops fr o = some b) : Region.wanted o (yielded ops.toArray a.tmps) = b := by
  unfold wantedF at h
  unfold Region.wanted
  cases hg : o.guard with
  | none => rw [hg] at h; simpa using h
  | some p =>
    obtain ⟨j, want⟩ := p
    rw [hg] at h
    simp only at h ⊢
    unfold yielded
    cases hj : ops[j]? with
    | none => rw [hj] at h; cases h
    | some q =>
      rw [hj] at h
      simp only at h
      cases hd : q.dst with
      | none => rw [hd] at h; cases h
      | some d =>
        rw [hd] at h
        simp only at h
        have hj' : ops.toArray[j]? = some q := by simpa using hj
        rw [hj']
        simp only [Option.bind_some, hd]
        cases hv : get? fr d with
        | none => rw [hv] at h; cases h
        | some v =>
          rw [hv] at h
          rw [hr.slots d v hv]
          cases v <;> simp only [reduceCtorEq, Option.some.injEq] at h
          · rename_i x
            subst h
            cases x <;> cases want <;> rfl
          · subst h
            rfl
theorem W_region {id : Nat} {arr : Array Oper} (h : WL c arr.toList arr.toList K fr S M) : W c (.region id arr false) K fr S M := fun a w hr hs =>
  wpIn_region_list (by simpa using h a w hr hs)
theorem WL_nil (h : K .normal fr S M) : WL c ops [] K fr S M := fun a w hr hs => ⟨fr, S, M, hr, hs, h⟩
/-- What an operation that is no defer leaves. -/
def Ups (P : Program) (r : Option Nat) (o : Oper) (a : Act) (next : Act → World → Prop) : Result Next → Prop
  | .ok (.value v) w' => next (a.put o.dst v) w'
  | .ok .skip w' => next (a.put o.dst undef) w'
  | .ok (.enter f args) w' => Calls P f args w' fun e w'' => ∃ v, e = .returned v ∧ next (a.put o.dst v) w''
  | .ok (.round l f tmps assign body) w' => RoundIn (fen r) 0 P l f tmps assign body w' fun e w'' => ∃ v, e = .returned v ∧ next (a.put o.dst v) w''
  | _ => False
theorem Ups.notDefer {P : Program} {r : Option Nat} {o : Oper} {a : Act} {next : Act → World → Prop} {w : World} (h : Ups P r o a next ((execOp a.eval o).run P w)) : ∀ d, o.op ≠ .defer d := by
  intro d e
  rw [show execOp a.eval o = (do pure (.defer (← resolve a.eval d o.type))) by unfold execOp; rw [e]] at h
  rw [Sem.run_bind] at h
  cases hr : (resolve a.eval d o.type).run P w with
  | ok x w' => rw [hr] at h; exact h
  | halt x w' => rw [hr] at h; exact h
theorem Ups.wpIn {P : Program} {r : Option Nat} {o : Oper} {a : Act} {next : Act → World → Prop} {Q : Exit → Act → World → Prop} {w : World} (h : Ups P r o a next ((execOp a.eval o).run P w)) : o.wpIn (fen r) 0 P a w next Q := by
  refine ⟨fun f _ => trivial, ?_⟩
  rw [Oper.semAt_eq _ _ _ h.notDefer]
  revert h
  cases (execOp a.eval o).run P w with
  | halt x w' => intro h; exact h.elim
  | ok x w' =>
    intro h
    cases x with
    | value v => exact h
    | skip => exact h
    | enter f args => exact ⟨(fun h => by cases h), fen_calls.2 (h.mono fun e w'' ⟨v, he, hk⟩ => by subst he; exact hk)⟩
    | round l f tmps assign body => exact ⟨(fun h => by cases h), h.mono fun e w'' ⟨v, he, hk⟩ => by subst he; exact hk⟩
    | _ => exact h.elim
theorem WL_gen (hw : wantedF ops fr o = some true)
    (h : ∀ a w, Rep c.n a fr → St c S M w → Ups c.P c.rd o a (wpListIn (fen c.rd) 0 c.P ops.toArray (lift c K) rest) ((execOp a.eval o).run c.P w)) : WL c ops (o :: rest) K fr S M := fun a w hr hs => by
  unfold wpListIn
  rw [if_pos (wantedF_ok hr hw)]
  exact (h a w hr hs).wpIn
theorem WL_skip (hw : wantedF ops fr o = some false) (hd : dstOk c.n o.dst = true) (h : WL c ops rest K (put fr o.dst undef) S M) : WL c ops (o :: rest) K fr S M := fun a w hr hs => by
  unfold wpListIn
  rw [if_neg (by rw [wantedF_ok hr hw]; simp)]
  exact ⟨fun f _ => trivial, h _ _ (hr.put _ _ hd) hs⟩
/-- An operation that gives a value and leaves the world. -/
theorem WL_val {v : Value} (hw : wantedF ops fr o = some true) (hd : dstOk c.n o.dst = true)
    (hrun : ∀ a w, Rep c.n a fr → St c S M w → (execOp a.eval o).run c.P w = .ok (.value v) w) (h : WL c ops rest K (put fr o.dst v) S M) : WL c ops (o :: rest) K fr S M :=
  WL_gen hw fun a w hr hs => by
    rw [hrun a w hr hs]
    exact h _ _ (hr.put _ _ hd) hs
/-- An operation that gives a value and turns the world. -/
theorem WL_put {v : Value} {S' : Heap} {M' : List Asn} (hw : wantedF ops fr o = some true) (hd : dstOk c.n o.dst = true)
    (hrun : ∀ a w, Rep c.n a fr → St c S M w → ∃ w', (execOp a.eval o).run c.P w = .ok (.value v) w' ∧ St c S' M' w') (h : WL c ops rest K (put fr o.dst v) S' M') : WL c ops (o :: rest) K fr S M :=
  WL_gen hw fun a w hr hs => by
    obtain ⟨w', e, hs'⟩ := hrun a w hr hs
    rw [e]
    exact h _ _ (hr.put _ _ hd) hs'
theorem WL_unit {S' : Heap} {M' : List Asn} (hw : wantedF ops fr o = some true) (hd : dstOk c.n o.dst = true)
    (hrun : ∀ a w, Rep c.n a fr → St c S M w → ∃ w', (execOp a.eval o).run c.P w = .ok .skip w' ∧ St c S' M' w') (h : WL c ops rest K (put fr o.dst undef) S' M') : WL c ops (o :: rest) K fr S M :=
  WL_gen hw fun a w hr hs => by
    obtain ⟨w', e, hs'⟩ := hrun a w hr hs
    rw [e]
    exact h _ _ (hr.put _ _ hd) hs'
theorem WL_perm (N : List Asn) (p : M.Perm N) (h : WL c ops rest K fr S N) : WL c ops rest K fr S M := fun a w hr hs => h a w hr (hs.perm p)
theorem WL_drop {A : Asn} (h : WL c ops rest K fr S M) : WL c ops rest K fr S (A :: M) := fun a w hr hs => h a w hr hs.drop
theorem WL_freeze {b : Nat} {o : Obj} (h : ∀ S', S.Le S' → S' b = some o → WL c ops rest K fr S' M) : WL c ops rest K fr S (objA b o :: M) := fun a w hr hs =>
  let ⟨S', h1, h2, hs'⟩ := hs.freeze; h S' h1 h2 a w hr hs'
end

/-! ### 4. A call -/
def evs? (fr : Frm) : List Operand → Option (List Value)
  | [] => some []
  | x :: r => match ev? fr x with
    | some v => match evs? fr r with
      | some l => some (v :: l)
      | none => none
    | none => none
theorem Rep.evs {n : Nat} {a : Act} {fr : Frm} (h : Rep n a fr) : ∀ {l : List Operand} {vs : List Value}, evs? fr l = some vs → l.map a.eval = vs
  | [], vs, e => by simp only [evs?, Option.some.injEq] at e; subst e; rfl
  | x :: r, vs, e => by
    simp only [evs?] at e
    cases h1 : ev? fr x with
    | none => rw [h1] at e; cases e
    | some v =>
      cases h2 : evs? fr r with
      | none => rw [h1, h2] at e; cases e
      | some l =>
        rw [h1, h2] at e
        simp only [Option.some.injEq] at e
        subst e
        simp only [List.map_cons, h.ev h1, h.evs h2]
theorem St.call {g : Pg} {n : Nat} {w0 : World} {h0 S0 : Heap} {rd : Option Nat} {S S' : Heap} {L L' R : List Asn} {w w' : World} {h hL : Heap} (o : Own (L ++ R) h) (st : StL S (L ++ R) h w) (q : Since w0 h0 S0 w h S)
    (oL : ∃ hR, Own R hR ∧ Own L hL ∧ hL.Disj hR ∧ h = hL.union hR) (k : St ⟨g.P, 0, w, hL, S, none⟩ S' L' w') : St ⟨g.P, n, w0, h0, S0, rd⟩ S' (L' ++ R) w' := by
  obtain ⟨hR, oR, oLL, d, rfl⟩ := oL
  obtain ⟨h', st', q'⟩ := k
  have hRlt : ∀ b, hR b ≠ none → b < w.heap.size := fun b e => (st.hin.union_r d).lt e
  have hRn : ∀ b, hR b ≠ none → hL b = none := fun b e => (d b).resolve_right e
  have old : ∀ b, hR b ≠ none → w'.heap[b]? = w.heap[b]? ∧ h' b = none ∧ S' b = S b := fun b e => q'.old b (hRlt b e) (hRn b e)
  have dR : h'.Disj hR := fun b => by
    by_cases e : hR b = none
    · exact .inr e
    · exact .inl (old b e).2.1
  have dS : hR.Disj S' := fun b => by
    by_cases e : hR b = none
    · exact .inl e
    · refine .inr ?_
      rw [(old b e).2.2]
      rcases st.dis b with e' | e'
      · exact absurd (Heap.union_none.1 e').2 e
      · exact e'
  refine ⟨h'.union hR, ⟨Own.append.2 ⟨h', hR, st'.own, oR, dR, rfl⟩, Heap.Disj.union_mk st'.dis dS, Heap.In.union_mk st'.hin fun b x e => ?_, st'.sin⟩, ?_⟩
  · rw [(old b (by rw [e]; simp)).1]; exact (st.hin.union_r d) b x e
  · refine ⟨Nat.le_trans q.size q'.size, q'.os.trans q.os, q'.tape.trans q.tape, q'.output.trans q.output, q.le.trans q'.le, fun b hb e => ?_⟩
    obtain ⟨u, v, z⟩ := q.old b hb e
    obtain ⟨v1, v2⟩ := Heap.union_none.1 v
    obtain ⟨u', v', z'⟩ := q'.old b (Nat.lt_of_lt_of_le hb q.size) v1
    exact ⟨u'.trans u, Heap.union_none.2 ⟨v', v2⟩, z'.trans z⟩
section
variable {g : Pg} {n : Nat} {w0 : World} {h0 S0 : Heap} {rd : Option Nat} {ops : List Oper} {K : Cont} {fr : Frm} {S : Heap} {rest : List Oper} {dst : Option Tmp} {ty : TypeId} {pos : String} {after : Array Edge} {gd : Option (Nat × Bool)}
theorem WL_call {x : Operand} {as : List Operand} {ts : Array TypeId} {f : FuncId} {first captured : Array Value} {vs args : List Value} {L R : List Asn} {Post : PostT}
    (hw : wantedF ops fr ⟨dst, .call ⟨.value x, ⟨as⟩, ts⟩, ty, pos, after, gd⟩ = some true) (hd : dstOk n dst = true)
    (hx : ev? fr x = some (.func (.func f) first captured)) (ha : evs? fr as = some vs) (hargs : args = first.toList ++ vs ++ captured.toList)
    (hf : Fn g f args S L Post)
    (h : ∀ v S' L', S.Le S' → Post v S' L' → WL (ctx g n w0 h0 S0 rd) ops rest K (put fr dst v) S' (L' ++ R)) :
    WL (ctx g n w0 h0 S0 rd) ops (⟨dst, .call ⟨.value x, ⟨as⟩, ts⟩, ty, pos, after, gd⟩ :: rest) K fr S (L ++ R) :=
  WL_gen hw fun a w hr hs => by
    have e1 : a.eval x = .func (.func f) first captured := hr.ev hx
    have e2 : (⟨as⟩ : Array Operand).map a.eval = ⟨vs⟩ := by
      have := hr.evs ha
      simpa using this
    have e3 : first ++ (⟨vs⟩ : Array Value) ++ captured = ⟨args⟩ := by
      subst hargs
      apply Array.ext'
      simp
    have hrun : (execOp a.eval ⟨dst, .call ⟨.value x, ⟨as⟩, ts⟩, ty, pos, after, gd⟩).run g.P w = (callFunc f ⟨args⟩).run g.P w := by
      simp only [execOp, resolve, e1, e2, Deferred.ofValue, Sem.run_bind, Sem.run_pure, Result.andThen_ok, invoke]
      rw [e3]
    rw [show (ctx g n w0 h0 S0 rd).P = g.P from rfl, hrun]
    obtain ⟨hp, st, q⟩ := hs
    obtain ⟨hL, hR, oL, oR, d, rfl⟩ := Own.append.1 st.own
    rcases hf with hf | hf
    · rw [hf.1]
      refine (hf.2 w hL ⟨oL, st.dis.union_l, st.hin.union_l, st.sin⟩).mono ?_
      rintro e w' ⟨v, S', L', rfl, hp, hs'⟩
      refine ⟨v, rfl, ?_⟩
      exact h v S' L' hs'.le hp _ _ (hr.put _ _ hd) (St.call st.own st q ⟨hR, oR, oL, d, rfl⟩ hs')
    · obtain ⟨v, S', L', w', e, hp, hs'⟩ := hf w hL ⟨oL, st.dis.union_l, st.hin.union_l, st.sin⟩
      rw [e]
      exact h v S' L' hs'.le hp _ _ (hr.put _ _ hd) (St.call st.own st q ⟨hR, oR, oL, d, rfl⟩ hs')
end
end Go.Proofs.YtmiefhokjeofcaaDoor.Eng
