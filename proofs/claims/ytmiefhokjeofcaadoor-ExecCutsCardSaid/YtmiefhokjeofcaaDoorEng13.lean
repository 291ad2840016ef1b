/- DERIVED. The engine, fourteenth part: ranges over functions: the yield, the round, the statement, the way out. Conditions: none. -/
import Derived.Test.YtmiefhokjeofcaaDoorEng12
import Derived.RangeFuncIn
import Derived.RangeFuncLeaves
import Derived.RangeFuncNested
set_option linter.unusedVariables false
set_option linter.unusedSimpArgs false
namespace Go.Proofs.YtmiefhokjeofcaaDoor.Eng
open Go

/-- What a call of yield gives: the round's answer. -/
def Yl (g : Pg) (l : Nat) (args : List Value) (S : Heap) (M : List Asn) (Post : Bool → Heap → List Asn → Prop) : Prop :=
  ∀ w h, StL S M h w → ∃ f tmps assign body, (Instr.yield l ⟨args⟩).run g.P w = .ok (.round l f tmps assign body) w ∧
    RoundIn (fen none) 0 g.P l f tmps assign body w fun e w' => ∃ b S' M', e = .returned (.bool b) ∧ Post b S' M' ∧ St ⟨g.P, 0, w, h, S, none⟩ S' M' w'
theorem Yl.mono {g : Pg} {l : Nat} {args : List Value} {S : Heap} {M : List Asn} {Post Post' : Bool → Heap → List Asn → Prop} (h : Yl g l args S M Post) (k : ∀ b S' M', Post b S' M' → Post' b S' M') : Yl g l args S M Post' := fun w hh st =>
  let ⟨f, tmps, assign, body, h1, h2⟩ := h w hh st
  ⟨f, tmps, assign, body, h1, h2.mono fun e w' ⟨b, S', M', he, hp, hs⟩ => ⟨b, S', M', he, k b S' M' hp, hs⟩⟩
theorem roundIn_fen {r : Option Nat} {n : Nat} {P : Program} {l : Nat} {f : FuncId} {tmps : Array Value} {assign body : Code} {w : World} {R : Ending → World → Prop} (h : RoundIn (fen none) n P l f tmps assign body w R) : RoundIn (fen r) n P l f tmps assign body w R := h
section
variable {g : Pg} {n : Nat} {w0 : World} {h0 S0 : Heap} {rd : Option Nat} {ops : List Oper} {K : Cont} {fr : Frm} {S : Heap} {rest : List Oper} {dst : Option Tmp} {ty : TypeId} {pos : String} {after : Array Edge} {gd : Option (Nat × Bool)}
theorem WL_yield {x : Operand} {as : List Operand} {ts : Array TypeId} {l : Nat} {vs : List Value} {L R : List Asn} {Post : Bool → Heap → List Asn → Prop}
    (hw : wantedF ops fr ⟨dst, .call ⟨.value x, ⟨as⟩, ts⟩, ty, pos, after, gd⟩ = some true) (hd : dstOk n dst = true)
    (hx : ev? fr x = some (.func (.yield l) #[] #[])) (ha : evs? fr as = some vs)
    (hf : Yl g l vs S L Post)
    (h : ∀ b S' L', S.Le S' → Post b S' L' → WL (ctx g n w0 h0 S0 rd) ops rest K (put fr dst (.bool b)) S' (L' ++ R)) :
    WL (ctx g n w0 h0 S0 rd) ops (⟨dst, .call ⟨.value x, ⟨as⟩, ts⟩, ty, pos, after, gd⟩ :: rest) K fr S (L ++ R) :=
  WL_gen hw fun a w hr hs => by
    have e1 : a.eval x = .func (.yield l) #[] #[] := hr.ev hx
    have e2 : (⟨as⟩ : Array Operand).map a.eval = ⟨vs⟩ := by
      have := hr.evs ha
      simpa using this
    obtain ⟨hp, st, q⟩ := hs
    obtain ⟨hL, hR, oL, oR, d, rfl⟩ := Own.append.1 st.own
    obtain ⟨f, tmps, assign, body, hyl, hround⟩ := hf w hL ⟨oL, st.dis.union_l, st.hin.union_l, st.sin⟩
    have hrun : (execOp a.eval ⟨dst, .call ⟨.value x, ⟨as⟩, ts⟩, ty, pos, after, gd⟩).run g.P w = .ok (.round l f tmps assign body) w := by
      simp only [execOp, resolve, e1, e2, Deferred.ofValue, Sem.run_bind, Sem.run_pure, Result.andThen_ok, invoke]
      simp only [Array.empty_append, Array.append_empty, hyl]
    rw [show (ctx g n w0 h0 S0 rd).P = g.P from rfl, hrun]
    refine (roundIn_fen hround).mono ?_
    rintro e w' ⟨b, S', L', rfl, hp, hs'⟩
    refine ⟨.bool b, rfl, ?_⟩
    exact h b S' L' hs'.le hp _ _ (hr.put _ _ hd) (St.call st.own st q ⟨hR, oR, oL, d, rfl⟩ hs')
end

theorem WL_yieldM {g : Pg} {n : Nat} {w0 : World} {h0 S0 : Heap} {rd : Option Nat} {ops : List Oper} {K : Cont} {fr : Frm} {S : Heap} {M : List Asn} {rest : List Oper} {dst : Option Tmp} {ty : TypeId} {pos : String} {after : Array Edge} {gd : Option (Nat × Bool)}
    {x : Operand} {as : List Operand} {ts : Array TypeId} {l : Nat} {vs : List Value} {Post : Bool → Heap → List Asn → Prop}
    (hw : wantedF ops fr ⟨dst, .call ⟨.value x, ⟨as⟩, ts⟩, ty, pos, after, gd⟩ = some true) (hd : dstOk n dst = true)
    (hx : ev? fr x = some (.func (.yield l) #[] #[])) (ha : evs? fr as = some vs)
    (hf : Yl g l vs S M Post)
    (h : ∀ b S' M', S.Le S' → Post b S' M' → WL (ctx g n w0 h0 S0 rd) ops rest K (put fr dst (.bool b)) S' M') :
    WL (ctx g n w0 h0 S0 rd) ops (⟨dst, .call ⟨.value x, ⟨as⟩, ts⟩, ty, pos, after, gd⟩ :: rest) K fr S M := by
  have := WL_yield (L := M) (R := []) (K := K) (rd := rd) (w0 := w0) (h0 := h0) (S0 := S0) hw hd hx ha hf (fun b S' L' hl hp => by rw [List.append_nil]; exact h b S' L' hl hp)
  rwa [List.append_nil] at this
/-! ### A round -/
def putAll (fr : Frm) : List (Nat × Value) → Frm
  | [] => fr
  | (t, v) :: r => putAll (put fr (some t) v) r
theorem Rep.puts {n : Nat} : ∀ (l : List (Nat × Value)) (tmps : Array Value) (fr : Frm), Rep n { tmps := tmps, defers := [] } fr → (l.all fun p => Nat.blt p.1 n) = true →
    Rep n { tmps := l.foldl (fun (t : Array Value) (x : Nat × Value) => t.setIfInBounds x.1 x.2) tmps, defers := [] } (putAll fr l)
  | [], _, _, h, _ => h
  | (t, v) :: r, tmps, fr, h, ha => by
    simp only [List.all_cons, Bool.and_eq_true] at ha
    exact Rep.puts r _ _ (h.put (some t) v ha.1) ha.2
theorem StL.putObj {S : Heap} {M : List Asn} {h : Heap} {w : World} {l : Nat} {o : Obj} (st : StL S M h w) (h1 : h l = none) (h2 : S l = none) : StL S M h (w.putObj l o) :=
  ⟨st.own, st.dis, fun b x e => by
    have hb : b ≠ l := fun hb => by subst hb; rw [h1] at e; cases e
    rw [World.putObj_heap_other hb]; exact st.hin b x e, fun b x e => by
    have hb : b ≠ l := fun hb => by subst hb; rw [h2] at e; cases e
    rw [World.putObj_heap_other hb]; exact st.sin b x e⟩
def roundK (Rp : Option Code → Heap → List Asn → Prop) : Cont := fun e _ S M => match e with
  | .normal => Rp none S M
  | .ret => Rp (some .ret) S M
  | .exit id => Rp (some (.exit id)) S M
  | _ => False
theorem Yl_round {g : Pg} {n l D : Nat} {fnid : FuncId} {tmps : Array Value} {ps : Array Tmp} {assign body : Code} {args : List Value} {fr : Frm} {S : Heap} {M : List Asn} {Rp : Option Code → Heap → List Asn → Prop}
    (hrep : Rep n { tmps := tmps, defers := [] } fr) (hsz : args.length = ps.size) (hps : ((ps.toList.zip args).all fun p => Nat.blt p.1 n) = true)
    (hasg : ∀ w0 h0, W (ctx g n w0 h0 S (some l)) assign (fun e fr' S' M' => e = .normal ∧ ∀ w1 h1, W (ctx g n w1 h1 S' (some l)) body (roundK Rp) fr' S' M') (putAll fr (ps.toList.zip args)) S M) :
    Yl g l args S (objA l (.loop { state := .ready, pending := none, fn := fnid, tmps := tmps, params := ps, assign := assign, body := body, defers := D }) :: M)
      (fun b S' M' => ∃ jump M2, b = jump.isNone ∧ Rp jump S' M2 ∧ M' = objA l (.loop { state := if jump.isNone then .ready else .done, pending := jump, fn := fnid, tmps := tmps, params := ps, assign := assign, body := body, defers := D }) :: M2) := by
  intro w h st
  obtain ⟨hx, hM, e1, oM, d, rfl⟩ := st.own
  obtain rfl : hx = Heap.one l _ := e1
  have hl := st.hin l _ (Heap.union_left (Heap.one_self l _))
  have hMl : hM l = none := (d l).resolve_left (by rw [Heap.one_self]; simp)
  have hSl : S l = none := (st.dis l).resolve_left (by rw [Heap.union_left (Heap.one_self l _)]; simp)
  have stM : StL S M hM w := ⟨oM, st.dis.union_r, st.hin.union_r d, st.sin⟩
  have hlt : l < w.heap.size := (Array.getElem?_eq_some_iff.1 hl).1
  refine ⟨_, _, _, _, run_yield (args := ⟨args⟩) hl hsz, roundIn_of_wpIn (F := fen none) trivial ?_⟩
  have hr0 := Rep.puts (ps.toList.zip args) tmps fr hrep hps
  have hfold : ((ps.zip (⟨args⟩ : Array Value)).foldl (fun (t : Array Value) (x : Nat × Value) => t.setIfInBounds x.1 x.2) tmps) = (ps.toList.zip args).foldl (fun (t : Array Value) (x : Nat × Value) => t.setIfInBounds x.1 x.2) tmps := by
    rw [← Array.foldl_toList, Array.toList_zip]
  rw [← hfold] at hr0
  refine wpIn_mono (hasg w hM _ w hr0 ⟨hM, stM, Since.refl _ _ _⟩) ?_
  rintro e a1 w1 ⟨fr', S1, M1, hr1, ⟨h1, st1, q1⟩, rfl, hbody⟩
  obtain ⟨g1, g2, g3⟩ := q1.old l hlt hMl
  have hS1l : S1 l = none := by rw [g3]; exact hSl
  have hl1 := g1.trans hl
  have hlt1 : l < w1.heap.size := (Array.getElem?_eq_some_iff.1 hl1).1
  obtain ⟨w2, hw2⟩ : ∃ w2, w2 = w1.putObj l (.loop { state := .busy, pending := none, fn := fnid, tmps := tmps, params := ps, assign := assign, body := body, defers := D }) := ⟨_, rfl⟩
  refine ⟨w2, by rw [hw2]; exact run_beginRound hl1 rfl, ?_⟩
  have st2 : StL S1 M1 h1 w2 := by rw [hw2]; exact st1.putObj g2 hS1l
  have hsz2 : w2.heap.size = w1.heap.size := by rw [hw2, World.putObj_size]
  have hoth2 : ∀ b, b ≠ l → w2.heap[b]? = w1.heap[b]? := fun b hb => by rw [hw2, World.putObj_heap_other hb]
  have hsam2 := World.putObj_heap_same (w := w1) (o := .loop { state := .busy, pending := none, fn := fnid, tmps := tmps, params := ps, assign := assign, body := body, defers := D }) hlt1
  rw [← hw2] at hsam2
  have ho2 : w2.os = w1.os := by rw [hw2]; rfl
  have ht2 : w2.tape = w1.tape := by rw [hw2]; rfl
  have hu2 : w2.output = w1.output := by rw [hw2]; rfl
  clear hw2
  refine wpIn_mono (hbody w2 h1 a1 w2 hr1 ⟨h1, st2, Since.refl _ _ _⟩) ?_
  rintro e a3 w3 ⟨fr3, S3, M3, hr3, ⟨h3, st3, q3⟩, hk⟩
  have hlt2 : l < w2.heap.size := by rw [hsz2]; exact hlt1
  obtain ⟨k1, k2, k3⟩ := q3.old l hlt2 g2
  have hl3 := k1.trans hsam2
  have hS3l : S3 l = none := by rw [k3]; exact hS1l
  have hlt3 : l < w3.heap.size := (Array.getElem?_eq_some_iff.1 hl3).1
  have fin : ∀ jump, Rp jump S3 M3 → ∃ v w', (Instr.endRound l jump).run g.P w3 = .ok v w' ∧ ∃ b S' M', (Ending.returned v) = .returned (.bool b) ∧
      (∃ jump M2, b = jump.isNone ∧ Rp jump S' M2 ∧ M' = objA l (.loop { state := if jump.isNone then .ready else .done, pending := jump, fn := fnid, tmps := tmps, params := ps, assign := assign, body := body, defers := D }) :: M2) ∧
      St ⟨g.P, 0, w, (Heap.one l (.loop { state := .ready, pending := none, fn := fnid, tmps := tmps, params := ps, assign := assign, body := body, defers := D })).union hM, S, none⟩ S' M' w' := by
    intro jump hj
    obtain ⟨o, ho⟩ : ∃ o, o = Obj.loop { state := if jump.isNone then .ready else .done, pending := jump, fn := fnid, tmps := tmps, params := ps, assign := assign, body := body, defers := D } := ⟨_, rfl⟩
    refine ⟨_, _, run_endRound (P := g.P) jump hl3, _, S3, _, rfl, ⟨jump, M3, rfl, hj, rfl⟩, ?_⟩
    show St _ S3 (objA l (Obj.loop { state := if jump.isNone then .ready else .done, pending := jump, fn := fnid, tmps := tmps, params := ps, assign := assign, body := body, defers := D }) :: M3) (w3.putObj l (Obj.loop { state := if jump.isNone then .ready else .done, pending := jump, fn := fnid, tmps := tmps, params := ps, assign := assign, body := body, defers := D }))
    rw [← ho]
    have st4 := st3.putObj (o := o) k2 hS3l
    have dis3 : (Heap.one l o).Disj h3 := fun b => by
      by_cases hb : b = l
      · subst hb; exact .inr k2
      · exact .inl (Heap.one_ne _ hb)
    refine ⟨(Heap.one l o).union h3, ⟨⟨Heap.one l o, h3, rfl, st4.own, dis3, rfl⟩, Heap.Disj.union_mk (fun b => ?_) st4.dis, Heap.In.union_mk (fun b o' e' => ?_) st4.hin, st4.sin⟩, ?_⟩
    · by_cases hb : b = l
      · subst hb; exact .inr hS3l
      · exact .inl (Heap.one_ne _ hb)
    · by_cases hb : b = l
      · subst hb
        rw [Heap.one_self] at e'
        cases e'
        exact World.putObj_heap_same hlt3
      · rw [Heap.one_ne _ hb] at e'; cases e'
    · refine ⟨?_, ?_, ?_, ?_, q1.le.trans q3.le, fun b hb e' => ?_⟩
      · rw [World.putObj_size]
        have := q3.size
        exact Nat.le_trans q1.size (Nat.le_trans (Nat.le_of_eq hsz2.symm) this)
      · exact (q3.os.trans ho2).trans q1.os
      · exact (q3.tape.trans ht2).trans q1.tape
      · exact (q3.output.trans hu2).trans q1.output
      · obtain ⟨u1, u2⟩ := Heap.union_none.1 e'
        have hbl : b ≠ l := fun hb => by subst hb; rw [Heap.one_self] at u1; cases u1
        obtain ⟨v1, v2, v3⟩ := q1.old b hb u2
        obtain ⟨x1, x2, x3⟩ := q3.old b (by rw [show (ctx g n w2 h1 S1 (some l)).w0 = w2 from rfl, hsz2]; exact Nat.lt_of_lt_of_le hb q1.size) v2
        refine ⟨?_, Heap.union_none.2 ⟨Heap.one_ne _ hbl, x2⟩, x3.trans v3⟩
        rw [World.putObj_heap_other hbl, x1]
        exact (hoth2 b hbl).trans v1
  cases e with
  | normal => exact fin none hk
  | ret => exact fin (some .ret) hk
  | exit id => exact fin (some (.exit id)) hk
  | goto t => exact hk.elim
  | panic ch => exact hk.elim
  | outgrown => exact hk.elim

/-! ### The statement -/
abbrev loopO (jump : Option Code) (fnid : FuncId) (tmps : Array Value) (ps : Array Tmp) (assign body : Code) (D : Nat) : Obj :=
  .loop { state := if jump.isNone then .ready else .done, pending := jump, fn := fnid, tmps := tmps, params := ps, assign := assign, body := body, defers := D }
theorem W_range {g : Pg} {n : Nat} {w0 : World} {h0 S0 : Heap} {K : Cont} {fr : Frm} {S : Heap} {M : List Asn} {gop : Operand} {ps : Array Tmp} {assign body : Code} {f : FuncId} {cap : List Value}
    (hg : ev? fr gop = some (.func (.func f) #[] ⟨cap⟩)) (hds : fr.ds = []) (hcall : ∀ xs w, (callFunc f xs).run g.P w = .ok (.enter f xs) w)
    (h : ∀ l D tmps fnid, Rep n { tmps := tmps, defers := [] } fr → ∃ Done : Option Code → Heap → List Asn → Prop,
      Fn g f (.func (.yield l) #[] #[] :: cap) S (objA l (loopO none fnid tmps ps assign body D) :: M) (fun v S' M' => ∃ jump M2, M' = objA l (loopO jump fnid tmps ps assign body D) :: M2 ∧ Done jump S' M2) ∧
      ∀ jump S' M2, S.Le S' → Done jump S' M2 → match jump with
        | none => K .normal ⟨fr.l, [D]⟩ S' (objA D (.deferred (some [])) :: M2)
        | some c => W (ctx g n w0 h0 S0 none) c K ⟨fr.l, [D]⟩ S' (objA D (.deferred (some [])) :: M2)) :
    W (ctx g n w0 h0 S0 none) (.rangeFunc gop ps assign body) K fr S M := fun a w hr hs => by
  refine wpIn_rangeFunc (F := fen none) (n := 0) fun fnid _ => ?_
  have hev : a.eval gop = .func (.func f) #[] ⟨cap⟩ := hr.ev hg
  have hdef : a.defers = [] := by rw [hr.defers, hds]; rfl
  have hrep : Rep n { tmps := a.tmps, defers := [] } fr := ⟨hr.size, by rw [hds]; rfl, hr.slots⟩
  obtain ⟨Done, hf, hk⟩ := h (w.heap.size + 1) w.heap.size a.tmps fnid hrep
  obtain ⟨W1, hW1⟩ : ∃ W1, W1 = (w.alloc (.deferred (some []))).alloc (.loop { state := .ready, pending := none, fn := fnid, tmps := a.tmps, params := ps, assign := assign, body := body, defers := w.heap.size }) := ⟨_, rfl⟩
  have hs1 : St (ctx g n w0 h0 S0 none) S ((objA (w.heap.size + 1) (loopO none fnid a.tmps ps assign body w.heap.size) :: M) ++ [objA w.heap.size (.deferred (some []))]) W1 := by
    have h1 := hs.alloc (.deferred (some []))
    have h2 := h1.alloc (loopO none fnid a.tmps ps assign body w.heap.size)
    have h3 : St (ctx g n w0 h0 S0 none) S (objA (w.heap.size + 1) (loopO none fnid a.tmps ps assign body w.heap.size) :: objA w.heap.size (.deferred (some [])) :: M) W1 := by
      rw [hW1]
      simp only [Array.size_push] at h2
      exact h2
    exact h3.perm (List.Perm.cons _ (by simpa using (List.perm_append_comm (l₁ := [objA w.heap.size (.deferred (some []))]) (l₂ := M))))
  refine ⟨w.heap.size + 1, [{ target := .collected w.heap.size, args := #[] }], W1, { target := .fn (.func f) ⟨cap⟩, args := #[.func (.yield (w.heap.size + 1)) #[] #[]] }, W1, f,
    #[.func (.yield (w.heap.size + 1)) #[] #[]] ++ ⟨cap⟩, W1, ?_, ?_, fun f' hf' => trivial, ?_, fun h => (by cases h), ?_⟩
  · rw [hW1]; exact run_enterLoop_outer _ _ _ _ _
  · simp only [resolve, hev]
    simp [go_sem]
  · simp [invoke, go_sem]
    exact hcall _ _
  · refine fen_calls.2 ?_
    have hsx := hs1
    obtain ⟨hp, st, q⟩ := hs1
    obtain ⟨hL, hR, oL, oR, d, rfl⟩ := Own.append.1 st.own
    rcases hf with hf | hf
    rotate_left
    · obtain ⟨v, S', M', w', e, _⟩ := hf W1 hL ⟨oL, st.dis.union_l, st.hin.union_l, st.sin⟩
      have e' := hcall ⟨.func (.yield (w.heap.size + 1)) #[] #[] :: cap⟩ W1
      rw [show g.P = (ctx g n w0 h0 S0 none).P from rfl] at e'
      rw [show (ctx g n w0 h0 S0 none).P = g.P from rfl, e] at e'
      cases e'
    have hargs : (#[.func (.yield (w.heap.size + 1)) #[] #[]] ++ (⟨cap⟩ : Array Value)) = ⟨.func (.yield (w.heap.size + 1)) #[] #[] :: cap⟩ := by
      apply Array.ext'
      simp
    rw [hargs]
    refine (hf.2 W1 hL ⟨oL, st.dis.union_l, st.hin.union_l, st.sin⟩).mono ?_
    rintro e w3 ⟨v, S', L', rfl, ⟨jump, M2, rfl, hd⟩, hs3⟩
    have hle : S.Le S' := hs3.le
    have hst3 := St.call (g := g) (n := n) (rd := none) (w0 := w0) (h0 := h0) (S0 := S0) st.own st q ⟨hR, oR, oL, d, rfl⟩ hs3
    have hl3 : w3.heap[w.heap.size + 1]? = some (loopO jump fnid a.tmps ps assign body w.heap.size) := by
      obtain ⟨hx, stx, qx⟩ := hst3
      exact stx.hin _ _ (stx.own.get (k := 0) rfl)
    refine ⟨jump, _, run_endLoop (P := g.P) hl3 (by cases jump <;> simp), ?_⟩
    have hst4 := (hst3.set (k := 0) rfl (.loop { state := .exhausted, pending := jump, fn := fnid, tmps := a.tmps, params := ps, assign := assign, body := body, defers := w.heap.size })).drop
    have hst5 := hst4.perm (List.perm_append_comm (l₁ := M2) (l₂ := [objA w.heap.size (.deferred (some []))]))
    have hrep' : Rep n { a with defers := [{ target := .collected w.heap.size, args := #[] }] ++ a.defers } ⟨fr.l, [w.heap.size]⟩ := ⟨hr.size, by rw [hdef]; rfl, hr.slots⟩
    have hkk := hk jump S' M2 hle hd
    cases jump with
    | none => exact ⟨_, S', _, hrep', hst5, hkk⟩
    | some c => exact hkk _ _ hrep' hst5

/-! ### The way out of a function that holds a range over a function -/
def ResV (c : Ctx) (rs : Array ResultVar) (fr : Frm) (S : Heap) (M : List Asn) (v : Value) : Prop :=
  ∀ (fn : Func) a w, fn.results = rs → Rep c.n a fr → St c S M w → (results fn a.tmps).run c.P w = .ok v w
theorem ResV_0 {c : Ctx} {fr : Frm} {S : Heap} {M : List Asn} : ResV c #[] fr S M (.tuple #[]) := fun fn a w h hr hs => results_none h _ _ _
theorem ResV_1 {c : Ctx} {fr : Frm} {S : Heap} {M : List Asn} {t : Nat} {v : Value} (e : get? fr t = some v) : ResV c #[.tmp t] fr S M v := fun fn a w h hr hs => by
  rw [results_tmp h]; simp [hr.slots t v e]
/-- At the end: no mark, or one whose block is the first of what one owns. -/
def retKM (c : Ctx) (rs : Array ResultVar) (Post : PostT) : Cont := fun e fr S M =>
  (e = .normal ∨ e = .ret) ∧ ∃ v, (fr.ds = [] ∧ ResV c rs fr S M v ∧ Post v S M) ∨ ∃ D M', fr.ds = [D] ∧ M = objA D (.deferred (some [])) :: M' ∧ ResV c rs fr S M' v ∧ Post v S M'
theorem Fn_ofM {g : Pg} {f : FuncId} {fn : Func} {x : Code} {n : Nat} {rs : Array ResultVar} {args : List Value} {S : Heap} {M : List Asn} {Post : PostT}
    (hf : g.P.funcs[f]? = some fn) (hb : fn.body = some x) (hn : fn.ntmps = n) (hr : fn.results = rs) (hc : ∀ as w, (callFunc f as).run g.P w = .ok (.enter f as) w) (hl : Nat.ble args.length n = true)
    (h : ∀ w0 h0, W (ctx g n w0 h0 S none) x (retKM (ctx g n w0 h0 S none) rs Post) (argFr 0 args) S M) : Fn g f args S M Post := by
  refine .inl ⟨hc, fun w hp st => fen_calls.1 (callsIn_of_wp_marks (F := fen none) (n := 0) hf hb trivial ?_)⟩
  rw [hn]
  refine wpIn_mono (h w hp _ w (argFr_rep (Nat.le_of_ble_eq_true hl)) ⟨hp, st, Since.refl _ _ _⟩) ?_
  rintro e a w' ⟨fr, S', M', hrep, hst, he, v, hk⟩
  have key : LeavesInM (fen none) 0 g.P fn a.tmps (fun e w' => ∃ v S' M', e = .returned v ∧ Post v S' M' ∧ St ⟨g.P, 0, w, hp, S, none⟩ S' M' w') a.defers .returning w' := by
    rcases hk with ⟨hds, hres, hpost⟩ | ⟨D, M2, hds, rfl, hres, hpost⟩
    · rw [hrep.defers, hds]
      exact ⟨v, hres fn a w' hr hrep hst, v, S', M', rfl, hpost, hst⟩
    · rw [hrep.defers, hds]
      have hD : w'.heap[D]? = some (.deferred (some [])) := by
        obtain ⟨hx, stx, qx⟩ := hst
        exact stx.hin _ _ (stx.own.get (k := 0) rfl)
      have hst2 := (hst.set (k := 0) rfl (.deferred none)).drop
      exact ⟨by simp, .inl ⟨D, _, rfl, run_takeDeferred (P := g.P) hD, v, hres fn a _ hr hrep hst2, v, S', M2, rfl, hpost, hst2⟩⟩
  rcases he with rfl | rfl <;> exact key
end Go.Proofs.YtmiefhokjeofcaaDoor.Eng
