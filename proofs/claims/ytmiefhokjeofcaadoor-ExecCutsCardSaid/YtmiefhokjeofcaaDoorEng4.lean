/- DERIVED. The engine, fifth part: a region whose order Go leaves open: one order serves all, where what is read stays. Conditions: none. -/
import Derived.Test.YtmiefhokjeofcaaDoorEng3
import Derived.Still
set_option linter.unusedVariables false
set_option linter.unusedSimpArgs false
namespace Go.Proofs.YtmiefhokjeofcaaDoor.Eng
open Go

section
variable {P : Program} {ops : Array Oper} {Q : Exit → Act → World → Prop} {md : Region.Mode}
/-- An operation that comes behind, or ahead of, each other one: what was looked at ahead of it need not stay behind it. -/
def late (md : Region.Mode) (ops : Array Oper) (j : Nat) : Bool := match ops[j]? with
  | none => false
  | some oj => (List.range ops.size).all fun i => Nat.beq i j || oj.after.any (fun e => Region.binds md e && Nat.beq e.on i) || match ops[i]? with
    | none => true
    | some oi => oi.after.any (fun e => Region.binds md e && Nat.beq e.on j)
def nextC (md : Region.Mode) (ops : Array Oper) (j : Nat) (C : World → Prop) : World → Prop := fun w => late md ops j = false → C w
def wpAnyC (P : Program) (md : Region.Mode) (ops : Array Oper) (Q : Exit → Act → World → Prop) : Nat → (World → Prop) → Array Bool → Act → World → Prop
  | 0, _, listed, a, w => Region.ready md ops listed = [] ∧ Q .normal a w
  | fuel + 1, C, listed, a, w =>
    (Region.ready md ops listed = [] → Q .normal a w) ∧
    ∀ i ∈ Region.ready md ops listed, wpOp P ops Q i (fun a' w' => nextC md ops i C w' ∧ wpAnyC P md ops Q fuel (nextC md ops i C) (listed.setIfInBounds i true) a' w') a w
theorem wpAnyC_any : ∀ (fuel : Nat) (C : World → Prop) (listed : Array Bool) (a : Act) (w : World), wpAnyC P md ops Q fuel C listed a w → wpAny P md ops Q fuel listed a w
  | 0, _, _, _, _, h => h
  | fuel + 1, _, _, _, _, h => ⟨h.1, fun i hi => wpOp_mono (fun a w k => wpAnyC_any fuel _ _ a w k.2) (h.2 i hi)⟩
theorem wpAnyC_mono : ∀ (fuel : Nat) {C C' : World → Prop} (hc : ∀ x, C' x → C x) (listed : Array Bool) (a : Act) (w : World), wpAnyC P md ops Q fuel C' listed a w → wpAnyC P md ops Q fuel C listed a w
  | 0, _, _, _, _, _, _, h => h
  | fuel + 1, _, _, hc, _, _, _, h => ⟨h.1, fun i hi => wpOp_mono (fun a w k => ⟨fun hl => hc _ (k.1 hl), wpAnyC_mono fuel (fun x hx hl => hc x (hx hl)) _ a w k.2⟩) (h.2 i hi)⟩
def YieldsC (P : Program) (ops : Array Oper) (C : World → Prop) (o : Oper) (v : Value) (a : Act) : Prop :=
  (Region.wanted o (yielded ops a.tmps) = true ∧ ∀ w, C w → (execOp a.eval o).run P w = .ok (.value v) w) ∨
  (Region.wanted o (yielded ops a.tmps) = false ∧ v = undef)
theorem YieldsC.wpOp {C : World → Prop} {i : Nat} {o : Oper} {v : Value} {a : Act} (hi : ops[i]? = some o) (hy : YieldsC P ops C o v a)
    {K : Act → World → Prop} {w : World} (hw : C w) (h : K (a.put o.dst v) w) : wpOp P ops Q i K a w := by
  unfold Go.wpOp
  simp only [hi]
  rcases hy with ⟨hw', hv⟩ | ⟨hw', rfl⟩
  · simp only [hw', if_true, Oper.wp, hv w hw, Oper.upon]; exact .inl h
  · simp only [hw', Bool.false_eq_true, if_false]; exact h
theorem YieldsC.of_same {C : World → Prop} {o : Oper} {v : Value} {a a' : Act} (hy : YieldsC P ops C o v a) (he : execOp a'.eval o = execOp a.eval o)
    (hw : Region.wanted o (yielded ops a'.tmps) = Region.wanted o (yielded ops a.tmps)) : YieldsC P ops C o v a' := by
  unfold YieldsC at *
  rw [he, hw]
  exact hy
theorem wpOp_putC {C : World → Prop} {j : Nat} {oi oj : Oper} {v : Value} (hj : ops[j]? = some oj) (hap : oi.apart ops oj = true)
    (hsi : ∀ cs b, oi.op ≠ .select cs b) (hsj : ∀ cs b, oj.op ≠ .select cs b)
    (hQ : ∀ c a w, Q (.panic c) (a.put oi.dst v) w → Q (.panic c) a w) {K : Act → World → Prop} {a : Act} {w : World}
    (hy : YieldsC P ops C oi v a) (h : wpOp P ops Q j K (a.put oi.dst v) w) :
    wpOp P ops Q j (fun a' w' => YieldsC P ops C oi v a' ∧ K (a'.put oi.dst v) w') a w := by
  obtain ⟨h1, h2, h3⟩ := Oper.apart_spec hap
  have keep : ∀ (a : Act), YieldsC P ops C oi v a → ∀ u, YieldsC P ops C oi v (a.put oj.dst u) := fun a hy u =>
    hy.of_same (execOp_put oi hsi a oj.dst u h3) (wanted_put oi a oj.dst u h3)
  have keepD : ∀ d, YieldsC P ops C oi v { a with defers := d :: a.defers } := fun d => hy.of_same rfl rfl
  unfold wpOp at *
  simp only [hj] at *
  rw [wanted_put oj a oi.dst v h1] at h
  split
  · rename_i hw
    simp only [hw, if_true] at h
    rcases h with h | ⟨hasks, hlets⟩
    case inr => exact .inr ⟨by unfold Oper.asks at *; rw [execOp_put oj hsj a oi.dst v h1] at hasks; exact hasks, hlets⟩
    refine .inl ?_
    unfold Oper.wp at *
    rw [execOp_put oj hsj a oi.dst v h1] at h
    generalize (execOp a.eval oj).run P w = r at *
    cases r with
    | ok n w' =>
      cases n <;> simp only [Oper.upon] at h ⊢
      case value u => exact ⟨keep a hy u, by rw [← Act.put_comm a v u h2]; exact h⟩
      case skip => exact ⟨keep a hy _, by rw [← Act.put_comm a v undef h2]; exact h⟩
      case defer d =>
        refine ⟨keep _ (keepD d) _, ?_⟩
        rw [← Act.put_comm _ v undef h2, ← Act.put_defers]
        exact h
      case enter f args =>
        refine Calls.mono h fun e w'' he => ?_
        cases e with
        | returned u => exact ⟨keep a hy u, by rw [← Act.put_comm a v u h2]; exact he⟩
        | panicked c => exact hQ _ _ _ he
        | outgrown => exact he
      case row row args => exact Rows.mono h fun u w'' he => ⟨keep a hy u, by rw [← Act.put_comm a v u h2]; exact he⟩
    | halt x w' =>
      cases x <;> simp only [Oper.upon] at h ⊢
      case panic u => exact hQ _ _ _ h
  · rename_i hw
    simp only [hw] at h
    exact ⟨keep a hy _, by rw [← Act.put_comm a v undef h2]; exact h⟩
theorem wpAnyC_first {C : World → Prop} {i : Nat} {oi : Oper} {v : Value} (hi : ops[i]? = some oi) (hsel : ∀ (j : Nat) (o : Oper) cs b, ops[j]? = some o → o.op ≠ .select cs b)
    (hQ : ∀ c a w, Q (.panic c) (a.put oi.dst v) w → Q (.panic c) a w) :
    ∀ (fuel : Nat) (listed : Array Bool) (a : Act) (w : World),
      (∀ j oj, ops[j]? = some oj → j ≠ i → listed.getD j true = false → (∀ e ∈ oj.after, Region.binds md e = true → e.on ≠ i) → oi.apart ops oj = true) →
      i ∈ Region.ready md ops listed → YieldsC P ops C oi v a → C w →
      wpAnyC P md ops Q fuel C (listed.setIfInBounds i true) (a.put oi.dst v) w → wpAnyC P md ops Q (fuel + 1) C listed a w := by
  intro fuel
  have next : ∀ {w : World} (a : Act) (listed : Array Bool) (n : Nat), C w → wpAnyC P md ops Q n C listed a w → nextC md ops i C w ∧ wpAnyC P md ops Q n (nextC md ops i C) listed a w := fun {w} a listed n hC H =>
    ⟨fun _ => hC, wpAnyC_mono n (fun x hx _ => hx) _ _ _ H⟩
  induction fuel with
  | zero =>
    intro listed a w _ hr hy hC H
    refine ⟨fun h => (by rw [h] at hr; cases hr), fun j hj => ?_⟩
    by_cases hji : j = i
    · subst hji; exact hy.wpOp hi hC (next _ _ _ hC H)
    · have := ready_mono hj hji
      rw [H.1] at this
      cases this
  | succ fuel ih =>
    intro listed a w hfree hr hy hC H
    refine ⟨fun h => (by rw [h] at hr; cases hr), fun j hj => ?_⟩
    by_cases hji : j = i
    · subst hji; exact hy.wpOp hi hC (next _ _ _ hC H)
    · have h1 := H.2 j (ready_mono hj hji)
      obtain ⟨hjun, oj, hoj, hall⟩ := mem_ready.1 hj
      obtain ⟨hiun, oi', hoi', halli⟩ := mem_ready.1 hr
      have clash : ∀ {x : Nat}, listed.getD x true = false → listed.getD x false = true → False := fun {x} h0 h1 => by
        rcases Nat.lt_or_ge x listed.size with h' | h'
        · simp [h'] at h0 h1; rw [h0] at h1; cases h1
        · simp [Array.getElem?_eq_none h'] at h1
      have hnot : ∀ e ∈ oj.after, Region.binds md e = true → e.on ≠ i := fun e he hb heq => clash hiun (by rw [← heq]; exact hall e he hb)
      have hnot' : ∀ e ∈ oi'.after, Region.binds md e = true → e.on ≠ j := fun e he hb heq => clash hjun (by rw [← heq]; exact halli e he hb)
      have hlate : late md ops j = false := by
        cases hl : late md ops j with
        | false => rfl
        | true =>
          exfalso
          unfold late at hl
          simp only [hoj, List.all_eq_true, List.mem_range] at hl
          have hil : i < ops.size := (Array.getElem?_eq_some_iff.1 hi).1
          have := hl i hil
          simp only [hoi', Bool.or_eq_true, Array.any_eq_true', Bool.and_eq_true] at this
          rcases this with (h0 | ⟨e, he, h1, h2⟩) | ⟨e, he, h1, h2⟩
          · exact hji (Nat.eq_of_beq_eq_true h0).symm
          · exact hnot e he h1 (Nat.eq_of_beq_eq_true h2)
          · exact hnot' e he h1 (Nat.eq_of_beq_eq_true h2)
      have h2 := wpOp_putC hoj (hfree j oj hoj hji hjun hnot) (fun cs b => hsel i oi cs b hi) (fun cs b => hsel j oj cs b hoj) hQ hy h1
      have hfree' : ∀ k ok, ops[k]? = some ok → k ≠ i → (listed.setIfInBounds j true).getD k true = false →
          (∀ e ∈ ok.after, Region.binds md e = true → e.on ≠ i) → oi.apart ops ok = true := fun k ok hk hki hun hno => by
        refine hfree k ok hk hki ?_ hno
        by_cases hjk : j = k
        · subst hjk; exact hjun
        · rw [getD_set_ne true hjk] at hun; exact hun
      refine wpOp_mono (fun a' w' h3 => ⟨h3.2.1, ?_⟩) h2
      have h4 := wpAnyC_mono _ (C := C) (fun x hx => hx hlate) _ _ _ h3.2.2
      rw [← Array.setIfInBounds_comm _ _ hji] at h4
      exact wpAnyC_mono _ (fun x hx _ => hx) _ _ _ (ih (listed.setIfInBounds j true) a' w' hfree' (ready_mono hr (Ne.symm hji)) h3.1 (h3.2.1 hlate) h4)

/-- An order: an operation that only looks; the one that is ready; two or three that are ready, in either order. -/
inductive Sch where
  | nil
  | look (i : Nat) (r : Sch)
  | step (i : Nat) (r : Sch)
  | two (i : Nat) (r : Sch) (j : Nat) (s : Sch)
  | three (i : Nat) (r : Sch) (j : Nat) (s : Sch) (k : Nat) (t : Sch)
def okSched (ops : Array Oper) : Sch → Nat → Array Bool → Bool
  | .nil, n, listed => Nat.beq n 0 && (Region.ready .any ops listed).isEmpty
  | .look i r, n, listed => match n with
    | 0 => false
    | m + 1 => (Region.ready .any ops listed).contains i && Region.free .any ops listed i && okSched ops r m (listed.setIfInBounds i true)
  | .step i r, n, listed => match n with
    | 0 => false
    | m + 1 => (Region.ready .any ops listed == [i]) && okSched ops r m (listed.setIfInBounds i true)
  | .two i r j s, n, listed => match n with
    | 0 => false
    | m + 1 => (Region.ready .any ops listed == [i, j]) && (okSched ops r m (listed.setIfInBounds i true) && okSched ops s m (listed.setIfInBounds j true))
  | .three i r j s k t, n, listed => match n with
    | 0 => false
    | m + 1 => (Region.ready .any ops listed == [i, j, k]) && (okSched ops r m (listed.setIfInBounds i true) && (okSched ops s m (listed.setIfInBounds j true) && okSched ops t m (listed.setIfInBounds k true)))
def schedOk (ops : Array Oper) (σ : Sch) : Bool := Region.noSelect ops && okSched ops σ ops.size (Array.replicate ops.size false)
def wpF (P : Program) (ops : Array Oper) (Q : Exit → Act → World → Prop) : Sch → (World → Prop) → Act → World → Prop
  | .nil, _, a, w => Q .normal a w
  | .look i r, C, a, w => ∃ o v C', ops[i]? = some o ∧ C' w ∧ (∀ x, C' x → C x) ∧ YieldsC P ops C' o v a ∧ wpF P ops Q r C' (a.put o.dst v) w
  | .step i r, C, a, w => wpOp P ops Q i (fun a' w' => nextC .any ops i C w' ∧ wpF P ops Q r (nextC .any ops i C) a' w') a w
  | .two i r j s, C, a, w => wpOp P ops Q i (fun a' w' => nextC .any ops i C w' ∧ wpF P ops Q r (nextC .any ops i C) a' w') a w ∧ wpOp P ops Q j (fun a' w' => nextC .any ops j C w' ∧ wpF P ops Q s (nextC .any ops j C) a' w') a w
  | .three i r j s k t, C, a, w => wpOp P ops Q i (fun a' w' => nextC .any ops i C w' ∧ wpF P ops Q r (nextC .any ops i C) a' w') a w ∧ wpOp P ops Q j (fun a' w' => nextC .any ops j C w' ∧ wpF P ops Q s (nextC .any ops j C) a' w') a w ∧ wpOp P ops Q k (fun a' w' => nextC .any ops k C w' ∧ wpF P ops Q t (nextC .any ops k C) a' w') a w
theorem wpF_any (hs : Region.noSelect ops = true) (hQ : ∀ c a w, ¬ Q (.panic c) a w) : ∀ (σ : Sch) (n : Nat) (C : World → Prop) (listed : Array Bool) (a : Act) (w : World), C w → okSched ops σ n listed = true → wpF P ops Q σ C a w →
    wpAnyC P .any ops Q n C listed a w
  | .nil, n, C, listed, a, w, _, hB, h => by
    simp only [okSched, Bool.and_eq_true] at hB
    obtain ⟨h1, h2⟩ := hB
    obtain rfl : n = 0 := Nat.eq_of_beq_eq_true h1
    exact ⟨by simpa using h2, h⟩
  | .look i r, n, C, listed, a, w, hC, hB, h => by
    obtain ⟨o, v, C', ho, hw, hc, hy, hk⟩ := h
    cases n with
    | zero => simp [okSched] at hB
    | succ n =>
      simp only [okSched, Bool.and_eq_true] at hB
      obtain ⟨⟨hr, hf⟩, hB'⟩ := hB
      refine wpAnyC_mono _ hc _ _ _ (wpAnyC_first ho (Region.noSelect_spec hs) (fun c a w h => absurd h (hQ _ _ _)) n listed a w (Region.free_spec ho hf) (by simpa using hr) hy hw ?_)
      exact wpF_any hs hQ r n C' _ _ _ hw hB' hk
  | .step i r, n, C, listed, a, w, hC, hB, h => by
    cases n with
    | zero => simp [okSched] at hB
    | succ n =>
      simp only [okSched, Bool.and_eq_true, beq_iff_eq] at hB
      obtain ⟨hr, hB'⟩ := hB
      refine ⟨fun h0 => absurd (hr.symm.trans h0) (by simp), fun j hj => ?_⟩
      rw [hr] at hj
      simp only [List.mem_singleton] at hj
      subst hj
      exact wpOp_mono (fun a' w' k => ⟨k.1, wpF_any hs hQ r n _ _ _ _ k.1 hB' k.2⟩) h
  | .two i r j s, n, C, listed, a, w, hC, hB, h => by
    cases n with
    | zero => simp [okSched] at hB
    | succ n =>
      simp only [okSched, Bool.and_eq_true, beq_iff_eq] at hB
      obtain ⟨hr, hB1, hB2⟩ := hB
      refine ⟨fun h0 => absurd (hr.symm.trans h0) (by simp), fun x hx => ?_⟩
      rw [hr] at hx
      simp only [List.mem_cons, List.mem_nil_iff, or_false] at hx
      rcases hx with hx | hx <;> subst hx
      · exact wpOp_mono (fun a' w' k => ⟨k.1, wpF_any hs hQ r n _ _ _ _ k.1 hB1 k.2⟩) h.1
      · exact wpOp_mono (fun a' w' k => ⟨k.1, wpF_any hs hQ s n _ _ _ _ k.1 hB2 k.2⟩) h.2
  | .three i r j s k t, n, C, listed, a, w, hC, hB, h => by
    cases n with
    | zero => simp [okSched] at hB
    | succ n =>
      simp only [okSched, Bool.and_eq_true, beq_iff_eq] at hB
      obtain ⟨hr, hB1, hB2, hB3⟩ := hB
      refine ⟨fun h0 => absurd (hr.symm.trans h0) (by simp), fun x hx => ?_⟩
      rw [hr] at hx
      simp only [List.mem_cons, List.mem_nil_iff, or_false] at hx
      rcases hx with hx | hx | hx <;> subst hx
      · exact wpOp_mono (fun a' w' k => ⟨k.1, wpF_any hs hQ r n _ _ _ _ k.1 hB1 k.2⟩) h.1
      · exact wpOp_mono (fun a' w' k => ⟨k.1, wpF_any hs hQ s n _ _ _ _ k.1 hB2 k.2⟩) h.2.1
      · exact wpOp_mono (fun a' w' k => ⟨k.1, wpF_any hs hQ t n _ _ _ _ k.1 hB3 k.2⟩) h.2.2
end

def StI (S : Heap) (M : List Asn) (w : World) : Prop := ∃ h, StL S M h w
theorem St.toI {c : Ctx} {S : Heap} {M : List Asn} {w : World} (h : St c S M w) : StI S M w := let ⟨x, s, _⟩ := h; ⟨x, s⟩
theorem StI.le {S S' : Heap} {L M : List Asn} {w : World} (hle : S.Le S') : StI S' (L ++ M) w → StI S M w := by
  rintro ⟨h, st⟩
  obtain ⟨h1, h2, _, o2, d, rfl⟩ := Own.append.1 st.own
  refine ⟨h2, o2, fun b => ?_, st.hin.union_r d, fun b o e => st.sin b o (hle b o e)⟩
  rcases st.dis.union_r b with e | e
  · exact .inl e
  · refine .inr ?_
    cases e' : S b with
    | none => rfl
    | some o => rw [hle b o e'] at e; cases e
def normQ (Q : Exit → Act → World → Prop) : Exit → Act → World → Prop := fun e a w => match e with
  | .normal => Q .normal a w
  | _ => False
theorem Own.sub {N M : List Asn} (p : N.Sublist M) : ∀ {h : Heap}, Own M h → ∃ h', Own N h' ∧ ∀ b o, h' b = some o → h b = some o := by
  induction p with
  | slnil => exact fun o => ⟨_, o, fun _ _ e => e⟩
  | cons A _ ih =>
    rintro h ⟨h1, h2, _, o, d, rfl⟩
    obtain ⟨h', o', k⟩ := ih o
    refine ⟨h', o', fun b x e => ?_⟩
    have := k b x e
    rcases d b with e1 | e1
    · rw [Heap.union_right e1]; exact this
    · rw [this] at e1; cases e1
  | cons_cons A _ ih =>
    rintro h ⟨h1, h2, a, o, d, rfl⟩
    obtain ⟨h', o', k⟩ := ih o
    have d' : h1.Disj h' := fun b => by
      rcases d b with e | e
      · exact .inl e
      · refine .inr ?_
        cases e' : h' b with
        | none => rfl
        | some x => rw [k b x e'] at e; cases e
    refine ⟨h1.union h', ⟨h1, h', a, o', d', rfl⟩, fun b x e => ?_⟩
    rcases d' b with e1 | e1
    · rw [Heap.union_right e1] at e
      have := k b x e
      rcases d b with e2 | e2
      · rw [Heap.union_right e2]; exact this
      · rw [this] at e2; cases e2
    · cases e2 : h1 b with
      | none => rw [Heap.union_right e2, e1] at e; cases e
      | some y => rw [Heap.union_left e2] at e ⊢; exact e
theorem StI.sub {S S' : Heap} {N M : List Asn} {w : World} (hle : S.Le S') (p : N.Sublist M) : StI S' M w → StI S N w := by
  rintro ⟨h, st⟩
  obtain ⟨h', o, k⟩ := st.own.sub p
  refine ⟨h', o, fun b => ?_, fun b x e => st.hin b x (k b x e), fun b x e => st.sin b x (hle b x e)⟩
  rcases st.dis b with e | e
  · refine .inl ?_
    cases e' : h' b with
    | none => rfl
    | some x => rw [k b x e'] at e; cases e
  · refine .inr ?_
    cases e' : S b with
    | none => rfl
    | some x => rw [hle b x e'] at e; cases e
/-- M: the own assertions; N: those on which a look that was taken leans. -/
def WD (c : Ctx) (ops : Array Oper) (σ : Sch) (K : Cont) (fr : Frm) (S : Heap) (M N : List Asn) : Prop :=
  N.Sublist M → ∀ a w (C : World → Prop), Rep c.n a fr → St c S M w → (∀ S' x, S.Le S' → StI S' N x → C x) → wpF c.P ops (normQ (lift c K)) σ C a w
theorem St.drew {c : Ctx} {S : Heap} {M : List Asn} {w : World} (h : St c S M w) : St c S M { w with drawn := w.drawn + 1 } := by
  obtain ⟨x, st, q⟩ := h
  exact ⟨x, ⟨st.own, st.dis, st.hin, st.sin⟩, q.size, q.os, q.tape, q.output, q.le, q.old⟩
section
variable {c : Ctx} {K : Cont} {fr : Frm} {S : Heap} {M N : List Asn} {ops : Array Oper} {σ : Sch} {i : Nat} {o : Oper}
theorem W_draw (σ : Sch) {id : Nat} (hrd : c.rd = none) (hm : c.P.follows .mixedOrders = true) (hσ : schedOk ops σ = true) (h : WD c ops σ K fr S M []) : W c (.region id ops true) K fr S M := fun a w hr hs => by
  rw [hrd]
  refine (wpIn_wide (n := 0)).2 ?_
  simp only [schedOk, Bool.and_eq_true] at hσ
  obtain ⟨h1, h3⟩ := hσ
  refine wp_mono (Q := normQ (lift c K)) (wp_region_any hm ?_) ?_
  · have := wpF_any (P := c.P) (Q := normQ (lift c K)) h1 (fun c' a w h => by exact h) σ ops.size (fun _ => True) _ a _ trivial h3 (h (List.nil_sublist _) a _ _ hr hs.drew fun _ _ _ _ => trivial)
    exact wpAnyC_any _ _ _ _ _ this
  · intro e a w hq
    cases e <;> first | exact hq | exact hq.elim
theorem WD_nil (h : K .normal fr S M) : WD c ops .nil K fr S M N := fun hN a w C hr hs hc => ⟨fr, S, M, hr, hs, h⟩
theorem WD_two {j : Nat} {σ' : Sch} (h1 : WD c ops (.step i σ) K fr S M N) (h2 : WD c ops (.step j σ') K fr S M N) : WD c ops (.two i σ j σ') K fr S M N := fun hN a w C hr hs hc => ⟨h1 hN a w C hr hs hc, h2 hN a w C hr hs hc⟩
theorem WD_three {j k : Nat} {σ' σ'' : Sch} (h1 : WD c ops (.step i σ) K fr S M N) (h2 : WD c ops (.step j σ') K fr S M N) (h3 : WD c ops (.step k σ'') K fr S M N) : WD c ops (.three i σ j σ' k σ'') K fr S M N := fun hN a w C hr hs hc => ⟨h1 hN a w C hr hs hc, h2 hN a w C hr hs hc, h3 hN a w C hr hs hc⟩
/-- A look at no memory. -/
theorem WD_pure {v : Value} (ho : ops[i]? = some o) (hw : wantedF ops.toList fr o = some true) (hd : dstOk c.n o.dst = true)
    (hrun : ∀ a w, Rep c.n a fr → (execOp a.eval o).run c.P w = .ok (.value v) w) (h : WD c ops σ K (put fr o.dst v) S M N) : WD c ops (.look i σ) K fr S M N := fun hN a w C hr hs hc =>
  ⟨o, v, C, ho, hc S w (Heap.Le.refl _) (StI.sub (Heap.Le.refl _) hN hs.toI), fun x hx => hx, .inl ⟨by simpa using wantedF_ok hr hw, fun x _ => hrun a x hr⟩, h hN _ _ _ (hr.put _ _ hd) hs hc⟩
/-- A look at the stable heap. -/
theorem WD_look {v : Value} (ho : ops[i]? = some o) (hw : wantedF ops.toList fr o = some true) (hd : dstOk c.n o.dst = true)
    (hrun : ∀ a w, Rep c.n a fr → S.In w → (execOp a.eval o).run c.P w = .ok (.value v) w) (h : WD c ops σ K (put fr o.dst v) S M N) : WD c ops (.look i σ) K fr S M N := fun hN a w C hr hs hc =>
  ⟨o, v, fun x => C x ∧ S.In x, ho, ⟨hc S w (Heap.Le.refl _) (StI.sub (Heap.Le.refl _) hN hs.toI), hs.sin⟩, fun x hx => hx.1, .inl ⟨by simpa using wantedF_ok hr hw, fun x hx => hrun a x hr hx.2⟩,
    h hN _ _ _ (hr.put _ _ hd) hs fun S' x hl hx => ⟨hc S' x hl hx, fun b o e => by obtain ⟨h, st⟩ := hx; exact st.sin b o (hl b o e)⟩⟩
/-- A look at what one owns. -/
theorem WD_float {v : Value} (ho : ops[i]? = some o) (hw : wantedF ops.toList fr o = some true) (hd : dstOk c.n o.dst = true)
    (hrun : ∀ a w, Rep c.n a fr → StI S M w → (execOp a.eval o).run c.P w = .ok (.value v) w) (h : WD c ops σ K (put fr o.dst v) S M M) : WD c ops (.look i σ) K fr S M N := fun hN a w C hr hs hc =>
  ⟨o, v, StI S M, ho, hs.toI, fun x hx => hc S x (Heap.Le.refl _) (StI.sub (Heap.Le.refl _) hN hx), .inl ⟨by simpa using wantedF_ok hr hw, fun x hx => hrun a x hr hx⟩,
    h (List.Sublist.refl _) _ _ _ (hr.put _ _ hd) hs fun S' x hl hx => StI.sub hl (List.Sublist.refl _) hx⟩
theorem WD_skip (ho : ops[i]? = some o) (hw : wantedF ops.toList fr o = some false) (hd : dstOk c.n o.dst = true)
    (h : WD c ops σ K (put fr o.dst undef) S M N) : WD c ops (.look i σ) K fr S M N := fun hN a w C hr hs hc =>
  ⟨o, undef, C, ho, hc S w (Heap.Le.refl _) (StI.sub (Heap.Le.refl _) hN hs.toI), fun x hx => hx, .inr ⟨by simpa using wantedF_ok hr hw, rfl⟩, h hN _ _ _ (hr.put _ _ hd) hs hc⟩
theorem WD_skipF (ho : ops[i]? = some o) (hw : wantedF ops.toList fr o = some false) (hd : dstOk c.n o.dst = true)
    (h : WD c ops σ K (put fr o.dst undef) S M N) : WD c ops (.step i σ) K fr S M N := fun hN a w C hr hs hc => by
  unfold wpF wpOp
  simp only [ho]
  rw [if_neg (by rw [show ops = ops.toList.toArray by simp, wantedF_ok hr hw]; simp)]
  exact ⟨fun _ => hc S w (Heap.Le.refl _) (StI.sub (Heap.Le.refl _) hN hs.toI), h hN _ _ _ (hr.put _ _ hd) hs fun S' x hl hx _ => hc S' x hl hx⟩
theorem WD_gen (ho : ops[i]? = some o) (hw : wantedF ops.toList fr o = some true)
    (h : ∀ a w, Rep c.n a fr → St c S M w → N.Sublist M → ∀ Q, o.wp c.P a w (fun a' w' => ∃ v S' M', a' = a.put o.dst v ∧ S.Le S' ∧ N.Sublist M' ∧ St c S' M' w' ∧ WD c ops σ K (put fr o.dst v) S' M' N) Q) (hd : dstOk c.n o.dst = true) : WD c ops (.step i σ) K fr S M N := fun hN a w C hr hs hc => by
  unfold wpF wpOp
  simp only [ho]
  rw [if_pos (by rw [show ops = ops.toList.toArray by simp, wantedF_ok hr hw])]
  refine .inl (Oper.wp_mono ?_ (h a w hr hs hN _))
  rintro a' w' ⟨v, S', M', rfl, hle, hN', hs', hk⟩
  exact ⟨fun _ => hc S' w' hle (StI.sub (Heap.Le.refl _) hN' hs'.toI), hk hN' _ _ _ (hr.put _ _ hd) hs' fun S'' x hl hx _ => hc S'' x (hle.trans hl) hx⟩
/-- What comes behind all others: nothing that was looked at need stay. -/
theorem WD_genL (hlate : late .any ops i = true) (ho : ops[i]? = some o) (hw : wantedF ops.toList fr o = some true)
    (h : ∀ a w, Rep c.n a fr → St c S M w → ∀ Q, o.wp c.P a w (fun a' w' => ∃ v S' M', a' = a.put o.dst v ∧ S.Le S' ∧ St c S' M' w' ∧ WD c ops σ K (put fr o.dst v) S' M' []) Q) (hd : dstOk c.n o.dst = true) : WD c ops (.step i σ) K fr S M N := fun hN a w C hr hs hc => by
  unfold wpF wpOp
  simp only [ho]
  rw [if_pos (by rw [show ops = ops.toList.toArray by simp, wantedF_ok hr hw])]
  refine .inl (Oper.wp_mono ?_ (h a w hr hs _))
  rintro a' w' ⟨v, S', M', rfl, hle, hs', hk⟩
  exact ⟨fun hl => absurd (hlate.symm.trans hl) (by simp), hk (List.nil_sublist _) _ _ _ (hr.put _ _ hd) hs' fun S'' x _ _ hl => absurd (hlate.symm.trans hl) (by simp)⟩
theorem WD_perm (M' : List Asn) (p : M.Perm M') (h : WD c ops σ K fr S M' []) : WD c ops σ K fr S M [] := fun hN a w C hr hs hc => h (List.nil_sublist _) a w C hr (hs.perm p) hc
end
section
variable {g : Pg} {n : Nat} {w0 : World} {h0 S0 : Heap} {rd : Option Nat} {ops : Array Oper} {σ : Sch} {i : Nat} {K : Cont} {fr : Frm} {S : Heap} {M N : List Asn} {dst : Option Tmp} {ty : TypeId} {pos : String} {after : Array Edge} {gd : Option (Nat × Bool)}
theorem WD_ev {op : Op} {v : Value} {p : Prop} (ho : ops[i]? = some ⟨dst, op, ty, pos, after, gd⟩)
    (hw : wantedF ops.toList fr ⟨dst, op, ty, pos, after, gd⟩ = some true) (hd : dstOk n dst = true) (he : evOp g fr op = some (v, p)) (hp : p)
    (h : WD (ctx g n w0 h0 S0 rd) ops σ K (put fr dst v) S M N) : WD (ctx g n w0 h0 S0 rd) ops (.look i σ) K fr S M N :=
  WD_pure ho hw hd (fun a w hr => evOp_ok hr he hp _ _ _ _ _ w) h
theorem WD_loadS {t : TypeId} {x : Operand} {p : Addr} {v : Value} {ti : TI} (ho : ops[i]? = some ⟨dst, .load t x, ty, pos, after, gd⟩)
    (hw : wantedF ops.toList fr ⟨dst, .load t x, ty, pos, after, gd⟩ = some true) (hd : dstOk n dst = true) (hx : ev? fr x = some (.pointer (some p))) (ht : tget g.tab t = some ti) (ha : ti.agg = false) (hk : hcell S p = some v)
    (h : WD (ctx g n w0 h0 S0 rd) ops σ K (put fr dst v) S M N) : WD (ctx g n w0 h0 S0 rd) ops (.look i σ) K fr S M N :=
  WD_look ho hw hd (fun a w hr hs => by
    show Sem.run g.P _ w = _
    simp [execOp, hr.ev hx, Instr.loadAt, Instr.sureAddr, loadVar1 ht ha (hs.cell hk)]) h
theorem WD_loadSN {t : TypeId} {x : Operand} {p : Addr} {cs : List Value} {ti : TI} (ho : ops[i]? = some ⟨dst, .load t x, ty, pos, after, gd⟩)
    (hw : wantedF ops.toList fr ⟨dst, .load t x, ty, pos, after, gd⟩ = some true) (hd : dstOk n dst = true) (hx : ev? fr x = some (.pointer (some p))) (ht : tget g.tab t = some ti) (ha : ti.agg = true) (hs : p.spot = none) (hk : Row S p cs) (hl : cs.length = ti.size)
    (h : WD (ctx g n w0 h0 S0 rd) ops σ K (put fr dst (.agg ⟨cs⟩)) S M N) : WD (ctx g n w0 h0 S0 rd) ops (.look i σ) K fr S M N :=
  WD_look ho hw hd (fun a w hr hst => by
    show Sem.run g.P _ w = _
    simp [execOp, hr.ev hx, Instr.loadAt, Instr.sureAddr, loadVarN ht ha hs hl (fun j v e => hst.cell (hk j v e))]) h
theorem WD_load1 {t : TypeId} {x : Operand} {p : Addr} {v : Value} {ti : TI} (ho : ops[i]? = some ⟨dst, .load t x, ty, pos, after, gd⟩)
    (hw : wantedF ops.toList fr ⟨dst, .load t x, ty, pos, after, gd⟩ = some true) (hd : dstOk n dst = true) (hx : ev? fr x = some (.pointer (some p))) (ht : tget g.tab t = some ti) (ha : ti.agg = false) (hk : Kn S M p v)
    (h : WD (ctx g n w0 h0 S0 rd) ops σ K (put fr dst v) S M M) : WD (ctx g n w0 h0 S0 rd) ops (.look i σ) K fr S M N :=
  WD_float ho hw hd (fun a w hr hs => by
    obtain ⟨hp, st⟩ := hs
    show Sem.run g.P _ w = _
    simp [execOp, hr.ev hx, Instr.loadAt, Instr.sureAddr, loadVar1 ht ha (hk hp w st)]) h
theorem WD_loadN {t : TypeId} {x : Operand} {p : Addr} {cs : List Value} {ti : TI} (ho : ops[i]? = some ⟨dst, .load t x, ty, pos, after, gd⟩)
    (hw : wantedF ops.toList fr ⟨dst, .load t x, ty, pos, after, gd⟩ = some true) (hd : dstOk n dst = true) (hx : ev? fr x = some (.pointer (some p))) (ht : tget g.tab t = some ti) (ha : ti.agg = true) (hs : p.spot = none) (hk : KnRow S M p cs) (hl : Nat.beq cs.length ti.size = true)
    (h : WD (ctx g n w0 h0 S0 rd) ops σ K (put fr dst (.agg ⟨cs⟩)) S M M) : WD (ctx g n w0 h0 S0 rd) ops (.look i σ) K fr S M N :=
  WD_float ho hw hd (fun a w hr hst => by
    obtain ⟨hp, st⟩ := hst
    show Sem.run g.P _ w = _
    simp [execOp, hr.ev hx, Instr.loadAt, Instr.sureAddr, loadVarN ht ha hs (Nat.eq_of_beq_eq_true hl) (fun j v e => hk j v e hp w st)]) h
theorem WD_call {x : Operand} {as : List Operand} {ts : Array TypeId} {f : FuncId} {first captured : Array Value} {vs args : List Value} {Post : PostT}
    (ho : ops[i]? = some ⟨dst, .call ⟨.value x, ⟨as⟩, ts⟩, ty, pos, after, gd⟩)
    (hw : wantedF ops.toList fr ⟨dst, .call ⟨.value x, ⟨as⟩, ts⟩, ty, pos, after, gd⟩ = some true) (hd : dstOk n dst = true)
    (hx : ev? fr x = some (.func (.func f) first captured)) (ha : evs? fr as = some vs) (hargs : args = first.toList ++ vs ++ captured.toList)
    (hf : Fn g f args S [] Post)
    (h : ∀ v S' L', S.Le S' → Post v S' L' → WD (ctx g n w0 h0 S0 rd) ops σ K (put fr dst v) S' (L' ++ M) N) :
    WD (ctx g n w0 h0 S0 rd) ops (.step i σ) K fr S M N :=
  WD_gen ho hw (fun a w hr hs hN Q => by
    have e1 : a.eval x = .func (.func f) first captured := hr.ev hx
    have e2 : (⟨as⟩ : Array Operand).map a.eval = ⟨vs⟩ := by
      have := hr.evs ha
      simpa using this
    have e3 : first ++ (⟨vs⟩ : Array Value) ++ captured = ⟨args⟩ := by
      subst hargs
      apply Array.ext'
      simp
    have hrun : (execOp a.eval ⟨dst, .call ⟨.value x, ⟨as⟩, ts⟩, ty, pos, after, gd⟩).run g.P w = (callFunc f ⟨args⟩).run g.P w := by
      simp only [execOp, resolve, e1, e2, Deferred.ofValue, Sem.run_bind, Sem.run_pure, Result.andThen_ok, invoke]
      rw [e3]
    unfold Oper.wp
    rw [show (ctx g n w0 h0 S0 rd).P = g.P from rfl, hrun]
    obtain ⟨hp, st, q⟩ := hs
    have fin : ∀ v S' L' w', Post v S' L' → St ⟨g.P, 0, w, Heap.emp, S, none⟩ S' L' w' → ∃ v' S'' M', a.put dst v = a.put dst v' ∧ S.Le S'' ∧ N.Sublist M' ∧ St (ctx g n w0 h0 S0 rd) S'' M' w' ∧ WD (ctx g n w0 h0 S0 rd) ops σ K (put fr dst v') S'' M' N := by
      intro v S' L' w' hpost hs'
      refine ⟨v, S', L' ++ M, rfl, hs'.le, hN.trans (List.sublist_append_right _ _), ?_, h v S' L' hs'.le hpost⟩
      exact St.call (L := []) (R := M) st.own st q ⟨hp, st.own, rfl, Heap.emp_disj _, by funext b; rfl⟩ hs'
    rcases hf with hf | hf
    · rw [hf.1]
      refine (hf.2 w Heap.emp ⟨rfl, Heap.emp_disj _, (fun b o e => by cases e), st.sin⟩).mono ?_
      rintro e w' ⟨v, S', L', rfl, hpost, hs'⟩
      exact fin v S' L' w' hpost hs'
    · obtain ⟨v, S', L', w', e, hpost, hs'⟩ := hf w Heap.emp ⟨rfl, Heap.emp_disj _, (fun b o e => by cases e), st.sin⟩
      rw [e]
      exact fin v S' L' w' hpost hs') hd
theorem WD_new {o : Oper} {f : Nat → Value} {ob : Obj} (ho : ops[i]? = some o) (hw : wantedF ops.toList fr o = some true) (hd : dstOk n o.dst = true)
    (hrun : ∀ a w, Rep n a fr → St (ctx g n w0 h0 S0 rd) S M w → (execOp a.eval o).run g.P w = .ok (.value (f w.heap.size)) { w with heap := w.heap.push ob })
    (h : ∀ b, WD (ctx g n w0 h0 S0 rd) ops σ K (put fr o.dst (f b)) S (objA b ob :: M) N) : WD (ctx g n w0 h0 S0 rd) ops (.step i σ) K fr S M N :=
  WD_gen ho hw (fun a w hr hs hN Q => by
    unfold Oper.wp
    rw [show (ctx g n w0 h0 S0 rd).P = g.P from rfl, hrun a w hr hs]
    exact ⟨_, S, objA w.heap.size ob :: M, rfl, Heap.Le.refl _, hN.cons _, hs.alloc ob, h _⟩) hd
end
end Go.Proofs.YtmiefhokjeofcaaDoor.Eng
