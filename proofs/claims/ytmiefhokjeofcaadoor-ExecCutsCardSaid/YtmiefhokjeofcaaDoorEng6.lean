/- DERIVED. The engine, seventh part: rows that the function itself makes and appends to; slices that are read. Conditions: none. -/
import Derived.Test.YtmiefhokjeofcaaDoorEng5
set_option linter.unusedVariables false
set_option linter.unusedSimpArgs false
namespace Go.Proofs.YtmiefhokjeofcaaDoor.Eng
open Go

/-! ### 1. One assertion among the own ones -/
theorem Own.pick : ∀ {M : List Asn} {h : Heap} {k : Nat} {A : Asn}, Own M h → M[k]? = some A →
    ∃ hA hR, A hA ∧ hA.Disj hR ∧ h = hA.union hR ∧ ∀ (B : Asn) (hB : Heap), B hB → hB.Disj hR → Own (M.set k B) (hB.union hR)
  | [], _, _, _, _, e => by simp at e
  | A :: M, h, 0, A', ⟨h1, h2, a, o, d, e'⟩, e => by
    simp only [List.getElem?_cons_zero, Option.some.injEq] at e
    subst e
    exact ⟨h1, h2, a, d, e', fun B hB b d' => ⟨hB, h2, b, o, d', rfl⟩⟩
  | A :: M, h, k + 1, A', ⟨h1, h2, a, o, d, e'⟩, e => by
    simp only [List.getElem?_cons_succ] at e
    obtain ⟨hA, hR, a', d', rfl, kk⟩ := o.pick e
    have d1A : h1.Disj hA := d.symm.union_l.symm
    have d1R : h1.Disj hR := d.symm.union_r.symm
    refine ⟨hA, h1.union hR, a', (Heap.Disj.union_mk d1A d'.symm).symm, ?_, fun B hB b dB => ?_⟩
    · rw [e', ← Heap.union_assoc, ← Heap.union_assoc, Heap.union_comm d1A]
    · have dB1 : hB.Disj h1 := dB.symm.union_l.symm
      have dBR : hB.Disj hR := dB.symm.union_r.symm
      exact ⟨h1, hB.union hR, a, kk B hB b dBR, (Heap.Disj.union_mk dB1 d1R.symm).symm, by rw [← Heap.union_assoc, ← Heap.union_assoc, Heap.union_comm dB1]⟩
/-- One assertion's part of the heap is turned; all else stays. -/
theorem St.turn {c : Ctx} {S : Heap} {M : List Asn} {w : World} (hs : St c S M w) {k : Nat} {A : Asn} (hk : M[k]? = some A) :
    ∃ hA, A hA ∧ hA.In w ∧ ∀ (B : Asn) (hB : Heap) (w' : World), B hB → hB.In w' → w.heap.size ≤ w'.heap.size → w'.os = w.os → w'.tape = w.tape → w'.output = w.output →
      (∀ b, b < w.heap.size → hA b = none → w'.heap[b]? = w.heap[b]? ∧ hB b = none) → St c S (M.set k B) w' := by
  obtain ⟨h, st, q⟩ := hs
  obtain ⟨hA, hR, a, d, rfl, kk⟩ := st.own.pick hk
  refine ⟨hA, a, st.hin.union_l, fun B hB w' b i hsz ho ht hou old => ?_⟩
  have hRlt : ∀ x, hR x ≠ none → x < w.heap.size := fun x e => (st.hin.union_r d).lt e
  have hRn : ∀ x, hR x ≠ none → hA x = none := fun x e => (d x).resolve_right e
  have dB : hB.Disj hR := fun x => by
    by_cases e : hR x = none
    · exact .inr e
    · exact .inl (old x (hRlt x e) (hRn x e)).2
  have hSn : ∀ x, S x ≠ none → hA x = none ∧ hR x = none := fun x e => by
    rcases st.dis x with e' | e'
    · exact Heap.union_none.1 e'
    · exact absurd e' e
  refine ⟨hB.union hR, ⟨kk B hB b dB, fun x => ?_, Heap.In.union_mk i fun x o e => ?_, fun x o e => ?_⟩, Nat.le_trans q.size hsz, ho.trans q.os, ht.trans q.tape, hou.trans q.output, q.le, fun x hx e => ?_⟩
  · by_cases e : S x = none
    · exact .inr e
    · obtain ⟨e1, e2⟩ := hSn x e
      exact .inl (Heap.union_none.2 ⟨(old x (st.sin.lt e) e1).2, e2⟩)
  · rw [(old x (hRlt x (by rw [e]; simp)) (hRn x (by rw [e]; simp))).1]; exact (st.hin.union_r d) x o e
  · have hne : S x ≠ none := by rw [e]; simp
    rw [(old x (st.sin.lt hne) (hSn x hne).1).1]; exact st.sin x o e
  · obtain ⟨u, v, z⟩ := q.old x hx e
    obtain ⟨v1, v2⟩ := Heap.union_none.1 v
    obtain ⟨o1, o2⟩ := old x (Nat.lt_of_lt_of_le hx q.size) v1
    exact ⟨o1.trans u, Heap.union_none.2 ⟨o2, v2⟩, z⟩
theorem St.imp {c : Ctx} {S : Heap} {M : List Asn} {w : World} (hs : St c S M w) {k : Nat} {A : Asn} (hk : M[k]? = some A) (B : Asn) (hi : ∀ h, A h → B h) : St c S (M.set k B) w := by
  obtain ⟨hA, a, i, kk⟩ := hs.turn hk
  exact kk B hA w (hi _ a) i (Nat.le_refl _) rfl rfl rfl fun b _ e => ⟨rfl, e⟩

/-! ### 2. A row -/
/-- The slice '.slice A n c' is the function's own: its cells. -/
def rowA (e : TypeId) (sz : Nat) (A : Option Addr) (n c : Nat) (cs : List Value) : Asn := fun h =>
  cs.length = n * sz ∧ ((A = none ∧ n = 0 ∧ c = 0 ∧ h = Heap.emp) ∨
    ∃ b cur, A = some ⟨b, 0, none⟩ ∧ h = Heap.one b (.cells cur e (0, 0)) ∧ n ≤ c ∧ c ≤ maxLen ∧ cur.size = c * sz ∧ cur.toList.take (n * sz) = cs)
theorem rowA_nil (e : TypeId) (sz : Nat) : rowA e sz none 0 0 [] Heap.emp := ⟨by simp, .inl ⟨rfl, rfl, rfl, rfl⟩⟩
theorem rowA_owns {e : TypeId} {sz : Nat} {A : Option Addr} {n c : Nat} {cs : List Value} {h : Heap} {w : World} (r : rowA e sz A n c cs h) (i : h.In w) : w.ownsRow 0 e sz (.slice A n c) n cs := by
  obtain ⟨hl, r⟩ := r
  refine ⟨hl, ?_⟩
  rcases r with ⟨rfl, rfl, rfl, _⟩ | ⟨b, cur, rfl, rfl, h1, h2, h3, h4⟩
  · exact .inl ⟨rfl, rfl⟩
  · exact .inr ⟨b, c, cur, rfl, Nat.zero_le _, i b _ (Heap.one_self _ _), h1, h2, h3, h4⟩
theorem rowA_of_lit {e : TypeId} {sz n : Nat} {b : Nat} {cs : List Value} (hl : cs.length = n * sz) (hn : n ≤ maxLen) (h : Heap) (a : objA b (.cells ⟨cs⟩ e (0, 0)) h) : rowA e sz (some ⟨b, 0, none⟩) n n cs h :=
  ⟨hl, .inr ⟨b, ⟨cs⟩, rfl, a, Nat.le_refl _, hn, hl, by rw [← hl]; simp⟩⟩
theorem setR_take : ∀ (ds cs : List Value) (off k : Nat), (setR cs off ds).take k = setR (cs.take k) off ds
  | [], _, _, _ => rfl
  | v :: ds, cs, off, k => by rw [setR, setR_take ds, setR, List.take_set]
theorem oneCell_of {v : Value} (h : scalarB v = true) : v.oneCell' = true := by cases v <;> first | rfl | (simp [scalarB] at h)
theorem run_append_own2 {g : Pg} {w : World} {t e : TypeId} {ti ei : TI} (ty : TypeId) (ht : tget g.tab t = some ti) (htd : ti.desc = .slice e) (he : tget g.tab e = some ei) (hsz : 0 < ei.size) (hz : ei.zcs.length = ei.size)
    {A B : Option Addr} {n c m d : Nat} {cs ds : List Value} (hown : w.ownsRow 0 e ei.size (.slice A n c) n cs)
    (hl : ds.length = m * ei.size) (hB : m = 0 ∨ ∃ p : Addr, B = some p ∧ p.spot = none ∧ ∀ j u, ds[j]? = some u → w.cell? (addrAt p j) = some u) (h1 : ds.all scalarB = true)
    (h63 : n + m ≤ maxLen) (hbytes : (n + m) * ei.bytes ≤ 140737488355328) :
    ∃ A' c' w', (Builtin.append_ #[t, t] ty #[.slice A n c, .slice B m d]).run g.P w = .ok (.slice A' (n + m) c') w' ∧ w'.ownsRow 0 e ei.size (.slice A' (n + m) c') (n + m) (cs ++ ds) ∧ w.grownBy w' (Value.slice A n c).ownBlock ∧
      ((Value.slice A' (n + m) c').ownBlock = (Value.slice A n c).ownBlock ∨ (Value.slice A' (n + m) c').ownBlock = some w.heap.size) := by
  obtain ⟨hu, _⟩ := g.ok.get ht
  rw [htd] at hu
  obtain ⟨_, x, hx, x1, x2, x3, x4⟩ := g.ok.get he
  have hzs : ei.zero.cells.size = ei.size := by
    rw [x4]
    exact hz
  cases B with
  | none =>
    have hm : m = 0 := by
      rcases hB with h | ⟨p, h, _⟩
      · exact h
      · cases h
    subst hm
    have hds : ds = [] := List.eq_nil_of_length_eq_zero (by simpa using hl)
    subst hds
    refine ⟨A, c, w, ?_, by simpa using hown, World.grownBy.refl w _, .inl rfl⟩
    have hnc : n ≤ c := by
      rcases hown.2 with ⟨h, hn⟩ | ⟨gg, cap, cur, h, _, _, hnc, _⟩
      · omega
      · injection h with _ _ h; omega
    cases A <;> simp [Builtin.append_, run_underlying hu, sizeOf, typeInfo, hx, Builtin.lenOf, Builtin.firstCells, hnc, storeCells]
  | some p =>
    have hcells : ∀ j u, ds[j]? = some u → w.cell? (p.add j) = some u := by
      intro j u hj
      rcases hB with h | ⟨p', h, hs, hc⟩
      · subst h
        have : ds = [] := List.eq_nil_of_length_eq_zero (by simpa using hl)
        subst this
        simp at hj
      · injection h with h
        subst h
        rw [addrAt_add _ hs]
        exact hc j u hj
    obtain ⟨v', w', hr, ho, hg, _, hat⟩ := run_append_own_at (P := g.P) w 0 t ty e x ei.zero ei.size ei.bytes hu hx x3 x1 x2 hzs hsz (.slice A n c) n cs hown p m d ds hl hcells
      (fun u hu => oneCell_of (List.all_eq_true.1 h1 u hu)) h63 hbytes (Nat.zero_le _)
    have hform : ∃ A' c', v' = .slice A' (n + m) c' := by
      rcases ho.2 with ⟨rfl, h0⟩ | ⟨gg, cap, cur, rfl, _⟩
      · exact ⟨none, 0, by rw [h0]⟩
      · exact ⟨_, cap, rfl⟩
    obtain ⟨A', c', rfl⟩ := hform
    exact ⟨A', c', w', hr, ho, hg, hat⟩

theorem St.append {c : Ctx} {S : Heap} {M : List Asn} {w w' : World} (hs : St c S M w) {k : Nat} {e : TypeId} {sz : Nat} {A A' : Option Addr} {n m cp cp' : Nat} {cs ds : List Value} (hk : M[k]? = some (rowA e sz A n cp cs))
    (ho : w'.ownsRow 0 e sz (.slice A' (n + m) cp') (n + m) (cs ++ ds)) (hg : w.grownBy w' (Value.slice A n cp).ownBlock)
    (hat : (Value.slice A' (n + m) cp').ownBlock = (Value.slice A n cp).ownBlock ∨ (Value.slice A' (n + m) cp').ownBlock = some w.heap.size) : St c S (M.set k (rowA e sz A' (n + m) cp' (cs ++ ds))) w' := by
  obtain ⟨hA, a, i, kk⟩ := hs.turn hk
  obtain ⟨hl, hown⟩ := ho
  -- where the old row's heap is nothing the block is unlike
  have hold : ∀ b, b < w.heap.size → hA b = none → w'.heap[b]? = w.heap[b]? := fun b hb e' => by
    refine hg.block b hb ?_
    rcases a.2 with ⟨rfl, _, _, _⟩ | ⟨b0, cur, rfl, rfl, _⟩
    · simp [Value.ownBlock]
    · intro h
      simp only [Value.ownBlock, Option.some.injEq] at h
      subst h
      rw [Heap.one_self] at e'
      cases e'
  rcases hown with ⟨hv, hn⟩ | ⟨b', cap, cur', hv, _, hb', h1, h2, h3, h4⟩
  · injection hv with hv1 hv2 hv3
    subst hv1 hv3
    refine kk _ Heap.emp w' ⟨hl, .inl ⟨rfl, hv2, rfl, rfl⟩⟩ (fun _ _ e => by cases e) hg.size hg.os hg.tape hg.output fun b hb e' => ⟨hold b hb e', rfl⟩
  · injection hv with hv1 hv2 hv3
    subst hv1 hv3
    refine kk _ (Heap.one b' (.cells cur' e (0, 0))) w' ⟨hl, .inr ⟨b', cur', rfl, rfl, h1, h2, h3, h4⟩⟩ (fun x o e' => ?_) hg.size hg.os hg.tape hg.output fun b hb e' => ⟨hold b hb e', ?_⟩
    · by_cases hx : x = b'
      · subst hx; rw [Heap.one_self] at e'; simp only [Option.some.injEq] at e'; subst e'; exact hb'
      · rw [Heap.one_ne _ hx] at e'; cases e'
    · refine Heap.one_ne _ fun hbb => ?_
      subst hbb
      rcases hat with h | h
      · simp only [Value.ownBlock] at h
        rcases a.2 with ⟨rfl, _, _, _⟩ | ⟨b0, cur, rfl, rfl, _⟩
        · simp at h
        · simp only [Option.some.injEq] at h
          subst h
          rw [Heap.one_self] at e'
          cases e'
      · simp only [Value.ownBlock, Option.some.injEq] at h
        omega
theorem Kn.ofRow {S : Heap} {M : List Asn} (k : Nat) {e : TypeId} {sz n c b : Nat} {cs : List Value} {off : Nat} {v : Value} (hk : M[k]? = some (rowA e sz (some ⟨b, 0, none⟩) n c cs)) (hc : cs[off]? = some v) : Kn S M ⟨b, off, none⟩ v := fun h w st => by
  obtain ⟨hA, hR, a, d, rfl, _⟩ := st.own.pick hk
  obtain ⟨hl, r⟩ := a
  rcases r with ⟨h, _⟩ | ⟨b', cur, hb, rfl, h1, h2, h3, h4⟩
  · cases h
  · simp only [Option.some.injEq, Addr.mk.injEq, and_true, true_and] at hb
    subst hb
    have := st.hin b _ (Heap.union_left (Heap.one_self b _))
    unfold World.cell?
    simp only [this]
    have hlt := (List.getElem?_eq_some_iff.1 hc).1
    rw [← h4, List.getElem?_take_of_lt (by omega)] at hc
    simpa using hc
theorem KnRow.ofRow {S : Heap} {M : List Asn} (k : Nat) {e : TypeId} {sz n c b : Nat} {cs : List Value} (hk : M[k]? = some (rowA e sz (some ⟨b, 0, none⟩) n c cs)) (off : Nat) {ds : List Value} (hc : ∀ j v, ds[j]? = some v → cs[off + j]? = some v) : KnRow S M ⟨b, off, none⟩ ds := fun j v e => by
  unfold addrAt
  exact Kn.ofRow k hk (hc j v e)

section
variable {g : Pg} {n : Nat} {w0 : World} {h0 S0 : Heap} {rd : Option Nat} {ops : List Oper} {K : Cont} {fr : Frm} {S : Heap} {M : List Asn} {rest : List Oper} {dst : Option Tmp} {ty : TypeId} {pos : String} {after : Array Edge} {gd : Option (Nat × Bool)}
theorem WL_imp (k : Nat) {A : Asn} (B : Asn) (hk : M[k]? = some A) (hi : ∀ h, A h → B h) (h : WL (ctx g n w0 h0 S0 rd) ops rest K fr S (M.set k B)) : WL (ctx g n w0 h0 S0 rd) ops rest K fr S M := fun a w hr hs => h a w hr (hs.imp hk B hi)
theorem W_imp {x : Code} (k : Nat) {A : Asn} (B : Asn) (hk : M[k]? = some A) (hi : ∀ h, A h → B h) (h : W (ctx g n w0 h0 S0 rd) x K fr S (M.set k B)) : W (ctx g n w0 h0 S0 rd) x K fr S M := fun a w hr hs => h a w hr (hs.imp hk B hi)
/-- A nil slice is a row of one's own. -/
theorem W_row0 {x : Code} (e : TypeId) (sz : Nat) (h : W (ctx g n w0 h0 S0 rd) x K fr S (rowA e sz none 0 0 [] :: M)) : W (ctx g n w0 h0 S0 rd) x K fr S M := fun a w hr hs => by
  obtain ⟨hp, st, q⟩ := hs
  exact h a w hr ⟨hp, ⟨⟨Heap.emp, hp, rowA_nil e sz, st.own, Heap.emp_disj _, by funext b; rfl⟩, st.dis, st.hin, st.sin⟩, q⟩
theorem WL_row0 (e : TypeId) (sz : Nat) (h : WL (ctx g n w0 h0 S0 rd) ops rest K fr S (rowA e sz none 0 0 [] :: M)) : WL (ctx g n w0 h0 S0 rd) ops rest K fr S M := fun a w hr hs => by
  obtain ⟨hp, st, q⟩ := hs
  exact h a w hr ⟨hp, ⟨⟨Heap.emp, hp, rowA_nil e sz, st.own, Heap.emp_disj _, by funext b; rfl⟩, st.dis, st.hin, st.sin⟩, q⟩
theorem append_run {c : Ctx} (hc : c.P = g.P) {S : Heap} {M : List Asn} (k : Nat) {x y : Operand} {t e : TypeId} {ti ei : TI} {A B : Option Addr} {nn cp m d : Nat} {cs ds : List Value}
    (hx : ev? fr x = some (.slice A nn cp)) (hy : ev? fr y = some (.slice B m d)) (ht : tget g.tab t = some ti) (htd : ti.desc = .slice e) (he : tget g.tab e = some ei) (hsz : Nat.blt 0 ei.size = true) (hz : Nat.beq ei.zcs.length ei.size = true)
    (hk : M[k]? = some (rowA e ei.size A nn cp cs)) (hB : m = 0 ∨ ∃ p : Addr, B = some p ∧ p.spot = none ∧ KnRow S M p ds) (hl : ds.length = m * ei.size) (h1 : ds.all scalarB = true) (hb : (nn + m) * ei.bytes ≤ 140737488355328) (hm : nn + m ≤ 140737488355328)
    {a : Act} {w : World} (hr : Rep c.n a fr) (hs : St c S M w) :
    ∃ A' c' w', (execOp a.eval ⟨dst, .call ⟨.builtin .append, ⟨[x, y]⟩, ⟨[t, t]⟩⟩, ty, pos, after, gd⟩).run g.P w = .ok (.value (.slice A' (nn + m) c')) w' ∧ St c S (M.set k (rowA e ei.size A' (nn + m) c' (cs ++ ds))) w' := by
  obtain ⟨hA, ha, hi, _⟩ := hs.turn hk
  have hown := rowA_owns ha hi
  obtain ⟨hp, st, q⟩ := id hs
  obtain ⟨A', c', w', hrun, ho, hg, hat⟩ := run_append_own2 (g := g) ty ht htd he (by simpa [Nat.blt_eq] using hsz) (Nat.eq_of_beq_eq_true hz) (B := B) (m := m) (d := d) (ds := ds) hown hl
    (by
      rcases hB with h | ⟨p, e1, e2, e3⟩
      · exact .inl h
      · exact .inr ⟨p, e1, e2, fun j u e => e3 j u e hp w st⟩) h1 (by simp only [maxLen]; omega) hb
  refine ⟨A', c', w', ?_, hs.append hk ho hg hat⟩
  simp only [execOp, resolve, Sem.run_bind, Sem.run_pure, Result.andThen_ok, invoke, builtin]
  have : ((⟨[x, y]⟩ : Array Operand).map a.eval) = #[.slice A nn cp, .slice B m d] := by
    apply Array.ext'
    simp [hr.ev hx, hr.ev hy]
  rw [this]
  have hr' := hrun
  simp only [hr', Result.andThen_ok]
theorem WL_append (k : Nat) {x y : Operand} {t e : TypeId} {ti ei : TI} {A B : Option Addr} {nn c m d : Nat} {cs ds : List Value}
    (hw : wantedF ops fr ⟨dst, .call ⟨.builtin .append, ⟨[x, y]⟩, ⟨[t, t]⟩⟩, ty, pos, after, gd⟩ = some true) (hd : dstOk n dst = true) (hx : ev? fr x = some (.slice A nn c)) (hy : ev? fr y = some (.slice B m d))
    (ht : tget g.tab t = some ti) (htd : ti.desc = .slice e) (he : tget g.tab e = some ei) (hsz : Nat.blt 0 ei.size = true) (hz : Nat.beq ei.zcs.length ei.size = true)
    (hk : M[k]? = some (rowA e ei.size A nn c cs)) (hB : m = 0 ∨ ∃ p : Addr, B = some p ∧ p.spot = none ∧ KnRow S M p ds) (hl : ds.length = m * ei.size) (h1 : ds.all scalarB = true) (hb : (nn + m) * ei.bytes ≤ 140737488355328) (hm : nn + m ≤ 140737488355328)
    (h : ∀ A' c', WL (ctx g n w0 h0 S0 rd) ops rest K (put fr dst (.slice A' (nn + m) c')) S (M.set k (rowA e ei.size A' (nn + m) c' (cs ++ ds)))) :
    WL (ctx g n w0 h0 S0 rd) ops (⟨dst, .call ⟨.builtin .append, ⟨[x, y]⟩, ⟨[t, t]⟩⟩, ty, pos, after, gd⟩ :: rest) K fr S M :=
  WL_gen hw fun a w hr hs => by
    obtain ⟨A', c', w', e1, hs'⟩ := append_run (g := g) (c := ctx g n w0 h0 S0 rd) rfl k hx hy ht htd he hsz hz hk hB hl h1 hb hm (dst := dst) (ty := ty) (pos := pos) (after := after) (gd := gd) hr hs
    rw [show (ctx g n w0 h0 S0 rd).P = g.P from rfl, e1]
    exact h A' c' _ _ (hr.put _ _ hd) hs'
theorem WD_append {arr : Array Oper} {N : List Asn} {σ : Sch} {i : Nat} (k : Nat) {x y : Operand} {t e : TypeId} {ti ei : TI} {A B : Option Addr} {nn c m d : Nat} {cs ds : List Value} (ho : arr[i]? = some ⟨dst, .call ⟨.builtin .append, ⟨[x, y]⟩, ⟨[t, t]⟩⟩, ty, pos, after, gd⟩)
    (hw : wantedF arr.toList fr ⟨dst, .call ⟨.builtin .append, ⟨[x, y]⟩, ⟨[t, t]⟩⟩, ty, pos, after, gd⟩ = some true) (hd : dstOk n dst = true) (hx : ev? fr x = some (.slice A nn c)) (hy : ev? fr y = some (.slice B m d))
    (ht : tget g.tab t = some ti) (htd : ti.desc = .slice e) (he : tget g.tab e = some ei) (hsz : Nat.blt 0 ei.size = true) (hz : Nat.beq ei.zcs.length ei.size = true)
    (hk : M[k]? = some (rowA e ei.size A nn c cs)) (hB : m = 0 ∨ ∃ p : Addr, B = some p ∧ p.spot = none ∧ KnRow S M p ds) (hl : ds.length = m * ei.size) (h1 : ds.all scalarB = true) (hb : (nn + m) * ei.bytes ≤ 140737488355328) (hm : nn + m ≤ 140737488355328)
    (hN : ∀ X, N.Sublist (M.set k X))
    (h : ∀ A' c', WD (ctx g n w0 h0 S0 rd) arr σ K (put fr dst (.slice A' (nn + m) c')) S (M.set k (rowA e ei.size A' (nn + m) c' (cs ++ ds))) N) :
    WD (ctx g n w0 h0 S0 rd) arr (.step i σ) K fr S M N :=
  WD_gen ho hw (fun a w hr hs _ Q => by
    obtain ⟨A', c', w', e1, hs'⟩ := append_run (g := g) (c := ctx g n w0 h0 S0 rd) rfl k hx hy ht htd he hsz hz hk hB hl h1 hb hm (dst := dst) (ty := ty) (pos := pos) (after := after) (gd := gd) hr hs
    unfold Oper.wp
    rw [show (ctx g n w0 h0 S0 rd).P = g.P from rfl, e1]
    exact ⟨_, S, _, rfl, Heap.Le.refl _, hN _, hs', h A' c'⟩) hd
/-- A store into a row of one's own. -/
theorem WL_storeRow (k : Nat) {t : TypeId} {x y : Operand} {b off : Nat} {v : Value} {cs : List Value} {e : TypeId} {sz nn c : Nat} {i : TI}
    (hw : wantedF ops fr ⟨dst, .store t x y, ty, pos, after, gd⟩ = some true) (hd : dstOk n dst = true) (hx : ev? fr x = some (.pointer (some ⟨b, off, none⟩))) (hy : ev? fr y = some v) (ht : tget g.tab t = some i)
    (hk : M[k]? = some (rowA e sz (some ⟨b, 0, none⟩) nn c cs)) (hl : Nat.beq (cellsOf v).length i.size = true) (hb : off + (cellsOf v).length ≤ cs.length) (hs : (cellsOf v).all scalarB = true)
    (h : WL (ctx g n w0 h0 S0 rd) ops rest K (put fr dst undef) S (M.set k (rowA e sz (some ⟨b, 0, none⟩) nn c (setR cs off (cellsOf v))))) : WL (ctx g n w0 h0 S0 rd) ops (⟨dst, .store t x y, ty, pos, after, gd⟩ :: rest) K fr S M :=
  WL_unit hw hd (fun a w hr hst => by
    obtain ⟨hA, ha, hi, kk⟩ := hst.turn hk
    obtain ⟨hlen, r⟩ := ha
    rcases r with ⟨h', _⟩ | ⟨b', cur, hb', rfl, h1, h2, h3, h4⟩
    · cases h'
    · simp only [Option.some.injEq, Addr.mk.injEq, and_true, true_and] at hb'
      subst hb'
      have hbk : w.heap[b]? = some (.cells ⟨cur.toList⟩ e (0, 0)) := by
        rw [hi b _ (Heap.one_self _ _)]
      have hcur : cur.toList.length = c * sz := by simpa using h3
      have hle : cs.length ≤ cur.toList.length := by rw [hlen, hcur]; exact Nat.mul_le_mul_right _ h1
      refine ⟨{ w with heap := w.heap.setIfInBounds b (.cells ⟨setR cur.toList off (cellsOf v)⟩ e (0, 0)) }, ?_, ?_⟩
      · show Sem.run g.P _ w = _
        have hst' := storeVar_ok (w := w) (off := off) (cs := cur.toList) ht (cellsOf_ok v) (Nat.eq_of_beq_eq_true hl) hbk (by omega) hs
        simp only [execOp, hr.ev hx, hr.ev hy, Instr.storeAt, Instr.sureAddr, Sem.run_bind, Sem.run_pure, Result.andThen_ok, hst']
      · refine kk _ (Heap.one b (.cells ⟨setR cur.toList off (cellsOf v)⟩ e (0, 0))) _ ⟨by rw [setR_length, hlen], .inr ⟨b, _, rfl, rfl, h1, h2, ?_, ?_⟩⟩ (fun x o e' => ?_) (by simp) rfl rfl rfl fun x hx' e' => ?_
        · show (setR cur.toList off (cellsOf v)).length = _
          rw [setR_length, hcur]
        · show (setR cur.toList off (cellsOf v)).take (nn * sz) = _
          rw [← hlen, setR_take, hlen, h4]
        · by_cases hxb : x = b
          · subst hxb
            rw [Heap.one_self] at e'
            simp only [Option.some.injEq] at e'
            subst e'
            have := (Array.getElem?_eq_some_iff.1 hbk).1
            simp [this]
          · rw [Heap.one_ne _ hxb] at e'; cases e'
        · have hxb : x ≠ b := fun hxb => by subst hxb; rw [Heap.one_self] at e'; cases e'
          refine ⟨?_, Heap.one_ne _ hxb⟩
          show (w.heap.setIfInBounds b _)[x]? = _
          rw [Array.getElem?_setIfInBounds_ne (Ne.symm hxb)]) h
end
end Go.Proofs.YtmiefhokjeofcaaDoor.Eng
