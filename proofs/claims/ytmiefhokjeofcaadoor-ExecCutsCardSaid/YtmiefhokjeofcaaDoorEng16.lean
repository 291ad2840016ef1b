/- DERIVED. The engine, seventeenth part: ways that meet again, rows that have elements, lists of rows that are done, stores where the order is drawn. Conditions: none. -/
import Derived.Test.YtmiefhokjeofcaaDoorEng15
set_option linter.unusedVariables false
set_option linter.unusedSimpArgs false
set_option linter.unusedSectionVars false
namespace Go.Proofs.YtmiefhokjeofcaaDoor.Eng
open Go

/-- Ways meet again. -/
theorem W_join {c : Ctx} {K : Cont} {fr : Frm} {S : Heap} {M : List Asn} {x y : Code} (σ : Type) (F : σ → List (Nat × Value)) (H : σ → Heap → Prop) (N : σ → List Asn)
    (h1 : W c x (fun e fr' T M' => match e with
      | .normal => ∃ s, sub fr' ⟨F s, []⟩ ∧ S.Le T ∧ H s T ∧ M' = N s
      | e => K e fr' T M') fr S M)
    (h2 : ∀ s T, S.Le T → H s T → W c y K ⟨F s, []⟩ T (N s)) : W c (.seq x y) K fr S M :=
  W_seq fun a w hr hs => wpIn_mono (h1 a w hr hs) fun e a w => by
    rintro ⟨fr', T, M', hr', hs', k⟩
    cases e with
    | normal =>
      obtain ⟨s, g1, g2, g3, rfl⟩ := k
      exact ⟨_, T, _, hr'.weak g1, hs', h2 s T g2 g3⟩
    | _ => exact ⟨fr', T, M', hr', hs', k⟩
theorem rowA_some {e : TypeId} {sz : Nat} {A : Option Addr} {n c : Nat} {cs : List Value} {h : Heap} (r : rowA e sz A n c cs h) (hn : 0 < n) : ∃ b, A = some ⟨b, 0, none⟩ := by
  obtain ⟨_, ⟨_, rfl, _⟩ | ⟨b, _, rfl, _⟩⟩ := r
  · omega
  · exact ⟨b, rfl⟩
theorem rowA_bound {e : TypeId} {sz : Nat} {A : Option Addr} {n c : Nat} {cs : List Value} {h : Heap} (r : rowA e sz A n c cs h) : n ≤ c ∧ c ≤ 9223372036854775807 := by
  obtain ⟨_, ⟨_, rfl, rfl, _⟩ | ⟨b, _, rfl, _, h1, h2, _⟩⟩ := r
  · omega
  · have : maxLen = 9223372036854775807 := by decide
    omega
section
variable {c : Ctx} {ops : List Oper} {K : Cont} {fr : Frm} {S : Heap} {M N : List Asn} {rest : List Oper} {x : Code}
theorem WL_rowSome (k : Nat) {e : TypeId} {sz n cp : Nat} {A : Option Addr} {cs : List Value} (hk : M[k]? = some (rowA e sz A n cp cs)) (hn : 0 < n) (h : ∀ b, A = some ⟨b, 0, none⟩ → WL c ops rest K fr S M) : WL c ops rest K fr S M := fun a w hr hs => by
  obtain ⟨hh, st, q⟩ := hs
  obtain ⟨hA, ha, _⟩ := (show St c S M w from ⟨hh, st, q⟩).turn hk
  obtain ⟨b, hb⟩ := rowA_some ha hn
  exact h b hb a w hr ⟨hh, st, q⟩
theorem W_rowSome (k : Nat) {e : TypeId} {sz n cp : Nat} {A : Option Addr} {cs : List Value} (hk : M[k]? = some (rowA e sz A n cp cs)) (hn : 0 < n) (h : ∀ b, A = some ⟨b, 0, none⟩ → W c x K fr S M) : W c x K fr S M := fun a w hr hs => by
  obtain ⟨hh, st, q⟩ := hs
  obtain ⟨hA, ha, _⟩ := (show St c S M w from ⟨hh, st, q⟩).turn hk
  obtain ⟨b, hb⟩ := rowA_some ha hn
  exact h b hb a w hr ⟨hh, st, q⟩
end
theorem RowO.le {S S' : Heap} (hl : S.Le S') {A : Option Addr} {cs : List Value} : RowO S A cs → RowO S' A cs := fun h => h.imp id fun ⟨b, e, r⟩ => ⟨b, e, r.le hl⟩
/-- A row's data. -/
structure RowD where
  e : TypeId
  sz : Nat
  A : Option Addr
  n : Nat
  c : Nat
  cs : List Value
def RowD.own (r : RowD) : Asn := rowA r.e r.sz r.A r.n r.c r.cs
def RowD.done (S : Heap) (r : RowD) : Prop := RowO S r.A r.cs ∧ r.n ≤ r.c ∧ r.c ≤ 9223372036854775807
theorem RowD.done.le {S S' : Heap} (hl : S.Le S') {r : RowD} (h : r.done S) : r.done S' := ⟨h.1.le hl, h.2⟩
theorem W_freezeRows {c : Ctx} {K : Cont} {fr : Frm} {M : List Asn} {x : Code} : ∀ (L : List RowD) {S : Heap}, (∀ S', S.Le S' → (∀ r ∈ L, r.done S') → W c x K fr S' M) → W c x K fr S (L.map RowD.own ++ M)
  | [], S, h => h S (Heap.Le.refl _) (fun r hr => by cases hr)
  | r :: L, S, h => by
    refine W_freezeRow (fun S1 hl1 hro hcp => ?_)
    refine W_freezeRows L (fun S2 hl2 hd => h S2 (hl1.trans hl2) (fun r' hr' => ?_))
    rcases List.mem_cons.1 hr' with rfl | hr'
    · exact ⟨hro.le hl2, hcp⟩
    · exact hd r' hr'
section
variable {g : Pg} {n : Nat} {w0 : World} {h0 S0 : Heap} {rd : Option Nat} {ops : Array Oper} {σ : Sch} {i : Nat} {K : Cont} {fr : Frm} {S : Heap} {M N : List Asn} {dst : Option Tmp} {ty : TypeId} {pos : String} {after : Array Edge} {gd : Option (Nat × Bool)}
/-- A store into own block number k, behind all else of a region whose order is drawn. -/
theorem WD_store (k : Nat) {t : TypeId} {x y : Operand} {b off : Nat} {v : Value} {cs : List Value} {tt : TypeId} {ti : TI} (ho : ops[i]? = some ⟨dst, .store t x y, ty, pos, after, gd⟩) (hlate : late .any ops i = true)
    (hw : wantedF ops.toList fr ⟨dst, .store t x y, ty, pos, after, gd⟩ = some true) (hd : dstOk n dst = true) (hx : ev? fr x = some (.pointer (some ⟨b, off, none⟩))) (hy : ev? fr y = some v) (ht : tget g.tab t = some ti)
    (hk : M[k]? = some (objA b (.cells ⟨cs⟩ tt (0, 0)))) (hl : Nat.beq (cellsOf v).length ti.size = true) (hb : Nat.ble (off + (cellsOf v).length) cs.length = true) (hs : (cellsOf v).all scalarB = true)
    (h : WD (ctx g n w0 h0 S0 rd) ops σ K (put fr dst undef) S (M.set k (objA b (.cells ⟨setR cs off (cellsOf v)⟩ tt (0, 0)))) []) : WD (ctx g n w0 h0 S0 rd) ops (.step i σ) K fr S M N :=
  WD_genL hlate ho hw (fun a w hr hst Q => by
    have hbk : w.heap[b]? = some (.cells ⟨cs⟩ tt (0, 0)) := by
      obtain ⟨hp, st, _⟩ := hst
      exact st.hin _ _ (st.own.get hk)
    have hrun : (execOp a.eval ⟨dst, .store t x y, ty, pos, after, gd⟩).run g.P w = .ok .skip { w with heap := w.heap.setIfInBounds b (.cells ⟨setR cs off (cellsOf v)⟩ tt (0, 0)) } := by
      simp only [execOp, hr.ev hx, hr.ev hy, Instr.storeAt, Instr.sureAddr, Sem.run_bind, Sem.run_pure, Result.andThen_ok, storeVar_ok ht (cellsOf_ok v) (Nat.eq_of_beq_eq_true hl) hbk (Nat.le_of_ble_eq_true hb) hs]
    unfold Oper.wp
    rw [show (ctx g n w0 h0 S0 rd).P = g.P from rfl, hrun]
    exact ⟨undef, S, _, rfl, Heap.Le.refl _, hst.set hk _, h⟩) hd
end
end Go.Proofs.YtmiefhokjeofcaaDoor.Eng
