/- DERIVED. The engine, eighth part: data that is read: kinds, slices; rows that are done. Conditions: none. -/
import Derived.Test.YtmiefhokjeofcaaDoorEng6
set_option linter.unusedVariables false
set_option linter.unusedSimpArgs false
namespace Go.Proofs.YtmiefhokjeofcaaDoor.Eng
open Go

/-! ### 1. Kinds of data -/
structure Kd (α : Type) where
  sz : Nat
  K : Heap → α → List Value → Prop
  len : ∀ {S : Heap} {x : α} {cs : List Value}, K S x cs → cs.length = sz
  mono : ∀ {S S' : Heap} {x : α} {cs : List Value}, S.Le S' → K S x cs → K S' x cs
  flat : ∀ {S : Heap} {x : α} {cs : List Value}, K S x cs → cs.all scalarB = true
def kInt (k : IntKind) : Kd Int := ⟨1, fun _ x cs => cs = [.int k x], fun h => by subst h; rfl, fun _ h => h, fun h => by subst h; rfl⟩
def kBool : Kd Bool := ⟨1, fun _ x cs => cs = [.bool x], fun h => by subst h; rfl, fun _ h => h, fun h => by subst h; rfl⟩
def kStr : Kd (List UInt8) := ⟨1, fun _ x cs => cs = [vs x], fun h => by subst h; rfl, fun _ h => h, fun h => by subst h; rfl⟩
def kPair {α β : Type} (a : Kd α) (b : Kd β) : Kd (α × β) := ⟨a.sz + b.sz, fun S x cs => ∃ c1 c2, cs = c1 ++ c2 ∧ a.K S x.1 c1 ∧ b.K S x.2 c2,
  fun ⟨c1, c2, e, h1, h2⟩ => by rw [e, List.length_append, a.len h1, b.len h2], fun hl ⟨c1, c2, e, h1, h2⟩ => ⟨c1, c2, e, a.mono hl h1, b.mono hl h2⟩,
  fun ⟨c1, c2, e, h1, h2⟩ => by rw [e, List.all_append, a.flat h1, b.flat h2]; rfl⟩

def SlR {α : Type} (d : Kd α) (S : Heap) : Option Addr → List α → Prop
  | _, [] => True
  | A, x :: xs => ∃ b off cs, A = some ⟨b, off, none⟩ ∧ d.K S x cs ∧ Row S ⟨b, off, none⟩ cs ∧ SlR d S (some ⟨b, off + d.sz, none⟩) xs
theorem SlR.le {α : Type} {d : Kd α} {S S' : Heap} (hl : S.Le S') : ∀ {xs : List α} {A : Option Addr}, SlR d S A xs → SlR d S' A xs
  | [], _, _ => trivial
  | _ :: _, _, ⟨b, off, cs, e, k, r, t⟩ => ⟨b, off, cs, e, d.mono hl k, r.le hl, SlR.le hl t⟩
theorem SlR.get {α : Type} {d : Kd α} {S : Heap} : ∀ {xs : List α} {A : Option Addr}, SlR d S A xs → ∀ i x, xs[i]? = some x → ∃ b off cs, A = some ⟨b, off, none⟩ ∧ d.K S x cs ∧ Row S ⟨b, off + i * d.sz, none⟩ cs
  | [], _, _, i, x, e => by simp at e
  | y :: xs, A, ⟨b, off, cs, e, k, r, t⟩, 0, x, ex => by
    simp only [List.getElem?_cons_zero, Option.some.injEq] at ex
    subst ex
    exact ⟨b, off, cs, e, k, by simpa using r⟩
  | y :: xs, A, ⟨b, off, cs, e, k, r, t⟩, i + 1, x, ex => by
    simp only [List.getElem?_cons_succ] at ex
    obtain ⟨b', off', cs', e', k', r'⟩ := t.get i x ex
    simp only [Option.some.injEq, Addr.mk.injEq, and_true] at e'
    obtain ⟨rfl, rfl⟩ := e'
    exact ⟨b, off, cs', e, k', by rw [Nat.succ_mul, show off + (i * d.sz + d.sz) = off + d.sz + i * d.sz by omega]; exact r'⟩
theorem SlR.some {α : Type} {d : Kd α} {S : Heap} {xs : List α} {A : Option Addr} (h : SlR d S A xs) (hx : 0 < xs.length) : ∃ b off, A = some ⟨b, off, none⟩ := by
  cases xs with
  | nil => simp at hx
  | cons x xs => obtain ⟨b, off, _, e, _⟩ := h; exact ⟨b, off, e⟩
theorem SlR.drop {α : Type} {d : Kd α} {S : Heap} : ∀ {xs : List α} {b off : Nat}, SlR d S (.some ⟨b, off, none⟩) xs → ∀ k, SlR d S (.some ⟨b, off + k * d.sz, none⟩) (xs.drop k)
  | [], _, _, _, k => by simp [SlR]
  | x :: xs, b, off, h, 0 => by simpa using h
  | x :: xs, b, off, ⟨b', off', cs, e, _, _, t⟩, k + 1 => by
    simp only [Option.some.injEq, Addr.mk.injEq, and_true] at e
    obtain ⟨rfl, rfl⟩ := e
    rw [List.drop_succ_cons, Nat.succ_mul, show off + (k * d.sz + d.sz) = off + d.sz + k * d.sz by omega]
    exact t.drop k
theorem SlR.take {α : Type} {d : Kd α} {S : Heap} : ∀ {xs : List α} {A : Option Addr}, SlR d S A xs → ∀ k, SlR d S A (xs.take k)
  | [], _, _, k => by simp [SlR]
  | x :: xs, A, h, 0 => by simp [SlR]
  | x :: xs, A, ⟨b, off, cs, e, k', r, t⟩, k + 1 => ⟨b, off, cs, e, k', r, t.take k⟩
theorem SlR.nil {α : Type} {d : Kd α} {S : Heap} (A : Option Addr) : SlR d S A ([] : List α) := trivial
/-- Cells, element behind element. -/
def RepsL {α : Type} (d : Kd α) (S : Heap) : List α → List Value → Prop
  | [], cs => cs = []
  | x :: xs, cs => ∃ c r, cs = c ++ r ∧ d.K S x c ∧ RepsL d S xs r
theorem RepsL.le {α : Type} {d : Kd α} {S S' : Heap} (hl : S.Le S') : ∀ {xs : List α} {cs : List Value}, RepsL d S xs cs → RepsL d S' xs cs
  | [], _, h => h
  | _ :: _, _, ⟨c, r, e, k, t⟩ => ⟨c, r, e, d.mono hl k, t.le hl⟩
theorem RepsL.append {α : Type} {d : Kd α} {S : Heap} : ∀ {xs ys : List α} {cs ds : List Value}, RepsL d S xs cs → RepsL d S ys ds → RepsL d S (xs ++ ys) (cs ++ ds)
  | [], _, cs, ds, h, k => by have : cs = [] := h; subst this; exact k
  | _ :: _, _, cs, ds, ⟨c, r, e, k, t⟩, h => ⟨c, r ++ ds, by rw [e, List.append_assoc], k, t.append h⟩
theorem RepsL.one {α : Type} {d : Kd α} {S : Heap} {x : α} {c : List Value} (h : d.K S x c) : RepsL d S [x] c := ⟨c, [], by simp, h, rfl⟩
theorem RepsL.snoc {α : Type} {d : Kd α} {S : Heap} {xs : List α} {x : α} {cs c : List Value} (h : RepsL d S xs cs) (k : d.K S x c) : RepsL d S (xs ++ [x]) (cs ++ c) := h.append (.one k)
theorem RepsL.length {α : Type} {d : Kd α} {S : Heap} : ∀ {xs : List α} {cs : List Value}, RepsL d S xs cs → cs.length = xs.length * d.sz
  | [], cs, h => by have : cs = [] := h; subst this; simp
  | x :: xs, cs, ⟨c, r, e, k, t⟩ => by rw [e, List.length_append, d.len k, t.length, List.length_cons, Nat.succ_mul, Nat.add_comm]
theorem RepsL.flat {α : Type} {d : Kd α} {S : Heap} : ∀ {xs : List α} {cs : List Value}, RepsL d S xs cs → cs.all scalarB = true
  | [], cs, h => by have : cs = [] := h; subst this; rfl
  | x :: xs, cs, ⟨c, r, e, k, t⟩ => by rw [e, List.all_append, d.flat k, t.flat]; rfl
theorem RepsL.sl {α : Type} {d : Kd α} {S : Heap} : ∀ {xs : List α} {cs : List Value} {b off : Nat}, RepsL d S xs cs → Row S ⟨b, off, none⟩ cs → SlR d S (.some ⟨b, off, none⟩) xs
  | [], _, _, _, _, _ => trivial
  | x :: xs, cs, b, off, ⟨c, r, e, k, t⟩, hr => by
    subst e
    obtain ⟨h1, h2⟩ := hr.append
    refine ⟨b, off, c, rfl, k, h1, ?_⟩
    have := t.sl h2
    rw [d.len k] at this
    exact this
theorem SlR.row {α : Type} {d : Kd α} {S : Heap} : ∀ {xs : List α} {b off : Nat}, SlR d S (.some ⟨b, off, none⟩) xs → ∃ cs, RepsL d S xs cs ∧ Row S ⟨b, off, none⟩ cs
  | [], _, _, _ => ⟨[], rfl, fun j v e => by simp at e⟩
  | x :: xs, b, off, ⟨b', off', c, e, k, hr, t⟩ => by
    simp only [Option.some.injEq, Addr.mk.injEq, and_true] at e
    obtain ⟨rfl, rfl⟩ := e
    obtain ⟨cs, h1, h2⟩ := t.row
    refine ⟨c ++ cs, ⟨c, cs, rfl, k, h1⟩, fun j v e => ?_⟩
    by_cases hj : j < c.length
    · rw [List.getElem?_append_left hj] at e; exact hr j v e
    · rw [List.getElem?_append_right (by omega)] at e
      have := h2 (j - c.length) v e
      unfold addrAt at *
      rw [d.len k] at *
      simp only at this ⊢
      rw [show off + j = off + d.sz + (j - d.sz) by omega]
      exact this
/-- What append takes. -/
theorem SlR.src {α : Type} {d : Kd α} {S : Heap} {M : List Asn} {xs : List α} {A : Option Addr} (h : SlR d S A xs) :
    ∃ cs, RepsL d S xs cs ∧ (xs.length = 0 ∨ ∃ p : Addr, A = .some p ∧ p.spot = none ∧ KnRow S M p cs) := by
  cases xs with
  | nil => exact ⟨[], rfl, .inl rfl⟩
  | cons x xs =>
    obtain ⟨b, off, e⟩ := h.some (by simp)
    subst e
    obtain ⟨cs, h1, h2⟩ := h.row
    exact ⟨cs, h1, .inr ⟨_, rfl, rfl, KnRow.ofS h2⟩⟩
def kSlice {α : Type} (d : Kd α) : Kd (List α) := ⟨1, fun S xs cs => ∃ A c, cs = [.slice A xs.length c] ∧ (xs.length ≤ c ∧ c ≤ 9223372036854775807) ∧ SlR d S A xs,
  fun ⟨A, c, e, _⟩ => by subst e; rfl, fun hl ⟨A, c, e, h1, h2⟩ => ⟨A, c, e, h1, h2.le hl⟩, fun ⟨A, c, e, _⟩ => by subst e; rfl⟩

/-! ### 2. A row that is done -/
def RowO (S : Heap) (A : Option Addr) (cs : List Value) : Prop := cs = [] ∨ ∃ b, A = some ⟨b, 0, none⟩ ∧ Row S ⟨b, 0, none⟩ cs
theorem RowO.sl {α : Type} {d : Kd α} {S : Heap} {A : Option Addr} {cs : List Value} {xs : List α} (h : RowO S A cs) (hd : 0 < d.sz) (k : RepsL d S xs cs) : SlR d S A xs := by
  rcases h with rfl | ⟨b, rfl, hr⟩
  · have := k.length
    simp only [List.length_nil] at this
    have : xs.length = 0 := by
      rcases Nat.eq_zero_or_pos xs.length with h | h
      · exact h
      · have := Nat.mul_pos h hd; omega
    have : xs = [] := List.eq_nil_of_length_eq_zero this
    subst this
    trivial
  · exact k.sl hr
theorem St.freezeRow {c : Ctx} {S : Heap} {M : List Asn} {w : World} {e : TypeId} {sz n cp : Nat} {A : Option Addr} {cs : List Value} (h : St c S (rowA e sz A n cp cs :: M) w) :
    ∃ S', S.Le S' ∧ RowO S' A cs ∧ (n ≤ cp ∧ cp ≤ 9223372036854775807) ∧ St c S' M w := by
  obtain ⟨hp, st, q⟩ := id h
  obtain ⟨h1, h2, a, o2, d, rfl⟩ := st.own
  obtain ⟨hl, r⟩ := a
  rcases r with ⟨rfl, rfl, rfl, rfl⟩ | ⟨b, cur, rfl, rfl, h3, h4, h5, h6⟩
  · exact ⟨S, Heap.Le.refl _, .inl (List.eq_nil_of_length_eq_zero (by simpa using hl)), ⟨Nat.le_refl _, by omega⟩, h.drop⟩
  · have h' : St c S (objA b (.cells cur e (0, 0)) :: M) w := ⟨_, ⟨⟨_, h2, rfl, o2, d, rfl⟩, st.dis, st.hin, st.sin⟩, q⟩
    obtain ⟨S', g1, g2, g3⟩ := h'.freeze
    refine ⟨S', g1, .inr ⟨b, rfl, fun j v e => ?_⟩, ⟨h3, by simpa only [maxLen] using h4⟩, g3⟩
    unfold hcell addrAt
    simp only [g2]
    have hlt := (List.getElem?_eq_some_iff.1 e).1
    rw [← h6, List.getElem?_take_of_lt (by omega)] at e
    simpa using e
section
variable {g : Pg} {n : Nat} {w0 : World} {h0 S0 : Heap} {rd : Option Nat} {ops : List Oper} {K : Cont} {fr : Frm} {S : Heap} {M : List Asn} {rest : List Oper} {dst : Option Tmp} {ty : TypeId} {pos : String} {after : Array Edge} {gd : Option (Nat × Bool)}
theorem W_freezeRow {x : Code} {c : Ctx} {e : TypeId} {sz nn cp : Nat} {A : Option Addr} {cs : List Value} (h : ∀ S', S.Le S' → RowO S' A cs → (nn ≤ cp ∧ cp ≤ 9223372036854775807) → W c x K fr S' M) : W c x K fr S (rowA e sz A nn cp cs :: M) := fun a w hr hs => by
  obtain ⟨S', h1, h2, h3, h4⟩ := hs.freezeRow
  exact h S' h1 h2 h3 a w hr h4
theorem WL_freezeRow {c : Ctx} {e : TypeId} {sz nn cp : Nat} {A : Option Addr} {cs : List Value} (h : ∀ S', S.Le S' → RowO S' A cs → (nn ≤ cp ∧ cp ≤ 9223372036854775807) → WL c ops rest K fr S' M) : WL c ops rest K fr S (rowA e sz A nn cp cs :: M) := fun a w hr hs => by
  obtain ⟨S', h1, h2, h3, h4⟩ := hs.freezeRow
  exact h S' h1 h2 h3 a w hr h4

/-! ### 3. Slices of slices -/
theorem sliceS_ok {t : TypeId} {ti ei : TI} {e : TypeId} (ht : tget g.tab t = some ti) (htd : ti.desc = .slice e) (he : tget g.tab e = some ei) (A : Option Addr) (len cap i j m : Nat) (hij : i ≤ j) (hjm : j ≤ m) (hmc : m ≤ cap) (lo hi mx : Option Value) (w : World)
    (hlo : lo = none ∧ i = 0 ∨ ∃ k, lo = some (.int k i)) (hhi : hi = none ∧ j = len ∧ mx = none ∨ ∃ k, hi = some (.int k j)) (hmx : mx = none ∧ m = cap ∨ ∃ k, mx = some (.int k m)) :
    (Instr.sliceAt t (.slice A len cap) lo hi mx).run g.P w = .ok (.slice (if m = i then A else A.map (·.add (i * ei.size))) (j - i) (m - i)) w := by
  have sb : ∀ (k : IntKind) (x y : Nat) (cd : BoundsCode), x ≤ y → (Instr.sliceBound (.int k (x : Int)) y cd).run g.P w = .ok x w := fun k x y cd h => by
    rw [sliceBound_ok ⟨by omega, by omega⟩]; simp
  have h1 : (Instr.sliceBounds true len cap lo hi mx).run g.P w = .ok (i, j, m) w := by
    rcases hlo with ⟨rfl, rfl⟩ | ⟨k1, rfl⟩ <;> rcases hmx with ⟨rfl, rfl⟩ | ⟨k3, rfl⟩ <;> rcases hhi with ⟨rfl, rfl, h⟩ | ⟨k2, rfl⟩ <;> (try cases h) <;>
      simp only [Instr.sliceBounds, Sem.run_bind, Sem.run_pure, Result.andThen_ok] <;> simp [sb _ _ _ _ hij, sb _ _ _ _ hjm, sb _ _ _ _ hmc, sb _ _ _ _ (Nat.zero_le _)]
  simp only [Instr.sliceAt, Sem.run_bind, Pg.und ht, htd, Result.andThen_ok, Instr.slice, h1, Pg.szOf he, Sem.run_pure]
def SubOf (A : Option Addr) (len : Nat) (sz i j : Nat) (A' : Option Addr) : Prop := ∀ (α : Type) (d : Kd α) (S : Heap) (xs : List α), d.sz = sz → xs.length = len → SlR d S A xs → SlR d S A' ((xs.drop i).take (j - i))
theorem subOf_mk (A : Option Addr) (len cap sz i j m : Nat) (hij : i ≤ j) (hjm : j ≤ m) (hj : j ≤ len) : SubOf A len sz i j (if m = i then A else A.map (·.add (i * sz))) := fun α d S xs hd hl h => by
  subst hd
  by_cases hm : m = i
  · rw [if_pos hm]
    have : j - i = 0 := by omega
    rw [this, List.take_zero]
    trivial
  · rw [if_neg hm]
    refine SlR.take ?_ _
    by_cases hx : xs.length = 0
    · have : xs = [] := List.eq_nil_of_length_eq_zero hx
      subst this
      simp [SlR]
    · obtain ⟨b, off, rfl⟩ := h.some (by omega)
      simp only [Option.map_some]
      rw [addrAt_add _ rfl]
      exact h.drop i
theorem WL_sliceS {t : TypeId} {x : Operand} {lo hi mx : Option Operand} {vlo vhi vmx : Option Value} {ti ei : TI} {e : TypeId} {A : Option Addr} {len cap : Nat} (i j m : Nat)
    (hw : wantedF ops fr ⟨dst, .slice t x lo hi mx, ty, pos, after, gd⟩ = some true) (hd : dstOk n dst = true) (hx : ev? fr x = some (.slice A len cap)) (ht : tget g.tab t = some ti) (htd : ti.desc = .slice e) (he : tget g.tab e = some ei)
    (e1 : lo.map (ev? fr) = vlo.map some) (e2 : hi.map (ev? fr) = vhi.map some) (e3 : mx.map (ev? fr) = vmx.map some)
    (hlo : vlo = none ∧ i = 0 ∨ ∃ k, vlo = some (.int k i)) (hhi : vhi = none ∧ j = len ∧ vmx = none ∨ ∃ k, vhi = some (.int k j)) (hmx : vmx = none ∧ m = cap ∨ ∃ k, vmx = some (.int k m))
    (hij : i ≤ j) (hjm : j ≤ m) (hmc : m ≤ cap)
    (h : ∀ A', (j ≤ len → SubOf A len ei.size i j A') → (i = 0 → A' = A) → WL (ctx g n w0 h0 S0 rd) ops rest K (put fr dst (.slice A' (j - i) (m - i))) S M) : WL (ctx g n w0 h0 S0 rd) ops (⟨dst, .slice t x lo hi mx, ty, pos, after, gd⟩ :: rest) K fr S M :=
  WL_val hw hd (fun a w hr hs => by
    have conv : ∀ {o : Option Operand} {v : Option Value}, o.map (ev? fr) = v.map some → o.map a.eval = v := fun {o v} h => by
      cases o <;> cases v <;> simp only [Option.map_none, Option.map_some, reduceCtorEq, Option.some.injEq] at h ⊢
      exact hr.ev h
    show Sem.run g.P _ w = _
    simp only [execOp, hr.ev hx, conv e1, conv e2, conv e3, Sem.run_bind, sliceS_ok ht htd he A len cap i j m hij hjm hmc vlo vhi vmx w hlo hhi hmx, Result.andThen_ok, Sem.run_pure])
    (h _ (fun hj => subOf_mk A len cap ei.size i j m hij hjm hj) (fun h0 => by
      subst h0
      split
      · rfl
      · cases A <;> simp [Addr.add]))
end
end Go.Proofs.YtmiefhokjeofcaaDoor.Eng
