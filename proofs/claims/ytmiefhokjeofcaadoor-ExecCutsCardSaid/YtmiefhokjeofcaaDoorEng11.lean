/- DERIVED. The engine, twelfth part: texts behind rows of bytes, pointers turned to unsafe.Pointer and back, a builder's text. Conditions: none. -/
import Derived.Test.YtmiefhokjeofcaaDoorEng10
import Derived.Lib.UnsafeStr
set_option linter.unusedVariables false
set_option linter.unusedSimpArgs false
namespace Go.Proofs.YtmiefhokjeofcaaDoor.Eng
open Go Go.Lib

theorem strCells_bc (l : List UInt8) : strCells ⟨⟨l⟩⟩ = bc l := rfl
theorem run_append_str {P : Program} (w : World) (t u ty e : TypeId) (i : TypeInfo) (ht : P.underlying t = some (.slice e)) (hu : P.underlying u = some .string) (hi : P.info? e = some i) (hz : i.zero = some (.int .u8 0))
    (hsize : i.size = 1) (hby : i.bytes = 1) (A : Option Addr) (n c : Nat) (xs : List Value) (hown : w.ownsRow 0 e 1 (.slice A n c) n xs) (s : ByteArray)
    (h63 : n + s.size ≤ maxLen) (hbytes : n + s.size ≤ 140737488355328) :
    ∃ A' c' w', (Builtin.append_ #[t, u] ty #[.slice A n c, .string s]).run P w = .ok (.slice A' (n + s.size) c') w' ∧ w'.ownsRow 0 e 1 (.slice A' (n + s.size) c') (n + s.size) (xs ++ strCells s) ∧ w.grownBy w' (Value.slice A n c).ownBlock ∧
      ((Value.slice A' (n + s.size) c').ownBlock = (Value.slice A n c).ownBlock ∨ (Value.slice A' (n + s.size) c').ownBlock = some w.heap.size) := by
  have hsmall : n + s.size ≤ 9223372036854775807 := by simp only [maxLen] at h63; omega
  have hxl : xs.length = n := by simpa using hown.1
  have hlen : (xs ++ strCells s).length = (n + s.size) * 1 := by rw [List.length_append, hxl, strCells_length, Nat.mul_one]
  have grown : ∀ (old : Nat), old < n + s.size → ∀ (row : Option Nat),
      (w.drew.alloc (.cells (xs.toArray ++ (strCells s).toArray ++ Builtin.zeroCells (Value.int .u8 0).cells (grownCap w (n + s.size) old e - (n + s.size))) e)).ownsRow 0 e 1
        (.slice (some ⟨w.heap.size, 0, none⟩) (n + s.size) (grownCap w (n + s.size) old e)) (n + s.size) (xs ++ strCells s) ∧
      w.grownBy (w.drew.alloc (.cells (xs.toArray ++ (strCells s).toArray ++ Builtin.zeroCells (Value.int .u8 0).cells (grownCap w (n + s.size) old e - (n + s.size))) e)) row := by
    intro old ho row
    have hge := grownCap_ge w (n + s.size) old e
    have hcm : grownCap w (n + s.size) old e ≤ maxLen := grownCap_le_maxLen w (n + s.size) old e h63
    refine ⟨⟨hlen, .inr ⟨w.heap.size, _, _, rfl, Nat.zero_le _, heap_alloc_new w.drew _, hge, hcm, ?_, ?_⟩⟩, ⟨rfl, rfl, rfl, by simp, fun k hk _ => (by show (w.heap.push _)[k]? = w.heap[k]?; rw [Array.getElem?_push, if_neg (Nat.ne_of_lt hk)])⟩⟩
    · have hz1 : (Value.int IntKind.u8 0).cells.size = 1 := rfl
      simp only [Array.size_append, List.size_toArray, size_zeroCells, hz1, hxl, strCells_length]
      omega
    · simp only [Array.toList_append, List.append_assoc]
      rw [← List.append_assoc, ← hlen]
      exact List.take_left
  rcases hown.2 with ⟨e0, rfl⟩ | ⟨g, cap, cur, e0, hbg, hg, hnc, hcm, hcs, htake⟩
  · cases e0
    have hx : xs = [] := List.eq_nil_of_length_eq_zero hxl
    subst hx
    by_cases hm : s.size = 0
    · have hn : strCells s = [] := List.eq_nil_of_length_eq_zero (by rw [strCells_length]; exact hm)
      refine ⟨none, 0, w, ?_, by rw [hm, hn]; exact World.ownsRow_nil w 0 e 1, ⟨rfl, rfl, rfl, Nat.le_refl _, fun _ _ _ => rfl⟩, .inl rfl⟩
      have hf := run_firstCells_string (P := P) w 1 s
      rw [hm] at hf
      simp [Builtin.append_, run_underlying ht, run_underlying hu, sizeOf, typeInfo, hi, hsize, Builtin.lenOf, hm, hf]
    · have hr := run_append_nil_string (P := P) w t u ty e i (.int .u8 0) ht hu hi hz s (by omega) (by omega) (by rw [hby]; omega)
      have hgr := grown 0 (by omega) (Value.ownBlock (.slice none 0 0))
      simp only [Nat.zero_add, List.nil_append, Array.empty_append] at hgr ⊢
      have e1 : (s.data.map fun b => Value.int .u8 b.toNat) = (strCells s).toArray := by
        apply Array.ext'
        simp [strCells]
      rw [e1] at hr
      exact ⟨_, _, _, hr, hgr.1, hgr.2, .inr rfl⟩
  · cases e0
    by_cases hroom : n + s.size ≤ c
    · have hcs' : cur.size = c := by simpa using hcs
      have hr := run_append_room_string (P := P) w t u ty e i ht hu hi hsize g n c cur hg s hroom (by omega)
      refine ⟨_, _, _, hr, ⟨hlen, .inr ⟨g, c, _, rfl, hbg, setRow_heap w g cur _ e _ hg, hroom, hcm, ?_, ?_⟩⟩, ⟨rfl, rfl, rfl, by simp, fun k _ hk => setRow_other w g k _ (fun e => hk (by simp [Value.ownBlock, e]))⟩, .inl rfl⟩
      · simp only [List.size_toArray, List.length_append, List.length_take, List.length_drop, Array.length_toList, strCells_length]
        omega
      · have ht' : cur.toList.take n = xs := by simpa using htake
        rw [ht', ← hlen]
        exact List.take_left
    · have holds : ∀ j u, xs[j]? = some u → w.cell? ((⟨g, 0, none⟩ : Addr).add j) = some u := hown.cells (g := g) rfl
      have hr := run_append_grow_string (P := P) w t u ty e i (.int .u8 0) ht hu hi hz ⟨g, 0, none⟩ n c xs (by rw [hsize]; simpa using hxl) holds s (by omega) (by omega) (by rw [hby]; exact growslice_fits (by omega) (by omega))
      have hgr := grown c (by omega) (Value.ownBlock (.slice (some ⟨g, 0, none⟩) n c))
      exact ⟨_, _, _, hr, hgr.1, hgr.2, .inr rfl⟩
section
variable {g : Pg} {n : Nat} {w0 : World} {h0 S0 : Heap} {rd : Option Nat} {ops : List Oper} {K : Cont} {fr : Frm} {S : Heap} {M N : List Asn} {rest : List Oper} {dst : Option Tmp} {ty : TypeId} {pos : String} {after : Array Edge} {gd : Option (Nat × Bool)}
theorem WL_appendS (k : Nat) {x y : Operand} {t u e : TypeId} {ti ui ei : TI} {A : Option Addr} {nn c : Nat} {cs : List Value} {l : List UInt8}
    (hw : wantedF ops fr ⟨dst, .call ⟨.builtin .append, ⟨[x, y]⟩, ⟨[t, u]⟩⟩, ty, pos, after, gd⟩ = some true) (hd : dstOk n dst = true) (hx : ev? fr x = some (.slice A nn c)) (hy : ev? fr y = some (vs l))
    (ht : tget g.tab t = some ti) (htd : ti.desc = .slice e) (hu : tget g.tab u = some ui) (hud : ui.desc = .string) (he : tget g.tab e = some ei) (hsz : ei.size = 1) (hby : ei.bytes = 1) (hz : ei.zero = .int .u8 0)
    (hk : M[k]? = some (rowA e 1 A nn c cs)) (hm : nn + l.length ≤ 140737488355328)
    (h : ∀ A' c', WL (ctx g n w0 h0 S0 rd) ops rest K (put fr dst (.slice A' (nn + l.length) c')) S (M.set k (rowA e 1 A' (nn + l.length) c' (cs ++ bc l)))) :
    WL (ctx g n w0 h0 S0 rd) ops (⟨dst, .call ⟨.builtin .append, ⟨[x, y]⟩, ⟨[t, u]⟩⟩, ty, pos, after, gd⟩ :: rest) K fr S M :=
  WL_gen hw fun a w hr hs => by
    obtain ⟨hA, ha, hi, _⟩ := hs.turn hk
    have hown := rowA_owns ha hi
    obtain ⟨_, i, hi', x1, x2, x3, x4⟩ := g.ok.get he
    obtain ⟨A', c', w', hrun, ho, hg, hat⟩ := run_append_str (P := g.P) w t u ty e i (by rw [und_of ht, htd]) (by rw [und_of hu, hud]) hi' (by rw [x3, hz]) (x1.trans hsz) (x2.trans hby) A nn c cs hown ⟨⟨l⟩⟩ (by simp only [maxLen]; exact Nat.le_trans hm (by decide)) hm
    have hs' := hs.append hk ho hg hat
    have hex : (execOp a.eval ⟨dst, .call ⟨.builtin .append, ⟨[x, y]⟩, ⟨[t, u]⟩⟩, ty, pos, after, gd⟩).run g.P w = .ok (.value (.slice A' (nn + l.length) c')) w' := by
      simp only [execOp, resolve, Sem.run_bind, Sem.run_pure, Result.andThen_ok, invoke, builtin]
      have : ((⟨[x, y]⟩ : Array Operand).map a.eval) = #[.slice A nn c, vs l] := by
        apply Array.ext'
        simp [hr.ev hx, hr.ev hy]
      rw [this]
      have hr' := hrun
      simp only [vs]
      simp only [hr', Result.andThen_ok]
      rfl
    rw [show (ctx g n w0 h0 S0 rd).P = g.P from rfl, hex]
    exact h A' c' _ _ (hr.put _ _ hd) hs'
/-- A pointer to a variable of one's own, turned to unsafe.Pointer. -/
theorem WL_toUnsafe (k : Nat) {s d t : TypeId} {x : Operand} {b : Nat} {cs : List Value} {tt : TypeId} {fz : Nat × Nat} {si di ti : TI} (hw : wantedF ops fr ⟨dst, .convert s d x, ty, pos, after, gd⟩ = some true) (hd : dstOk n dst = true)
    (hx : ev? fr x = some (.pointer (some ⟨b, 0, none⟩))) (hs : tget g.tab s = some si) (hsd : si.desc = .pointer t) (hdt : tget g.tab d = some di) (hdd : di.desc = .unsafePointer) (ht : tget g.tab t = some ti) (hsz : Nat.blt 0 ti.size = true)
    (hk : M[k]? = some (objA b (.cells ⟨cs⟩ tt fz))) (hc : Nat.blt 0 cs.length = true)
    (h : WL (ctx g n w0 h0 S0 rd) ops rest K (put fr dst (.pointer (some ⟨b, 0, none⟩))) S M) : WL (ctx g n w0 h0 S0 rd) ops (⟨dst, .convert s d x, ty, pos, after, gd⟩ :: rest) K fr S M :=
  WL_val hw hd (fun a w hr hst => by
    obtain ⟨hp, st, q⟩ := hst
    have hb := st.hin _ _ (st.own.get hk)
    obtain ⟨_, j, hj, x1, _⟩ := g.ok.get ht
    have hsh : w.shape? b = some (tt, cs.length) := by
      unfold World.shape?
      simp only [hb]
      rfl
    show Sem.run g.P _ w = _
    simp only [execOp, hr.ev hx, Sem.run_bind, Lib.run_to_unsafe (P := g.P) w ⟨b, 0, none⟩ (by rw [und_of hs, hsd]) (by rw [und_of hdt, hdd]) hj (by rw [x1]; intro e; rw [e] at hsz; cases hsz) hsh (by simpa [Nat.blt_eq] using hc), Result.andThen_ok, Sem.run_pure]) h
/-- .. and back. -/
theorem WL_fromUnsafe (k : Nat) {s d t : TypeId} {x : Operand} {b : Nat} {cs : List Value} {tt : TypeId} {fz : Nat × Nat} {si di ti : TI} (hw : wantedF ops fr ⟨dst, .convert s d x, ty, pos, after, gd⟩ = some true) (hd : dstOk n dst = true)
    (hx : ev? fr x = some (.pointer (some ⟨b, 0, none⟩))) (hs : tget g.tab s = some si) (hsd : si.desc = .unsafePointer) (hdt : tget g.tab d = some di) (hdd : di.desc = .pointer t) (ht : tget g.tab t = some ti)
    (hk : M[k]? = some (objA b (.cells ⟨cs⟩ tt fz))) (hl : liesAt g.P g.P.depth tt (cs.length / g.P.cellsOf tt) 0 t 1 = true)
    (h : WL (ctx g n w0 h0 S0 rd) ops rest K (put fr dst (.pointer (some ⟨b, 0, none⟩))) S M) : WL (ctx g n w0 h0 S0 rd) ops (⟨dst, .convert s d x, ty, pos, after, gd⟩ :: rest) K fr S M :=
  WL_val hw hd (fun a w hr hst => by
    obtain ⟨hp, st, q⟩ := hst
    have hb := st.hin _ _ (st.own.get hk)
    obtain ⟨_, j, hj, x1, _⟩ := g.ok.get ht
    have hsh : w.shape? b = some (tt, cs.length) := by
      unfold World.shape?
      simp only [hb]
      rfl
    show Sem.run g.P _ w = _
    simp only [execOp, hr.ev hx, Sem.run_bind, Lib.run_from_unsafe (P := g.P) w ⟨b, 0, none⟩ (by rw [und_of hs, hsd]) (by rw [und_of hdt, hdd]) hj hsh hl, Result.andThen_ok, Sem.run_pure]) h
/-- A pointer held against itself. -/
theorem WL_neqSelf {t u e : TypeId} {x y : Operand} {a : Addr} {ti ei : TI} (hw : wantedF ops fr ⟨dst, .binOp .neq t x y u, ty, pos, after, gd⟩ = some true) (hd : dstOk n dst = true)
    (hx : ev? fr x = some (.pointer (some a))) (hy : ev? fr y = some (.pointer (some a))) (ht : tget g.tab t = some ti) (htd : ti.desc = .pointer e) (he : tget g.tab e = some ei)
    (h : WL (ctx g n w0 h0 S0 rd) ops rest K (put fr dst (.bool false)) S M) : WL (ctx g n w0 h0 S0 rd) ops (⟨dst, .binOp .neq t x y u, ty, pos, after, gd⟩ :: rest) K fr S M :=
  WL_val hw hd (fun aa w hr hst => by
    obtain ⟨_, j, hj, _⟩ := g.ok.get he
    have h1 := Lib.run_neq_ptr_same (P := g.P) w a (by rw [und_of ht, htd]) hj
    show Sem.run g.P _ w = _
    simp only [execOp, hr.ev hx, hr.ev hy, Sem.run_bind, eqGuard_plain (op := .neq) (t := t) (x := x) (y := y) (show noAgg (.pointer (some a)) (.pointer (some a)) from trivial), Result.andThen_ok]
    rw [h1]
    rfl) h
/-- The address of a row of bytes of one's own. -/
theorem WD_sliceData {opss : Array Oper} {σ : Sch} {i : Nat} {x : Operand} {ts : Array TypeId} {e : TypeId} {ti : TI} {A : Option Addr} {nn c : Nat} {cs : List Value} {M' : List Asn}
    (ho : opss[i]? = some ⟨dst, .call ⟨.builtin .unsafeSliceData, ⟨[x]⟩, ts⟩, ty, pos, after, gd⟩) (hw : wantedF opss.toList fr ⟨dst, .call ⟨.builtin .unsafeSliceData, ⟨[x]⟩, ts⟩, ty, pos, after, gd⟩ = some true) (hd : dstOk n dst = true)
    (hx : ev? fr x = some (.slice A nn c)) (hty : tget g.tab ty = some ti) (htd : ti.desc = .pointer e)
    (h : ∀ q, (0 < nn → q = A) → WD (ctx g n w0 h0 S0 rd) opss σ K (put fr dst (.pointer q)) S (rowA e 1 A nn c cs :: M') N) :
    WD (ctx g n w0 h0 S0 rd) opss (.step i σ) K fr S (rowA e 1 A nn c cs :: M') N :=
  WD_gen ho hw (fun a w hr hs hN Q => by
    have hrow : (A = none ∧ nn = 0) ∨ ∃ b cur, A = some ⟨b, 0, none⟩ ∧ w.heap[b]? = some (.cells cur e (0, 0)) ∧ nn ≤ c := by
      obtain ⟨hA, ha, hi, _⟩ := hs.turn (k := 0) rfl
      obtain ⟨_, r⟩ := ha
      rcases r with ⟨rfl, rfl, _, _⟩ | ⟨b, cur, rfl, rfl, h1, _⟩
      · exact .inl ⟨rfl, rfl⟩
      · exact .inr ⟨b, cur, rfl, hi b _ (Heap.one_self _ _), h1⟩
    have hex : ∀ (r : Result Value), (Builtin.unsafeSliceData_ ts ty #[.slice A nn c]).run g.P w = r → (execOp a.eval ⟨dst, .call ⟨.builtin .unsafeSliceData, ⟨[x]⟩, ts⟩, ty, pos, after, gd⟩).run g.P w = r.andThen fun v w' => .ok (.value v) w' := by
      intro r hr'
      simp only [execOp, resolve, Sem.run_bind, Sem.run_pure, Result.andThen_ok, invoke, builtin]
      have : ((⟨[x]⟩ : Array Operand).map a.eval) = #[.slice A nn c] := by
        apply Array.ext'
        simp [hr.ev hx]
      rw [this, hr']
    unfold Oper.wp
    rw [show (ctx g n w0 h0 S0 rd).P = g.P from rfl]
    rcases hrow with ⟨rfl, rfl⟩ | ⟨b, cur, rfl, hb, hnc⟩
    · rw [hex _ (Lib.run_unsafeSliceData_nil (P := g.P) w ts ty 0 c)]
      exact ⟨_, S, _, rfl, Heap.Le.refl _, hN, hs, h none (fun h => absurd h (Nat.lt_irrefl _))⟩
    · by_cases hc : c = 0
      · subst hc
        have hsh : w.shape? b = some (e, cur.size) := by
          unfold World.shape?
          simp only [hb]
        rw [hex _ (Lib.run_unsafeSliceData_zero (P := g.P) w ts ty e (by rw [und_of hty, htd]) ⟨b, 0, none⟩ nn _ hsh)]
        exact ⟨_, S, _, rfl, Heap.Le.refl _, hN, (hs.alloc _).drop, h _ (fun h => by omega)⟩
      · rw [hex _ (Lib.run_unsafeSliceData_row (P := g.P) w ts ty ⟨b, 0, none⟩ nn c hc)]
        exact ⟨_, S, _, rfl, Heap.Le.refl _, hN, hs, h _ (fun _ => rfl)⟩) hd
/-- The text of a row of bytes; the row is spent. -/
theorem WD_unsafeStr {opss : Array Oper} {σ : Sch} {i : Nat} {x y : Operand} {pt it e : TypeId} {ti ei : TI} {A q : Option Addr} {m c : Nat} {l : List UInt8} {M' : List Asn}
    (ho : opss[i]? = some ⟨dst, .call ⟨.builtin .unsafeString, ⟨[x, y]⟩, ⟨[pt, it]⟩⟩, ty, pos, after, gd⟩) (hw : wantedF opss.toList fr ⟨dst, .call ⟨.builtin .unsafeString, ⟨[x, y]⟩, ⟨[pt, it]⟩⟩, ty, pos, after, gd⟩ = some true) (hd : dstOk n dst = true)
    (hx : ev? fr x = some (.pointer q)) (hy : ev? fr y = some (.int .i64 m)) (hty : tget g.tab pt = some ti) (htd : ti.desc = .pointer e) (he : tget g.tab e = some ei) (hes : ei.size = 1) (hm : m = l.length) (hl : m ≤ 9223372036854775807) (hq : 0 < m → q = A)
    (hN : N.Sublist M') (h : WD (ctx g n w0 h0 S0 rd) opss σ K (put fr dst (vs l)) S M' N) :
    WD (ctx g n w0 h0 S0 rd) opss (.step i σ) K fr S (rowA e 1 A m c (bc l) :: M') N :=
  WD_gen ho hw (fun a w hr hs _ Q => by
    subst hm
    have hex : ∀ (r : Result Value), (Builtin.unsafeString_ #[pt, it] ty #[.pointer q, .int .i64 l.length]).run g.P w = r → (execOp a.eval ⟨dst, .call ⟨.builtin .unsafeString, ⟨[x, y]⟩, ⟨[pt, it]⟩⟩, ty, pos, after, gd⟩).run g.P w = r.andThen fun v w' => .ok (.value v) w' := by
      intro r hr'
      simp only [execOp, resolve, Sem.run_bind, Sem.run_pure, Result.andThen_ok, invoke, builtin]
      have : ((⟨[x, y]⟩ : Array Operand).map a.eval) = #[.pointer q, .int .i64 l.length] := by
        apply Array.ext'
        simp [hr.ev hx, hr.ev hy]
      rw [this, hr']
    unfold Oper.wp
    rw [show (ctx g n w0 h0 S0 rd).P = g.P from rfl]
    by_cases h0' : l = []
    · subst h0'
      rw [hex _ (Lib.run_unsafeString_none (P := g.P) w pt it ty q)]
      exact ⟨_, S, _, rfl, Heap.Le.refl _, hN, hs.drop, h⟩
    · have hpos : 0 < l.length := List.length_pos_iff.2 h0'
      have hqA := hq hpos
      subst hqA
      obtain ⟨hA, ha, hi, turn⟩ := hs.turn (k := 0) rfl
      obtain ⟨hlen, r⟩ := ha
      rcases r with ⟨_, hz, _, _⟩ | ⟨b, cur, rfl, rfl, h1, h2, h3, h4⟩
      · omega
      · have hb : w.heap[b]? = some (.cells cur e (0, 0)) := hi b _ (Heap.one_self _ _)
        have hsh : w.shape? b = some (e, cur.size) := by
          unfold World.shape?
          simp only [hb]
        have hcc : g.P.cellsOf e = 1 := by
          obtain ⟨_, j, hj, x1, _⟩ := g.ok.get he
          unfold Program.cellsOf
          rw [hj]
          exact x1.trans hes
        have hcur : cur.size = c := by simpa using h3
        have hcell : ∀ j v, l[j]? = some v → w.cell? ((⟨b, 0, none⟩ : Addr).add j) = some (.int .u8 v.toNat) := by
          intro j v e'
          rw [addrAt_add _ rfl]
          have hlt := (List.getElem?_eq_some_iff.1 e').1
          have hbc : (bc l)[j]? = some (.int .u8 v.toNat) := by rw [bc_get, e']; rfl
          rw [← h4, List.getElem?_take_of_lt (by omega)] at hbc
          unfold World.cell? addrAt
          simp only [hb, Nat.zero_add]
          simpa using hbc
        rw [hex _ (Lib.run_unsafeString_row (P := g.P) w pt it ty e (by rw [und_of hty, htd]) hcc b cur.size hsh l h0' (by rw [hcur]; exact h1) hl hcell)]
        refine ⟨_, S, M', rfl, Heap.Le.refl _, hN, ?_, h⟩
        have hfz : ∀ k, k ≠ b → (w.freeze ⟨b, 0, none⟩ l.length).heap[k]? = w.heap[k]? := by
          intro k hk
          unfold World.freeze
          split
          · rfl
          · simp only [Array.getElem?_modify]
            rw [if_neg (Ne.symm hk)]
        obtain ⟨o, ho'⟩ : ∃ o, (w.freeze ⟨b, 0, none⟩ l.length).heap[b]? = some o := by
          unfold World.freeze
          split
          · exact ⟨_, hb⟩
          · simp only [Array.getElem?_modify, if_true, hb]
            exact ⟨_, rfl⟩
        have hst := turn (objA b o) (Heap.one b o) (w.freeze ⟨b, 0, none⟩ l.length) rfl (fun k o' e' => by
          by_cases hk : k = b
          · subst hk
            rw [Heap.one_self] at e'
            cases e'
            exact ho'
          · rw [Heap.one_ne _ hk] at e'; cases e') (by unfold World.freeze; split <;> simp) (by unfold World.freeze; split <;> rfl) (by unfold World.freeze; split <;> rfl) (by unfold World.freeze; split <;> rfl)
          (fun k _ e' => by
            have hk : k ≠ b := fun hk => by subst hk; rw [Heap.one_self] at e'; cases e'
            exact ⟨hfz k hk, Heap.one_ne _ hk⟩)
        exact St.drop (A := objA b o) hst) hd
end
end Go.Proofs.YtmiefhokjeofcaaDoor.Eng
