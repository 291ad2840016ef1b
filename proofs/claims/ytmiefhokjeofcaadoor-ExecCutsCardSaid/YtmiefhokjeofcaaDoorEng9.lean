/- DERIVED. The engine, tenth part: make, append of zeros, pieces of one's own rows. Conditions: none. -/
import Derived.Test.YtmiefhokjeofcaaDoorEng8
set_option linter.unusedVariables false
set_option linter.unusedSimpArgs false
namespace Go.Proofs.YtmiefhokjeofcaaDoor.Eng
open Go

theorem St.drawnN {c : Ctx} {S : Heap} {M : List Asn} {w : World} (h : St c S M w) (k : Nat) : St c S M { w with drawn := k } := by
  obtain ⟨x, st, q⟩ := h
  exact ⟨x, ⟨st.own, st.dis, st.hin, st.sin⟩, q.size, q.os, q.tape, q.output, q.le, q.old⟩
theorem St.newRow {c : Ctx} {S : Heap} {M : List Asn} {w : World} (h : St c S M w) (e : TypeId) (sz n cp : Nat) (cs junk : List Value) (hn : n ≤ cp) (hc : cp ≤ maxLen) (hl : cs.length = n * sz) (hj : (cs ++ junk).length = cp * sz) :
    St c S (rowA e sz (some ⟨w.heap.size, 0, none⟩) n cp cs :: M) { w with heap := w.heap.push (.cells ⟨cs ++ junk⟩ e) } := by
  have h1 := h.alloc (.cells ⟨cs ++ junk⟩ e)
  exact h1.imp (k := 0) rfl (rowA e sz (some ⟨w.heap.size, 0, none⟩) n cp cs) fun hp a => ⟨hl, .inr ⟨w.heap.size, _, rfl, a, hn, hc, hj, by rw [← hl]; simp⟩⟩
theorem zeroCells_eq (zcs : List Value) (n : Nat) : Builtin.zeroCells ⟨zcs⟩ n = ⟨zeroRow zcs n⟩ := by
  unfold Builtin.zeroCells
  exact zeroRow_arr zcs n
theorem zeroRow_add (zcs : List Value) : ∀ n m, zeroRow zcs (n + m) = zeroRow zcs n ++ zeroRow zcs m
  | 0, m => by simp [zeroRow]
  | n + 1, m => by rw [show n + 1 + m = (n + m) + 1 by omega, zeroRow, zeroRow, zeroRow_add zcs n m, List.append_assoc]
theorem askRoom_run {P : Program} {w : World} (b : Nat) : (askRoom b).run P w = .ok () w := by
  unfold askRoom
  split
  · simp [mark, Sem.run]
  · rfl
section
variable {g : Pg} {n : Nat} {w0 : World} {h0 S0 : Heap} {rd : Option Nat} {ops : List Oper} {K : Cont} {fr : Frm} {S : Heap} {M : List Asn} {rest : List Oper} {dst : Option Tmp} {ty : TypeId} {pos : String} {after : Array Edge} {gd : Option (Nat × Bool)}
/-- 'append(nil, make([]E, m)...)', m above 0. -/
theorem WL_appendZ {x y : Operand} {t u e : TypeId} {ti ui ei : TI} {k : IntKind} {m : Nat}
    (hw : wantedF ops fr ⟨dst, .call ⟨.builtin .append, ⟨[x, y]⟩, ⟨[t, u]⟩⟩, ty, pos, after, gd⟩ = some true) (hd : dstOk n dst = true) (hx : ev? fr x = some (.slice none 0 0)) (hy : ev? fr y = some (.int k (m : Int)))
    (ht : tget g.tab t = some ti) (htd : ti.desc = .slice e) (hu : tget g.tab u = some ui) (hud : ui.desc = .int k) (he : tget g.tab e = some ei) (hsz : Nat.blt 0 ei.size = true) (hz : Nat.beq ei.zcs.length ei.size = true) (hb0 : Nat.blt 0 ei.bytes = true)
    (hm : 0 < m) (hb : m * ei.bytes ≤ 140737488355328)
    (h : ∀ b c', m ≤ c' → WL (ctx g n w0 h0 S0 rd) ops rest K (put fr dst (.slice (some ⟨b, 0, none⟩) m c')) S (rowA e ei.size (some ⟨b, 0, none⟩) m c' (zeroRow ei.zcs m) :: M)) :
    WL (ctx g n w0 h0 S0 rd) ops (⟨dst, .call ⟨.builtin .append, ⟨[x, y]⟩, ⟨[t, u]⟩⟩, ty, pos, after, gd⟩ :: rest) K fr S M :=
  WL_gen hw fun a w hr hs => by
    have hz' : ei.zcs.length = ei.size := Nat.eq_of_beq_eq_true hz
    have hsz' : 0 < ei.size := by simpa [Nat.blt_eq] using hsz
    have hb0' : 0 < ei.bytes := by simpa [Nat.blt_eq] using hb0
    have hml : m ≤ m * ei.bytes := Nat.le_mul_of_pos_right _ hb0'
    obtain ⟨xi, hxi, x1, x2, x3, x4⟩ := Pg.tinfo he
    let q : Question := .appendCap m 0 e
    let cp := q.cut (w.tape w.drawn q)
    have hcp : cp = m + w.tape w.drawn q % (2 ^ 63 - m) := rfl
    have hmod : w.tape w.drawn q % (2 ^ 63 - m) < 2 ^ 63 - m := Nat.mod_lt _ (by omega)
    have hcp1 : m ≤ cp := by omega
    have hcp2 : cp ≤ maxLen := by rw [hcp]; simp only [maxLen]; omega
    have hwrap : IntKind.i64.wrap (m : Int) = m := IntWalk.i64_in _ (by omega)
    have hsize0 : ¬ (m * ei.size = 0) := by
      have := Nat.mul_pos hm hsz'
      omega
    have hrun : (execOp a.eval ⟨dst, .call ⟨.builtin .append, ⟨[x, y]⟩, ⟨[t, u]⟩⟩, ty, pos, after, gd⟩).run g.P w =
        .ok (.value (.slice (some ⟨w.heap.size, 0, none⟩) m cp)) { w with drawn := w.drawn + 1, heap := w.heap.push (.cells ⟨zeroRow ei.zcs m ++ zeroRow ei.zcs (cp - m)⟩ e) } := by
      have hargs : ((⟨[x, y]⟩ : Array Operand).map a.eval) = #[.slice none 0 0, .int k (m : Int)] := by
        apply Array.ext'
        simp [hr.ev hx, hr.ev hy]
      have hint : (match ui.desc with | .int _ => true | _ => false) = true := by rw [hud]
      have happ : (Builtin.append_ #[t, u] ty #[.slice none 0 0, .int k (m : Int)]).run g.P w = .ok (.slice (some ⟨w.heap.size, 0, none⟩) m cp) { w with drawn := w.drawn + 1, heap := w.heap.push (.cells ⟨zeroRow ei.zcs m ++ zeroRow ei.zcs (cp - m)⟩ e) } := by
        have e1 : ¬ ((m : Int) < 0) := by omega
        have e2 : ¬ ((m : Int) * (xi.bytes : Int) > 2 ^ 48) := by
          rw [x2]
          have : ((m * ei.bytes : Nat) : Int) ≤ 140737488355328 := by omega
          push_cast at this
          omega
        have e3 : ¬ (m ≤ 0) := by omega
        have e4 : ¬ ((m : Int) > IntKind.i64.max ∧ True) := by
          have : IntKind.i64.max = 9223372036854775807 := rfl
          rw [this]; omega
        have e5 : Builtin.nextslicecap m 0 = m := by unfold Builtin.nextslicecap; rw [if_pos (by omega)]
        have e6 : ¬ (m * xi.bytes > 2 ^ 48) := by rw [x2]; omega
        have hq : ∀ (kk : Nat → Sem Value), (Sem.bind (Sem.choose (.appendCap m 0 e) Sem.pure) kk).run g.P w = (kk cp).run g.P { w with drawn := w.drawn + 1 } := fun kk => rfl
        simp only [Builtin.append_, List.getElem?_toArray, List.getElem?_cons_zero, List.getElem?_cons_succ, Sem.run_bind, Pg.und ht, htd, Pg.und hu, hud, Pg.szOf he, Result.andThen_ok, Sem.run_pure]
        have hai : (asInt (Value.int k (m : Int))).run g.P w = .ok (m : Int) w := rfl
        simp only [if_true, hai, Sem.run_bind, Sem.run_pure, Result.andThen_ok, hwrap]
        rw [if_neg e1]
        simp only [Sem.run_bind, hxi, Result.andThen_ok]
        rw [if_neg e2]
        simp only [Sem.run_bind, Sem.run_pure, Result.andThen_ok, Int.toNat_natCast, Nat.zero_add]
        rw [if_neg e3]
        simp only [Sem.run_bind, hxi, Result.andThen_ok]
        rw [if_neg (fun hh => e4 ⟨hh.1, trivial⟩)]
        simp only [Sem.run_bind, hxi, Result.andThen_ok, e5]
        rw [if_neg e6]
        have hch : (choose (.appendCap m 0 e)).run g.P w = .ok cp { w with drawn := w.drawn + 1 } := rfl
        simp only [Sem.run_bind, hch, hxi, Result.andThen_ok, askRoom_run, Builtin.firstCells, Nat.zero_mul]
        simp only [Sem.run_pure, Result.andThen_ok]
        rw [if_neg (by simp), if_neg hsize0]
        simp only [Sem.run_bind, Pg.zero he, Pg.zcells he, Result.andThen_ok, Sem.run_pure, zeroCells_eq, newRow, newObj, Sem.run]
        have : (#[] ++ (⟨zeroRow ei.zcs m⟩ : Array Value) ++ (⟨zeroRow ei.zcs (cp - m)⟩ : Array Value)) = ⟨zeroRow ei.zcs m ++ zeroRow ei.zcs (cp - m)⟩ := by
          apply Array.ext'
          simp
        rw [this]
      simp only [execOp, resolve, Sem.run_bind, Sem.run_pure, Result.andThen_ok, invoke, builtin, hargs, happ]
    rw [show (ctx g n w0 h0 S0 rd).P = g.P from rfl, hrun]
    refine h w.heap.size cp hcp1 _ _ (hr.put _ _ hd) ?_
    exact (hs.drawnN (w.drawn + 1)).newRow e ei.size m cp (zeroRow ei.zcs m) (zeroRow ei.zcs (cp - m)) hcp1 hcp2 (by rw [zeroRow_length, hz']) (by rw [← zeroRow_add, zeroRow_length, hz']; congr 1; omega)
/-- 'x[:j]' of a row of one's own, j not above its length. -/
theorem WL_cutRow (k : Nat) {t : TypeId} {x h1 : Operand} {kk : IntKind} {ti ei : TI} {e : TypeId} {A : Option Addr} {nn cap j : Nat} {cs : List Value}
    (hw : wantedF ops fr ⟨dst, .slice t x none (some h1) none, ty, pos, after, gd⟩ = some true) (hd : dstOk n dst = true) (hx : ev? fr x = some (.slice A nn cap)) (hh : ev? fr h1 = some (.int kk (j : Int))) (ht : tget g.tab t = some ti) (htd : ti.desc = .slice e) (he : tget g.tab e = some ei)
    (hk : M[k]? = some (rowA e ei.size A nn cap cs)) (hj : j ≤ nn)
    (h : WL (ctx g n w0 h0 S0 rd) ops rest K (put fr dst (.slice A j cap)) S (M.set k (rowA e ei.size A j cap (cs.take (j * ei.size))))) : WL (ctx g n w0 h0 S0 rd) ops (⟨dst, .slice t x none (some h1) none, ty, pos, after, gd⟩ :: rest) K fr S M := by
  have himp : ∀ hp, rowA e ei.size A nn cap cs hp → rowA e ei.size A j cap (cs.take (j * ei.size)) hp := fun hp a => by
    obtain ⟨hl, r⟩ := a
    have hjm : j * ei.size ≤ nn * ei.size := Nat.mul_le_mul_right _ hj
    refine ⟨by rw [List.length_take, hl]; omega, ?_⟩
    rcases r with ⟨rfl, rfl, rfl, r⟩ | ⟨b, cur, rfl, hh, h1, h2, h3, h4⟩
    · exact .inl ⟨rfl, by omega, rfl, r⟩
    · exact .inr ⟨b, cur, rfl, hh, by omega, h2, h3, by rw [← h4, List.take_take, Nat.min_eq_left hjm]⟩
  refine WL_put hw hd (fun a w hr hs => ?_) h
  obtain ⟨hA, a', hi, _⟩ := hs.turn hk
  have hncap : nn ≤ cap := by
    rcases a'.2 with ⟨_, rfl, rfl, _⟩ | ⟨b, cur, _, _, h1, _⟩
    · exact Nat.le_refl _
    · exact h1
  refine ⟨w, ?_, hs.imp hk _ himp⟩
  have hA0 : (if cap = 0 then A else A.map (·.add (0 * ei.size))) = A := by
    split
    · rfl
    · cases A <;> simp [Addr.add]
  show Sem.run g.P _ w = _
  have := sliceS_ok (g := g) ht htd he A nn cap 0 j cap (Nat.zero_le _) (by omega) (Nat.le_refl _) none (some (.int kk (j : Int))) none w (.inl ⟨rfl, rfl⟩) (.inr ⟨kk, rfl⟩) (.inl ⟨rfl, rfl⟩)
  rw [hA0] at this
  simp only [execOp, hr.ev hx, hr.ev hh, Option.map_none, Option.map_some, Sem.run_bind, this, Result.andThen_ok, Sem.run_pure, Nat.sub_zero]
end
theorem WD_freezeRow {arr : Array Oper} {N : List Asn} {σ : Sch} {c : Ctx} {K : Cont} {fr : Frm} {S : Heap} {M : List Asn} {e : TypeId} {sz nn cp : Nat} {A : Option Addr} {cs : List Value} (h : ∀ S', S.Le S' → RowO S' A cs → (nn ≤ cp ∧ cp ≤ 9223372036854775807) → WD c arr σ K fr S' M N) (hN : N.Sublist M) : WD c arr σ K fr S (rowA e sz A nn cp cs :: M) N := fun _ a w C hr hs hc => by
  obtain ⟨S', h1, h2, h3, hs'⟩ := hs.freezeRow
  exact h S' h1 h2 h3 hN a w C hr hs' fun S'' x hl hx => hc S'' x (h1.trans hl) hx
theorem Row.obj {S : Heap} {b : Nat} {cs : List Value} {t : TypeId} {p : Nat × Nat} (h : S b = some (.cells ⟨cs⟩ t p)) : Row S ⟨b, 0, none⟩ cs := fun j v e => by
  unfold hcell addrAt
  simp only [h]
  simpa using e
end Go.Proofs.YtmiefhokjeofcaaDoor.Eng
