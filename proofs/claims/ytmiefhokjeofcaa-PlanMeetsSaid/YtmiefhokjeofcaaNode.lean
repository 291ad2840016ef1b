/- DERIVED. Expressions as trees: how they lie in memory, and that umlautref17.SameNode tells whether two are the same. Conditions: none. -/
import Derived.Test.YtmiefhokjeofcaaBase
import Derived.Test.YtmiefhokjeofcaaEng9
set_option linter.unusedVariables false
set_option linter.unusedSimpArgs false
namespace Go.Proofs.Ytmiefhokjeofcaa.Eng
open Go
set_option maxRecDepth 8000
set_option maxHeartbeats 1000000

inductive Node where
  | mk (kind op : Int) (s t : List UInt8) (n : Int) (l : List Node)
mutual
def NodeK (S : Heap) : Node → List Value → Prop
  | .mk k o s t n l, cs => ∃ A c, cs = [vi k, vi o, vs s, vs t, vi n, .slice A l.length c] ∧ (l.length ≤ c ∧ c ≤ 9223372036854775807) ∧ NodesK S l A
def NodesK (S : Heap) : List Node → Option Addr → Prop
  | [], _ => True
  | x :: xs, A => ∃ b off cs, A = some ⟨b, off, none⟩ ∧ NodeK S x cs ∧ Row S ⟨b, off, none⟩ cs ∧ NodesK S xs (some ⟨b, off + 6, none⟩)
end
theorem NodeK.len {S : Heap} {x : Node} {cs : List Value} (h : NodeK S x cs) : cs.length = 6 := by
  cases x
  unfold NodeK at h
  obtain ⟨A, c, rfl, _⟩ := h
  rfl
theorem NodeK.flat {S : Heap} {x : Node} {cs : List Value} (h : NodeK S x cs) : cs.all scalarB = true := by
  cases x
  unfold NodeK at h
  obtain ⟨A, c, rfl, _⟩ := h
  rfl
mutual
theorem NodeK.le {S S' : Heap} (hl : S.Le S') : ∀ (x : Node) (cs : List Value), NodeK S x cs → NodeK S' x cs
  | .mk k o s t n l, cs, h => by
    unfold NodeK at h ⊢
    obtain ⟨A, c, e, h1, h2⟩ := h
    exact ⟨A, c, e, h1, NodesK.le hl l A h2⟩
theorem NodesK.le {S S' : Heap} (hl : S.Le S') : ∀ (l : List Node) (A : Option Addr), NodesK S l A → NodesK S' l A
  | [], _, _ => by unfold NodesK; trivial
  | x :: xs, A, h => by
    unfold NodesK at h ⊢
    obtain ⟨b, off, cs, e, h1, h2, h3⟩ := h
    exact ⟨b, off, cs, e, NodeK.le hl x cs h1, h2.le hl, NodesK.le hl xs _ h3⟩
end
def kNode : Kd Node := ⟨6, NodeK, NodeK.len, fun hl h => NodeK.le hl _ _ h, NodeK.flat⟩
theorem NodesK.iff {S : Heap} : ∀ {l : List Node} {A : Option Addr}, NodesK S l A ↔ SlR kNode S A l
  | [], A => by unfold NodesK SlR; exact Iff.rfl
  | x :: xs, A => by
    unfold NodesK SlR
    constructor
    · rintro ⟨b, off, cs, e, h1, h2, h3⟩; exact ⟨b, off, cs, e, h1, h2, NodesK.iff.1 h3⟩
    · rintro ⟨b, off, cs, e, h1, h2, h3⟩; exact ⟨b, off, cs, e, h1, h2, NodesK.iff.2 h3⟩
def Node.kind : Node → Int | .mk k _ _ _ _ _ => k
def Node.op : Node → Int | .mk _ o _ _ _ _ => o
def Node.s : Node → List UInt8 | .mk _ _ s _ _ _ => s
def Node.t : Node → List UInt8 | .mk _ _ _ t _ _ => t
def Node.n : Node → Int | .mk _ _ _ _ n _ => n
def Node.l : Node → List Node | .mk _ _ _ _ _ l => l
theorem NodeK.open {S : Heap} {x : Node} {cs : List Value} (h : NodeK S x cs) : ∃ A c, cs = [vi x.kind, vi x.op, vs x.s, vs x.t, vi x.n, .slice A x.l.length c] ∧ (x.l.length ≤ c ∧ c ≤ 9223372036854775807) ∧ SlR kNode S A x.l := by
  cases x
  unfold NodeK at h
  obtain ⟨A, c, e, h1, h2⟩ := h
  exact ⟨A, c, e, h1, NodesK.iff.1 h2⟩
theorem NodeK.shut {S : Heap} {k o n : Int} {s t : List UInt8} {l : List Node} {A : Option Addr} {c : Nat} (h1 : l.length ≤ c ∧ c ≤ 9223372036854775807) (h2 : SlR kNode S A l) : NodeK S (.mk k o s t n l) [vi k, vi o, vs s, vs t, vi n, .slice A l.length c] := by
  unfold NodeK
  exact ⟨A, c, rfl, h1, NodesK.iff.2 h2⟩
mutual
def sameB : Node → Node → Bool
  | .mk k o s t n l, .mk k' o' s' t' n' l' => decide (k = k') && (decide (o = o') && (decide (s = s') && (decide (t = t') && (decide (n = n') && sameBs l l'))))
def sameBs : List Node → List Node → Bool
  | [], [] => true
  | x :: xs, y :: ys => sameB x y && sameBs xs ys
  | _, _ => false
end
mutual
theorem sameB_eq : ∀ (x y : Node), sameB x y = true → x = y
  | .mk k o s t n l, .mk k' o' s' t' n' l', h => by
    unfold sameB at h
    simp only [Bool.and_eq_true, decide_eq_true_eq] at h
    obtain ⟨rfl, rfl, rfl, rfl, rfl, h⟩ := h
    rw [sameBs_eq l l' h]
theorem sameBs_eq : ∀ (x y : List Node), sameBs x y = true → x = y
  | [], [], _ => rfl
  | x :: xs, y :: ys, h => by
    unfold sameBs at h
    simp only [Bool.and_eq_true] at h
    rw [sameB_eq x y h.1, sameBs_eq xs ys h.2]
  | [], _ :: _, h => by unfold sameBs at h; cases h
  | _ :: _, [], h => by unfold sameBs at h; cases h
end
mutual
theorem sameB_refl : ∀ (x : Node), sameB x x = true
  | .mk k o s t n l => by unfold sameB; simp [sameBs_refl l]
theorem sameBs_refl : ∀ (x : List Node), sameBs x x = true
  | [] => by unfold sameBs; rfl
  | x :: xs => by unfold sameBs; rw [sameB_refl x, sameBs_refl xs]; rfl
end
theorem sameBs_len : ∀ (x y : List Node), x.length ≠ y.length → sameBs x y = false
  | [], [], h => by simp at h
  | x :: xs, y :: ys, h => by unfold sameBs; rw [sameBs_len xs ys (by simpa using h)]; simp
  | [], _ :: _, _ => by unfold sameBs; rfl
  | _ :: _, [], _ => by unfold sameBs; rfl
theorem sameBs_cons (x y : Node) (xs ys : List Node) : sameBs (x :: xs) (y :: ys) = (sameB x y && sameBs xs ys) := by rw [sameBs]
theorem sameBs_nil : sameBs [] [] = true := by rw [sameBs]
theorem sameBs_drop (i : Nat) (xs ys : List Node) (hx : i < xs.length) (hy : i < ys.length) : sameBs (xs.drop i) (ys.drop i) = (sameB xs[i] ys[i] && sameBs (xs.drop (i + 1)) (ys.drop (i + 1))) := by
  rw [List.drop_eq_getElem_cons hx, List.drop_eq_getElem_cons hy, sameBs_cons]
mutual
def nsz : Node → Nat
  | .mk _ _ _ _ _ l => 1 + nszs l
def nszs : List Node → Nat
  | [] => 0
  | x :: xs => 1 + nsz x + nszs xs
end
theorem nszs_cons (x : Node) (xs : List Node) : nszs (x :: xs) = 1 + nsz x + nszs xs := by rw [nszs]
theorem nsz_l (x : Node) : nsz x = 1 + nszs x.l := by cases x; rw [nsz]; rfl
theorem nszs_mem : ∀ {xs : List Node} {y : Node}, y ∈ xs → nsz y < nszs xs
  | x :: xs, y, h => by
    rw [nszs_cons]
    rcases List.mem_cons.1 h with e | e
    · subst e; omega
    · have := nszs_mem e; omega
theorem sameB_l (x y : Node) : sameB x y = (decide (x.kind = y.kind) && (decide (x.op = y.op) && (decide (x.s = y.s) && (decide (x.t = y.t) && (decide (x.n = y.n) && sameBs x.l y.l))))) := by
  cases x; cases y; rw [sameB]; rfl
theorem sameNode_fn : ∀ (k : Nat), (∀ (x y : Node) (cs ds : List Value) (S : Heap), nsz x < k → NodeK S x cs → NodeK S y ds →
      Fn pg 17 [.agg ⟨cs⟩, .agg ⟨ds⟩] S [] (fun v _ _ => v = vb (sameB x y))) ∧
    (∀ (xs ys : List Node) (A B : Option Addr) (c d : Nat) (S : Heap), nszs xs < k → SlR kNode S A xs → SlR kNode S B ys → xs.length ≤ 9223372036854775807 → ys.length ≤ 9223372036854775807 →
      Fn pg 12 [.slice A xs.length c, .slice B ys.length d] S [] (fun v _ _ => v = vb (sameBs xs ys)))
  | 0 => ⟨fun x y cs ds S h => absurd h (Nat.not_lt_zero _), fun xs ys A B c d S h => absurd h (Nat.not_lt_zero _)⟩
  | k + 1 => by
    obtain ⟨ih1, ih2⟩ := sameNode_fn k
    refine ⟨?_, ?_⟩
    · intro x y cs ds S hk hx hy
      obtain ⟨A, c, rfl, hxc, hxl⟩ := hx.open
      obtain ⟨B, d, rfl, hyc, hyl⟩ := hy.open
      rw [sameB_l]
      refine Fn_of Try.func17 rfl Try.ntmps17 Try.results17 Try.call17 rfl (fun w0 h0 => ?_)
      repeat (first | refine WL_ev rfl rfl rfl trivial ?_ | refine WL_skip rfl rfl ?_ | refine W_seq ?_ | refine W_region ?_ | refine WL_nil ?_ | refine WL_load1 rfl rfl rfl rfl rfl (by first | exact Kn.ofM 0 rfl rfl | exact Kn.ofM 1 rfl rfl | exact Kn.ofM 2 rfl rfl | exact Kn.ofM 3 rfl rfl | exact Kn.ofM 4 rfl rfl | exact Kn.ofM 5 rfl rfl | exact Kn.ofS (by assumption)) ?_ | refine WL_ev2 rfl rfl rfl trivial ?_ | refine WL_build rfl rfl rfl ?_ | refine WL_loadN rfl rfl rfl rfl rfl rfl (by first | exact KnRow.ofM 0 rfl | exact KnRow.ofM 1 rfl | exact KnRow.ofM 2 rfl | exact KnRow.ofM 3 rfl | exact KnRow.ofM 4 rfl | exact KnRow.ofM 5 rfl | exact KnRow.ofS (by assumption)) (by first | rfl | assumption) ?_ | refine W_block ?_ | refine W_skip ?_ | refine W_condT rfl ?_ | refine W_condF rfl ?_ | refine W_exit ?_ | refine WL_boxA rfl rfl rfl (fun _ => ?_) | refine WL_alloc rfl rfl rfl (fun _ => ?_) | refine WL_box1 rfl rfl rfl rfl (fun _ => ?_) | refine WL_st 0 rfl rfl rfl rfl rfl rfl rfl rfl rfl rfl rfl ?_ | refine WL_st 1 rfl rfl rfl rfl rfl rfl rfl rfl rfl rfl rfl ?_ | refine WL_st 2 rfl rfl rfl rfl rfl rfl rfl rfl rfl rfl rfl ?_ | refine WL_st 3 rfl rfl rfl rfl rfl rfl rfl rfl rfl rfl rfl ?_ | refine WL_st 4 rfl rfl rfl rfl rfl rfl rfl rfl rfl rfl rfl ?_ | refine WL_st 5 rfl rfl rfl rfl rfl rfl rfl rfl rfl rfl rfl ?_ | refine WL_lit rfl rfl rfl (fun _ => ?_) | refine W_ret ?_)
      generalize decide (x.kind = y.kind) = b
      cases b
      · repeat (first | refine WL_ev rfl rfl rfl trivial ?_ | refine WL_skip rfl rfl ?_ | refine W_seq ?_ | refine W_region ?_ | refine WL_nil ?_ | refine WL_load1 rfl rfl rfl rfl rfl (by first | exact Kn.ofM 0 rfl rfl | exact Kn.ofM 1 rfl rfl | exact Kn.ofM 2 rfl rfl | exact Kn.ofM 3 rfl rfl | exact Kn.ofM 4 rfl rfl | exact Kn.ofM 5 rfl rfl | exact Kn.ofS (by assumption)) ?_ | refine WL_ev2 rfl rfl rfl trivial ?_ | refine WL_build rfl rfl rfl ?_ | refine WL_loadN rfl rfl rfl rfl rfl rfl (by first | exact KnRow.ofM 0 rfl | exact KnRow.ofM 1 rfl | exact KnRow.ofM 2 rfl | exact KnRow.ofM 3 rfl | exact KnRow.ofM 4 rfl | exact KnRow.ofM 5 rfl | exact KnRow.ofS (by assumption)) (by first | rfl | assumption) ?_ | refine W_block ?_ | refine W_skip ?_ | refine W_condT rfl ?_ | refine W_condF rfl ?_ | refine W_exit ?_ | refine WL_boxA rfl rfl rfl (fun _ => ?_) | refine WL_alloc rfl rfl rfl (fun _ => ?_) | refine WL_box1 rfl rfl rfl rfl (fun _ => ?_) | refine WL_st 0 rfl rfl rfl rfl rfl rfl rfl rfl rfl rfl rfl ?_ | refine WL_st 1 rfl rfl rfl rfl rfl rfl rfl rfl rfl rfl rfl ?_ | refine WL_st 2 rfl rfl rfl rfl rfl rfl rfl rfl rfl rfl rfl ?_ | refine WL_st 3 rfl rfl rfl rfl rfl rfl rfl rfl rfl rfl rfl ?_ | refine WL_st 4 rfl rfl rfl rfl rfl rfl rfl rfl rfl rfl rfl ?_ | refine WL_st 5 rfl rfl rfl rfl rfl rfl rfl rfl rfl rfl rfl ?_ | refine WL_lit rfl rfl rfl (fun _ => ?_) | refine W_ret ?_)
        exact ⟨.inr rfl, _, Res_1 rfl, rfl⟩
      repeat (first | refine WL_ev rfl rfl rfl trivial ?_ | refine WL_skip rfl rfl ?_ | refine W_seq ?_ | refine W_region ?_ | refine WL_nil ?_ | refine WL_load1 rfl rfl rfl rfl rfl (by first | exact Kn.ofM 0 rfl rfl | exact Kn.ofM 1 rfl rfl | exact Kn.ofM 2 rfl rfl | exact Kn.ofM 3 rfl rfl | exact Kn.ofM 4 rfl rfl | exact Kn.ofM 5 rfl rfl | exact Kn.ofS (by assumption)) ?_ | refine WL_ev2 rfl rfl rfl trivial ?_ | refine WL_build rfl rfl rfl ?_ | refine WL_loadN rfl rfl rfl rfl rfl rfl (by first | exact KnRow.ofM 0 rfl | exact KnRow.ofM 1 rfl | exact KnRow.ofM 2 rfl | exact KnRow.ofM 3 rfl | exact KnRow.ofM 4 rfl | exact KnRow.ofM 5 rfl | exact KnRow.ofS (by assumption)) (by first | rfl | assumption) ?_ | refine W_block ?_ | refine W_skip ?_ | refine W_condT rfl ?_ | refine W_condF rfl ?_ | refine W_exit ?_ | refine WL_boxA rfl rfl rfl (fun _ => ?_) | refine WL_alloc rfl rfl rfl (fun _ => ?_) | refine WL_box1 rfl rfl rfl rfl (fun _ => ?_) | refine WL_st 0 rfl rfl rfl rfl rfl rfl rfl rfl rfl rfl rfl ?_ | refine WL_st 1 rfl rfl rfl rfl rfl rfl rfl rfl rfl rfl rfl ?_ | refine WL_st 2 rfl rfl rfl rfl rfl rfl rfl rfl rfl rfl rfl ?_ | refine WL_st 3 rfl rfl rfl rfl rfl rfl rfl rfl rfl rfl rfl ?_ | refine WL_st 4 rfl rfl rfl rfl rfl rfl rfl rfl rfl rfl rfl ?_ | refine WL_st 5 rfl rfl rfl rfl rfl rfl rfl rfl rfl rfl rfl ?_ | refine WL_lit rfl rfl rfl (fun _ => ?_) | refine W_ret ?_)
      generalize decide (x.op = y.op) = b
      cases b
      · repeat (first | refine WL_ev rfl rfl rfl trivial ?_ | refine WL_skip rfl rfl ?_ | refine W_seq ?_ | refine W_region ?_ | refine WL_nil ?_ | refine WL_load1 rfl rfl rfl rfl rfl (by first | exact Kn.ofM 0 rfl rfl | exact Kn.ofM 1 rfl rfl | exact Kn.ofM 2 rfl rfl | exact Kn.ofM 3 rfl rfl | exact Kn.ofM 4 rfl rfl | exact Kn.ofM 5 rfl rfl | exact Kn.ofS (by assumption)) ?_ | refine WL_ev2 rfl rfl rfl trivial ?_ | refine WL_build rfl rfl rfl ?_ | refine WL_loadN rfl rfl rfl rfl rfl rfl (by first | exact KnRow.ofM 0 rfl | exact KnRow.ofM 1 rfl | exact KnRow.ofM 2 rfl | exact KnRow.ofM 3 rfl | exact KnRow.ofM 4 rfl | exact KnRow.ofM 5 rfl | exact KnRow.ofS (by assumption)) (by first | rfl | assumption) ?_ | refine W_block ?_ | refine W_skip ?_ | refine W_condT rfl ?_ | refine W_condF rfl ?_ | refine W_exit ?_ | refine WL_boxA rfl rfl rfl (fun _ => ?_) | refine WL_alloc rfl rfl rfl (fun _ => ?_) | refine WL_box1 rfl rfl rfl rfl (fun _ => ?_) | refine WL_st 0 rfl rfl rfl rfl rfl rfl rfl rfl rfl rfl rfl ?_ | refine WL_st 1 rfl rfl rfl rfl rfl rfl rfl rfl rfl rfl rfl ?_ | refine WL_st 2 rfl rfl rfl rfl rfl rfl rfl rfl rfl rfl rfl ?_ | refine WL_st 3 rfl rfl rfl rfl rfl rfl rfl rfl rfl rfl rfl ?_ | refine WL_st 4 rfl rfl rfl rfl rfl rfl rfl rfl rfl rfl rfl ?_ | refine WL_st 5 rfl rfl rfl rfl rfl rfl rfl rfl rfl rfl rfl ?_ | refine WL_lit rfl rfl rfl (fun _ => ?_) | refine W_ret ?_)
        exact ⟨.inr rfl, _, Res_1 rfl, rfl⟩
      repeat (first | refine WL_ev rfl rfl rfl trivial ?_ | refine WL_skip rfl rfl ?_ | refine W_seq ?_ | refine W_region ?_ | refine WL_nil ?_ | refine WL_load1 rfl rfl rfl rfl rfl (by first | exact Kn.ofM 0 rfl rfl | exact Kn.ofM 1 rfl rfl | exact Kn.ofM 2 rfl rfl | exact Kn.ofM 3 rfl rfl | exact Kn.ofM 4 rfl rfl | exact Kn.ofM 5 rfl rfl | exact Kn.ofS (by assumption)) ?_ | refine WL_ev2 rfl rfl rfl trivial ?_ | refine WL_build rfl rfl rfl ?_ | refine WL_loadN rfl rfl rfl rfl rfl rfl (by first | exact KnRow.ofM 0 rfl | exact KnRow.ofM 1 rfl | exact KnRow.ofM 2 rfl | exact KnRow.ofM 3 rfl | exact KnRow.ofM 4 rfl | exact KnRow.ofM 5 rfl | exact KnRow.ofS (by assumption)) (by first | rfl | assumption) ?_ | refine W_block ?_ | refine W_skip ?_ | refine W_condT rfl ?_ | refine W_condF rfl ?_ | refine W_exit ?_ | refine WL_boxA rfl rfl rfl (fun _ => ?_) | refine WL_alloc rfl rfl rfl (fun _ => ?_) | refine WL_box1 rfl rfl rfl rfl (fun _ => ?_) | refine WL_st 0 rfl rfl rfl rfl rfl rfl rfl rfl rfl rfl rfl ?_ | refine WL_st 1 rfl rfl rfl rfl rfl rfl rfl rfl rfl rfl rfl ?_ | refine WL_st 2 rfl rfl rfl rfl rfl rfl rfl rfl rfl rfl rfl ?_ | refine WL_st 3 rfl rfl rfl rfl rfl rfl rfl rfl rfl rfl rfl ?_ | refine WL_st 4 rfl rfl rfl rfl rfl rfl rfl rfl rfl rfl rfl ?_ | refine WL_st 5 rfl rfl rfl rfl rfl rfl rfl rfl rfl rfl rfl ?_ | refine WL_lit rfl rfl rfl (fun _ => ?_) | refine W_ret ?_)
      generalize decide (x.s = y.s) = b
      cases b
      · repeat (first | refine WL_ev rfl rfl rfl trivial ?_ | refine WL_skip rfl rfl ?_ | refine W_seq ?_ | refine W_region ?_ | refine WL_nil ?_ | refine WL_load1 rfl rfl rfl rfl rfl (by first | exact Kn.ofM 0 rfl rfl | exact Kn.ofM 1 rfl rfl | exact Kn.ofM 2 rfl rfl | exact Kn.ofM 3 rfl rfl | exact Kn.ofM 4 rfl rfl | exact Kn.ofM 5 rfl rfl | exact Kn.ofS (by assumption)) ?_ | refine WL_ev2 rfl rfl rfl trivial ?_ | refine WL_build rfl rfl rfl ?_ | refine WL_loadN rfl rfl rfl rfl rfl rfl (by first | exact KnRow.ofM 0 rfl | exact KnRow.ofM 1 rfl | exact KnRow.ofM 2 rfl | exact KnRow.ofM 3 rfl | exact KnRow.ofM 4 rfl | exact KnRow.ofM 5 rfl | exact KnRow.ofS (by assumption)) (by first | rfl | assumption) ?_ | refine W_block ?_ | refine W_skip ?_ | refine W_condT rfl ?_ | refine W_condF rfl ?_ | refine W_exit ?_ | refine WL_boxA rfl rfl rfl (fun _ => ?_) | refine WL_alloc rfl rfl rfl (fun _ => ?_) | refine WL_box1 rfl rfl rfl rfl (fun _ => ?_) | refine WL_st 0 rfl rfl rfl rfl rfl rfl rfl rfl rfl rfl rfl ?_ | refine WL_st 1 rfl rfl rfl rfl rfl rfl rfl rfl rfl rfl rfl ?_ | refine WL_st 2 rfl rfl rfl rfl rfl rfl rfl rfl rfl rfl rfl ?_ | refine WL_st 3 rfl rfl rfl rfl rfl rfl rfl rfl rfl rfl rfl ?_ | refine WL_st 4 rfl rfl rfl rfl rfl rfl rfl rfl rfl rfl rfl ?_ | refine WL_st 5 rfl rfl rfl rfl rfl rfl rfl rfl rfl rfl rfl ?_ | refine WL_lit rfl rfl rfl (fun _ => ?_) | refine W_ret ?_)
        exact ⟨.inr rfl, _, Res_1 rfl, rfl⟩
      repeat (first | refine WL_ev rfl rfl rfl trivial ?_ | refine WL_skip rfl rfl ?_ | refine W_seq ?_ | refine W_region ?_ | refine WL_nil ?_ | refine WL_load1 rfl rfl rfl rfl rfl (by first | exact Kn.ofM 0 rfl rfl | exact Kn.ofM 1 rfl rfl | exact Kn.ofM 2 rfl rfl | exact Kn.ofM 3 rfl rfl | exact Kn.ofM 4 rfl rfl | exact Kn.ofM 5 rfl rfl | exact Kn.ofS (by assumption)) ?_ | refine WL_ev2 rfl rfl rfl trivial ?_ | refine WL_build rfl rfl rfl ?_ | refine WL_loadN rfl rfl rfl rfl rfl rfl (by first | exact KnRow.ofM 0 rfl | exact KnRow.ofM 1 rfl | exact KnRow.ofM 2 rfl | exact KnRow.ofM 3 rfl | exact KnRow.ofM 4 rfl | exact KnRow.ofM 5 rfl | exact KnRow.ofS (by assumption)) (by first | rfl | assumption) ?_ | refine W_block ?_ | refine W_skip ?_ | refine W_condT rfl ?_ | refine W_condF rfl ?_ | refine W_exit ?_ | refine WL_boxA rfl rfl rfl (fun _ => ?_) | refine WL_alloc rfl rfl rfl (fun _ => ?_) | refine WL_box1 rfl rfl rfl rfl (fun _ => ?_) | refine WL_st 0 rfl rfl rfl rfl rfl rfl rfl rfl rfl rfl rfl ?_ | refine WL_st 1 rfl rfl rfl rfl rfl rfl rfl rfl rfl rfl rfl ?_ | refine WL_st 2 rfl rfl rfl rfl rfl rfl rfl rfl rfl rfl rfl ?_ | refine WL_st 3 rfl rfl rfl rfl rfl rfl rfl rfl rfl rfl rfl ?_ | refine WL_st 4 rfl rfl rfl rfl rfl rfl rfl rfl rfl rfl rfl ?_ | refine WL_st 5 rfl rfl rfl rfl rfl rfl rfl rfl rfl rfl rfl ?_ | refine WL_lit rfl rfl rfl (fun _ => ?_) | refine W_ret ?_)
      generalize decide (x.t = y.t) = b
      cases b
      · repeat (first | refine WL_ev rfl rfl rfl trivial ?_ | refine WL_skip rfl rfl ?_ | refine W_seq ?_ | refine W_region ?_ | refine WL_nil ?_ | refine WL_load1 rfl rfl rfl rfl rfl (by first | exact Kn.ofM 0 rfl rfl | exact Kn.ofM 1 rfl rfl | exact Kn.ofM 2 rfl rfl | exact Kn.ofM 3 rfl rfl | exact Kn.ofM 4 rfl rfl | exact Kn.ofM 5 rfl rfl | exact Kn.ofS (by assumption)) ?_ | refine WL_ev2 rfl rfl rfl trivial ?_ | refine WL_build rfl rfl rfl ?_ | refine WL_loadN rfl rfl rfl rfl rfl rfl (by first | exact KnRow.ofM 0 rfl | exact KnRow.ofM 1 rfl | exact KnRow.ofM 2 rfl | exact KnRow.ofM 3 rfl | exact KnRow.ofM 4 rfl | exact KnRow.ofM 5 rfl | exact KnRow.ofS (by assumption)) (by first | rfl | assumption) ?_ | refine W_block ?_ | refine W_skip ?_ | refine W_condT rfl ?_ | refine W_condF rfl ?_ | refine W_exit ?_ | refine WL_boxA rfl rfl rfl (fun _ => ?_) | refine WL_alloc rfl rfl rfl (fun _ => ?_) | refine WL_box1 rfl rfl rfl rfl (fun _ => ?_) | refine WL_st 0 rfl rfl rfl rfl rfl rfl rfl rfl rfl rfl rfl ?_ | refine WL_st 1 rfl rfl rfl rfl rfl rfl rfl rfl rfl rfl rfl ?_ | refine WL_st 2 rfl rfl rfl rfl rfl rfl rfl rfl rfl rfl rfl ?_ | refine WL_st 3 rfl rfl rfl rfl rfl rfl rfl rfl rfl rfl rfl ?_ | refine WL_st 4 rfl rfl rfl rfl rfl rfl rfl rfl rfl rfl rfl ?_ | refine WL_st 5 rfl rfl rfl rfl rfl rfl rfl rfl rfl rfl rfl ?_ | refine WL_lit rfl rfl rfl (fun _ => ?_) | refine W_ret ?_)
        exact ⟨.inr rfl, _, Res_1 rfl, rfl⟩
      repeat (first | refine WL_ev rfl rfl rfl trivial ?_ | refine WL_skip rfl rfl ?_ | refine W_seq ?_ | refine W_region ?_ | refine WL_nil ?_ | refine WL_load1 rfl rfl rfl rfl rfl (by first | exact Kn.ofM 0 rfl rfl | exact Kn.ofM 1 rfl rfl | exact Kn.ofM 2 rfl rfl | exact Kn.ofM 3 rfl rfl | exact Kn.ofM 4 rfl rfl | exact Kn.ofM 5 rfl rfl | exact Kn.ofS (by assumption)) ?_ | refine WL_ev2 rfl rfl rfl trivial ?_ | refine WL_build rfl rfl rfl ?_ | refine WL_loadN rfl rfl rfl rfl rfl rfl (by first | exact KnRow.ofM 0 rfl | exact KnRow.ofM 1 rfl | exact KnRow.ofM 2 rfl | exact KnRow.ofM 3 rfl | exact KnRow.ofM 4 rfl | exact KnRow.ofM 5 rfl | exact KnRow.ofS (by assumption)) (by first | rfl | assumption) ?_ | refine W_block ?_ | refine W_skip ?_ | refine W_condT rfl ?_ | refine W_condF rfl ?_ | refine W_exit ?_ | refine WL_boxA rfl rfl rfl (fun _ => ?_) | refine WL_alloc rfl rfl rfl (fun _ => ?_) | refine WL_box1 rfl rfl rfl rfl (fun _ => ?_) | refine WL_st 0 rfl rfl rfl rfl rfl rfl rfl rfl rfl rfl rfl ?_ | refine WL_st 1 rfl rfl rfl rfl rfl rfl rfl rfl rfl rfl rfl ?_ | refine WL_st 2 rfl rfl rfl rfl rfl rfl rfl rfl rfl rfl rfl ?_ | refine WL_st 3 rfl rfl rfl rfl rfl rfl rfl rfl rfl rfl rfl ?_ | refine WL_st 4 rfl rfl rfl rfl rfl rfl rfl rfl rfl rfl rfl ?_ | refine WL_st 5 rfl rfl rfl rfl rfl rfl rfl rfl rfl rfl rfl ?_ | refine WL_lit rfl rfl rfl (fun _ => ?_) | refine W_ret ?_)
      generalize decide (x.n = y.n) = b
      cases b
      · repeat (first | refine WL_ev rfl rfl rfl trivial ?_ | refine WL_skip rfl rfl ?_ | refine W_seq ?_ | refine W_region ?_ | refine WL_nil ?_ | refine WL_load1 rfl rfl rfl rfl rfl (by first | exact Kn.ofM 0 rfl rfl | exact Kn.ofM 1 rfl rfl | exact Kn.ofM 2 rfl rfl | exact Kn.ofM 3 rfl rfl | exact Kn.ofM 4 rfl rfl | exact Kn.ofM 5 rfl rfl | exact Kn.ofS (by assumption)) ?_ | refine WL_ev2 rfl rfl rfl trivial ?_ | refine WL_build rfl rfl rfl ?_ | refine WL_loadN rfl rfl rfl rfl rfl rfl (by first | exact KnRow.ofM 0 rfl | exact KnRow.ofM 1 rfl | exact KnRow.ofM 2 rfl | exact KnRow.ofM 3 rfl | exact KnRow.ofM 4 rfl | exact KnRow.ofM 5 rfl | exact KnRow.ofS (by assumption)) (by first | rfl | assumption) ?_ | refine W_block ?_ | refine W_skip ?_ | refine W_condT rfl ?_ | refine W_condF rfl ?_ | refine W_exit ?_ | refine WL_boxA rfl rfl rfl (fun _ => ?_) | refine WL_alloc rfl rfl rfl (fun _ => ?_) | refine WL_box1 rfl rfl rfl rfl (fun _ => ?_) | refine WL_st 0 rfl rfl rfl rfl rfl rfl rfl rfl rfl rfl rfl ?_ | refine WL_st 1 rfl rfl rfl rfl rfl rfl rfl rfl rfl rfl rfl ?_ | refine WL_st 2 rfl rfl rfl rfl rfl rfl rfl rfl rfl rfl rfl ?_ | refine WL_st 3 rfl rfl rfl rfl rfl rfl rfl rfl rfl rfl rfl ?_ | refine WL_st 4 rfl rfl rfl rfl rfl rfl rfl rfl rfl rfl rfl ?_ | refine WL_st 5 rfl rfl rfl rfl rfl rfl rfl rfl rfl rfl rfl ?_ | refine WL_lit rfl rfl rfl (fun _ => ?_) | refine W_ret ?_)
        exact ⟨.inr rfl, _, Res_1 rfl, rfl⟩
      repeat (first | refine WL_ev rfl rfl rfl trivial ?_ | refine WL_skip rfl rfl ?_ | refine W_seq ?_ | refine W_region ?_ | refine WL_nil ?_ | refine WL_load1 rfl rfl rfl rfl rfl (by first | exact Kn.ofM 0 rfl rfl | exact Kn.ofM 1 rfl rfl | exact Kn.ofM 2 rfl rfl | exact Kn.ofM 3 rfl rfl | exact Kn.ofM 4 rfl rfl | exact Kn.ofM 5 rfl rfl | exact Kn.ofS (by assumption)) ?_ | refine WL_ev2 rfl rfl rfl trivial ?_ | refine WL_build rfl rfl rfl ?_ | refine WL_loadN rfl rfl rfl rfl rfl rfl (by first | exact KnRow.ofM 0 rfl | exact KnRow.ofM 1 rfl | exact KnRow.ofM 2 rfl | exact KnRow.ofM 3 rfl | exact KnRow.ofM 4 rfl | exact KnRow.ofM 5 rfl | exact KnRow.ofS (by assumption)) (by first | rfl | assumption) ?_ | refine W_block ?_ | refine W_skip ?_ | refine W_condT rfl ?_ | refine W_condF rfl ?_ | refine W_exit ?_ | refine WL_boxA rfl rfl rfl (fun _ => ?_) | refine WL_alloc rfl rfl rfl (fun _ => ?_) | refine WL_box1 rfl rfl rfl rfl (fun _ => ?_) | refine WL_st 0 rfl rfl rfl rfl rfl rfl rfl rfl rfl rfl rfl ?_ | refine WL_st 1 rfl rfl rfl rfl rfl rfl rfl rfl rfl rfl rfl ?_ | refine WL_st 2 rfl rfl rfl rfl rfl rfl rfl rfl rfl rfl rfl ?_ | refine WL_st 3 rfl rfl rfl rfl rfl rfl rfl rfl rfl rfl rfl ?_ | refine WL_st 4 rfl rfl rfl rfl rfl rfl rfl rfl rfl rfl rfl ?_ | refine WL_st 5 rfl rfl rfl rfl rfl rfl rfl rfl rfl rfl rfl ?_ | refine WL_lit rfl rfl rfl (fun _ => ?_) | refine W_ret ?_)
      have hc := ih2 x.l y.l A B c d S (by have := nsz_l x; omega) hxl hyl (by omega) (by omega)
      refine WL_callP rfl rfl rfl rfl hc (fun v S1 hl1 hv => ?_)
      subst hv
      repeat (first | refine WL_ev rfl rfl rfl trivial ?_ | refine WL_skip rfl rfl ?_ | refine W_seq ?_ | refine W_region ?_ | refine WL_nil ?_ | refine WL_load1 rfl rfl rfl rfl rfl (by first | exact Kn.ofM 0 rfl rfl | exact Kn.ofM 1 rfl rfl | exact Kn.ofM 2 rfl rfl | exact Kn.ofM 3 rfl rfl | exact Kn.ofM 4 rfl rfl | exact Kn.ofM 5 rfl rfl | exact Kn.ofS (by assumption)) ?_ | refine WL_ev2 rfl rfl rfl trivial ?_ | refine WL_build rfl rfl rfl ?_ | refine WL_loadN rfl rfl rfl rfl rfl rfl (by first | exact KnRow.ofM 0 rfl | exact KnRow.ofM 1 rfl | exact KnRow.ofM 2 rfl | exact KnRow.ofM 3 rfl | exact KnRow.ofM 4 rfl | exact KnRow.ofM 5 rfl | exact KnRow.ofS (by assumption)) (by first | rfl | assumption) ?_ | refine W_block ?_ | refine W_skip ?_ | refine W_condT rfl ?_ | refine W_condF rfl ?_ | refine W_exit ?_ | refine WL_boxA rfl rfl rfl (fun _ => ?_) | refine WL_alloc rfl rfl rfl (fun _ => ?_) | refine WL_box1 rfl rfl rfl rfl (fun _ => ?_) | refine WL_st 0 rfl rfl rfl rfl rfl rfl rfl rfl rfl rfl rfl ?_ | refine WL_st 1 rfl rfl rfl rfl rfl rfl rfl rfl rfl rfl rfl ?_ | refine WL_st 2 rfl rfl rfl rfl rfl rfl rfl rfl rfl rfl rfl ?_ | refine WL_st 3 rfl rfl rfl rfl rfl rfl rfl rfl rfl rfl rfl ?_ | refine WL_st 4 rfl rfl rfl rfl rfl rfl rfl rfl rfl rfl rfl ?_ | refine WL_st 5 rfl rfl rfl rfl rfl rfl rfl rfl rfl rfl rfl ?_ | refine WL_lit rfl rfl rfl (fun _ => ?_) | refine W_ret ?_)
      exact ⟨.inr rfl, _, Res_1 rfl, rfl⟩
    · intro xs ys A B c d S hk hx hy bx byy
      refine Fn_of Try.func12 rfl Try.ntmps12 Try.results12 Try.call12 rfl (fun w0 h0 => ?_)
      repeat (first | refine WL_ev rfl rfl rfl trivial ?_ | refine WL_skip rfl rfl ?_ | refine W_seq ?_ | refine W_region ?_ | refine WL_nil ?_ | refine WL_load1 rfl rfl rfl rfl rfl (by first | exact Kn.ofM 0 rfl rfl | exact Kn.ofM 1 rfl rfl | exact Kn.ofM 2 rfl rfl | exact Kn.ofM 3 rfl rfl | exact Kn.ofM 4 rfl rfl | exact Kn.ofM 5 rfl rfl | exact Kn.ofS (by assumption)) ?_ | refine WL_ev2 rfl rfl rfl trivial ?_ | refine WL_build rfl rfl rfl ?_ | refine WL_loadN rfl rfl rfl rfl rfl rfl (by first | exact KnRow.ofM 0 rfl | exact KnRow.ofM 1 rfl | exact KnRow.ofM 2 rfl | exact KnRow.ofM 3 rfl | exact KnRow.ofM 4 rfl | exact KnRow.ofM 5 rfl | exact KnRow.ofS (by assumption)) (by first | rfl | assumption) ?_ | refine W_block ?_ | refine W_skip ?_ | refine W_condT rfl ?_ | refine W_condF rfl ?_ | refine W_exit ?_ | refine WL_boxA rfl rfl rfl (fun _ => ?_) | refine WL_alloc rfl rfl rfl (fun _ => ?_) | refine WL_box1 rfl rfl rfl rfl (fun _ => ?_) | refine WL_st 0 rfl rfl rfl rfl rfl rfl rfl rfl rfl rfl rfl ?_ | refine WL_st 1 rfl rfl rfl rfl rfl rfl rfl rfl rfl rfl rfl ?_ | refine WL_st 2 rfl rfl rfl rfl rfl rfl rfl rfl rfl rfl rfl ?_ | refine WL_st 3 rfl rfl rfl rfl rfl rfl rfl rfl rfl rfl rfl ?_ | refine WL_st 4 rfl rfl rfl rfl rfl rfl rfl rfl rfl rfl rfl ?_ | refine WL_st 5 rfl rfl rfl rfl rfl rfl rfl rfl rfl rfl rfl ?_ | refine WL_lit rfl rfl rfl (fun _ => ?_) | refine W_ret ?_)
      refine W_cond rfl (fun hb => ?_) (fun hb => ?_)
      · repeat (first | refine WL_ev rfl rfl rfl trivial ?_ | refine WL_skip rfl rfl ?_ | refine W_seq ?_ | refine W_region ?_ | refine WL_nil ?_ | refine WL_load1 rfl rfl rfl rfl rfl (by first | exact Kn.ofM 0 rfl rfl | exact Kn.ofM 1 rfl rfl | exact Kn.ofM 2 rfl rfl | exact Kn.ofM 3 rfl rfl | exact Kn.ofM 4 rfl rfl | exact Kn.ofM 5 rfl rfl | exact Kn.ofS (by assumption)) ?_ | refine WL_ev2 rfl rfl rfl trivial ?_ | refine WL_build rfl rfl rfl ?_ | refine WL_loadN rfl rfl rfl rfl rfl rfl (by first | exact KnRow.ofM 0 rfl | exact KnRow.ofM 1 rfl | exact KnRow.ofM 2 rfl | exact KnRow.ofM 3 rfl | exact KnRow.ofM 4 rfl | exact KnRow.ofM 5 rfl | exact KnRow.ofS (by assumption)) (by first | rfl | assumption) ?_ | refine W_block ?_ | refine W_skip ?_ | refine W_condT rfl ?_ | refine W_condF rfl ?_ | refine W_exit ?_ | refine WL_boxA rfl rfl rfl (fun _ => ?_) | refine WL_alloc rfl rfl rfl (fun _ => ?_) | refine WL_box1 rfl rfl rfl rfl (fun _ => ?_) | refine WL_st 0 rfl rfl rfl rfl rfl rfl rfl rfl rfl rfl rfl ?_ | refine WL_st 1 rfl rfl rfl rfl rfl rfl rfl rfl rfl rfl rfl ?_ | refine WL_st 2 rfl rfl rfl rfl rfl rfl rfl rfl rfl rfl rfl ?_ | refine WL_st 3 rfl rfl rfl rfl rfl rfl rfl rfl rfl rfl rfl ?_ | refine WL_st 4 rfl rfl rfl rfl rfl rfl rfl rfl rfl rfl rfl ?_ | refine WL_st 5 rfl rfl rfl rfl rfl rfl rfl rfl rfl rfl rfl ?_ | refine WL_lit rfl rfl rfl (fun _ => ?_) | refine W_ret ?_)
        refine ⟨.inr rfl, _, Res_1 rfl, ?_⟩
        rw [sameBs_len xs ys (by simp at hb; omega)]
      have hl : xs.length = ys.length := by simp at hb; omega
      repeat (first | refine WL_ev rfl rfl rfl trivial ?_ | refine WL_skip rfl rfl ?_ | refine W_seq ?_ | refine W_region ?_ | refine WL_nil ?_ | refine WL_load1 rfl rfl rfl rfl rfl (by first | exact Kn.ofM 0 rfl rfl | exact Kn.ofM 1 rfl rfl | exact Kn.ofM 2 rfl rfl | exact Kn.ofM 3 rfl rfl | exact Kn.ofM 4 rfl rfl | exact Kn.ofM 5 rfl rfl | exact Kn.ofS (by assumption)) ?_ | refine WL_ev2 rfl rfl rfl trivial ?_ | refine WL_build rfl rfl rfl ?_ | refine WL_loadN rfl rfl rfl rfl rfl rfl (by first | exact KnRow.ofM 0 rfl | exact KnRow.ofM 1 rfl | exact KnRow.ofM 2 rfl | exact KnRow.ofM 3 rfl | exact KnRow.ofM 4 rfl | exact KnRow.ofM 5 rfl | exact KnRow.ofS (by assumption)) (by first | rfl | assumption) ?_ | refine W_block ?_ | refine W_skip ?_ | refine W_condT rfl ?_ | refine W_condF rfl ?_ | refine W_exit ?_ | refine WL_boxA rfl rfl rfl (fun _ => ?_) | refine WL_alloc rfl rfl rfl (fun _ => ?_) | refine WL_box1 rfl rfl rfl rfl (fun _ => ?_) | refine WL_st 0 rfl rfl rfl rfl rfl rfl rfl rfl rfl rfl rfl ?_ | refine WL_st 1 rfl rfl rfl rfl rfl rfl rfl rfl rfl rfl rfl ?_ | refine WL_st 2 rfl rfl rfl rfl rfl rfl rfl rfl rfl rfl rfl ?_ | refine WL_st 3 rfl rfl rfl rfl rfl rfl rfl rfl rfl rfl rfl ?_ | refine WL_st 4 rfl rfl rfl rfl rfl rfl rfl rfl rfl rfl rfl ?_ | refine WL_st 5 rfl rfl rfl rfl rfl rfl rfl rfl rfl rfl rfl ?_ | refine WL_lit rfl rfl rfl (fun _ => ?_) | refine W_ret ?_)
      refine W_loop Nat (fun i => [(0, .slice A xs.length c), (1, .slice B ys.length d), (5, vi i)]) (fun i _ => i ≤ xs.length ∧ sameBs (xs.drop i) (ys.drop i) = sameBs xs ys) (fun _ => []) (fun i => xs.length - i) 0 ⟨rfl, rfl, rfl, trivial⟩ ⟨by omega, rfl⟩ rfl ?_
      intro i T hle ⟨hi, hs⟩
      repeat (first | refine WL_ev rfl rfl rfl trivial ?_ | refine WL_skip rfl rfl ?_ | refine W_seq ?_ | refine W_region ?_ | refine WL_nil ?_ | refine WL_load1 rfl rfl rfl rfl rfl (by first | exact Kn.ofM 0 rfl rfl | exact Kn.ofM 1 rfl rfl | exact Kn.ofM 2 rfl rfl | exact Kn.ofM 3 rfl rfl | exact Kn.ofM 4 rfl rfl | exact Kn.ofM 5 rfl rfl | exact Kn.ofS (by assumption)) ?_ | refine WL_ev2 rfl rfl rfl trivial ?_ | refine WL_build rfl rfl rfl ?_ | refine WL_loadN rfl rfl rfl rfl rfl rfl (by first | exact KnRow.ofM 0 rfl | exact KnRow.ofM 1 rfl | exact KnRow.ofM 2 rfl | exact KnRow.ofM 3 rfl | exact KnRow.ofM 4 rfl | exact KnRow.ofM 5 rfl | exact KnRow.ofS (by assumption)) (by first | rfl | assumption) ?_ | refine W_block ?_ | refine W_skip ?_ | refine W_condT rfl ?_ | refine W_condF rfl ?_ | refine W_exit ?_ | refine WL_boxA rfl rfl rfl (fun _ => ?_) | refine WL_alloc rfl rfl rfl (fun _ => ?_) | refine WL_box1 rfl rfl rfl rfl (fun _ => ?_) | refine WL_st 0 rfl rfl rfl rfl rfl rfl rfl rfl rfl rfl rfl ?_ | refine WL_st 1 rfl rfl rfl rfl rfl rfl rfl rfl rfl rfl rfl ?_ | refine WL_st 2 rfl rfl rfl rfl rfl rfl rfl rfl rfl rfl rfl ?_ | refine WL_st 3 rfl rfl rfl rfl rfl rfl rfl rfl rfl rfl rfl ?_ | refine WL_st 4 rfl rfl rfl rfl rfl rfl rfl rfl rfl rfl rfl ?_ | refine WL_st 5 rfl rfl rfl rfl rfl rfl rfl rfl rfl rfl rfl ?_ | refine WL_lit rfl rfl rfl (fun _ => ?_) | refine W_ret ?_)
      refine W_cond rfl (fun hb => ?_) (fun hb => ?_)
      · have hlt : i < xs.length := by simpa using hb
        obtain ⟨b1, o1, cs1, rfl, k1, r1⟩ := hx.get i xs[i] (by simp)
        obtain ⟨b2, o2, cs2, rfl, k2, r2⟩ := hy.get i ys[i] (by simp)
        have r1 := r1.le hle
        have r2 := r2.le hle
        have l1 : cs1.length = 6 := k1.len
        have l2 : cs2.length = 6 := k2.len
        have k1 := NodeK.le hle _ _ k1
        have k2 := NodeK.le hle _ _ k2
        have hc := ih1 xs[i] ys[i] cs1 cs2 T (by have := nszs_mem (List.getElem_mem hlt); omega) k1 k2
        repeat (first | refine WL_ev rfl rfl rfl trivial ?_ | refine WL_skip rfl rfl ?_ | refine W_seq ?_ | refine W_region ?_ | refine WL_nil ?_ | refine WL_load1 rfl rfl rfl rfl rfl (by first | exact Kn.ofM 0 rfl rfl | exact Kn.ofM 1 rfl rfl | exact Kn.ofM 2 rfl rfl | exact Kn.ofM 3 rfl rfl | exact Kn.ofM 4 rfl rfl | exact Kn.ofM 5 rfl rfl | exact Kn.ofS (by assumption)) ?_ | refine WL_ev2 rfl rfl rfl trivial ?_ | refine WL_build rfl rfl rfl ?_ | refine WL_loadN rfl rfl rfl rfl rfl rfl (by first | exact KnRow.ofM 0 rfl | exact KnRow.ofM 1 rfl | exact KnRow.ofM 2 rfl | exact KnRow.ofM 3 rfl | exact KnRow.ofM 4 rfl | exact KnRow.ofM 5 rfl | exact KnRow.ofS (by assumption)) (by first | rfl | assumption) ?_ | refine W_block ?_ | refine W_skip ?_ | refine W_condT rfl ?_ | refine W_condF rfl ?_ | refine W_exit ?_ | refine WL_boxA rfl rfl rfl (fun _ => ?_) | refine WL_alloc rfl rfl rfl (fun _ => ?_) | refine WL_box1 rfl rfl rfl rfl (fun _ => ?_) | refine WL_st 0 rfl rfl rfl rfl rfl rfl rfl rfl rfl rfl rfl ?_ | refine WL_st 1 rfl rfl rfl rfl rfl rfl rfl rfl rfl rfl rfl ?_ | refine WL_st 2 rfl rfl rfl rfl rfl rfl rfl rfl rfl rfl rfl ?_ | refine WL_st 3 rfl rfl rfl rfl rfl rfl rfl rfl rfl rfl rfl ?_ | refine WL_st 4 rfl rfl rfl rfl rfl rfl rfl rfl rfl rfl rfl ?_ | refine WL_st 5 rfl rfl rfl rfl rfl rfl rfl rfl rfl rfl rfl ?_ | refine WL_lit rfl rfl rfl (fun _ => ?_) | refine W_ret ?_)
        refine W_draw [(0, true), (1, true), (2, true), (3, true), (4, true), (5, true), (6, true), (7, true), (8, false), (9, true)] mixed (by kernel_rfl) ?_
        repeat (first | refine WD_ev rfl rfl rfl rfl trivial ?_ | refine WD_skip rfl rfl rfl ?_ | refine WD_loadS rfl rfl rfl rfl rfl rfl (by assumption) ?_ | refine WD_load1 rfl rfl rfl rfl rfl rfl (by first | exact Kn.ofM 0 rfl rfl | exact Kn.ofM 1 rfl rfl | exact Kn.ofM 2 rfl rfl | exact Kn.ofM 3 rfl rfl | exact Kn.ofM 4 rfl rfl | exact Kn.ofM 5 rfl rfl) ?_ | refine WD_ev2 rfl rfl rfl rfl trivial ?_ | refine WD_loadSN rfl rfl rfl rfl rfl rfl rfl (by assumption) (by first | rfl | assumption) ?_ | refine WD_loadN rfl rfl rfl rfl rfl rfl rfl (by first | exact KnRow.ofM 0 rfl | exact KnRow.ofM 1 rfl | exact KnRow.ofM 2 rfl | exact KnRow.ofM 3 rfl | exact KnRow.ofM 4 rfl | exact KnRow.ofM 5 rfl) rfl ?_ | refine WD_build rfl rfl rfl rfl ?_ | refine WD_skipF rfl rfl rfl ?_ | refine WD_nil ?_ | refine WD_ev rfl rfl rfl rfl (by omega) ?_ | refine WD_ev2 rfl rfl rfl rfl (by omega) ?_)
        refine WD_callP rfl rfl rfl rfl rfl hc (fun v S1 hl1 hv => ?_)
        subst hv
        repeat (first | refine WD_ev rfl rfl rfl rfl trivial ?_ | refine WD_skip rfl rfl rfl ?_ | refine WD_loadS rfl rfl rfl rfl rfl rfl (by assumption) ?_ | refine WD_load1 rfl rfl rfl rfl rfl rfl (by first | exact Kn.ofM 0 rfl rfl | exact Kn.ofM 1 rfl rfl | exact Kn.ofM 2 rfl rfl | exact Kn.ofM 3 rfl rfl | exact Kn.ofM 4 rfl rfl | exact Kn.ofM 5 rfl rfl) ?_ | refine WD_ev2 rfl rfl rfl rfl trivial ?_ | refine WD_loadSN rfl rfl rfl rfl rfl rfl rfl (by assumption) (by first | rfl | assumption) ?_ | refine WD_loadN rfl rfl rfl rfl rfl rfl rfl (by first | exact KnRow.ofM 0 rfl | exact KnRow.ofM 1 rfl | exact KnRow.ofM 2 rfl | exact KnRow.ofM 3 rfl | exact KnRow.ofM 4 rfl | exact KnRow.ofM 5 rfl) rfl ?_ | refine WD_build rfl rfl rfl rfl ?_ | refine WD_skipF rfl rfl rfl ?_ | refine WD_nil ?_ | refine WD_ev rfl rfl rfl rfl (by omega) ?_ | refine WD_ev2 rfl rfl rfl rfl (by omega) ?_)
        refine W_cond rfl (fun hb => ?_) (fun hb => ?_)
        · repeat (first | refine WL_ev rfl rfl rfl trivial ?_ | refine WL_skip rfl rfl ?_ | refine W_seq ?_ | refine W_region ?_ | refine WL_nil ?_ | refine WL_load1 rfl rfl rfl rfl rfl (by first | exact Kn.ofM 0 rfl rfl | exact Kn.ofM 1 rfl rfl | exact Kn.ofM 2 rfl rfl | exact Kn.ofM 3 rfl rfl | exact Kn.ofM 4 rfl rfl | exact Kn.ofM 5 rfl rfl | exact Kn.ofS (by assumption)) ?_ | refine WL_ev2 rfl rfl rfl trivial ?_ | refine WL_build rfl rfl rfl ?_ | refine WL_loadN rfl rfl rfl rfl rfl rfl (by first | exact KnRow.ofM 0 rfl | exact KnRow.ofM 1 rfl | exact KnRow.ofM 2 rfl | exact KnRow.ofM 3 rfl | exact KnRow.ofM 4 rfl | exact KnRow.ofM 5 rfl | exact KnRow.ofS (by assumption)) (by first | rfl | assumption) ?_ | refine W_block ?_ | refine W_skip ?_ | refine W_condT rfl ?_ | refine W_condF rfl ?_ | refine W_exit ?_ | refine WL_boxA rfl rfl rfl (fun _ => ?_) | refine WL_alloc rfl rfl rfl (fun _ => ?_) | refine WL_box1 rfl rfl rfl rfl (fun _ => ?_) | refine WL_st 0 rfl rfl rfl rfl rfl rfl rfl rfl rfl rfl rfl ?_ | refine WL_st 1 rfl rfl rfl rfl rfl rfl rfl rfl rfl rfl rfl ?_ | refine WL_st 2 rfl rfl rfl rfl rfl rfl rfl rfl rfl rfl rfl ?_ | refine WL_st 3 rfl rfl rfl rfl rfl rfl rfl rfl rfl rfl rfl ?_ | refine WL_st 4 rfl rfl rfl rfl rfl rfl rfl rfl rfl rfl rfl ?_ | refine WL_st 5 rfl rfl rfl rfl rfl rfl rfl rfl rfl rfl rfl ?_ | refine WL_lit rfl rfl rfl (fun _ => ?_) | refine W_ret ?_)
          refine ⟨.inr rfl, _, Res_1 rfl, ?_⟩
          have h' : sameB xs[i] ys[i] = false := by simpa using hb
          rw [← hs, sameBs_drop i xs ys hlt (by omega), h', Bool.false_and]
        · have h' : sameB xs[i] ys[i] = true := by simpa using hb
          repeat (first | refine WL_ev rfl rfl rfl trivial ?_ | refine WL_skip rfl rfl ?_ | refine W_seq ?_ | refine W_region ?_ | refine WL_nil ?_ | refine WL_load1 rfl rfl rfl rfl rfl (by first | exact Kn.ofM 0 rfl rfl | exact Kn.ofM 1 rfl rfl | exact Kn.ofM 2 rfl rfl | exact Kn.ofM 3 rfl rfl | exact Kn.ofM 4 rfl rfl | exact Kn.ofM 5 rfl rfl | exact Kn.ofS (by assumption)) ?_ | refine WL_ev2 rfl rfl rfl trivial ?_ | refine WL_build rfl rfl rfl ?_ | refine WL_loadN rfl rfl rfl rfl rfl rfl (by first | exact KnRow.ofM 0 rfl | exact KnRow.ofM 1 rfl | exact KnRow.ofM 2 rfl | exact KnRow.ofM 3 rfl | exact KnRow.ofM 4 rfl | exact KnRow.ofM 5 rfl | exact KnRow.ofS (by assumption)) (by first | rfl | assumption) ?_ | refine W_block ?_ | refine W_skip ?_ | refine W_condT rfl ?_ | refine W_condF rfl ?_ | refine W_exit ?_ | refine WL_boxA rfl rfl rfl (fun _ => ?_) | refine WL_alloc rfl rfl rfl (fun _ => ?_) | refine WL_box1 rfl rfl rfl rfl (fun _ => ?_) | refine WL_st 0 rfl rfl rfl rfl rfl rfl rfl rfl rfl rfl rfl ?_ | refine WL_st 1 rfl rfl rfl rfl rfl rfl rfl rfl rfl rfl rfl ?_ | refine WL_st 2 rfl rfl rfl rfl rfl rfl rfl rfl rfl rfl rfl ?_ | refine WL_st 3 rfl rfl rfl rfl rfl rfl rfl rfl rfl rfl rfl ?_ | refine WL_st 4 rfl rfl rfl rfl rfl rfl rfl rfl rfl rfl rfl ?_ | refine WL_st 5 rfl rfl rfl rfl rfl rfl rfl rfl rfl rfl rfl ?_ | refine WL_lit rfl rfl rfl (fun _ => ?_) | refine W_ret ?_ | refine WL_ev rfl rfl rfl (by omega) ?_ | refine WL_ev2 rfl rfl rfl (by omega) ?_)
          refine ⟨i + 1, ⟨rfl, rfl, rfl, trivial⟩, hl1, ⟨by omega, ?_⟩, rfl, by omega⟩
          rw [← hs, sameBs_drop i xs ys hlt (by omega), h', Bool.true_and]
      · have hge : xs.length ≤ i := by simp at hb; omega
        repeat (first | refine WL_ev rfl rfl rfl trivial ?_ | refine WL_skip rfl rfl ?_ | refine W_seq ?_ | refine W_region ?_ | refine WL_nil ?_ | refine WL_load1 rfl rfl rfl rfl rfl (by first | exact Kn.ofM 0 rfl rfl | exact Kn.ofM 1 rfl rfl | exact Kn.ofM 2 rfl rfl | exact Kn.ofM 3 rfl rfl | exact Kn.ofM 4 rfl rfl | exact Kn.ofM 5 rfl rfl | exact Kn.ofS (by assumption)) ?_ | refine WL_ev2 rfl rfl rfl trivial ?_ | refine WL_build rfl rfl rfl ?_ | refine WL_loadN rfl rfl rfl rfl rfl rfl (by first | exact KnRow.ofM 0 rfl | exact KnRow.ofM 1 rfl | exact KnRow.ofM 2 rfl | exact KnRow.ofM 3 rfl | exact KnRow.ofM 4 rfl | exact KnRow.ofM 5 rfl | exact KnRow.ofS (by assumption)) (by first | rfl | assumption) ?_ | refine W_block ?_ | refine W_skip ?_ | refine W_condT rfl ?_ | refine W_condF rfl ?_ | refine W_exit ?_ | refine WL_boxA rfl rfl rfl (fun _ => ?_) | refine WL_alloc rfl rfl rfl (fun _ => ?_) | refine WL_box1 rfl rfl rfl rfl (fun _ => ?_) | refine WL_st 0 rfl rfl rfl rfl rfl rfl rfl rfl rfl rfl rfl ?_ | refine WL_st 1 rfl rfl rfl rfl rfl rfl rfl rfl rfl rfl rfl ?_ | refine WL_st 2 rfl rfl rfl rfl rfl rfl rfl rfl rfl rfl rfl ?_ | refine WL_st 3 rfl rfl rfl rfl rfl rfl rfl rfl rfl rfl rfl ?_ | refine WL_st 4 rfl rfl rfl rfl rfl rfl rfl rfl rfl rfl rfl ?_ | refine WL_st 5 rfl rfl rfl rfl rfl rfl rfl rfl rfl rfl rfl ?_ | refine WL_lit rfl rfl rfl (fun _ => ?_) | refine W_ret ?_)
        refine ⟨.inr rfl, _, Res_1 rfl, ?_⟩
        rw [← hs, List.drop_of_length_le hge, List.drop_of_length_le (by omega), sameBs_nil]
end Go.Proofs.Ytmiefhokjeofcaa.Eng
