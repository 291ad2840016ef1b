/- DERIVED. The order of texts byte by byte: plain laws. Conditions: none. -/
import Derived.Test.YtmiefhokjeofcaaEng8
set_option linter.unusedVariables false
set_option linter.unusedSimpArgs false
namespace Go.Proofs.Ytmiefhokjeofcaa.Eng
open Go
theorem bl_irrefl : ∀ (x : List UInt8), Op.bytesLess x x = false
  | [] => rfl
  | a :: x => by simp [Op.bytesLess, bl_irrefl x]
theorem bl_trans : ∀ {x y z : List UInt8}, Op.bytesLess x y = true → Op.bytesLess y z = true → Op.bytesLess x z = true
  | _, [], z, h, _ => by rw [Op.bytesLess] at h; cases h
  | _, _ :: _, [], _, h => by rw [Op.bytesLess] at h; cases h
  | [], b :: y, c :: z, _, _ => rfl
  | a :: x, b :: y, c :: z, h, k => by
    simp only [Op.bytesLess, Bool.or_eq_true, decide_eq_true_eq, Bool.and_eq_true, beq_iff_eq] at h k ⊢
    rcases h with h | ⟨rfl, h⟩
    · rcases k with k | ⟨rfl, k⟩
      · exact .inl (UInt8.lt_trans h k)
      · exact .inl h
    · rcases k with k | ⟨rfl, k⟩
      · exact .inl k
      · exact .inr ⟨rfl, bl_trans h k⟩
theorem bl_tri : ∀ {x y : List UInt8}, Op.bytesLess x y = false → Op.bytesLess y x = false → x = y
  | [], [], _, _ => rfl
  | _ :: _, [], _, h => by cases h
  | [], _ :: _, h, _ => by cases h
  | a :: x, b :: y, h, k => by
    simp only [Op.bytesLess, Bool.or_eq_false_iff, decide_eq_false_iff_not, Bool.and_eq_false_iff] at h k
    have e : a = b := UInt8.le_antisymm (UInt8.not_lt.1 k.1) (UInt8.not_lt.1 h.1)
    subst e
    rw [bl_tri (x := x) (y := y) (by rcases h.2 with h | h; · simp at h
                                     · exact h) (by rcases k.2 with h | h; · simp at h
                                                    · exact h)]
theorem bl_max (k a b : List UInt8) : Op.bytesLess k (maxL a b) = (Op.bytesLess k a || Op.bytesLess k b) := by
  unfold maxL
  cases h : Op.bytesLess a b with
  | true =>
    simp only
    cases h1 : Op.bytesLess k a with
    | true => rw [bl_trans h1 h]; rfl
    | false => rfl
  | false =>
    simp only
    cases h2 : Op.bytesLess k b with
    | false => rw [Bool.or_false]
    | true =>
      rw [Bool.or_true]
      cases h3 : Op.bytesLess b a with
      | true => exact bl_trans h2 h3
      | false => rw [bl_tri h h3]; exact h2
theorem bl_min (k a b : List UInt8) : Op.bytesLess k (minL a b) = (Op.bytesLess k a && Op.bytesLess k b) := by
  unfold minL
  cases h : Op.bytesLess a b with
  | true =>
    simp only [Bool.true_or]
    cases h1 : Op.bytesLess k a with
    | true => rw [bl_trans h1 h]; rfl
    | false => rfl
  | false =>
    by_cases e : a = b
    · subst e; simp
    · simp only [e, decide_false, Bool.or_false]
      cases h2 : Op.bytesLess k b with
      | false => rw [Bool.and_false]
      | true =>
        rw [Bool.and_true]
        cases h3 : Op.bytesLess b a with
        | true => rw [bl_trans h2 h3]
        | false => exact absurd (bl_tri h h3) e
end Go.Proofs.Ytmiefhokjeofcaa.Eng
