/-
Words for the plain laws: numbers that fit, places of lists.
-/
import Derived.IntWalk
import Derived.Test.YtnkjpkfijafkgaaA2
set_option linter.unusedVariables false
set_option linter.unusedSimpArgs false
namespace Go.Abs
theorem w64 {x : Int} (h : -9223372036854775808 ≤ x ∧ x ≤ 9223372036854775807) : IntKind.wrap .i64 x = x := IntWalk.i64_in _ h
theorem w8 {x : Int} (h : 0 ≤ x ∧ x ≤ 255) : IntKind.wrap .u8 x = x := by
  unfold IntKind.wrap
  simp only [IntKind.signed, IntKind.bits, Bool.false_and, Bool.false_eq_true, ↓reduceIte]
  omega
theorem getD_of_lt {α : Type} {l : List α} {i : Nat} {d : α} (h : i < l.length) : l.getD i d = l[i] := by simp [List.getD, h]
theorem getD_mem {l : List Int} {i : Nat} {d : Int} (h : i < l.length) : l.getD i d ∈ l := by rw [getD_of_lt h]; exact List.getElem_mem h
end Go.Abs
