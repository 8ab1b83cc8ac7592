/-
The examples of the law's package (zlib) hold.
-/
import Derived.Test.YtnkjpkfijafkgaaPC
set_option maxRecDepth 100000
namespace Go.Proofs.Ytnkjpkfijafkgaa
open Go.Abs
theorem aw61 (n : Nat) : f61 (n + 400) 3 [97, 98, 99] = some (.r0 false 0 [120, 1, 75, 76, 74, 6, 0, 2, 77, 1, 39]) := by kernel_rfl
theorem aw34a (n : Nat) : f34v1 (n + 400) = some .r0 := by kernel_rfl
theorem aw34b (n : Nat) : f34 (n + 400) 3 [97, 98, 99] = some (.r0 38600999) := by kernel_rfl
theorem awT : mkStr [120, 1, 75, 76, 74, 6, 0, 2, 77, 1, 39] = ByteArray.mk (List.toArray [120, 1, 75, 76, 74, 6, 0, 2, 77, 1, 39]) := by kernel_rfl
theorem f35_ok (n : Nat) : f35 (n + 400) = some (.r0 true) := by
  rw [f35, aw61]
  simp only
  rw [aw34a]
  simp only
  rw [aw34b]
  simp only
  rw [awT]
  simp
theorem awake35 (n : Nat) : sem35 (n + 400) [] [] = some (.bool true, []) := by
  rw [← ef35, f35_ok]
  rfl
end Go.Proofs.Ytnkjpkfijafkgaa
