/-
The examples of the law's package (deflate) hold.
-/
import Derived.Test.YtnkjpkfijafkgaaPB
set_option maxRecDepth 100000
namespace Go.Proofs.Ytnkjpkfijafkgaa
open Go.Abs
theorem aw26 (n : Nat) : f26 (n + 400) 6 [97, 98, 97, 98, 97, 98] = some (.r0 false 0 [97, 98, 0] [0, 0, 4] [0, 0, 2]) := by kernel_rfl
theorem aw30 (n : Nat) : f30 (n + 400) 3 [97, 98, 99] = some (.r0 false 0 [75, 76, 74, 6, 0]) := by kernel_rfl
theorem aw33 (n : Nat) : f33 (n + 400) 3 3 [97, 98, 0] [0, 0, 4] [0, 0, 2] [97, 98, 0] [0, 0, 4] [0, 0, 2] = some (.r0 true) := by kernel_rfl
theorem awS : mkStr [75, 76, 74, 6, 0] = ByteArray.mk (List.toArray [75, 76, 74, 6, 0]) := by kernel_rfl
theorem f32_ok (n : Nat) : f32 (n + 400) = some (.r0 true) := by
  rw [f32, aw26]
  simp only
  rw [aw30]
  simp only
  rw [show List.length [(97 : Int), 98, 0] = 3 from rfl, aw33]
  simp only
  rw [awS]
  simp
theorem awake32 (n : Nat) : sem32 (n + 400) [] [] = some (.bool true, []) := by
  rw [← ef32, f32_ok]
  rfl
end Go.Proofs.Ytnkjpkfijafkgaa
