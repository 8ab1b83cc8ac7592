/-
DeflateRun's meaning is true.
-/
import Derived.Test.YtnkjpkfijafkgaaH9
import Derived.Test.YtnkjpkfijafkgaaAW7
import Derived.Test.YtnkjpkfijafkgaaC2
set_option maxRecDepth 100000
namespace Go.Proofs.Ytnkjpkfijafkgaa.deflateRun
open Go.Abs
theorem pure_deflateRun {a0 a1 : Int} (g0 : (Lit.int .u8 a0).wf = true) (g1 : (Lit.int .i64 a1).wf = true) : sem9 3000 [.int .u8 a0, .int .i64 a1] [] = some (.bool true, []) := by
  have := ef9 3000 a0 a1 (awake32 2600)
  rw [f9_ok 3000 a0 a1 (by omega) (wf_u8 g0) (wf_i64 g1)] at this
  exact this.symm
end Go.Proofs.Ytnkjpkfijafkgaa.deflateRun
