/-
DeflateLong's meaning is true.
-/
import Derived.Test.YtnkjpkfijafkgaaH8
import Derived.Test.YtnkjpkfijafkgaaAW7
import Derived.Test.YtnkjpkfijafkgaaC2
set_option maxRecDepth 100000
namespace Go.Proofs.Ytnkjpkfijafkgaa.deflateLong
open Go.Abs
theorem pure_deflateLong {nl0 : Bool} {l0 : List Int} (g0 : ∀ x ∈ l0, (Lit.int .u8 x).wf = true) :
    sem8 6000 [.slice 0 0 0 l0.length 1 nl0 true] [.dyn nl0 5 [.ints .u8 l0]] = some (.bool true, [.dyn nl0 5 [.ints .u8 l0]]) := by
  have := ef8 6000 nl0 nl0 l0 (awake32 5600)
  rw [f8_ok 6000 (by omega) l0 (fun x hx => wf_u8 (g0 x hx))] at this
  exact this.symm
end Go.Proofs.Ytnkjpkfijafkgaa.deflateLong
