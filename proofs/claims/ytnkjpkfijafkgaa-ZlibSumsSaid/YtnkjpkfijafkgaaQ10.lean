/-
ZlibSums' meaning is true.
-/
import Derived.Test.YtnkjpkfijafkgaaH10
import Derived.Test.YtnkjpkfijafkgaaAW8
import Derived.Test.YtnkjpkfijafkgaaC2
set_option maxRecDepth 100000
namespace Go.Proofs.Ytnkjpkfijafkgaa.zlibSums
open Go.Abs
theorem pure_zlibSums {nl0 nl1 : Bool} {l0 l1 : List Int} (g0 : ∀ x ∈ l0, (Lit.int .u8 x).wf = true) (g1 : ∀ x ∈ l1, (Lit.int .u8 x).wf = true) :
    sem10 6000 [.slice 0 0 0 l0.length 1 nl0 true, .slice 1 0 0 l1.length 1 nl1 true] [.dyn nl0 5 [.ints .u8 l0], .dyn nl1 5 [.ints .u8 l1]] = some (.bool true, [.dyn nl0 5 [.ints .u8 l0], .dyn nl1 5 [.ints .u8 l1]]) := by
  have := ef10 6000 nl0 nl1 nl0 l0 nl1 l1 (awake35 5600)
  rw [f10_ok 6000 l0 l1 (by omega) (fun x hx => wf_u8 (g0 x hx)) (fun x hx => wf_u8 (g1 x hx))] at this
  exact this.symm
end Go.Proofs.Ytnkjpkfijafkgaa.zlibSums
