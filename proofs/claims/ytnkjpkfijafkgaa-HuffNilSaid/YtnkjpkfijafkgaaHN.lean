/- Proved: 'erasurelaw05.HuffNil' answers true for every input, and leaves its argument as it was. No condition. -/
import Derived.Test.YtnkjpkfijafkgaaRows
import Derived.Test.YtnkjpkfijafkgaaFns
import Derived.WalkKit
import Derived.ProofKit
import Derived.OpenShut
import Derived.ShutString
import Derived.ChangeOld
import Derived.Below
import Derived.SizedLaws
set_option linter.unusedVariables false
namespace Go.Proofs.Ytnkjpkfijafkgaa.huffNil
open Go.ChangeShapes Go.WideShapes Go.ChangeAt Go.RowKit Go.Abs
set_option maxRecDepth 100000
theorem pure (n : Nat) (s : Int) : sem5 (n + 400) [.int .i64 s] [] = some (.bool true, []) := by kernel_rfl
theorem own : ownKnob Try.prog.godebug = none := by kernel_rfl
theorem hr0 (w : World) : HR (fun _ => none) (Heap.fn []) w :=
  ⟨fun a l h => by simp [Heap.fn, Blk.live] at h, fun a h => by simp [Heap.fn, Blk.live] at h, fun a a' l l' _ h => by simp [Heap.fn, Blk.rw] at h⟩
theorem walk (a : Int) (w : World) : Calls Try.prog 5 #[.int .i64 a] w (fun e w' => e = .returned (.bool true) ∧ Below w.heap.size w w') :=
  top_calls (fok5 400) Try.func5 (by kernel_rfl) (c := bodyOf Try.f5) (by kernel_rfl) (args := [.int .i64 a]) (H := []) (H' := []) (pure 0 a) (ι := fun _ => none) (fun a => rfl) ⟨_, _, rfl, rfl, rfl⟩ (hr0 w) (fun _ _ => rfl)
theorem lifted (os : Os) (started : os.Started) (H : Type) (enc : TypeId × Value → H) :
    ReturnsInHanded {} Try.checked os 5 .any (Rows.huffNilSpec.pre6 enc Try.prog Try.f5 Rows.huffNilRow.domain false) (Rows.huffNilSpec.post enc Try.prog Try.f5 false true false false) := by
  refine returnsInHanded_of_change_sized (C := Try.checked) own started (by kernel_rfl) Try.func5
    (ChangeSpec.witness6 (enc := enc) (C := Try.checked) false ⟨#[], #[.int .i64 0], []⟩ 8 (by kernel_rfl) (by kernel_rfl) (by kernel_rfl) (by kernel_rfl)) ?_
  intro W base args ds gs before hval0 hW hcnd hsz0 _
  have hval : ∀ (j : Nat) t v, Try.f5.params[j]? = some t → args[j]? = some v → Value.okWide Try.prog W .any base t v := hval0
  have hW' := hW
  obtain ⟨p, q, hA0, hV, rfl, hfz, hnd⟩ := hW
  have hA : DataW.TrodAll enc Try.prog W 0 (fun _ => true) true Try.f5.params.toList args.toList ds p := hA0
  rw [Try.params5] at hA hval
  obtain ⟨v0, vs0, d0, ds0, p0, q0, hargs, rfl, rfl, h0, r0⟩ := trodAll_cons hA
  obtain ⟨rfl, rfl, rfl⟩ := trodAll_nil r0
  obtain rfl : args = #[v0] := by cases args; simp_all
  obtain ⟨rfl, rfl⟩ := trodVars_none hV
  obtain ⟨a0, rfl, rfl, rfl, w0⟩ := open_int Try.underlying3 (hval 0 3 v0 rfl rfl) h0
  clear hA0 hval0 hsz0
  refine (walk a0 W).mono fun e W' ⟨he, bel⟩ => ?_
  subst he
  exact ⟨_, rfl, _, _, _, [], _, [], hW', trodAll_mk1 (shut_bool Try.underlying4 _), (trodAll_cons_mk (shut_int Try.underlying3 w0) trodAll_mk0), rfl, bel.frame _, fun h => by cases h⟩
theorem over : Rows.huffNilRow.holds Try.pinned (OpenSpec.ofChange Rows.huffNilSpec) :=
  OpenClaim.holds_of_wide 5 Try.f5 rfl rfl rfl rfl rfl rfl rfl ⟨rfl, rfl, rfl, rfl, rfl⟩ rfl rfl rfl rfl rfl (by kernel_rfl) Try.func5 (by kernel_rfl)
    (of_decide_eq_true (by kernel_rfl)) (by unfold Func.isWrapper; first | (rw [if_pos (by decide +kernel)]; kernel_rfl) | (rw [if_neg (by decide +kernel)]; exact ⟨rfl, rfl⟩))
    (fun os started H enc _ => lifted os started H enc)
theorem proved : Rows.HuffNilSaid := over
#print axioms proved
end Go.Proofs.Ytnkjpkfijafkgaa.huffNil
namespace Go.Proofs.Ytnkjpkfijafkgaa
theorem huffNil_holds : Rows.HuffNilSaid := huffNil.proved
end Go.Proofs.Ytnkjpkfijafkgaa
