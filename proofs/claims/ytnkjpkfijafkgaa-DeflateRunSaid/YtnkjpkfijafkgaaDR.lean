/- Proved: 'erasurelaw07.DeflateRun' answers true for every input, and leaves its arguments as they were. No condition. -/
import Derived.Test.YtnkjpkfijafkgaaRows
import Derived.Test.YtnkjpkfijafkgaaQ9
import Derived.Test.YtnkjpkfijafkgaaC2
import Derived.WalkKit
import Derived.ProofKit
import Derived.OpenShut
import Derived.ShutString
import Derived.ChangeOld
import Derived.Below
import Derived.SizedLaws
set_option linter.unusedVariables false
namespace Go.Proofs.Ytnkjpkfijafkgaa.deflateRun
open Go.ChangeShapes Go.WideShapes Go.ChangeAt Go.RowKit Go.Abs
set_option maxRecDepth 100000
theorem own : ownKnob Try.prog.godebug = none := by kernel_rfl
theorem laidOut : laidOutB Try.prog = true := by kernel_rfl
theorem walk {w : World} {a0 : Int} (g0 : (Lit.int .u8 a0).wf = true) {a1 : Int} (g1 : (Lit.int .i64 a1).wf = true) :
    Calls Try.prog 9 #[(Value.int .u8 a0), (Value.int .i64 a1)] w (fun e w' => e = .returned (.bool true) ∧ Below w.heap.size w w') := by
  have hall : ∀ x ∈ ([] : List (Option Abs.Loc × Blk)), AOk w x.1 x.2 := by
    intro x hx
    cases hx
  exact top_calls (fok9 3000) Try.func9 (by kernel_rfl) (c := bodyOf Try.f9) (by kernel_rfl) (args := [.int .u8 a0, .int .i64 a1]) (H := []) (H' := [])
    (pure_deflateRun g0 g1) (ι := embOf []) (rw_args hall) ⟨_, _, rfl, rfl, _, _, rfl, rfl, rfl⟩ (HR_args hall) (emb_out (las := []))
theorem lifted (os : Os) (started : os.Started) (H : Type) (enc : TypeId × Value → H) :
    ReturnsInHanded {} Try.checked os 9 .any (Rows.deflateRunSpec.pre6 enc Try.prog Try.f9 Rows.deflateRunRow.domain false) (Rows.deflateRunSpec.post enc Try.prog Try.f9 false true false false) := by
  refine returnsInHanded_of_change_sized (C := Try.checked) own started (by kernel_rfl) Try.func9
    (ChangeSpec.witness6 (enc := enc) (C := Try.checked) false ⟨#[], #[.int .u8 0, .int .i64 0], []⟩ 8 (by kernel_rfl) (by kernel_rfl) (by kernel_rfl) (by kernel_rfl)) ?_
  intro W base args ds gs before hval0 hW hcnd hsz0 _
  have hval : ∀ (j : Nat) t v, Try.f9.params[j]? = some t → args[j]? = some v → Value.okWide Try.prog W .any base t v := hval0
  have hW' := hW
  obtain ⟨p, q, hA0, hV, rfl, hfz, hnd⟩ := hW
  have hA : DataW.TrodAll enc Try.prog W 0 (fun _ => true) true Try.f9.params.toList args.toList ds p := hA0
  rw [Try.params9] at hA hval
  obtain ⟨v0, vs0, d0, ds0, p0, q0, hargs, rfl, rfl, h0, r0⟩ := trodAll_cons hA
  obtain ⟨v1, vs1, d1, ds1, p1, q1, rfl, rfl, rfl, h1, r1⟩ := trodAll_cons r0
  obtain ⟨rfl, rfl, rfl⟩ := trodAll_nil r1
  obtain rfl : args = #[v0, v1] := by cases args; simp_all
  obtain ⟨rfl, rfl⟩ := trodVars_none hV
  obtain ⟨a0, rfl, rfl, rfl, w0⟩ := open_int Try.underlying5 (hval 0 5 v0 rfl rfl) h0
  obtain ⟨a1, rfl, rfl, rfl, w1⟩ := open_int Try.underlying3 (hval 1 3 v1 rfl rfl) h1
  clear hA0 hval0 hsz0
  refine (walk w0 w1).mono fun e W' ⟨he, bel⟩ => ?_
  subst he
  exact ⟨_, rfl, _, _, _, [], _, [], hW', trodAll_mk1 (shut_bool Try.underlying4 _), (trodAll_cons_mk (shut_int Try.underlying5 w0) (trodAll_cons_mk (shut_int Try.underlying3 w1) trodAll_mk0)), rfl, bel.frame _, fun h => by cases h⟩
theorem over : Rows.deflateRunRow.holds Try.pinned (OpenSpec.ofChange Rows.deflateRunSpec) :=
  OpenClaim.holds_of_wide 9 Try.f9 rfl rfl rfl rfl rfl rfl rfl ⟨rfl, rfl, rfl, rfl, rfl⟩ rfl rfl rfl rfl rfl (by kernel_rfl) Try.func9 (by kernel_rfl)
    (of_decide_eq_true (by kernel_rfl)) (by unfold Func.isWrapper; first | (rw [if_pos (by decide +kernel)]; kernel_rfl) | (rw [if_neg (by decide +kernel)]; exact ⟨rfl, rfl⟩))
    (fun os started H enc _ => lifted os started H enc)
theorem proved : Rows.DeflateRunSaid := over
#print axioms proved
end Go.Proofs.Ytnkjpkfijafkgaa.deflateRun
namespace Go.Proofs.Ytnkjpkfijafkgaa
theorem deflateRun_holds : Rows.DeflateRunSaid := deflateRun.proved
end Go.Proofs.Ytnkjpkfijafkgaa
