/- Proved: 'erasurelaw08.ZlibSums' answers true for every input, and leaves its arguments as they were. No condition. -/
import Derived.Test.YtnkjpkfijafkgaaRows
import Derived.Test.YtnkjpkfijafkgaaQ10
import Derived.Test.YtnkjpkfijafkgaaC2
import Derived.WalkKit
import Derived.ProofKit
import Derived.OpenShut
import Derived.ShutString
import Derived.ChangeOld
import Derived.Below
import Derived.SizedLaws
set_option linter.unusedVariables false
namespace Go.Proofs.Ytnkjpkfijafkgaa.zlibSums
open Go.ChangeShapes Go.WideShapes Go.ChangeAt Go.RowKit Go.Abs
set_option maxRecDepth 100000
theorem own : ownKnob Try.prog.godebug = none := by kernel_rfl
theorem laidOut : laidOutB Try.prog = true := by kernel_rfl
theorem walk {w : World} {v0 : Value} {nl0 : Bool} {l0 : List Int} {o0 : Option Abs.Loc} (h0 : IArg w .u8 v0 nl0 l0 o0) {v1 : Value} {nl1 : Bool} {l1 : List Int} {o1 : Option Abs.Loc} (h1 : IArg w .u8 v1 nl1 l1 o1) :
    Calls Try.prog 10 #[v0, v1] w (fun e w' => e = .returned (.bool true) ∧ Below w.heap.size w w') := by
  have hall : ∀ x ∈ ([(o0, .dyn nl0 5 [.ints .u8 l0]), (o1, .dyn nl1 5 [.ints .u8 l1])] : List (Option Abs.Loc × Blk)), AOk w x.1 x.2 := by
    intro x hx
    simp only [List.mem_cons, List.not_mem_nil, or_false] at hx
    rcases hx with rfl | rfl
    · exact h0.ok _
    · exact h1.ok _
  exact top_calls (fok10 6000) Try.func10 (by kernel_rfl) (c := bodyOf Try.f10) (by kernel_rfl) (args := [.slice 0 0 0 l0.length 1 nl0 true, .slice 1 0 0 l1.length 1 nl1 true]) (H := [.dyn nl0 5 [.ints .u8 l0], .dyn nl1 5 [.ints .u8 l1]]) (H' := [.dyn nl0 5 [.ints .u8 l0], .dyn nl1 5 [.ints .u8 l1]])
    (pure_zlibSums h0.wf h1.wf) (ι := embOf [(o0, .dyn nl0 5 [.ints .u8 l0]), (o1, .dyn nl1 5 [.ints .u8 l1])]) (rw_args hall) ⟨_, _, rfl, h0.vr rfl, _, _, rfl, h1.vr rfl, rfl⟩ (HR_args hall) (emb_out (las := [(o0, .dyn nl0 5 [.ints .u8 l0]), (o1, .dyn nl1 5 [.ints .u8 l1])]))
theorem lifted (os : Os) (started : os.Started) (H : Type) (enc : TypeId × Value → H) :
    ReturnsInHanded {} Try.checked os 10 .any (Rows.zlibSumsSpec.pre6 enc Try.prog Try.f10 Rows.zlibSumsRow.domain false) (Rows.zlibSumsSpec.post enc Try.prog Try.f10 false true false false) := by
  refine returnsInHanded_of_change_sized (C := Try.checked) own started (by kernel_rfl) Try.func10
    (ChangeSpec.witness6 (enc := enc) (C := Try.checked) false ⟨#[], #[.slice none 0 0, .slice none 0 0], []⟩ 8 (by kernel_rfl) (by kernel_rfl) (by kernel_rfl) (by kernel_rfl)) ?_
  intro W base args ds gs before hval0 hW hcnd hsz0 _
  have hval : ∀ (j : Nat) t v, Try.f10.params[j]? = some t → args[j]? = some v → Value.okWide Try.prog W .any base t v := hval0
  have hW' := hW
  obtain ⟨p, q, hA0, hV, rfl, hfz, hnd⟩ := hW
  have hA : DataW.TrodAll enc Try.prog W 0 (fun _ => true) true Try.f10.params.toList args.toList ds p := hA0
  rw [Try.params10] at hA hval
  obtain ⟨v0, vs0, d0, ds0, p0, q0, hargs, rfl, rfl, h0, r0⟩ := trodAll_cons hA
  obtain ⟨v1, vs1, d1, ds1, p1, q1, rfl, rfl, rfl, h1, r1⟩ := trodAll_cons r0
  obtain ⟨rfl, rfl, rfl⟩ := trodAll_nil r1
  obtain rfl : args = #[v0, v1] := by cases args; simp_all
  obtain ⟨rfl, rfl⟩ := trodVars_none hV
  have k0 := h0
  have lt0 : ∀ x ∈ p0, x.block < W.heap.size := by obtain ⟨m, hm⟩ := k0; exact DataW.trod_lt m _ _ _ hm
  obtain ⟨nl0, l0, o0, i0⟩ : ∃ nl l lo, IArg W .u8 v0 nl l lo := by obtain ⟨fuel, hf⟩ := h0; exact open_iarg Try.underlying33 Try.underlying5 (by kernel_rfl) (hval 0 33 v0 rfl rfl) hf
  have k1 := h1
  have lt1 : ∀ x ∈ p1, x.block < W.heap.size := by obtain ⟨m, hm⟩ := k1; exact DataW.trod_lt m _ _ _ hm
  obtain ⟨nl1, l1, o1, i1⟩ : ∃ nl l lo, IArg W .u8 v1 nl l lo := by obtain ⟨fuel, hf⟩ := h1; exact open_iarg Try.underlying33 Try.underlying5 (by kernel_rfl) (hval 1 33 v1 rfl rfl) hf
  clear hA0 hval0 hsz0
  refine (walk i0 i1).mono fun e W' ⟨he, bel⟩ => ?_
  subst he
  exact ⟨_, rfl, _, _, _, [], _, [], hW', trodAll_mk1 (shut_bool Try.underlying4 _), (trodAll_cons_mk (Below.trod laidOut (by kernel_rfl) (of_decide_eq_true (by kernel_rfl)) k0 bel lt0) (trodAll_cons_mk (Below.trod laidOut (by kernel_rfl) (of_decide_eq_true (by kernel_rfl)) k1 bel lt1) trodAll_mk0)), rfl, bel.frame _, fun h => by cases h⟩
theorem over : Rows.zlibSumsRow.holds Try.pinned (OpenSpec.ofChange Rows.zlibSumsSpec) :=
  OpenClaim.holds_of_wide 10 Try.f10 rfl rfl rfl rfl rfl rfl rfl ⟨rfl, rfl, rfl, rfl, rfl⟩ rfl rfl rfl rfl rfl (by kernel_rfl) Try.func10 (by kernel_rfl)
    (of_decide_eq_true (by kernel_rfl)) (by unfold Func.isWrapper; first | (rw [if_pos (by decide +kernel)]; kernel_rfl) | (rw [if_neg (by decide +kernel)]; exact ⟨rfl, rfl⟩))
    (fun os started H enc _ => lifted os started H enc)
theorem proved : Rows.ZlibSumsSaid := over
#print axioms proved
end Go.Proofs.Ytnkjpkfijafkgaa.zlibSums
namespace Go.Proofs.Ytnkjpkfijafkgaa
theorem zlibSums_holds : Rows.ZlibSumsSaid := zlibSums.proved
end Go.Proofs.Ytnkjpkfijafkgaa
