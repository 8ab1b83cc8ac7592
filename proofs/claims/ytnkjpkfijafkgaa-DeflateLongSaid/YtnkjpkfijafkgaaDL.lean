/- Proved: 'erasurelaw07.DeflateLong' answers true for every input, and leaves its arguments as they were. No condition. -/
import Derived.Test.YtnkjpkfijafkgaaRows
import Derived.Test.YtnkjpkfijafkgaaQ8
import Derived.Test.YtnkjpkfijafkgaaC2
import Derived.WalkKit
import Derived.ProofKit
import Derived.OpenShut
import Derived.ShutString
import Derived.ChangeOld
import Derived.Below
import Derived.SizedLaws
set_option linter.unusedVariables false
namespace Go.Proofs.Ytnkjpkfijafkgaa.deflateLong
open Go.ChangeShapes Go.WideShapes Go.ChangeAt Go.RowKit Go.Abs
set_option maxRecDepth 100000
theorem own : ownKnob Try.prog.godebug = none := by kernel_rfl
theorem laidOut : laidOutB Try.prog = true := by kernel_rfl
theorem walk {w : World} {v0 : Value} {nl0 : Bool} {l0 : List Int} {o0 : Option Abs.Loc} (h0 : IArg w .u8 v0 nl0 l0 o0) :
    Calls Try.prog 8 #[v0] w (fun e w' => e = .returned (.bool true) ∧ Below w.heap.size w w') := by
  have hall : ∀ x ∈ ([(o0, .dyn nl0 5 [.ints .u8 l0])] : List (Option Abs.Loc × Blk)), AOk w x.1 x.2 := by
    intro x hx
    simp only [List.mem_cons, List.not_mem_nil, or_false] at hx
    rcases hx with rfl
    · exact h0.ok _
  exact top_calls (fok8 6000) Try.func8 (by kernel_rfl) (c := bodyOf Try.f8) (by kernel_rfl) (args := [.slice 0 0 0 l0.length 1 nl0 true]) (H := [.dyn nl0 5 [.ints .u8 l0]]) (H' := [.dyn nl0 5 [.ints .u8 l0]])
    (pure_deflateLong h0.wf) (ι := embOf [(o0, .dyn nl0 5 [.ints .u8 l0])]) (rw_args hall) ⟨_, _, rfl, h0.vr rfl, rfl⟩ (HR_args hall) (emb_out (las := [(o0, .dyn nl0 5 [.ints .u8 l0])]))
theorem lifted (os : Os) (started : os.Started) (H : Type) (enc : TypeId × Value → H) :
    ReturnsInHanded {} Try.checked os 8 .any (Rows.deflateLongSpec.pre6 enc Try.prog Try.f8 Rows.deflateLongRow.domain false) (Rows.deflateLongSpec.post enc Try.prog Try.f8 false true false false) := by
  refine returnsInHanded_of_change_sized (C := Try.checked) own started (by kernel_rfl) Try.func8
    (ChangeSpec.witness6 (enc := enc) (C := Try.checked) false ⟨#[], #[.slice none 0 0], []⟩ 8 (by kernel_rfl) (by kernel_rfl) (by kernel_rfl) (by kernel_rfl)) ?_
  intro W base args ds gs before hval0 hW hcnd hsz0 _
  have hval : ∀ (j : Nat) t v, Try.f8.params[j]? = some t → args[j]? = some v → Value.okWide Try.prog W .any base t v := hval0
  have hW' := hW
  obtain ⟨p, q, hA0, hV, rfl, hfz, hnd⟩ := hW
  have hA : DataW.TrodAll enc Try.prog W 0 (fun _ => true) true Try.f8.params.toList args.toList ds p := hA0
  rw [Try.params8] at hA hval
  obtain ⟨v0, vs0, d0, ds0, p0, q0, hargs, rfl, rfl, h0, r0⟩ := trodAll_cons hA
  obtain ⟨rfl, rfl, rfl⟩ := trodAll_nil r0
  obtain rfl : args = #[v0] := by cases args; simp_all
  obtain ⟨rfl, rfl⟩ := trodVars_none hV
  have k0 := h0
  have lt0 : ∀ x ∈ p0, x.block < W.heap.size := by obtain ⟨m, hm⟩ := k0; exact DataW.trod_lt m _ _ _ hm
  obtain ⟨nl0, l0, o0, i0⟩ : ∃ nl l lo, IArg W .u8 v0 nl l lo := by obtain ⟨fuel, hf⟩ := h0; exact open_iarg Try.underlying33 Try.underlying5 (by kernel_rfl) (hval 0 33 v0 rfl rfl) hf
  clear hA0 hval0 hsz0
  refine (walk i0).mono fun e W' ⟨he, bel⟩ => ?_
  subst he
  exact ⟨_, rfl, _, _, _, [], _, [], hW', trodAll_mk1 (shut_bool Try.underlying4 _), (trodAll_cons_mk (Below.trod laidOut (by kernel_rfl) (of_decide_eq_true (by kernel_rfl)) k0 bel lt0) trodAll_mk0), rfl, bel.frame _, fun h => by cases h⟩
theorem over : Rows.deflateLongRow.holds Try.pinned (OpenSpec.ofChange Rows.deflateLongSpec) :=
  OpenClaim.holds_of_wide 8 Try.f8 rfl rfl rfl rfl rfl rfl rfl ⟨rfl, rfl, rfl, rfl, rfl⟩ rfl rfl rfl rfl rfl (by kernel_rfl) Try.func8 (by kernel_rfl)
    (of_decide_eq_true (by kernel_rfl)) (by unfold Func.isWrapper; first | (rw [if_pos (by decide +kernel)]; kernel_rfl) | (rw [if_neg (by decide +kernel)]; exact ⟨rfl, rfl⟩))
    (fun os started H enc _ => lifted os started H enc)
theorem proved : Rows.DeflateLongSaid := over
#print axioms proved
end Go.Proofs.Ytnkjpkfijafkgaa.deflateLong
namespace Go.Proofs.Ytnkjpkfijafkgaa
theorem deflateLong_holds : Rows.DeflateLongSaid := deflateLong.proved
end Go.Proofs.Ytnkjpkfijafkgaa
