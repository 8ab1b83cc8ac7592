/-
From a function's meaning to the contract that a row asks for.
-/
import Derived.Test.YtnkjpkfijafkgaaA21
import Derived.Below
set_option linter.unusedVariables false
set_option linter.unusedSimpArgs false
namespace Go.Abs
open Go.RowKit
theorem cal_if {f k : FuncId} {s x : Fsem} {r : Option Fsem} (h : (if f = k then some s else r) = some x) : (f = k ∧ s = x) ∨ r = some x := by
  by_cases e : f = k
  · rw [if_pos e] at h; exact .inl ⟨e, by simpa using h⟩
  · rw [if_neg e] at h; exact .inr h
theorem top_calls {P : Program} {f : FuncId} {fn : Func} {c : Code} {sem : Fsem} (hF : FOk P Fence.wide f sem) (hf : P.funcs[f]? = some fn) (hname : (fn.name == "runtime.NumGoroutine") = false) (hb : fn.body = some c)
    {args : List AV} {H H' : Heap} (hs : sem args H = some (.bool true, H')) {ι : Emb} {w : World} {xs : Array Value} (hro : ∀ a l, ι a = some l → (Heap.fn H a).rw = false) (hv : VRL ι args xs.toList) (hr : HR ι (Heap.fn H) w)
    (hfr : ∀ a, H.length ≤ a → ι a = none) : Calls P f xs w (fun e w' => e = .returned (.bool true) ∧ Below w.heap.size w w') := by
  have hn : ¬ fn.name = "runtime.NumGoroutine" := by simpa using hname
  have hrun : (callFunc f xs).run P w = .ok (.enter f xs) w := by simp [callFunc, hf, hn, hb]
  rcases hF args H _ _ hs ι w xs hv hr hfr with ⟨x, w', h1, _⟩ | ⟨g, ys, w1, h1, h2⟩
  · rw [hrun] at h1; cases h1
  · rw [hrun] at h1
    cases h1
    refine callsIn_wide.1 (h2.mono fun e w' he => ?_)
    cases e with
    | panicked ch => exact he.elim
    | outgrown => exact he.elim
    | returned x =>
      obtain ⟨ι', hx, _, _, _, st⟩ := he
      have hx : x = .bool true := hx
      subst hx
      refine ⟨rfl, st.outer.1, st.outer.2.1, st.outer.2.2, st.size, fun k hk => st.same k hk fun ⟨a, l, h1, h2, _⟩ => ?_⟩
      rw [hro a l h2] at h1; cases h1
end Go.Abs
