/-
Arguments of a law as an abstract heap: rows of whole numbers that came in.
-/
import Derived.Test.YtnkjpkfijafkgaaC1
import Derived.WalkKit
import Derived.OpenShut
import Derived.ChangeSlices
import Derived.SizedLaws
set_option linter.unusedVariables false
set_option linter.unusedSimpArgs false
namespace Go.Abs
open Go.RowKit Go.ChangeShapes Go.WideShapes
/-- a block that came in, and where it lies -/
structure AOk (w : World) (lo : Option Loc) (b : Blk) : Prop where
  some : ∀ l, lo = some l → b.rw = false ∧ (∀ ι, BR ι w l b) ∧ l.b < w.heap.size
  none : lo = none → ∃ t cols, b = .dyn true t cols ∧ colsOk cols ∧ 0 < cols.length ∧ colsLen cols = 0
def embOf (las : List (Option Loc × Blk)) : Emb := fun i => match las[i]? with | some x => x.1 | none => none
theorem fn_map (las : List (Option Loc × Blk)) (i : Nat) : Heap.fn (las.map (·.2)) i = match las[i]? with | some x => x.2 | none => .dead := by
  unfold Heap.fn
  rw [List.getElem?_map]
  cases las[i]? <;> rfl
theorem HR_args {w : World} {las : List (Option Loc × Blk)} (h : ∀ x ∈ las, AOk w x.1 x.2) : HR (embOf las) (Heap.fn (las.map (·.2))) w where
  blk := fun a l ha hl => by
    rw [fn_map] at ha ⊢
    unfold embOf at hl
    cases e : las[a]? with
    | none => rw [e] at hl; cases hl
    | some x =>
      rw [e] at hl
      obtain ⟨_, h2, h3⟩ := (h x (List.mem_of_getElem? e)).some l hl
      exact ⟨h2 _, h3⟩
  nil := fun a ha hl => by
    rw [fn_map] at ha ⊢
    unfold embOf at hl
    cases e : las[a]? with
    | none => rw [e] at ha; cases ha
    | some x =>
      rw [e] at hl
      exact (h x (List.mem_of_getElem? e)).none hl
  one := fun a a' l l' _ hrw _ hl _ => by
    rw [fn_map] at hrw
    unfold embOf at hl
    cases e : las[a]? with
    | none => rw [e] at hl; cases hl
    | some x =>
      rw [e] at hl hrw
      rw [((h x (List.mem_of_getElem? e)).some l hl).1] at hrw
      cases hrw
theorem rw_args {w : World} {las : List (Option Loc × Blk)} (h : ∀ x ∈ las, AOk w x.1 x.2) (a : Nat) (l : Loc) (hl : embOf las a = some l) : (Heap.fn (las.map (·.2)) a).rw = false := by
  rw [fn_map]
  unfold embOf at hl
  cases e : las[a]? with
  | none => rw [e] at hl; cases hl
  | some x =>
    rw [e] at hl
    exact ((h x (List.mem_of_getElem? e)).some l hl).1
theorem emb_out {las : List (Option Loc × Blk)} (a : Nat) (ha : (las.map (·.2)).length ≤ a) : embOf las a = none := by
  unfold embOf
  rw [List.getElem?_eq_none (by simpa using ha)]
/-- a row of whole numbers that came in -/
structure IArg (w : World) (k : IntKind) (v : Value) (nl : Bool) (l : List Int) (lo : Option Loc) : Prop where
  nil : nl = true → v = .slice none 0 0 ∧ l = [] ∧ lo = none
  row : nl = false → ∃ loc cap, lo = some loc ∧ v = .slice (some ⟨loc.b, loc.o, none⟩) l.length cap ∧ l.length ≤ cap ∧ loc.cap = cap ∧ loc.b < w.heap.size ∧ ∀ i, i < l.length → w.cell? ⟨loc.b, loc.o + i, none⟩ = some (.int k (l.getD i 0))
  wf : ∀ x ∈ l, (Lit.int k x).wf = true
theorem IArg.ok {w : World} {k : IntKind} {v : Value} {nl : Bool} {l : List Int} {lo : Option Loc} (h : IArg w k v nl l lo) (t : TypeId) : AOk w lo (.dyn nl t [.ints k l]) where
  some := fun loc hl => by
    cases nl with
    | true => rw [(h.nil rfl).2.2] at hl; cases hl
    | false =>
      obtain ⟨loc', cap, h1, h2, h3, h4, h5, h6⟩ := h.row rfl
      rw [h1] at hl
      cases hl
      refine ⟨rfl, fun ι => ⟨fun i v hv => ?_, ⟨fun c hc => (by simp at hc; subst hc; rfl), by simp⟩, fun e => (by cases e), (by show colsLen [Col.ints k l] ≤ loc.cap; simp [colsLen, Col.len]; omega), fun e => (by cases e), fun s p e => (by cases e), fun e => (by cases e)⟩, h5⟩
      have hv' : (if i < l.length * 1 then colGet1 [Col.ints k l] (i % 1) (i / 1) else none) = some v := hv
      rw [Nat.mul_one, Nat.mod_one, Nat.div_one] at hv'
      by_cases hi : i < l.length
      · rw [if_pos hi] at hv'
        simp only [colGet1, if_true, Option.some.injEq] at hv'
        subst hv'
        exact ⟨_, h6 i hi, rfl, rfl⟩
      · rw [if_neg hi] at hv'; cases hv'
  none := fun hl => by
    cases nl with
    | true => exact ⟨t, _, rfl, fun c hc => (by simp at hc; subst hc; rfl), by simp, by simp [colsLen, Col.len, (h.nil rfl).2.1]⟩
    | false =>
      obtain ⟨loc', cap, h1, _⟩ := h.row rfl
      rw [h1] at hl; cases hl
theorem IArg.vr {w : World} {k : IntKind} {v : Value} {nl : Bool} {l : List Int} {lo : Option Loc} (h : IArg w k v nl l lo) {ι : Emb} {a : Nat} (hi : ι a = lo) : VR ι (.slice a 0 0 l.length 1 nl true) v := by
  refine ⟨fun hn => ?_, fun hn => ?_⟩
  · obtain ⟨h1, h2, _⟩ := h.nil hn
    exact ⟨h1, by rw [h2]; rfl⟩
  · obtain ⟨loc, cap, h1, h2, h3, h4, h5, h6⟩ := h.row hn
    exact ⟨loc, _, cap, hi.trans h1, h2, h3, fun _ => rfl, fun _ => ⟨rfl, h4.symm⟩⟩
theorem wf_u8 {x : Int} (h : (Lit.int .u8 x).wf = true) : 0 ≤ x ∧ x ≤ 255 := by
  simp [Lit.wf, IntKind.min, IntKind.max, IntKind.signed, IntKind.bits] at h
  omega
theorem wf_i64 {x : Int} (h : (Lit.int .i64 x).wf = true) : -9223372036854775808 ≤ x ∧ x ≤ 9223372036854775807 := by
  simp [Lit.wf, IntKind.min, IntKind.max, IntKind.signed, IntKind.bits] at h
  omega
theorem slice_lies {P : Program} {w : World} {base : Nat} {t e : TypeId} {a : Addr} {len cap : Nat} (ht : P.underlying t = some (.slice e)) (h : Value.okWide P w .any base t (.slice (some a) len cap)) : a.spot = none ∧ a.block < w.heap.size := by
  simp only [Value.okWide, ht, Cell.okWide, Cell.ok] at h
  obtain ⟨_, _, _, h1, row, cells, h2, _⟩ := h
  refine ⟨h1, ?_⟩
  unfold World.shape? at h2
  rcases Nat.lt_or_ge a.block w.heap.size with q | q
  · exact q
  · rw [Array.getElem?_eq_none q] at h2; cases h2
theorem open_iarg {H : Type} {enc : TypeId × Value → H} {P : Program} {w : World} {base base' : Nat} {spare : Nat → Bool} {held : Bool} {k : IntKind} {t e : TypeId} {v : Value} {fuel : Nat} {x : DataW H × List MemPlace}
    (ht : P.underlying t = some (.slice e)) (he : P.underlying e = some (.int k)) (hc : P.cellsOf e = 1) (hv : Value.okWide P w .any base' t v)
    (h : DataW.trod enc P w base spare held fuel t v.cells.toList = some x) : ∃ nl l lo, IArg w k v nl l lo := by
  obtain ⟨a0, len0, cap0, rfl⟩ := okWide_slice ht hv
  rcases open_ints ht he hc h with ⟨hcs, _⟩ | ⟨a, l, c, zs, hcs, _, hl, hm, hz, _, hcell, hwz⟩
  · simp [Value.cells] at hcs
    obtain ⟨rfl, rfl, rfl⟩ := hcs
    exact ⟨true, [], none, fun _ => ⟨rfl, rfl, rfl⟩, fun h => (by cases h), fun x hx => (by cases hx)⟩
  · simp [Value.cells] at hcs
    obtain ⟨rfl, rfl, rfl⟩ := hcs
    obtain ⟨h1, h2⟩ := slice_lies ht hv
    have hlz : len0 ≤ zs.length := by rw [hz]; split <;> omega
    have hlen : (zs.take len0).length = len0 := by simp; omega
    refine ⟨false, zs.take len0, some ⟨a.block, a.off, cap0⟩, fun h => (by cases h), fun _ => ⟨_, cap0, rfl, ?_, by rw [hlen]; exact hl, rfl, h2, fun i hi => ?_⟩, fun y hy => hwz y (List.mem_of_mem_take hy)⟩
    · rw [hlen]
      obtain ⟨b, o, sp⟩ := a
      simp only at h1
      subst h1
      rfl
    · rw [hlen] at hi
      have := hcell i (by omega)
      obtain ⟨b, o, sp⟩ := a
      simp only at h1
      subst h1
      rw [show (⟨b, o, none⟩ : Addr).add i = ⟨b, o + i, none⟩ by simp [Addr.add]] at this
      rw [this]
      simp [List.getD, List.getElem?_take, hi]
end Go.Abs
