/-
Per function: its meaning, and that it does what its meaning says.
-/
import Derived.Test.YtnkjpkfijafkgaaTab
import Derived.Test.YtnkjpkfijafkgaaC1
set_option linter.unusedVariables false
set_option maxRecDepth 100000
namespace Go.Proofs.Ytnkjpkfijafkgaa
open Go.Abs
theorem tyOK : TyOK Try.prog tab := tyOK_of (by kernel_rfl)
noncomputable def methF : TypeId → String → Option FuncId := fun t n => if t = 37 ∧ n = "Bits" then some 44 else if t = 37 ∧ n = "Left" then some 23 else if t = 37 ∧ n = "erasure/bits.next" then some 88 else none
theorem methOK : ∀ t name f, methF t name = some f → ∀ (ad : Addr) (w : World), (method (Try.prog.types.size + Made.depth) t (.pointer (some ad)) name).run Try.prog w = .ok (f, .pointer (some ad)) w := by
  intro t name f h ad w
  unfold methF at h
  split at h
  · rename_i h1; cases h; obtain ⟨rfl, rfl⟩ := h1; rfl
  split at h
  · rename_i h1; cases h; obtain ⟨rfl, rfl⟩ := h1; rfl
  split at h
  · rename_i h1; cases h; obtain ⟨rfl, rfl⟩ := h1; rfl
  cases h
/-! 46 erasure/huff.count -/
noncomputable def cal46 (N : Nat) : FuncId → Option Fsem := fun f => none
noncomputable def ctx46 (N : Nat) : Ctx := ⟨tab, cal46 N, methF, N, loops46, draws46⟩
noncomputable def sem46 (N : Nat) : Fsem := semF (ctx46 N) Try.f46
theorem fok46 (N : Nat) : FOk Try.prog Fence.wide 46 (sem46 N) := by
  refine semF_ok (G := ctx46 N) ⟨⟨fun _ => trivial, rfl⟩, tyOK, of_decide_eq_true (by kernel_rfl), by rfl, fun f sem h => ?_, methOK⟩ rfl Try.func46 (by kernel_rfl) (c := bodyOf Try.f46) (by kernel_rfl) (by kernel_rfl)
  replace h : cal46 N f = some sem := h
  unfold cal46 at h
  cases h
/-! 24 erasure/huff.Codes -/
noncomputable def cal24 (N : Nat) : FuncId → Option Fsem := fun f => if f = 46 then some (sem46 N) else none
noncomputable def ctx24 (N : Nat) : Ctx := ⟨tab, cal24 N, methF, N, loops24, draws24⟩
noncomputable def sem24 (N : Nat) : Fsem := semF (ctx24 N) Try.f24
theorem fok24 (N : Nat) : FOk Try.prog Fence.wide 24 (sem24 N) := by
  refine semF_ok (G := ctx24 N) ⟨⟨fun _ => trivial, rfl⟩, tyOK, of_decide_eq_true (by kernel_rfl), by rfl, fun f sem h => ?_, methOK⟩ rfl Try.func24 (by kernel_rfl) (c := bodyOf Try.f24) (by kernel_rfl) (by kernel_rfl)
  replace h : cal24 N f = some sem := h
  unfold cal24 at h
  rcases cal_if h with ⟨e1, e2⟩ | h
  · rw [e1, ← e2]; exact fok46 N
  cases h
/-! 36 slices.Clone[[]int,int] -/
noncomputable def cal36 (N : Nat) : FuncId → Option Fsem := fun f => none
noncomputable def ctx36 (N : Nat) : Ctx := ⟨tab, cal36 N, methF, N, loops36, draws36⟩
noncomputable def sem36 (N : Nat) : Fsem := semF (ctx36 N) Try.f36
theorem fok36 (N : Nat) : FOk Try.prog Fence.wide 36 (sem36 N) := by
  refine semF_ok (G := ctx36 N) ⟨⟨fun _ => trivial, rfl⟩, tyOK, of_decide_eq_true (by kernel_rfl), by rfl, fun f sem h => ?_, methOK⟩ rfl Try.func36 (by kernel_rfl) (c := bodyOf Try.f36) (by kernel_rfl) (by kernel_rfl)
  replace h : cal36 N f = some sem := h
  unfold cal36 at h
  cases h
/-! 11 erasure/huff.Make -/
noncomputable def cal11 (N : Nat) : FuncId → Option Fsem := fun f => if f = 24 then some (sem24 N) else if f = 36 then some (sem36 N) else none
noncomputable def ctx11 (N : Nat) : Ctx := ⟨tab, cal11 N, methF, N, loops11, draws11⟩
noncomputable def sem11 (N : Nat) : Fsem := semF (ctx11 N) Try.f11
theorem fok11 (N : Nat) : FOk Try.prog Fence.wide 11 (sem11 N) := by
  refine semF_ok (G := ctx11 N) ⟨⟨fun _ => trivial, rfl⟩, tyOK, of_decide_eq_true (by kernel_rfl), by rfl, fun f sem h => ?_, methOK⟩ rfl Try.func11 (by kernel_rfl) (c := bodyOf Try.f11) (by kernel_rfl) (by kernel_rfl)
  replace h : cal11 N f = some sem := h
  unfold cal11 at h
  rcases cal_if h with ⟨e1, e2⟩ | h
  · rw [e1, ← e2]; exact fok24 N
  rcases cal_if h with ⟨e1, e2⟩ | h
  · rw [e1, ← e2]; exact fok36 N
  cases h
/-! 12 erasure/bits.NewWriter -/
noncomputable def cal12 (N : Nat) : FuncId → Option Fsem := fun f => none
noncomputable def ctx12 (N : Nat) : Ctx := ⟨tab, cal12 N, methF, N, loops12, draws12⟩
noncomputable def sem12 (N : Nat) : Fsem := semF (ctx12 N) Try.f12
theorem fok12 (N : Nat) : FOk Try.prog Fence.wide 12 (sem12 N) := by
  refine semF_ok (G := ctx12 N) ⟨⟨fun _ => trivial, rfl⟩, tyOK, of_decide_eq_true (by kernel_rfl), by rfl, fun f sem h => ?_, methOK⟩ rfl Try.func12 (by kernel_rfl) (c := bodyOf Try.f12) (by kernel_rfl) (by kernel_rfl)
  replace h : cal12 N f = some sem := h
  unfold cal12 at h
  cases h
/-! 37 erasure/erasureref05.Ints -/
noncomputable def cal37 (N : Nat) : FuncId → Option Fsem := fun f => none
noncomputable def ctx37 (N : Nat) : Ctx := ⟨tab, cal37 N, methF, N, loops37, draws37⟩
noncomputable def sem37 (N : Nat) : Fsem := semF (ctx37 N) Try.f37
theorem fok37 (N : Nat) : FOk Try.prog Fence.wide 37 (sem37 N) := by
  refine semF_ok (G := ctx37 N) ⟨⟨fun _ => trivial, rfl⟩, tyOK, of_decide_eq_true (by kernel_rfl), by rfl, fun f sem h => ?_, methOK⟩ rfl Try.func37 (by kernel_rfl) (c := bodyOf Try.f37) (by kernel_rfl) (by kernel_rfl)
  replace h : cal37 N f = some sem := h
  unfold cal37 at h
  cases h
/-! 70 math/bits.Mul32 -/
noncomputable def cal70 (N : Nat) : FuncId → Option Fsem := fun f => none
noncomputable def ctx70 (N : Nat) : Ctx := ⟨tab, cal70 N, methF, N, loops70, draws70⟩
noncomputable def sem70 (N : Nat) : Fsem := semF (ctx70 N) Try.f70
theorem fok70 (N : Nat) : FOk Try.prog Fence.wide 70 (sem70 N) := by
  refine semF_ok (G := ctx70 N) ⟨⟨fun _ => trivial, rfl⟩, tyOK, of_decide_eq_true (by kernel_rfl), by rfl, fun f sem h => ?_, methOK⟩ rfl Try.func70 (by kernel_rfl) (c := bodyOf Try.f70) (by kernel_rfl) (by kernel_rfl)
  replace h : cal70 N f = some sem := h
  unfold cal70 at h
  cases h
/-! 71 math/bits.Mul64 -/
noncomputable def cal71 (N : Nat) : FuncId → Option Fsem := fun f => none
noncomputable def ctx71 (N : Nat) : Ctx := ⟨tab, cal71 N, methF, N, loops71, draws71⟩
noncomputable def sem71 (N : Nat) : Fsem := semF (ctx71 N) Try.f71
theorem fok71 (N : Nat) : FOk Try.prog Fence.wide 71 (sem71 N) := by
  refine semF_ok (G := ctx71 N) ⟨⟨fun _ => trivial, rfl⟩, tyOK, of_decide_eq_true (by kernel_rfl), by rfl, fun f sem h => ?_, methOK⟩ rfl Try.func71 (by kernel_rfl) (c := bodyOf Try.f71) (by kernel_rfl) (by kernel_rfl)
  replace h : cal71 N f = some sem := h
  unfold cal71 at h
  cases h
/-! 65 math/bits.Mul -/
noncomputable def cal65 (N : Nat) : FuncId → Option Fsem := fun f => if f = 70 then some (sem70 N) else if f = 71 then some (sem71 N) else none
noncomputable def ctx65 (N : Nat) : Ctx := ⟨tab, cal65 N, methF, N, loops65, draws65⟩
noncomputable def sem65 (N : Nat) : Fsem := semF (ctx65 N) Try.f65
theorem fok65 (N : Nat) : FOk Try.prog Fence.wide 65 (sem65 N) := by
  refine semF_ok (G := ctx65 N) ⟨⟨fun _ => trivial, rfl⟩, tyOK, of_decide_eq_true (by kernel_rfl), by rfl, fun f sem h => ?_, methOK⟩ rfl Try.func65 (by kernel_rfl) (c := bodyOf Try.f65) (by kernel_rfl) (by kernel_rfl)
  replace h : cal65 N f = some sem := h
  unfold cal65 at h
  rcases cal_if h with ⟨e1, e2⟩ | h
  · rw [e1, ← e2]; exact fok70 N
  rcases cal_if h with ⟨e1, e2⟩ | h
  · rw [e1, ← e2]; exact fok71 N
  cases h
/-! 52 slices.Repeat[[]int,int] -/
noncomputable def cal52 (N : Nat) : FuncId → Option Fsem := fun f => if f = 65 then some (sem65 N) else none
noncomputable def ctx52 (N : Nat) : Ctx := ⟨tab, cal52 N, methF, N, loops52, draws52⟩
noncomputable def sem52 (N : Nat) : Fsem := semF (ctx52 N) Try.f52
theorem fok52 (N : Nat) : FOk Try.prog Fence.wide 52 (sem52 N) := by
  refine semF_ok (G := ctx52 N) ⟨⟨fun _ => trivial, rfl⟩, tyOK, of_decide_eq_true (by kernel_rfl), by rfl, fun f sem h => ?_, methOK⟩ rfl Try.func52 (by kernel_rfl) (c := bodyOf Try.f52) (by kernel_rfl) (by kernel_rfl)
  replace h : cal52 N f = some sem := h
  unfold cal52 at h
  rcases cal_if h with ⟨e1, e2⟩ | h
  · rw [e1, ← e2]; exact fok65 N
  cases h
/-! 38 erasure/huff.Fixed -/
noncomputable def cal38 (N : Nat) : FuncId → Option Fsem := fun f => if f = 52 then some (sem52 N) else none
noncomputable def ctx38 (N : Nat) : Ctx := ⟨tab, cal38 N, methF, N, loops38, draws38⟩
noncomputable def sem38 (N : Nat) : Fsem := semF (ctx38 N) Try.f38
theorem fok38 (N : Nat) : FOk Try.prog Fence.wide 38 (sem38 N) := by
  refine semF_ok (G := ctx38 N) ⟨⟨fun _ => trivial, rfl⟩, tyOK, of_decide_eq_true (by kernel_rfl), by rfl, fun f sem h => ?_, methOK⟩ rfl Try.func38 (by kernel_rfl) (c := bodyOf Try.f38) (by kernel_rfl) (by kernel_rfl)
  replace h : cal38 N f = some sem := h
  unfold cal38 at h
  rcases cal_if h with ⟨e1, e2⟩ | h
  · rw [e1, ← e2]; exact fok52 N
  cases h
/-! 13 erasure/erasurelaw05.awake -/
noncomputable def cal13 (N : Nat) : FuncId → Option Fsem := fun f => if f = 11 then some (sem11 N) else if f = 24 then some (sem24 N) else if f = 37 then some (sem37 N) else if f = 38 then some (sem38 N) else none
noncomputable def ctx13 (N : Nat) : Ctx := ⟨tab, cal13 N, methF, N, loops13, draws13⟩
noncomputable def sem13 (N : Nat) : Fsem := semF (ctx13 N) Try.f13
theorem fok13 (N : Nat) : FOk Try.prog Fence.wide 13 (sem13 N) := by
  refine semF_ok (G := ctx13 N) ⟨⟨fun _ => trivial, rfl⟩, tyOK, of_decide_eq_true (by kernel_rfl), by rfl, fun f sem h => ?_, methOK⟩ rfl Try.func13 (by kernel_rfl) (c := bodyOf Try.f13) (by kernel_rfl) (by kernel_rfl)
  replace h : cal13 N f = some sem := h
  unfold cal13 at h
  rcases cal_if h with ⟨e1, e2⟩ | h
  · rw [e1, ← e2]; exact fok11 N
  rcases cal_if h with ⟨e1, e2⟩ | h
  · rw [e1, ← e2]; exact fok24 N
  rcases cal_if h with ⟨e1, e2⟩ | h
  · rw [e1, ← e2]; exact fok37 N
  rcases cal_if h with ⟨e1, e2⟩ | h
  · rw [e1, ← e2]; exact fok38 N
  cases h
/-! 62 erasure/erasureref05.power -/
noncomputable def cal62 (N : Nat) : FuncId → Option Fsem := fun f => none
noncomputable def ctx62 (N : Nat) : Ctx := ⟨tab, cal62 N, methF, N, loops62, draws62⟩
noncomputable def sem62 (N : Nat) : Fsem := semF (ctx62 N) Try.f62
theorem fok62 (N : Nat) : FOk Try.prog Fence.wide 62 (sem62 N) := by
  refine semF_ok (G := ctx62 N) ⟨⟨fun _ => trivial, rfl⟩, tyOK, of_decide_eq_true (by kernel_rfl), by rfl, fun f sem h => ?_, methOK⟩ rfl Try.func62 (by kernel_rfl) (c := bodyOf Try.f62) (by kernel_rfl) (by kernel_rfl)
  replace h : cal62 N f = some sem := h
  unfold cal62 at h
  cases h
/-! 43 erasure/erasureref05.Share -/
noncomputable def cal43 (N : Nat) : FuncId → Option Fsem := fun f => if f = 62 then some (sem62 N) else none
noncomputable def ctx43 (N : Nat) : Ctx := ⟨tab, cal43 N, methF, N, loops43, draws43⟩
noncomputable def sem43 (N : Nat) : Fsem := semF (ctx43 N) Try.f43
theorem fok43 (N : Nat) : FOk Try.prog Fence.wide 43 (sem43 N) := by
  refine semF_ok (G := ctx43 N) ⟨⟨fun _ => trivial, rfl⟩, tyOK, of_decide_eq_true (by kernel_rfl), by rfl, fun f sem h => ?_, methOK⟩ rfl Try.func43 (by kernel_rfl) (c := bodyOf Try.f43) (by kernel_rfl) (by kernel_rfl)
  replace h : cal43 N f = some sem := h
  unfold cal43 at h
  rcases cal_if h with ⟨e1, e2⟩ | h
  · rw [e1, ← e2]; exact fok62 N
  cases h
/-! 39 erasure/erasureref05.Codes -/
noncomputable def cal39 (N : Nat) : FuncId → Option Fsem := fun f => if f = 43 then some (sem43 N) else none
noncomputable def ctx39 (N : Nat) : Ctx := ⟨tab, cal39 N, methF, N, loops39, draws39⟩
noncomputable def sem39 (N : Nat) : Fsem := semF (ctx39 N) Try.f39
theorem fok39 (N : Nat) : FOk Try.prog Fence.wide 39 (sem39 N) := by
  refine semF_ok (G := ctx39 N) ⟨⟨fun _ => trivial, rfl⟩, tyOK, of_decide_eq_true (by kernel_rfl), by rfl, fun f sem h => ?_, methOK⟩ rfl Try.func39 (by kernel_rfl) (c := bodyOf Try.f39) (by kernel_rfl) (by kernel_rfl)
  replace h : cal39 N f = some sem := h
  unfold cal39 at h
  rcases cal_if h with ⟨e1, e2⟩ | h
  · rw [e1, ← e2]; exact fok43 N
  cases h
/-! 14 erasure/erasureref05.Word -/
noncomputable def cal14 (N : Nat) : FuncId → Option Fsem := fun f => if f = 39 then some (sem39 N) else none
noncomputable def ctx14 (N : Nat) : Ctx := ⟨tab, cal14 N, methF, N, loops14, draws14⟩
noncomputable def sem14 (N : Nat) : Fsem := semF (ctx14 N) Try.f14
theorem fok14 (N : Nat) : FOk Try.prog Fence.wide 14 (sem14 N) := by
  refine semF_ok (G := ctx14 N) ⟨⟨fun _ => trivial, rfl⟩, tyOK, of_decide_eq_true (by kernel_rfl), by rfl, fun f sem h => ?_, methOK⟩ rfl Try.func14 (by kernel_rfl) (c := bodyOf Try.f14) (by kernel_rfl) (by kernel_rfl)
  replace h : cal14 N f = some sem := h
  unfold cal14 at h
  rcases cal_if h with ⟨e1, e2⟩ | h
  · rw [e1, ← e2]; exact fok39 N
  cases h
/-! 40 (*erasure/huff.Table).Put$1 -/
noncomputable def cal40 (N : Nat) : FuncId → Option Fsem := fun f => none
noncomputable def ctx40 (N : Nat) : Ctx := ⟨tab, cal40 N, methF, N, loops40, draws40⟩
noncomputable def sem40 (N : Nat) : Fsem := semF (ctx40 N) Try.f40
theorem fok40 (N : Nat) : FOk Try.prog Fence.wide 40 (sem40 N) := by
  refine semF_ok (G := ctx40 N) ⟨⟨fun _ => trivial, rfl⟩, tyOK, of_decide_eq_true (by kernel_rfl), by rfl, fun f sem h => ?_, methOK⟩ rfl Try.func40 (by kernel_rfl) (c := bodyOf Try.f40) (by kernel_rfl) (by kernel_rfl)
  replace h : cal40 N f = some sem := h
  unfold cal40 at h
  cases h
/-! 41 (*erasure/bits.Writer).Put -/
noncomputable def cal41 (N : Nat) : FuncId → Option Fsem := fun f => none
noncomputable def ctx41 (N : Nat) : Ctx := ⟨tab, cal41 N, methF, N, loops41, draws41⟩
noncomputable def sem41 (N : Nat) : Fsem := semF (ctx41 N) Try.f41
theorem fok41 (N : Nat) : FOk Try.prog Fence.wide 41 (sem41 N) := by
  refine semF_ok (G := ctx41 N) ⟨⟨fun _ => trivial, rfl⟩, tyOK, of_decide_eq_true (by kernel_rfl), by rfl, fun f sem h => ?_, methOK⟩ rfl Try.func41 (by kernel_rfl) (c := bodyOf Try.f41) (by kernel_rfl) (by kernel_rfl)
  replace h : cal41 N f = some sem := h
  unfold cal41 at h
  cases h
/-! 51 erasure/deflate.is -/
noncomputable def cal51 (N : Nat) : FuncId → Option Fsem := fun f => none
noncomputable def ctx51 (N : Nat) : Ctx := ⟨tab, cal51 N, methF, N, loops51, draws51⟩
noncomputable def sem51 (N : Nat) : Fsem := semF (ctx51 N) Try.f51
theorem fok51 (N : Nat) : FOk Try.prog Fence.wide 51 (sem51 N) := by
  refine semF_ok (G := ctx51 N) ⟨⟨fun _ => trivial, rfl⟩, tyOK, of_decide_eq_true (by kernel_rfl), by rfl, fun f sem h => ?_, methOK⟩ rfl Try.func51 (by kernel_rfl) (c := bodyOf Try.f51) (by kernel_rfl) (by kernel_rfl)
  replace h : cal51 N f = some sem := h
  unfold cal51 at h
  cases h
/-! 50 erasure/deflate.Put$1 -/
noncomputable def cal50 (N : Nat) : FuncId → Option Fsem := fun f => if f = 51 then some (sem51 N) else none
noncomputable def ctx50 (N : Nat) : Ctx := ⟨tab, cal50 N, methF, N, loops50, draws50⟩
noncomputable def sem50 (N : Nat) : Fsem := semF (ctx50 N) Try.f50
theorem fok50 (N : Nat) : FOk Try.prog Fence.wide 50 (sem50 N) := by
  refine semF_ok (G := ctx50 N) ⟨⟨fun _ => trivial, rfl⟩, tyOK, of_decide_eq_true (by kernel_rfl), by rfl, fun f sem h => ?_, methOK⟩ rfl Try.func50 (by kernel_rfl) (c := bodyOf Try.f50) (by kernel_rfl) (by kernel_rfl)
  replace h : cal50 N f = some sem := h
  unfold cal50 at h
  rcases cal_if h with ⟨e1, e2⟩ | h
  · rw [e1, ← e2]; exact fok51 N
  cases h
/-! 15 (*erasure/huff.Table).Put -/
noncomputable def cal15 (N : Nat) : FuncId → Option Fsem := fun f => if f = 40 then some (sem40 N) else if f = 41 then some (sem41 N) else if f = 50 then some (sem50 N) else none
noncomputable def ctx15 (N : Nat) : Ctx := ⟨tab, cal15 N, methF, N, loops15, draws15⟩
noncomputable def sem15 (N : Nat) : Fsem := semF (ctx15 N) Try.f15
theorem fok15 (N : Nat) : FOk Try.prog Fence.wide 15 (sem15 N) := by
  refine semF_ok (G := ctx15 N) ⟨⟨fun _ => trivial, rfl⟩, tyOK, of_decide_eq_true (by kernel_rfl), by rfl, fun f sem h => ?_, methOK⟩ rfl Try.func15 (by kernel_rfl) (c := bodyOf Try.f15) (by kernel_rfl) (by kernel_rfl)
  replace h : cal15 N f = some sem := h
  unfold cal15 at h
  rcases cal_if h with ⟨e1, e2⟩ | h
  · rw [e1, ← e2]; exact fok40 N
  rcases cal_if h with ⟨e1, e2⟩ | h
  · rw [e1, ← e2]; exact fok41 N
  rcases cal_if h with ⟨e1, e2⟩ | h
  · rw [e1, ← e2]; exact fok50 N
  cases h
/-! 42 slices.Clone[[]byte,byte] -/
noncomputable def cal42 (N : Nat) : FuncId → Option Fsem := fun f => none
noncomputable def ctx42 (N : Nat) : Ctx := ⟨tab, cal42 N, methF, N, loops42, draws42⟩
noncomputable def sem42 (N : Nat) : Fsem := semF (ctx42 N) Try.f42
theorem fok42 (N : Nat) : FOk Try.prog Fence.wide 42 (sem42 N) := by
  refine semF_ok (G := ctx42 N) ⟨⟨fun _ => trivial, rfl⟩, tyOK, of_decide_eq_true (by kernel_rfl), by rfl, fun f sem h => ?_, methOK⟩ rfl Try.func42 (by kernel_rfl) (c := bodyOf Try.f42) (by kernel_rfl) (by kernel_rfl)
  replace h : cal42 N f = some sem := h
  unfold cal42 at h
  cases h
/-! 16 (*erasure/bits.Writer).Bytes -/
noncomputable def cal16 (N : Nat) : FuncId → Option Fsem := fun f => if f = 42 then some (sem42 N) else none
noncomputable def ctx16 (N : Nat) : Ctx := ⟨tab, cal16 N, methF, N, loops16, draws16⟩
noncomputable def sem16 (N : Nat) : Fsem := semF (ctx16 N) Try.f16
theorem fok16 (N : Nat) : FOk Try.prog Fence.wide 16 (sem16 N) := by
  refine semF_ok (G := ctx16 N) ⟨⟨fun _ => trivial, rfl⟩, tyOK, of_decide_eq_true (by kernel_rfl), by rfl, fun f sem h => ?_, methOK⟩ rfl Try.func16 (by kernel_rfl) (c := bodyOf Try.f16) (by kernel_rfl) (by kernel_rfl)
  replace h : cal16 N f = some sem := h
  unfold cal16 at h
  rcases cal_if h with ⟨e1, e2⟩ | h
  · rw [e1, ← e2]; exact fok42 N
  cases h
/-! 17 erasure/erasureref04.Bytes -/
noncomputable def cal17 (N : Nat) : FuncId → Option Fsem := fun f => none
noncomputable def ctx17 (N : Nat) : Ctx := ⟨tab, cal17 N, methF, N, loops17, draws17⟩
noncomputable def sem17 (N : Nat) : Fsem := semF (ctx17 N) Try.f17
theorem fok17 (N : Nat) : FOk Try.prog Fence.wide 17 (sem17 N) := by
  refine semF_ok (G := ctx17 N) ⟨⟨fun _ => trivial, rfl⟩, tyOK, of_decide_eq_true (by kernel_rfl), by rfl, fun f sem h => ?_, methOK⟩ rfl Try.func17 (by kernel_rfl) (c := bodyOf Try.f17) (by kernel_rfl) (by kernel_rfl)
  replace h : cal17 N f = some sem := h
  unfold cal17 at h
  cases h
/-! 3 erasure/erasurelaw05.HuffPuts -/
noncomputable def cal3 (N : Nat) : FuncId → Option Fsem := fun f => if f = 11 then some (sem11 N) else if f = 12 then some (sem12 N) else if f = 13 then some (sem13 N) else if f = 14 then some (sem14 N) else if f = 15 then some (sem15 N) else if f = 16 then some (sem16 N) else if f = 17 then some (sem17 N) else none
noncomputable def ctx3 (N : Nat) : Ctx := ⟨tab, cal3 N, methF, N, loops3, draws3⟩
noncomputable def sem3 (N : Nat) : Fsem := semF (ctx3 N) Try.f3
theorem fok3 (N : Nat) : FOk Try.prog Fence.wide 3 (sem3 N) := by
  refine semF_ok (G := ctx3 N) ⟨⟨fun _ => trivial, rfl⟩, tyOK, of_decide_eq_true (by kernel_rfl), by rfl, fun f sem h => ?_, methOK⟩ rfl Try.func3 (by kernel_rfl) (c := bodyOf Try.f3) (by kernel_rfl) (by kernel_rfl)
  replace h : cal3 N f = some sem := h
  unfold cal3 at h
  rcases cal_if h with ⟨e1, e2⟩ | h
  · rw [e1, ← e2]; exact fok11 N
  rcases cal_if h with ⟨e1, e2⟩ | h
  · rw [e1, ← e2]; exact fok12 N
  rcases cal_if h with ⟨e1, e2⟩ | h
  · rw [e1, ← e2]; exact fok13 N
  rcases cal_if h with ⟨e1, e2⟩ | h
  · rw [e1, ← e2]; exact fok14 N
  rcases cal_if h with ⟨e1, e2⟩ | h
  · rw [e1, ← e2]; exact fok15 N
  rcases cal_if h with ⟨e1, e2⟩ | h
  · rw [e1, ← e2]; exact fok16 N
  rcases cal_if h with ⟨e1, e2⟩ | h
  · rw [e1, ← e2]; exact fok17 N
  cases h
/-! 18 erasure/bits.NewReader -/
noncomputable def cal18 (N : Nat) : FuncId → Option Fsem := fun f => if f = 42 then some (sem42 N) else none
noncomputable def ctx18 (N : Nat) : Ctx := ⟨tab, cal18 N, methF, N, loops18, draws18⟩
noncomputable def sem18 (N : Nat) : Fsem := semF (ctx18 N) Try.f18
theorem fok18 (N : Nat) : FOk Try.prog Fence.wide 18 (sem18 N) := by
  refine semF_ok (G := ctx18 N) ⟨⟨fun _ => trivial, rfl⟩, tyOK, of_decide_eq_true (by kernel_rfl), by rfl, fun f sem h => ?_, methOK⟩ rfl Try.func18 (by kernel_rfl) (c := bodyOf Try.f18) (by kernel_rfl) (by kernel_rfl)
  replace h : cal18 N f = some sem := h
  unfold cal18 at h
  rcases cal_if h with ⟨e1, e2⟩ | h
  · rw [e1, ← e2]; exact fok42 N
  cases h
/-! 19 erasure/erasureref05.Make -/
noncomputable def cal19 (N : Nat) : FuncId → Option Fsem := fun f => if f = 39 then some (sem39 N) else if f = 43 then some (sem43 N) else none
noncomputable def ctx19 (N : Nat) : Ctx := ⟨tab, cal19 N, methF, N, loops19, draws19⟩
noncomputable def sem19 (N : Nat) : Fsem := semF (ctx19 N) Try.f19
theorem fok19 (N : Nat) : FOk Try.prog Fence.wide 19 (sem19 N) := by
  refine semF_ok (G := ctx19 N) ⟨⟨fun _ => trivial, rfl⟩, tyOK, of_decide_eq_true (by kernel_rfl), by rfl, fun f sem h => ?_, methOK⟩ rfl Try.func19 (by kernel_rfl) (c := bodyOf Try.f19) (by kernel_rfl) (by kernel_rfl)
  replace h : cal19 N f = some sem := h
  unfold cal19 at h
  rcases cal_if h with ⟨e1, e2⟩ | h
  · rw [e1, ← e2]; exact fok39 N
  rcases cal_if h with ⟨e1, e2⟩ | h
  · rw [e1, ← e2]; exact fok43 N
  cases h
/-! 20 erasure/erasureref04.Of -/
noncomputable def cal20 (N : Nat) : FuncId → Option Fsem := fun f => none
noncomputable def ctx20 (N : Nat) : Ctx := ⟨tab, cal20 N, methF, N, loops20, draws20⟩
noncomputable def sem20 (N : Nat) : Fsem := semF (ctx20 N) Try.f20
theorem fok20 (N : Nat) : FOk Try.prog Fence.wide 20 (sem20 N) := by
  refine semF_ok (G := ctx20 N) ⟨⟨fun _ => trivial, rfl⟩, tyOK, of_decide_eq_true (by kernel_rfl), by rfl, fun f sem h => ?_, methOK⟩ rfl Try.func20 (by kernel_rfl) (c := bodyOf Try.f20) (by kernel_rfl) (by kernel_rfl)
  replace h : cal20 N f = some sem := h
  unfold cal20 at h
  cases h
/-! 23 (*erasure/bits.Reader).Left -/
noncomputable def cal23 (N : Nat) : FuncId → Option Fsem := fun f => none
noncomputable def ctx23 (N : Nat) : Ctx := ⟨tab, cal23 N, methF, N, loops23, draws23⟩
noncomputable def sem23 (N : Nat) : Fsem := semF (ctx23 N) Try.f23
theorem fok23 (N : Nat) : FOk Try.prog Fence.wide 23 (sem23 N) := by
  refine semF_ok (G := ctx23 N) ⟨⟨fun _ => trivial, rfl⟩, tyOK, of_decide_eq_true (by kernel_rfl), by rfl, fun f sem h => ?_, methOK⟩ rfl Try.func23 (by kernel_rfl) (c := bodyOf Try.f23) (by kernel_rfl) (by kernel_rfl)
  replace h : cal23 N f = some sem := h
  unfold cal23 at h
  cases h
/-! 88 (*erasure/bits.Reader).next -/
noncomputable def cal88 (N : Nat) : FuncId → Option Fsem := fun f => none
noncomputable def ctx88 (N : Nat) : Ctx := ⟨tab, cal88 N, methF, N, loops88, draws88⟩
noncomputable def sem88 (N : Nat) : Fsem := semF (ctx88 N) Try.f88
theorem fok88 (N : Nat) : FOk Try.prog Fence.wide 88 (sem88 N) := by
  refine semF_ok (G := ctx88 N) ⟨⟨fun _ => trivial, rfl⟩, tyOK, of_decide_eq_true (by kernel_rfl), by rfl, fun f sem h => ?_, methOK⟩ rfl Try.func88 (by kernel_rfl) (c := bodyOf Try.f88) (by kernel_rfl) (by kernel_rfl)
  replace h : cal88 N f = some sem := h
  unfold cal88 at h
  cases h
/-! 44 (*erasure/bits.Reader).Bits -/
noncomputable def cal44 (N : Nat) : FuncId → Option Fsem := fun f => if f = 23 then some (sem23 N) else if f = 88 then some (sem88 N) else none
noncomputable def ctx44 (N : Nat) : Ctx := ⟨tab, cal44 N, methF, N, loops44, draws44⟩
noncomputable def sem44 (N : Nat) : Fsem := semF (ctx44 N) Try.f44
theorem fok44 (N : Nat) : FOk Try.prog Fence.wide 44 (sem44 N) := by
  refine semF_ok (G := ctx44 N) ⟨⟨fun _ => trivial, rfl⟩, tyOK, of_decide_eq_true (by kernel_rfl), by rfl, fun f sem h => ?_, methOK⟩ rfl Try.func44 (by kernel_rfl) (c := bodyOf Try.f44) (by kernel_rfl) (by kernel_rfl)
  replace h : cal44 N f = some sem := h
  unfold cal44 at h
  rcases cal_if h with ⟨e1, e2⟩ | h
  · rw [e1, ← e2]; exact fok23 N
  rcases cal_if h with ⟨e1, e2⟩ | h
  · rw [e1, ← e2]; exact fok88 N
  cases h
/-! 21 (*erasure/huff.Table).Read -/
noncomputable def cal21 (N : Nat) : FuncId → Option Fsem := fun f => if f = 44 then some (sem44 N) else none
noncomputable def ctx21 (N : Nat) : Ctx := ⟨tab, cal21 N, methF, N, loops21, draws21⟩
noncomputable def sem21 (N : Nat) : Fsem := semF (ctx21 N) Try.f21
theorem fok21 (N : Nat) : FOk Try.prog Fence.wide 21 (sem21 N) := by
  refine semF_ok (G := ctx21 N) ⟨⟨fun _ => trivial, rfl⟩, tyOK, of_decide_eq_true (by kernel_rfl), by rfl, fun f sem h => ?_, methOK⟩ rfl Try.func21 (by kernel_rfl) (c := bodyOf Try.f21) (by kernel_rfl) (by kernel_rfl)
  replace h : cal21 N f = some sem := h
  unfold cal21 at h
  rcases cal_if h with ⟨e1, e2⟩ | h
  · rw [e1, ← e2]; exact fok44 N
  cases h
/-! 63 erasure/erasureref04.Number -/
noncomputable def cal63 (N : Nat) : FuncId → Option Fsem := fun f => none
noncomputable def ctx63 (N : Nat) : Ctx := ⟨tab, cal63 N, methF, N, loops63, draws63⟩
noncomputable def sem63 (N : Nat) : Fsem := semF (ctx63 N) Try.f63
theorem fok63 (N : Nat) : FOk Try.prog Fence.wide 63 (sem63 N) := by
  refine semF_ok (G := ctx63 N) ⟨⟨fun _ => trivial, rfl⟩, tyOK, of_decide_eq_true (by kernel_rfl), by rfl, fun f sem h => ?_, methOK⟩ rfl Try.func63 (by kernel_rfl) (c := bodyOf Try.f63) (by kernel_rfl) (by kernel_rfl)
  replace h : cal63 N f = some sem := h
  unfold cal63 at h
  cases h
/-! 45 (*erasure/erasureref04.Reader).Bits -/
noncomputable def cal45 (N : Nat) : FuncId → Option Fsem := fun f => if f = 63 then some (sem63 N) else none
noncomputable def ctx45 (N : Nat) : Ctx := ⟨tab, cal45 N, methF, N, loops45, draws45⟩
noncomputable def sem45 (N : Nat) : Fsem := semF (ctx45 N) Try.f45
theorem fok45 (N : Nat) : FOk Try.prog Fence.wide 45 (sem45 N) := by
  refine semF_ok (G := ctx45 N) ⟨⟨fun _ => trivial, rfl⟩, tyOK, of_decide_eq_true (by kernel_rfl), by rfl, fun f sem h => ?_, methOK⟩ rfl Try.func45 (by kernel_rfl) (c := bodyOf Try.f45) (by kernel_rfl) (by kernel_rfl)
  replace h : cal45 N f = some sem := h
  unfold cal45 at h
  rcases cal_if h with ⟨e1, e2⟩ | h
  · rw [e1, ← e2]; exact fok63 N
  cases h
/-! 22 erasure/erasureref05.Read -/
noncomputable def cal22 (N : Nat) : FuncId → Option Fsem := fun f => if f = 39 then some (sem39 N) else if f = 45 then some (sem45 N) else none
noncomputable def ctx22 (N : Nat) : Ctx := ⟨tab, cal22 N, methF, N, loops22, draws22⟩
noncomputable def sem22 (N : Nat) : Fsem := semF (ctx22 N) Try.f22
theorem fok22 (N : Nat) : FOk Try.prog Fence.wide 22 (sem22 N) := by
  refine semF_ok (G := ctx22 N) ⟨⟨fun _ => trivial, rfl⟩, tyOK, of_decide_eq_true (by kernel_rfl), by rfl, fun f sem h => ?_, methOK⟩ rfl Try.func22 (by kernel_rfl) (c := bodyOf Try.f22) (by kernel_rfl) (by kernel_rfl)
  replace h : cal22 N f = some sem := h
  unfold cal22 at h
  rcases cal_if h with ⟨e1, e2⟩ | h
  · rw [e1, ← e2]; exact fok39 N
  rcases cal_if h with ⟨e1, e2⟩ | h
  · rw [e1, ← e2]; exact fok45 N
  cases h
/-! 4 erasure/erasurelaw05.HuffReads -/
noncomputable def cal4 (N : Nat) : FuncId → Option Fsem := fun f => if f = 11 then some (sem11 N) else if f = 13 then some (sem13 N) else if f = 18 then some (sem18 N) else if f = 19 then some (sem19 N) else if f = 20 then some (sem20 N) else if f = 21 then some (sem21 N) else if f = 22 then some (sem22 N) else if f = 23 then some (sem23 N) else none
noncomputable def ctx4 (N : Nat) : Ctx := ⟨tab, cal4 N, methF, N, loops4, draws4⟩
noncomputable def sem4 (N : Nat) : Fsem := semF (ctx4 N) Try.f4
theorem fok4 (N : Nat) : FOk Try.prog Fence.wide 4 (sem4 N) := by
  refine semF_ok (G := ctx4 N) ⟨⟨fun _ => trivial, rfl⟩, tyOK, of_decide_eq_true (by kernel_rfl), by rfl, fun f sem h => ?_, methOK⟩ rfl Try.func4 (by kernel_rfl) (c := bodyOf Try.f4) (by kernel_rfl) (by kernel_rfl)
  replace h : cal4 N f = some sem := h
  unfold cal4 at h
  rcases cal_if h with ⟨e1, e2⟩ | h
  · rw [e1, ← e2]; exact fok11 N
  rcases cal_if h with ⟨e1, e2⟩ | h
  · rw [e1, ← e2]; exact fok13 N
  rcases cal_if h with ⟨e1, e2⟩ | h
  · rw [e1, ← e2]; exact fok18 N
  rcases cal_if h with ⟨e1, e2⟩ | h
  · rw [e1, ← e2]; exact fok19 N
  rcases cal_if h with ⟨e1, e2⟩ | h
  · rw [e1, ← e2]; exact fok20 N
  rcases cal_if h with ⟨e1, e2⟩ | h
  · rw [e1, ← e2]; exact fok21 N
  rcases cal_if h with ⟨e1, e2⟩ | h
  · rw [e1, ← e2]; exact fok22 N
  rcases cal_if h with ⟨e1, e2⟩ | h
  · rw [e1, ← e2]; exact fok23 N
  cases h
/-! 5 erasure/erasurelaw05.HuffNil -/
noncomputable def cal5 (N : Nat) : FuncId → Option Fsem := fun f => if f = 11 then some (sem11 N) else if f = 12 then some (sem12 N) else if f = 13 then some (sem13 N) else if f = 15 then some (sem15 N) else if f = 18 then some (sem18 N) else if f = 21 then some (sem21 N) else none
noncomputable def ctx5 (N : Nat) : Ctx := ⟨tab, cal5 N, methF, N, loops5, draws5⟩
noncomputable def sem5 (N : Nat) : Fsem := semF (ctx5 N) Try.f5
theorem fok5 (N : Nat) : FOk Try.prog Fence.wide 5 (sem5 N) := by
  refine semF_ok (G := ctx5 N) ⟨⟨fun _ => trivial, rfl⟩, tyOK, of_decide_eq_true (by kernel_rfl), by rfl, fun f sem h => ?_, methOK⟩ rfl Try.func5 (by kernel_rfl) (c := bodyOf Try.f5) (by kernel_rfl) (by kernel_rfl)
  replace h : cal5 N f = some sem := h
  unfold cal5 at h
  rcases cal_if h with ⟨e1, e2⟩ | h
  · rw [e1, ← e2]; exact fok11 N
  rcases cal_if h with ⟨e1, e2⟩ | h
  · rw [e1, ← e2]; exact fok12 N
  rcases cal_if h with ⟨e1, e2⟩ | h
  · rw [e1, ← e2]; exact fok13 N
  rcases cal_if h with ⟨e1, e2⟩ | h
  · rw [e1, ← e2]; exact fok15 N
  rcases cal_if h with ⟨e1, e2⟩ | h
  · rw [e1, ← e2]; exact fok18 N
  rcases cal_if h with ⟨e1, e2⟩ | h
  · rw [e1, ← e2]; exact fok21 N
  cases h
/-! 6 erasure/erasurelaw05.HuffBack -/
noncomputable def cal6 (N : Nat) : FuncId → Option Fsem := fun f => if f = 11 then some (sem11 N) else if f = 12 then some (sem12 N) else if f = 13 then some (sem13 N) else if f = 15 then some (sem15 N) else if f = 16 then some (sem16 N) else if f = 18 then some (sem18 N) else if f = 21 then some (sem21 N) else if f = 23 then some (sem23 N) else if f = 24 then some (sem24 N) else none
noncomputable def ctx6 (N : Nat) : Ctx := ⟨tab, cal6 N, methF, N, loops6, draws6⟩
noncomputable def sem6 (N : Nat) : Fsem := semF (ctx6 N) Try.f6
theorem fok6 (N : Nat) : FOk Try.prog Fence.wide 6 (sem6 N) := by
  refine semF_ok (G := ctx6 N) ⟨⟨fun _ => trivial, rfl⟩, tyOK, of_decide_eq_true (by kernel_rfl), by rfl, fun f sem h => ?_, methOK⟩ rfl Try.func6 (by kernel_rfl) (c := bodyOf Try.f6) (by kernel_rfl) (by kernel_rfl)
  replace h : cal6 N f = some sem := h
  unfold cal6 at h
  rcases cal_if h with ⟨e1, e2⟩ | h
  · rw [e1, ← e2]; exact fok11 N
  rcases cal_if h with ⟨e1, e2⟩ | h
  · rw [e1, ← e2]; exact fok12 N
  rcases cal_if h with ⟨e1, e2⟩ | h
  · rw [e1, ← e2]; exact fok13 N
  rcases cal_if h with ⟨e1, e2⟩ | h
  · rw [e1, ← e2]; exact fok15 N
  rcases cal_if h with ⟨e1, e2⟩ | h
  · rw [e1, ← e2]; exact fok16 N
  rcases cal_if h with ⟨e1, e2⟩ | h
  · rw [e1, ← e2]; exact fok18 N
  rcases cal_if h with ⟨e1, e2⟩ | h
  · rw [e1, ← e2]; exact fok21 N
  rcases cal_if h with ⟨e1, e2⟩ | h
  · rw [e1, ← e2]; exact fok23 N
  rcases cal_if h with ⟨e1, e2⟩ | h
  · rw [e1, ← e2]; exact fok24 N
  cases h
/-! 25 erasure/erasureref04.Own -/
noncomputable def cal25 (N : Nat) : FuncId → Option Fsem := fun f => none
noncomputable def ctx25 (N : Nat) : Ctx := ⟨tab, cal25 N, methF, N, loops25, draws25⟩
noncomputable def sem25 (N : Nat) : Fsem := semF (ctx25 N) Try.f25
theorem fok25 (N : Nat) : FOk Try.prog Fence.wide 25 (sem25 N) := by
  refine semF_ok (G := ctx25 N) ⟨⟨fun _ => trivial, rfl⟩, tyOK, of_decide_eq_true (by kernel_rfl), by rfl, fun f sem h => ?_, methOK⟩ rfl Try.func25 (by kernel_rfl) (c := bodyOf Try.f25) (by kernel_rfl) (by kernel_rfl)
  replace h : cal25 N f = some sem := h
  unfold cal25 at h
  cases h
/-! 47 erasure/deflate.run -/
noncomputable def cal47 (N : Nat) : FuncId → Option Fsem := fun f => none
noncomputable def ctx47 (N : Nat) : Ctx := ⟨tab, cal47 N, methF, N, loops47, draws47⟩
noncomputable def sem47 (N : Nat) : Fsem := semF (ctx47 N) Try.f47
theorem fok47 (N : Nat) : FOk Try.prog Fence.wide 47 (sem47 N) := by
  refine semF_ok (G := ctx47 N) ⟨⟨fun _ => trivial, rfl⟩, tyOK, of_decide_eq_true (by kernel_rfl), by rfl, fun f sem h => ?_, methOK⟩ rfl Try.func47 (by kernel_rfl) (c := bodyOf Try.f47) (by kernel_rfl) (by kernel_rfl)
  replace h : cal47 N f = some sem := h
  unfold cal47 at h
  cases h
/-! 26 erasure/deflate.Tokens -/
noncomputable def cal26 (N : Nat) : FuncId → Option Fsem := fun f => if f = 47 then some (sem47 N) else none
noncomputable def ctx26 (N : Nat) : Ctx := ⟨tab, cal26 N, methF, N, loops26, draws26⟩
noncomputable def sem26 (N : Nat) : Fsem := semF (ctx26 N) Try.f26
theorem fok26 (N : Nat) : FOk Try.prog Fence.wide 26 (sem26 N) := by
  refine semF_ok (G := ctx26 N) ⟨⟨fun _ => trivial, rfl⟩, tyOK, of_decide_eq_true (by kernel_rfl), by rfl, fun f sem h => ?_, methOK⟩ rfl Try.func26 (by kernel_rfl) (c := bodyOf Try.f26) (by kernel_rfl) (by kernel_rfl)
  replace h : cal26 N f = some sem := h
  unfold cal26 at h
  rcases cal_if h with ⟨e1, e2⟩ | h
  · rw [e1, ← e2]; exact fok47 N
  cases h
/-! 48 erasure/erasureref07.run -/
noncomputable def cal48 (N : Nat) : FuncId → Option Fsem := fun f => none
noncomputable def ctx48 (N : Nat) : Ctx := ⟨tab, cal48 N, methF, N, loops48, draws48⟩
noncomputable def sem48 (N : Nat) : Fsem := semF (ctx48 N) Try.f48
theorem fok48 (N : Nat) : FOk Try.prog Fence.wide 48 (sem48 N) := by
  refine semF_ok (G := ctx48 N) ⟨⟨fun _ => trivial, rfl⟩, tyOK, of_decide_eq_true (by kernel_rfl), by rfl, fun f sem h => ?_, methOK⟩ rfl Try.func48 (by kernel_rfl) (c := bodyOf Try.f48) (by kernel_rfl) (by kernel_rfl)
  replace h : cal48 N f = some sem := h
  unfold cal48 at h
  cases h
/-! 27 erasure/erasureref07.Tokens -/
noncomputable def cal27 (N : Nat) : FuncId → Option Fsem := fun f => if f = 48 then some (sem48 N) else none
noncomputable def ctx27 (N : Nat) : Ctx := ⟨tab, cal27 N, methF, N, loops27, draws27⟩
noncomputable def sem27 (N : Nat) : Fsem := semF (ctx27 N) Try.f27
theorem fok27 (N : Nat) : FOk Try.prog Fence.wide 27 (sem27 N) := by
  refine semF_ok (G := ctx27 N) ⟨⟨fun _ => trivial, rfl⟩, tyOK, of_decide_eq_true (by kernel_rfl), by rfl, fun f sem h => ?_, methOK⟩ rfl Try.func27 (by kernel_rfl) (c := bodyOf Try.f27) (by kernel_rfl) (by kernel_rfl)
  replace h : cal27 N f = some sem := h
  unfold cal27 at h
  rcases cal_if h with ⟨e1, e2⟩ | h
  · rw [e1, ← e2]; exact fok48 N
  cases h
/-! 53 erasure/deflate.Put$2 -/
noncomputable def cal53 (N : Nat) : FuncId → Option Fsem := fun f => if f = 15 then some (sem15 N) else if f = 41 then some (sem41 N) else none
noncomputable def ctx53 (N : Nat) : Ctx := ⟨tab, cal53 N, methF, N, loops53, draws53⟩
noncomputable def sem53 (N : Nat) : Fsem := semF (ctx53 N) Try.f53
theorem fok53 (N : Nat) : FOk Try.prog Fence.wide 53 (sem53 N) := by
  refine semF_ok (G := ctx53 N) ⟨⟨fun _ => trivial, rfl⟩, tyOK, of_decide_eq_true (by kernel_rfl), by rfl, fun f sem h => ?_, methOK⟩ rfl Try.func53 (by kernel_rfl) (c := bodyOf Try.f53) (by kernel_rfl) (by kernel_rfl)
  replace h : cal53 N f = some sem := h
  unfold cal53 at h
  rcases cal_if h with ⟨e1, e2⟩ | h
  · rw [e1, ← e2]; exact fok15 N
  rcases cal_if h with ⟨e1, e2⟩ | h
  · rw [e1, ← e2]; exact fok41 N
  cases h
/-! 64 slices.IndexFunc[[]erasure/api.Token,erasure/api.Token] -/
noncomputable def cal64 (N : Nat) : FuncId → Option Fsem := fun f => if f = 40 then some (sem40 N) else if f = 50 then some (sem50 N) else if f = 53 then some (sem53 N) else none
noncomputable def ctx64 (N : Nat) : Ctx := ⟨tab, cal64 N, methF, N, loops64, draws64⟩
noncomputable def sem64 (N : Nat) : Fsem := semF (ctx64 N) Try.f64
theorem fok64 (N : Nat) : FOk Try.prog Fence.wide 64 (sem64 N) := by
  refine semF_ok (G := ctx64 N) ⟨⟨fun _ => trivial, rfl⟩, tyOK, of_decide_eq_true (by kernel_rfl), by rfl, fun f sem h => ?_, methOK⟩ rfl Try.func64 (by kernel_rfl) (c := bodyOf Try.f64) (by kernel_rfl) (by kernel_rfl)
  replace h : cal64 N f = some sem := h
  unfold cal64 at h
  rcases cal_if h with ⟨e1, e2⟩ | h
  · rw [e1, ← e2]; exact fok40 N
  rcases cal_if h with ⟨e1, e2⟩ | h
  · rw [e1, ← e2]; exact fok50 N
  rcases cal_if h with ⟨e1, e2⟩ | h
  · rw [e1, ← e2]; exact fok53 N
  cases h
/-! 49 slices.ContainsFunc[[]erasure/api.Token,erasure/api.Token] -/
noncomputable def cal49 (N : Nat) : FuncId → Option Fsem := fun f => if f = 64 then some (sem64 N) else none
noncomputable def ctx49 (N : Nat) : Ctx := ⟨tab, cal49 N, methF, N, loops49, draws49⟩
noncomputable def sem49 (N : Nat) : Fsem := semF (ctx49 N) Try.f49
theorem fok49 (N : Nat) : FOk Try.prog Fence.wide 49 (sem49 N) := by
  refine semF_ok (G := ctx49 N) ⟨⟨fun _ => trivial, rfl⟩, tyOK, of_decide_eq_true (by kernel_rfl), by rfl, fun f sem h => ?_, methOK⟩ rfl Try.func49 (by kernel_rfl) (c := bodyOf Try.f49) (by kernel_rfl) (by kernel_rfl)
  replace h : cal49 N f = some sem := h
  unfold cal49 at h
  rcases cal_if h with ⟨e1, e2⟩ | h
  · rw [e1, ← e2]; exact fok64 N
  cases h
/-! 54 erasure/deflate.lengths -/
noncomputable def cal54 (N : Nat) : FuncId → Option Fsem := fun f => none
noncomputable def ctx54 (N : Nat) : Ctx := ⟨tab, cal54 N, methF, N, loops54, draws54⟩
noncomputable def sem54 (N : Nat) : Fsem := semF (ctx54 N) Try.f54
theorem fok54 (N : Nat) : FOk Try.prog Fence.wide 54 (sem54 N) := by
  refine semF_ok (G := ctx54 N) ⟨⟨fun _ => trivial, rfl⟩, tyOK, of_decide_eq_true (by kernel_rfl), by rfl, fun f sem h => ?_, methOK⟩ rfl Try.func54 (by kernel_rfl) (c := bodyOf Try.f54) (by kernel_rfl) (by kernel_rfl)
  replace h : cal54 N f = some sem := h
  unfold cal54 at h
  cases h
/-! 55 erasure/deflate.backwards -/
noncomputable def cal55 (N : Nat) : FuncId → Option Fsem := fun f => none
noncomputable def ctx55 (N : Nat) : Ctx := ⟨tab, cal55 N, methF, N, loops55, draws55⟩
noncomputable def sem55 (N : Nat) : Fsem := semF (ctx55 N) Try.f55
theorem fok55 (N : Nat) : FOk Try.prog Fence.wide 55 (sem55 N) := by
  refine semF_ok (G := ctx55 N) ⟨⟨fun _ => trivial, rfl⟩, tyOK, of_decide_eq_true (by kernel_rfl), by rfl, fun f sem h => ?_, methOK⟩ rfl Try.func55 (by kernel_rfl) (c := bodyOf Try.f55) (by kernel_rfl) (by kernel_rfl)
  replace h : cal55 N f = some sem := h
  unfold cal55 at h
  cases h
/-! 28 erasure/deflate.Put -/
noncomputable def cal28 (N : Nat) : FuncId → Option Fsem := fun f => if f = 11 then some (sem11 N) else if f = 12 then some (sem12 N) else if f = 15 then some (sem15 N) else if f = 16 then some (sem16 N) else if f = 38 then some (sem38 N) else if f = 40 then some (sem40 N) else if f = 41 then some (sem41 N) else if f = 49 then some (sem49 N) else if f = 50 then some (sem50 N) else if f = 52 then some (sem52 N) else if f = 53 then some (sem53 N) else if f = 54 then some (sem54 N) else if f = 55 then some (sem55 N) else none
noncomputable def ctx28 (N : Nat) : Ctx := ⟨tab, cal28 N, methF, N, loops28, draws28⟩
noncomputable def sem28 (N : Nat) : Fsem := semF (ctx28 N) Try.f28
theorem fok28 (N : Nat) : FOk Try.prog Fence.wide 28 (sem28 N) := by
  refine semF_ok (G := ctx28 N) ⟨⟨fun _ => trivial, rfl⟩, tyOK, of_decide_eq_true (by kernel_rfl), by rfl, fun f sem h => ?_, methOK⟩ rfl Try.func28 (by kernel_rfl) (c := bodyOf Try.f28) (by kernel_rfl) (by kernel_rfl)
  replace h : cal28 N f = some sem := h
  unfold cal28 at h
  rcases cal_if h with ⟨e1, e2⟩ | h
  · rw [e1, ← e2]; exact fok11 N
  rcases cal_if h with ⟨e1, e2⟩ | h
  · rw [e1, ← e2]; exact fok12 N
  rcases cal_if h with ⟨e1, e2⟩ | h
  · rw [e1, ← e2]; exact fok15 N
  rcases cal_if h with ⟨e1, e2⟩ | h
  · rw [e1, ← e2]; exact fok16 N
  rcases cal_if h with ⟨e1, e2⟩ | h
  · rw [e1, ← e2]; exact fok38 N
  rcases cal_if h with ⟨e1, e2⟩ | h
  · rw [e1, ← e2]; exact fok40 N
  rcases cal_if h with ⟨e1, e2⟩ | h
  · rw [e1, ← e2]; exact fok41 N
  rcases cal_if h with ⟨e1, e2⟩ | h
  · rw [e1, ← e2]; exact fok49 N
  rcases cal_if h with ⟨e1, e2⟩ | h
  · rw [e1, ← e2]; exact fok50 N
  rcases cal_if h with ⟨e1, e2⟩ | h
  · rw [e1, ← e2]; exact fok52 N
  rcases cal_if h with ⟨e1, e2⟩ | h
  · rw [e1, ← e2]; exact fok53 N
  rcases cal_if h with ⟨e1, e2⟩ | h
  · rw [e1, ← e2]; exact fok54 N
  rcases cal_if h with ⟨e1, e2⟩ | h
  · rw [e1, ← e2]; exact fok55 N
  cases h
/-! 56 erasure/erasureref05.Fixed -/
noncomputable def cal56 (N : Nat) : FuncId → Option Fsem := fun f => none
noncomputable def ctx56 (N : Nat) : Ctx := ⟨tab, cal56 N, methF, N, loops56, draws56⟩
noncomputable def sem56 (N : Nat) : Fsem := semF (ctx56 N) Try.f56
theorem fok56 (N : Nat) : FOk Try.prog Fence.wide 56 (sem56 N) := by
  refine semF_ok (G := ctx56 N) ⟨⟨fun _ => trivial, rfl⟩, tyOK, of_decide_eq_true (by kernel_rfl), by rfl, fun f sem h => ?_, methOK⟩ rfl Try.func56 (by kernel_rfl) (c := bodyOf Try.f56) (by kernel_rfl) (by kernel_rfl)
  replace h : cal56 N f = some sem := h
  unfold cal56 at h
  cases h
/-! 57 erasure/erasureref06.Is -/
noncomputable def cal57 (N : Nat) : FuncId → Option Fsem := fun f => none
noncomputable def ctx57 (N : Nat) : Ctx := ⟨tab, cal57 N, methF, N, loops57, draws57⟩
noncomputable def sem57 (N : Nat) : Fsem := semF (ctx57 N) Try.f57
theorem fok57 (N : Nat) : FOk Try.prog Fence.wide 57 (sem57 N) := by
  refine semF_ok (G := ctx57 N) ⟨⟨fun _ => trivial, rfl⟩, tyOK, of_decide_eq_true (by kernel_rfl), by rfl, fun f sem h => ?_, methOK⟩ rfl Try.func57 (by kernel_rfl) (c := bodyOf Try.f57) (by kernel_rfl) (by kernel_rfl)
  replace h : cal57 N f = some sem := h
  unfold cal57 at h
  cases h
/-! 66 erasure/erasureref06.power -/
noncomputable def cal66 (N : Nat) : FuncId → Option Fsem := fun f => none
noncomputable def ctx66 (N : Nat) : Ctx := ⟨tab, cal66 N, methF, N, loops66, draws66⟩
noncomputable def sem66 (N : Nat) : Fsem := semF (ctx66 N) Try.f66
theorem fok66 (N : Nat) : FOk Try.prog Fence.wide 66 (sem66 N) := by
  refine semF_ok (G := ctx66 N) ⟨⟨fun _ => trivial, rfl⟩, tyOK, of_decide_eq_true (by kernel_rfl), by rfl, fun f sem h => ?_, methOK⟩ rfl Try.func66 (by kernel_rfl) (c := bodyOf Try.f66) (by kernel_rfl) (by kernel_rfl)
  replace h : cal66 N f = some sem := h
  unfold cal66 at h
  cases h
/-! 67 erasure/erasureref06.more -/
noncomputable def cal67 (N : Nat) : FuncId → Option Fsem := fun f => none
noncomputable def ctx67 (N : Nat) : Ctx := ⟨tab, cal67 N, methF, N, loops67, draws67⟩
noncomputable def sem67 (N : Nat) : Fsem := semF (ctx67 N) Try.f67
theorem fok67 (N : Nat) : FOk Try.prog Fence.wide 67 (sem67 N) := by
  refine semF_ok (G := ctx67 N) ⟨⟨fun _ => trivial, rfl⟩, tyOK, of_decide_eq_true (by kernel_rfl), by rfl, fun f sem h => ?_, methOK⟩ rfl Try.func67 (by kernel_rfl) (c := bodyOf Try.f67) (by kernel_rfl) (by kernel_rfl)
  replace h : cal67 N f = some sem := h
  unfold cal67 at h
  cases h
/-! 58 erasure/erasureref06.Length -/
noncomputable def cal58 (N : Nat) : FuncId → Option Fsem := fun f => if f = 66 then some (sem66 N) else if f = 67 then some (sem67 N) else none
noncomputable def ctx58 (N : Nat) : Ctx := ⟨tab, cal58 N, methF, N, loops58, draws58⟩
noncomputable def sem58 (N : Nat) : Fsem := semF (ctx58 N) Try.f58
theorem fok58 (N : Nat) : FOk Try.prog Fence.wide 58 (sem58 N) := by
  refine semF_ok (G := ctx58 N) ⟨⟨fun _ => trivial, rfl⟩, tyOK, of_decide_eq_true (by kernel_rfl), by rfl, fun f sem h => ?_, methOK⟩ rfl Try.func58 (by kernel_rfl) (c := bodyOf Try.f58) (by kernel_rfl) (by kernel_rfl)
  replace h : cal58 N f = some sem := h
  unfold cal58 at h
  rcases cal_if h with ⟨e1, e2⟩ | h
  · rw [e1, ← e2]; exact fok66 N
  rcases cal_if h with ⟨e1, e2⟩ | h
  · rw [e1, ← e2]; exact fok67 N
  cases h
/-! 68 erasure/erasureref04.Put -/
noncomputable def cal68 (N : Nat) : FuncId → Option Fsem := fun f => none
noncomputable def ctx68 (N : Nat) : Ctx := ⟨tab, cal68 N, methF, N, loops68, draws68⟩
noncomputable def sem68 (N : Nat) : Fsem := semF (ctx68 N) Try.f68
theorem fok68 (N : Nat) : FOk Try.prog Fence.wide 68 (sem68 N) := by
  refine semF_ok (G := ctx68 N) ⟨⟨fun _ => trivial, rfl⟩, tyOK, of_decide_eq_true (by kernel_rfl), by rfl, fun f sem h => ?_, methOK⟩ rfl Try.func68 (by kernel_rfl) (c := bodyOf Try.f68) (by kernel_rfl) (by kernel_rfl)
  replace h : cal68 N f = some sem := h
  unfold cal68 at h
  cases h
/-! 59 erasure/erasureref07.put -/
noncomputable def cal59 (N : Nat) : FuncId → Option Fsem := fun f => if f = 68 then some (sem68 N) else none
noncomputable def ctx59 (N : Nat) : Ctx := ⟨tab, cal59 N, methF, N, loops59, draws59⟩
noncomputable def sem59 (N : Nat) : Fsem := semF (ctx59 N) Try.f59
theorem fok59 (N : Nat) : FOk Try.prog Fence.wide 59 (sem59 N) := by
  refine semF_ok (G := ctx59 N) ⟨⟨fun _ => trivial, rfl⟩, tyOK, of_decide_eq_true (by kernel_rfl), by rfl, fun f sem h => ?_, methOK⟩ rfl Try.func59 (by kernel_rfl) (c := bodyOf Try.f59) (by kernel_rfl) (by kernel_rfl)
  replace h : cal59 N f = some sem := h
  unfold cal59 at h
  rcases cal_if h with ⟨e1, e2⟩ | h
  · rw [e1, ← e2]; exact fok68 N
  cases h
/-! 69 erasure/erasureref06.behind -/
noncomputable def cal69 (N : Nat) : FuncId → Option Fsem := fun f => none
noncomputable def ctx69 (N : Nat) : Ctx := ⟨tab, cal69 N, methF, N, loops69, draws69⟩
noncomputable def sem69 (N : Nat) : Fsem := semF (ctx69 N) Try.f69
theorem fok69 (N : Nat) : FOk Try.prog Fence.wide 69 (sem69 N) := by
  refine semF_ok (G := ctx69 N) ⟨⟨fun _ => trivial, rfl⟩, tyOK, of_decide_eq_true (by kernel_rfl), by rfl, fun f sem h => ?_, methOK⟩ rfl Try.func69 (by kernel_rfl) (c := bodyOf Try.f69) (by kernel_rfl) (by kernel_rfl)
  replace h : cal69 N f = some sem := h
  unfold cal69 at h
  cases h
/-! 60 erasure/erasureref06.Back -/
noncomputable def cal60 (N : Nat) : FuncId → Option Fsem := fun f => if f = 66 then some (sem66 N) else if f = 69 then some (sem69 N) else none
noncomputable def ctx60 (N : Nat) : Ctx := ⟨tab, cal60 N, methF, N, loops60, draws60⟩
noncomputable def sem60 (N : Nat) : Fsem := semF (ctx60 N) Try.f60
theorem fok60 (N : Nat) : FOk Try.prog Fence.wide 60 (sem60 N) := by
  refine semF_ok (G := ctx60 N) ⟨⟨fun _ => trivial, rfl⟩, tyOK, of_decide_eq_true (by kernel_rfl), by rfl, fun f sem h => ?_, methOK⟩ rfl Try.func60 (by kernel_rfl) (c := bodyOf Try.f60) (by kernel_rfl) (by kernel_rfl)
  replace h : cal60 N f = some sem := h
  unfold cal60 at h
  rcases cal_if h with ⟨e1, e2⟩ | h
  · rw [e1, ← e2]; exact fok66 N
  rcases cal_if h with ⟨e1, e2⟩ | h
  · rw [e1, ← e2]; exact fok69 N
  cases h
/-! 29 erasure/erasureref07.Put -/
noncomputable def cal29 (N : Nat) : FuncId → Option Fsem := fun f => if f = 14 then some (sem14 N) else if f = 17 then some (sem17 N) else if f = 56 then some (sem56 N) else if f = 57 then some (sem57 N) else if f = 58 then some (sem58 N) else if f = 59 then some (sem59 N) else if f = 60 then some (sem60 N) else none
noncomputable def ctx29 (N : Nat) : Ctx := ⟨tab, cal29 N, methF, N, loops29, draws29⟩
noncomputable def sem29 (N : Nat) : Fsem := semF (ctx29 N) Try.f29
theorem fok29 (N : Nat) : FOk Try.prog Fence.wide 29 (sem29 N) := by
  refine semF_ok (G := ctx29 N) ⟨⟨fun _ => trivial, rfl⟩, tyOK, of_decide_eq_true (by kernel_rfl), by rfl, fun f sem h => ?_, methOK⟩ rfl Try.func29 (by kernel_rfl) (c := bodyOf Try.f29) (by kernel_rfl) (by kernel_rfl)
  replace h : cal29 N f = some sem := h
  unfold cal29 at h
  rcases cal_if h with ⟨e1, e2⟩ | h
  · rw [e1, ← e2]; exact fok14 N
  rcases cal_if h with ⟨e1, e2⟩ | h
  · rw [e1, ← e2]; exact fok17 N
  rcases cal_if h with ⟨e1, e2⟩ | h
  · rw [e1, ← e2]; exact fok56 N
  rcases cal_if h with ⟨e1, e2⟩ | h
  · rw [e1, ← e2]; exact fok57 N
  rcases cal_if h with ⟨e1, e2⟩ | h
  · rw [e1, ← e2]; exact fok58 N
  rcases cal_if h with ⟨e1, e2⟩ | h
  · rw [e1, ← e2]; exact fok59 N
  rcases cal_if h with ⟨e1, e2⟩ | h
  · rw [e1, ← e2]; exact fok60 N
  cases h
/-! 30 erasure/deflate.Deflate -/
noncomputable def cal30 (N : Nat) : FuncId → Option Fsem := fun f => if f = 26 then some (sem26 N) else if f = 28 then some (sem28 N) else none
noncomputable def ctx30 (N : Nat) : Ctx := ⟨tab, cal30 N, methF, N, loops30, draws30⟩
noncomputable def sem30 (N : Nat) : Fsem := semF (ctx30 N) Try.f30
theorem fok30 (N : Nat) : FOk Try.prog Fence.wide 30 (sem30 N) := by
  refine semF_ok (G := ctx30 N) ⟨⟨fun _ => trivial, rfl⟩, tyOK, of_decide_eq_true (by kernel_rfl), by rfl, fun f sem h => ?_, methOK⟩ rfl Try.func30 (by kernel_rfl) (c := bodyOf Try.f30) (by kernel_rfl) (by kernel_rfl)
  replace h : cal30 N f = some sem := h
  unfold cal30 at h
  rcases cal_if h with ⟨e1, e2⟩ | h
  · rw [e1, ← e2]; exact fok26 N
  rcases cal_if h with ⟨e1, e2⟩ | h
  · rw [e1, ← e2]; exact fok28 N
  cases h
/-! 31 erasure/erasureref07.Deflate -/
noncomputable def cal31 (N : Nat) : FuncId → Option Fsem := fun f => if f = 27 then some (sem27 N) else if f = 29 then some (sem29 N) else none
noncomputable def ctx31 (N : Nat) : Ctx := ⟨tab, cal31 N, methF, N, loops31, draws31⟩
noncomputable def sem31 (N : Nat) : Fsem := semF (ctx31 N) Try.f31
theorem fok31 (N : Nat) : FOk Try.prog Fence.wide 31 (sem31 N) := by
  refine semF_ok (G := ctx31 N) ⟨⟨fun _ => trivial, rfl⟩, tyOK, of_decide_eq_true (by kernel_rfl), by rfl, fun f sem h => ?_, methOK⟩ rfl Try.func31 (by kernel_rfl) (c := bodyOf Try.f31) (by kernel_rfl) (by kernel_rfl)
  replace h : cal31 N f = some sem := h
  unfold cal31 at h
  rcases cal_if h with ⟨e1, e2⟩ | h
  · rw [e1, ← e2]; exact fok27 N
  rcases cal_if h with ⟨e1, e2⟩ | h
  · rw [e1, ← e2]; exact fok29 N
  cases h
/-! 33 erasure/erasureref06.Same -/
noncomputable def cal33 (N : Nat) : FuncId → Option Fsem := fun f => none
noncomputable def ctx33 (N : Nat) : Ctx := ⟨tab, cal33 N, methF, N, loops33, draws33⟩
noncomputable def sem33 (N : Nat) : Fsem := semF (ctx33 N) Try.f33
theorem fok33 (N : Nat) : FOk Try.prog Fence.wide 33 (sem33 N) := by
  refine semF_ok (G := ctx33 N) ⟨⟨fun _ => trivial, rfl⟩, tyOK, of_decide_eq_true (by kernel_rfl), by rfl, fun f sem h => ?_, methOK⟩ rfl Try.func33 (by kernel_rfl) (c := bodyOf Try.f33) (by kernel_rfl) (by kernel_rfl)
  replace h : cal33 N f = some sem := h
  unfold cal33 at h
  cases h
/-! 32 erasure/erasurelaw07.awake -/
noncomputable def cal32 (N : Nat) : FuncId → Option Fsem := fun f => if f = 26 then some (sem26 N) else if f = 30 then some (sem30 N) else if f = 33 then some (sem33 N) else none
noncomputable def ctx32 (N : Nat) : Ctx := ⟨tab, cal32 N, methF, N, loops32, draws32⟩
noncomputable def sem32 (N : Nat) : Fsem := semF (ctx32 N) Try.f32
theorem fok32 (N : Nat) : FOk Try.prog Fence.wide 32 (sem32 N) := by
  refine semF_ok (G := ctx32 N) ⟨⟨fun _ => trivial, rfl⟩, tyOK, of_decide_eq_true (by kernel_rfl), by rfl, fun f sem h => ?_, methOK⟩ rfl Try.func32 (by kernel_rfl) (c := bodyOf Try.f32) (by kernel_rfl) (by kernel_rfl)
  replace h : cal32 N f = some sem := h
  unfold cal32 at h
  rcases cal_if h with ⟨e1, e2⟩ | h
  · rw [e1, ← e2]; exact fok26 N
  rcases cal_if h with ⟨e1, e2⟩ | h
  · rw [e1, ← e2]; exact fok30 N
  rcases cal_if h with ⟨e1, e2⟩ | h
  · rw [e1, ← e2]; exact fok33 N
  cases h
/-! 7 erasure/erasurelaw07.DeflateDoes -/
noncomputable def cal7 (N : Nat) : FuncId → Option Fsem := fun f => if f = 25 then some (sem25 N) else if f = 26 then some (sem26 N) else if f = 27 then some (sem27 N) else if f = 28 then some (sem28 N) else if f = 29 then some (sem29 N) else if f = 30 then some (sem30 N) else if f = 31 then some (sem31 N) else if f = 32 then some (sem32 N) else if f = 33 then some (sem33 N) else none
noncomputable def ctx7 (N : Nat) : Ctx := ⟨tab, cal7 N, methF, N, loops7, draws7⟩
noncomputable def sem7 (N : Nat) : Fsem := semF (ctx7 N) Try.f7
theorem fok7 (N : Nat) : FOk Try.prog Fence.wide 7 (sem7 N) := by
  refine semF_ok (G := ctx7 N) ⟨⟨fun _ => trivial, rfl⟩, tyOK, of_decide_eq_true (by kernel_rfl), by rfl, fun f sem h => ?_, methOK⟩ rfl Try.func7 (by kernel_rfl) (c := bodyOf Try.f7) (by kernel_rfl) (by kernel_rfl)
  replace h : cal7 N f = some sem := h
  unfold cal7 at h
  rcases cal_if h with ⟨e1, e2⟩ | h
  · rw [e1, ← e2]; exact fok25 N
  rcases cal_if h with ⟨e1, e2⟩ | h
  · rw [e1, ← e2]; exact fok26 N
  rcases cal_if h with ⟨e1, e2⟩ | h
  · rw [e1, ← e2]; exact fok27 N
  rcases cal_if h with ⟨e1, e2⟩ | h
  · rw [e1, ← e2]; exact fok28 N
  rcases cal_if h with ⟨e1, e2⟩ | h
  · rw [e1, ← e2]; exact fok29 N
  rcases cal_if h with ⟨e1, e2⟩ | h
  · rw [e1, ← e2]; exact fok30 N
  rcases cal_if h with ⟨e1, e2⟩ | h
  · rw [e1, ← e2]; exact fok31 N
  rcases cal_if h with ⟨e1, e2⟩ | h
  · rw [e1, ← e2]; exact fok32 N
  rcases cal_if h with ⟨e1, e2⟩ | h
  · rw [e1, ← e2]; exact fok33 N
  cases h
/-! 8 erasure/erasurelaw07.DeflateLong -/
noncomputable def cal8 (N : Nat) : FuncId → Option Fsem := fun f => if f = 26 then some (sem26 N) else if f = 32 then some (sem32 N) else none
noncomputable def ctx8 (N : Nat) : Ctx := ⟨tab, cal8 N, methF, N, loops8, draws8⟩
noncomputable def sem8 (N : Nat) : Fsem := semF (ctx8 N) Try.f8
theorem fok8 (N : Nat) : FOk Try.prog Fence.wide 8 (sem8 N) := by
  refine semF_ok (G := ctx8 N) ⟨⟨fun _ => trivial, rfl⟩, tyOK, of_decide_eq_true (by kernel_rfl), by rfl, fun f sem h => ?_, methOK⟩ rfl Try.func8 (by kernel_rfl) (c := bodyOf Try.f8) (by kernel_rfl) (by kernel_rfl)
  replace h : cal8 N f = some sem := h
  unfold cal8 at h
  rcases cal_if h with ⟨e1, e2⟩ | h
  · rw [e1, ← e2]; exact fok26 N
  rcases cal_if h with ⟨e1, e2⟩ | h
  · rw [e1, ← e2]; exact fok32 N
  cases h
/-! 9 erasure/erasurelaw07.DeflateRun -/
noncomputable def cal9 (N : Nat) : FuncId → Option Fsem := fun f => if f = 26 then some (sem26 N) else if f = 32 then some (sem32 N) else none
noncomputable def ctx9 (N : Nat) : Ctx := ⟨tab, cal9 N, methF, N, loops9, draws9⟩
noncomputable def sem9 (N : Nat) : Fsem := semF (ctx9 N) Try.f9
theorem fok9 (N : Nat) : FOk Try.prog Fence.wide 9 (sem9 N) := by
  refine semF_ok (G := ctx9 N) ⟨⟨fun _ => trivial, rfl⟩, tyOK, of_decide_eq_true (by kernel_rfl), by rfl, fun f sem h => ?_, methOK⟩ rfl Try.func9 (by kernel_rfl) (c := bodyOf Try.f9) (by kernel_rfl) (by kernel_rfl)
  replace h : cal9 N f = some sem := h
  unfold cal9 at h
  rcases cal_if h with ⟨e1, e2⟩ | h
  · rw [e1, ← e2]; exact fok26 N
  rcases cal_if h with ⟨e1, e2⟩ | h
  · rw [e1, ← e2]; exact fok32 N
  cases h
/-! 34 erasure/zlib.Sum -/
noncomputable def cal34 (N : Nat) : FuncId → Option Fsem := fun f => none
noncomputable def ctx34 (N : Nat) : Ctx := ⟨tab, cal34 N, methF, N, loops34, draws34⟩
noncomputable def sem34 (N : Nat) : Fsem := semF (ctx34 N) Try.f34
theorem fok34 (N : Nat) : FOk Try.prog Fence.wide 34 (sem34 N) := by
  refine semF_ok (G := ctx34 N) ⟨⟨fun _ => trivial, rfl⟩, tyOK, of_decide_eq_true (by kernel_rfl), by rfl, fun f sem h => ?_, methOK⟩ rfl Try.func34 (by kernel_rfl) (c := bodyOf Try.f34) (by kernel_rfl) (by kernel_rfl)
  replace h : cal34 N f = some sem := h
  unfold cal34 at h
  cases h
/-! 61 erasure/zlib.Pack -/
noncomputable def cal61 (N : Nat) : FuncId → Option Fsem := fun f => if f = 30 then some (sem30 N) else if f = 34 then some (sem34 N) else none
noncomputable def ctx61 (N : Nat) : Ctx := ⟨tab, cal61 N, methF, N, loops61, draws61⟩
noncomputable def sem61 (N : Nat) : Fsem := semF (ctx61 N) Try.f61
theorem fok61 (N : Nat) : FOk Try.prog Fence.wide 61 (sem61 N) := by
  refine semF_ok (G := ctx61 N) ⟨⟨fun _ => trivial, rfl⟩, tyOK, of_decide_eq_true (by kernel_rfl), by rfl, fun f sem h => ?_, methOK⟩ rfl Try.func61 (by kernel_rfl) (c := bodyOf Try.f61) (by kernel_rfl) (by kernel_rfl)
  replace h : cal61 N f = some sem := h
  unfold cal61 at h
  rcases cal_if h with ⟨e1, e2⟩ | h
  · rw [e1, ← e2]; exact fok30 N
  rcases cal_if h with ⟨e1, e2⟩ | h
  · rw [e1, ← e2]; exact fok34 N
  cases h
/-! 35 erasure/erasurelaw08.awake -/
noncomputable def cal35 (N : Nat) : FuncId → Option Fsem := fun f => if f = 34 then some (sem34 N) else if f = 61 then some (sem61 N) else none
noncomputable def ctx35 (N : Nat) : Ctx := ⟨tab, cal35 N, methF, N, loops35, draws35⟩
noncomputable def sem35 (N : Nat) : Fsem := semF (ctx35 N) Try.f35
theorem fok35 (N : Nat) : FOk Try.prog Fence.wide 35 (sem35 N) := by
  refine semF_ok (G := ctx35 N) ⟨⟨fun _ => trivial, rfl⟩, tyOK, of_decide_eq_true (by kernel_rfl), by rfl, fun f sem h => ?_, methOK⟩ rfl Try.func35 (by kernel_rfl) (c := bodyOf Try.f35) (by kernel_rfl) (by kernel_rfl)
  replace h : cal35 N f = some sem := h
  unfold cal35 at h
  rcases cal_if h with ⟨e1, e2⟩ | h
  · rw [e1, ← e2]; exact fok34 N
  rcases cal_if h with ⟨e1, e2⟩ | h
  · rw [e1, ← e2]; exact fok61 N
  cases h
/-! 10 erasure/erasurelaw08.ZlibSums -/
noncomputable def cal10 (N : Nat) : FuncId → Option Fsem := fun f => if f = 34 then some (sem34 N) else if f = 35 then some (sem35 N) else none
noncomputable def ctx10 (N : Nat) : Ctx := ⟨tab, cal10 N, methF, N, loops10, draws10⟩
noncomputable def sem10 (N : Nat) : Fsem := semF (ctx10 N) Try.f10
theorem fok10 (N : Nat) : FOk Try.prog Fence.wide 10 (sem10 N) := by
  refine semF_ok (G := ctx10 N) ⟨⟨fun _ => trivial, rfl⟩, tyOK, of_decide_eq_true (by kernel_rfl), by rfl, fun f sem h => ?_, methOK⟩ rfl Try.func10 (by kernel_rfl) (c := bodyOf Try.f10) (by kernel_rfl) (by kernel_rfl)
  replace h : cal10 N f = some sem := h
  unfold cal10 at h
  rcases cal_if h with ⟨e1, e2⟩ | h
  · rw [e1, ← e2]; exact fok34 N
  rcases cal_if h with ⟨e1, e2⟩ | h
  · rw [e1, ← e2]; exact fok35 N
  cases h
end Go.Proofs.Ytnkjpkfijafkgaa
