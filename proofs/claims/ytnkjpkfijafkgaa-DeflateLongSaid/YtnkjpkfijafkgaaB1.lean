/-
What an operation hands on does not hang on what takes it.
-/
import Derived.Test.YtnkjpkfijafkgaaA19
set_option linter.unusedVariables false
set_option linter.unusedSimpArgs false
namespace Go.Abs
section
variable {β : Type} {r : β} {T : TT}

/-- it hands on that value, whatever takes it -/
def Det (f : ∀ {γ : Type}, (AV → Option γ) → Option γ) (q : AV → Option β) (r : β) : Prop := ∃ v, (∀ {γ : Type} (q' : AV → Option γ), f q' = q' v) ∧ q v = some r

theorem onSome_det {x : Option AV} {q : AV → Option β} (h : onSome x q = some r) : Det (onSome x) q r := by
  obtain ⟨v, rfl, hq⟩ := onSome_some h
  exact ⟨v, fun q' => rfl, hq⟩
theorem intOp_det {op : BinOp} {k : IntKind} {x y : Int} {q : AV → Option β} (h : intOp op k x y q = some r) : Det (intOp op k x y) q r := by
  cases op <;> simp only [intOp] at h <;> first
    | (cases h; done)
    | exact ⟨_, fun q' => rfl, h⟩
    | (split at h
       · cases h
       · rename_i hy; exact ⟨_, fun q' => by simp only [intOp]; rw [if_neg hy], h⟩)
theorem shiftOp_det {op : BinOp} {k : IntKind} {x y : Int} {q : AV → Option β} (h : shiftOp op k x y q = some r) : Det (shiftOp op k x y) q r := by
  unfold shiftOp at h
  split at h
  · cases h
  · rename_i hy
    split at h
    · exact ⟨_, fun q' => by simp only [shiftOp]; rw [if_neg hy], h⟩
    · exact ⟨_, fun q' => by simp only [shiftOp]; rw [if_neg hy], h⟩
    · cases h
theorem strOp_det {op : BinOp} {x y : ByteArray} {q : AV → Option β} (h : strOp op x y q = some r) : Det (strOp op x y) q r := by
  cases op <;> simp only [strOp] at h <;> first
    | (cases h; done)
    | exact ⟨_, fun q' => rfl, h⟩
    | (split at h
       · rename_i hy; exact ⟨_, fun q' => by simp only [strOp]; rw [if_pos hy], h⟩
       · cases h)
theorem segAt_det {ss : List Seg} {b i : Nat} {q : AV → Option β} (h : segAt ss b i q = some r) : Det (segAt ss b i) q r := by
  unfold segAt at h
  split at h
  · rename_i hd
    split at h
    · rename_i hi; exact ⟨_, fun q' => by unfold segAt; rw [hd]; exact if_pos hi, h⟩
    · cases h
  · rename_i hd
    obtain ⟨h1, h⟩ := bif_some h
    exact ⟨_, fun q' => by unfold segAt; rw [hd]; simp only [h1, cond_true], h⟩
  · cases h
theorem binV_det {op : BinOp} {t : TypeId} {x y : AV} {q : AV → Option β} (h : binV T op t x y q = some r) : Det (binV T op t x y) q r := by
  unfold binV at h
  split at h
  · split at h
    · obtain ⟨v, h1, h2⟩ := shiftOp_det h; exact ⟨v, fun q' => by simp only [binV]; exact h1 q', h2⟩
    · obtain ⟨v, h1, h2⟩ := shiftOp_det h; exact ⟨v, fun q' => by simp only [binV]; exact h1 q', h2⟩
    · rename_i k a k' b' op n1 n2
      obtain ⟨hk, h⟩ := bif_some h
      obtain ⟨v, h1, h2⟩ := intOp_det h
      refine ⟨v, fun q' => ?_, h2⟩
      have := h1 q'
      cases op <;> first
        | exact absurd rfl n1
        | exact absurd rfl n2
        | (simp only [binV, hk, cond_true]; exact this)
  · obtain ⟨v, h1, h2⟩ := strOp_det h
    exact ⟨v, fun q' => by simp only [binV]; exact h1 q', h2⟩
  · rename_i x y n1 n2
    split at h
    · split at h
      · rename_i bb hb
        refine ⟨_, fun q' => ?_, h⟩
        unfold binV
        split
        · exact absurd rfl (n1 _ _ _ _ rfl)
        · exact absurd rfl (n2 _ _ rfl)
        · simp only [hb]
      · cases h
    · split at h
      · rename_i bb hb
        refine ⟨_, fun q' => ?_, h⟩
        unfold binV
        split
        · exact absurd rfl (n1 _ _ _ _ rfl)
        · exact absurd rfl (n2 _ _ rfl)
        · simp only [hb]
      · cases h
    · cases h
theorem bounds_det {len : Nat} {lo hi mx : Option AV} {q : Nat → Nat → Option β} (h : bounds len lo hi mx q = some r) : ∃ l u, (∀ {γ : Type} (q' : Nat → Nat → Option γ), bounds len lo hi mx q' = q' l u) ∧ q l u = some r := by
  unfold bounds at h
  split at h
  · exact ⟨_, _, fun q' => rfl, h⟩
  · split at h
    · rename_i hc; exact ⟨_, _, fun q' => by simp only [bounds]; rw [if_pos hc], h⟩
    · cases h
  · split at h
    · rename_i hc; exact ⟨_, _, fun q' => by simp only [bounds]; rw [if_pos hc], h⟩
    · cases h
  · split at h
    · rename_i hc; exact ⟨_, _, fun q' => by simp only [bounds]; rw [if_pos hc], h⟩
    · cases h
  · split at h
    · rename_i hc; exact ⟨_, _, fun q' => by simp only [bounds]; rw [if_pos hc], h⟩
    · cases h
  · cases h
theorem sliceV_det {t : TypeId} {x : AV} {lo hi mx : Option AV} {q : AV → Option β} (h : sliceV T t x lo hi mx q = some r) : Det (sliceV T t x lo hi mx) q r := by
  unfold sliceV at h
  split at h
  · rename_i hk
    obtain ⟨hm, h⟩ := bif_none h
    obtain ⟨l, u, h1, h2⟩ := bounds_det h
    exact ⟨_, fun q' => by simp only [sliceV, hk, hm, cond_false]; exact h1 _, h2⟩
  · rename_i hk
    obtain ⟨hs, h⟩ := bif_some h
    cases hw : (_ && isAll lo hi mx) with
    | true =>
      rw [hw] at h
      exact ⟨_, fun q' => by simp only [sliceV, hk, hs, hw, cond_true], h⟩
    | false =>
      rw [hw] at h
      simp only [cond_false] at h
      obtain ⟨l, u, h1, h2⟩ := bounds_det h
      exact ⟨_, fun q' => by simp only [sliceV, hk, hs, hw, cond_true, cond_false]; exact h1 _, h2⟩
  · rename_i hk
    obtain ⟨hm, h⟩ := bif_none h
    obtain ⟨l, u, h1, h2⟩ := bounds_det h
    exact ⟨_, fun q' => by simp only [sliceV, hk, hm, cond_false]; exact h1 _, h2⟩
  · cases h
theorem indexAddrV_det {t : TypeId} {x i : AV} {q : AV → Option β} (h : indexAddrV T t x i q = some r) : Det (indexAddrV T t x i) q r := by
  unfold indexAddrV at h
  split at h
  · rename_i hk
    obtain ⟨hs, h⟩ := bif_some h
    split at h
    · rename_i hc; exact ⟨_, fun q' => by simp only [indexAddrV, hk, hs, cond_true]; rw [if_pos hc], h⟩
    · cases h
  · rename_i hk
    obtain ⟨hs, h⟩ := bif_none h
    split at h
    · rename_i hc
      cases hr : runT T t with
      | true =>
        rw [hr] at h
        obtain ⟨h1, h⟩ := bif_some h
        exact ⟨_, fun q' => by simp only [indexAddrV, hk, hs, cond_false, hr, cond_true, h1]; rw [if_pos hc], h⟩
      | false =>
        rw [hr] at h
        exact ⟨_, fun q' => by simp only [indexAddrV, hk, hs, cond_false, hr]; rw [if_pos hc], h⟩
    · cases h
  · cases h
theorem indexV_det {t : TypeId} {x i : AV} {q : AV → Option β} (h : indexV T t x i q = some r) : Det (indexV T t x i) q r := by
  unfold indexV at h
  split at h
  · rename_i hk
    split at h
    · rename_i hc; exact ⟨_, fun q' => by simp only [indexV, hk]; rw [if_pos hc], h⟩
    · cases h
  · rename_i hk
    obtain ⟨hs, h⟩ := bif_none h
    split at h
    · rename_i hc
      cases hr : runT T t with
      | true =>
        rw [hr] at h
        obtain ⟨h1, h⟩ := bif_some h
        obtain ⟨v, h2, h3⟩ := segAt_det h
        exact ⟨v, fun q' => by simp only [indexV, hk, hs, cond_false, hr, cond_true, h1]; rw [if_pos hc]; exact h2 q', h3⟩
      | false =>
        rw [hr] at h
        simp only [cond_false] at h
        split at h
        · rename_i v hv
          exact ⟨v, fun q' => by simp only [indexV, hk, hs, cond_false, hr, hv]; rw [if_pos hc], h⟩
        · cases h
    · cases h
  · cases h
theorem evPure_det {t : Tm} {op : Op} {q : AV → Option β} (h : evPure T t op q = some r) : Det (evPure T t op) q r := by
  cases op <;> simp only [evPure] at h <;> try (cases h; done)
  case move x => exact ⟨_, fun q' => rfl, h⟩
  case assign x => exact ⟨_, fun q' => rfl, h⟩
  case pick c x y => exact onSome_det h
  case nilCheck x =>
    split at h
    · rename_i hv; exact ⟨_, fun q' => by simp only [evPure, hv], h⟩
    · cases h
  case binOp => exact binV_det h
  case unOp => exact onSome_det h
  case convert src dst x =>
    split at h
    · rename_i h1 h2 h3; exact ⟨_, fun q' => by simp only [evPure, h1, h2, h3], h⟩
    · cases h
  case makeInterface tx x =>
    split at h
    · cases h
    · rename_i i hne hi
      refine ⟨_, fun q' => ?_, h⟩
      simp only [evPure]
      split
      · rename_i heq; rw [hi] at heq; cases heq; exact absurd rfl (hne _ _ _ _ _)
      · rfl
      · rename_i heq; rw [hi] at heq; cases heq
    · cases h
  case makeFunc f xs cs =>
    cases f <;> simp only [evPure] at h <;> try (cases h; done)
    exact ⟨_, fun q' => rfl, h⟩
  case slice => exact sliceV_det h
  case fieldAddr => exact onSome_det h
  case field => exact onSome_det h
  case indexAddr => exact indexAddrV_det h
  case index => exact indexV_det h
  case extract x i =>
    split at h
    · rename_i vs hv
      obtain ⟨v, h1, h2⟩ := onSome_det h
      exact ⟨v, fun q' => by simp only [evPure, hv]; exact h1 q', h2⟩
    · cases h
  case call => exact onSome_det h
end
end Go.Abs
