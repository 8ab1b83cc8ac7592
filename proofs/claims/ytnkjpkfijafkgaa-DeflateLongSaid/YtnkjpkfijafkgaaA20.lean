/-
Code, loops: what the interpreter says of a body, 'Code.wpIn' has.
-/
import Derived.Test.YtnkjpkfijafkgaaB8
set_option linter.unusedVariables false
set_option linter.unusedSimpArgs false
namespace Go.Abs
section
variable {P : Program} {F : Fence} {G : Ctx} {B : Base} {β : Type} {b : β}
/-! ### code -/
def exOk : XT → Exit → Prop
  | .normal, .normal => True
  | .exit i, .exit j => i = j
  | .ret, .ret => True
  | _, _ => False
/-- what a body comes to -/
def Post (B : Base) (k : XT → St → Option β) (b : β) : Exit → Act → World → Prop := fun e a w => ∃ x s, exOk x e ∧ k x s = some b ∧ Rel B s a w

theorem least_of {p : Nat → Prop} : (∃ n, p n) → ∃ n, p n ∧ ∀ m, p m → n ≤ m := by
  rintro ⟨n, hn⟩
  induction n using Nat.strongRecOn with
  | _ n ih =>
    by_cases h : ∃ m, m < n ∧ p m
    · obtain ⟨m, h1, h2⟩ := h; exact ih m h1 h2
    · exact ⟨n, hn, fun m hm => by
        rcases Nat.lt_or_ge m n with g | g
        · exact absurd ⟨m, g, hm⟩ h
        · exact g⟩
open Classical in
/-- a loop that counts down -/
theorem wpIn_loop_down {n : Nat} {c : Code} {Q : Exit → Act → World → Prop} {a : Act} {w : World} (J : Nat → Act → World → Prop) {k : Nat} (h0 : J k a w)
    (round : ∀ k a w, J k a w → c.wpIn F n P (Exit.then (fun a' w' => ∃ k', k' < k ∧ J k' a' w') Q) a w) : (Code.loop c).wpIn F n P Q a w := by
  let μ : Act → World → Nat := fun a w => if h : ∃ k, J k a w then Classical.choose (least_of h) else 0
  refine wpIn_loop (fun a w => ∃ k, J k a w) μ ⟨k, h0⟩ fun a w hJ => ?_
  have hm := Classical.choose_spec (least_of hJ)
  have e : μ a w = Classical.choose (least_of hJ) := dif_pos hJ
  refine wpIn_mono (round _ a w hm.1) fun e' a' w' hq => ?_
  cases e' <;> try exact hq
  obtain ⟨k', hk, hJ'⟩ := hq
  have hex : ∃ k, J k a' w' := ⟨k', hJ'⟩
  refine ⟨hex, ?_⟩
  have hm' := Classical.choose_spec (least_of hex)
  have e2 : μ a' w' = Classical.choose (least_of hex) := dif_pos hex
  have := hm'.2 k' hJ'
  omega

theorem evRegion {id : Nat} {ops : Array Oper} (hG : Known P F G) {s : St} {k : XT → St → Option β} (he : evList G ops.toList ops.toList s (k .normal) = some b) (hf : fitsO B.nt ops.toList = true) {a : Act} {w : World} (hr : Rel B s a w) :
    (Code.region id ops false).wpIn F 0 P (Post B k b) a w :=
  wpIn_region_list (evList_ok hG rfl he hf (fun s' a' w' hq hr' => ⟨.normal, s', trivial, hq, hr'⟩) hr)

theorem onOut_inv {x : Out} {q : XT → St → Option β} (he : onOut x q = some b) : ∃ e s, x = some (e, s) ∧ q e s = some b := by
  cases x with
  | none => rw [onOut_none] at he; cases he
  | some p => obtain ⟨e, s⟩ := p; rw [onOut_some] at he; exact ⟨e, s, rfl, he⟩

theorem ev_ok (hG : Known P F G) : ∀ (c : Code) {β : Type} {b : β} {s : St} {k : XT → St → Option β}, ev G B.m c s k = some b → okC G.T G.D B.nt c = true → ∀ {a : Act} {w : World}, Rel B s a w → c.wpIn F 0 P (Post B k b) a w := by
  intro c
  induction c with
  | skip => intro β b s k he hf a w hr; exact wpIn_skip ⟨.normal, s, trivial, he, hr⟩
  | region id ops draw =>
    intro β b s k he hf a w hr
    unfold ev at he
    simp only [okC, Bool.and_eq_true] at hf
    cases draw with
    | false => exact evRegion hG he hf.1 hr
    | true =>
      simp only [cond_true] at he
      have hf2 := hf.2
      simp only [Bool.not_true, Bool.false_or] at hf2
      split at he
      · rename_i d hd
        rw [hd] at hf2
        refine region_draw_ok hG (drawS_of hf2) (fitsO_at hf.1) rfl he (fun rs s' a' w' hq => ?_) hr
        obtain ⟨g1, g2⟩ := runEnts_inv hq
        exact ⟨g2, fun hr' => ⟨.normal, s', trivial, g1, hr'⟩⟩
      · cases he
  | seq x y ihx ihy =>
    intro β b s k he hf a w hr
    unfold ev at he
    simp only [okC, Bool.and_eq_true] at hf
    refine wpIn_seq (wpIn_mono (ihx he hf.1 hr) fun e a' w' ⟨xt, s', h1, h2, h3⟩ => ?_)
    cases e with
    | normal =>
      cases xt <;> simp only [exOk] at h1
      exact ihy h2 hf.2 h3
    | exit i =>
      cases xt <;> simp only [exOk] at h1
      subst h1
      exact ⟨.exit _, s', rfl, h2, h3⟩
    | ret =>
      cases xt <;> simp only [exOk] at h1
      exact ⟨.ret, s', trivial, h2, h3⟩
    | goto l => cases xt <;> simp only [exOk] at h1
    | panic l => cases xt <;> simp only [exOk] at h1
    | outgrown => cases xt <;> simp only [exOk] at h1
  | cond c x y ihx ihy =>
    intro β b s k he hf a w hr
    unfold ev at he
    simp only [okC, Bool.and_eq_true] at hf
    obtain ⟨ι, hri⟩ := hr
    have hv := opv_ok (a := a) (xs := [c]) (t := s.t) (ι := ι) (fun k _ => hri.t k) (x := c) (by simp)
    unfold condK at he
    split at he
    · rename_i t ht
      rw [ht] at hv
      rw [VR] at hv
      cases t with
      | true => exact wpIn_cond_true hv (ihx he hf.1 ⟨ι, hri⟩)
      | false => exact wpIn_cond_false hv (ihy he hf.2 ⟨ι, hri⟩)
    · cases he
  | block id c ih =>
    intro β b s k he hf a w hr
    unfold ev at he
    refine wpIn_block (wpIn_mono (ih he hf hr) fun e a' w' ⟨xt, s', h1, h2, h3⟩ => ?_)
    cases e with
    | normal =>
      cases xt <;> simp only [exOk] at h1
      exact ⟨.normal, s', trivial, h2, h3⟩
    | exit i =>
      cases xt with
      | normal => simp only [exOk] at h1
      | ret => simp only [exOk] at h1
      | exit j =>
        simp only [exOk] at h1
        subst h1
        simp only [Exit.inBlock]
        simp only [blockK] at h2
        by_cases hj : j = id
        · rw [if_pos hj]
          rw [decide_eq_true hj] at h2
          exact ⟨.normal, s', trivial, h2, h3⟩
        · rw [if_neg hj]
          rw [decide_eq_false hj] at h2
          exact ⟨.exit j, s', rfl, h2, h3⟩
    | ret =>
      cases xt <;> simp only [exOk] at h1
      exact ⟨.ret, s', trivial, h2, h3⟩
    | goto l => cases xt <;> simp only [exOk] at h1
    | panic l => cases xt <;> simp only [exOk] at h1
    | outgrown => cases xt <;> simp only [exOk] at h1
  | loop c ih =>
    intro β b s k he hf a w hr
    unfold ev at he
    split at he
    · cases he
    · rename_i key hkey
      split at he
      · cases he
      · rename_i l hl
        obtain ⟨e1, s1, hit, hk⟩ := onOut_inv he
        refine wpIn_loop_down (fun n a w => ∃ s, iter (fun s k => ev G B.m c s k) B.m l n s = some (e1, s1) ∧ Rel B s a w) ⟨_, hit, hr.clean l.pre⟩ fun n a w ⟨s, hi, hr⟩ => ?_
        cases n with
        | zero => cases hi
        | succ n =>
          simp only [iter] at hi
          refine wpIn_mono (ih hi hf hr) fun e a' w' ⟨xt, s', h1, h2, h3⟩ => ?_
          cases e with
          | normal =>
            cases xt <;> simp only [exOk] at h1
            exact ⟨n, by omega, _, h2, h3.clean l.pre⟩
          | exit i =>
            cases xt with
            | normal => simp only [exOk] at h1
            | ret => simp only [exOk] at h1
            | exit j =>
              simp only [exOk] at h1
              subst h1
              simp only [loopEnd, Option.some.injEq, Prod.mk.injEq] at h2
              obtain ⟨h4, h5⟩ := h2
              rw [← h4, ← h5] at hk
              exact ⟨.exit j, _, rfl, hk, h3.clean l.post⟩
          | ret =>
            cases xt with
            | normal => simp only [exOk] at h1
            | exit j => simp only [exOk] at h1
            | ret =>
              simp only [loopEnd, Option.some.injEq, Prod.mk.injEq] at h2
              obtain ⟨h4, h5⟩ := h2
              rw [← h4, ← h5] at hk
              exact ⟨.ret, _, trivial, hk, h3.clean l.ret⟩
          | goto l => cases xt <;> simp only [exOk] at h1
          | panic l => cases xt <;> simp only [exOk] at h1
          | outgrown => cases xt <;> simp only [exOk] at h1
  | exit id => intro β b s k he hf a w hr; exact wpIn_exit ⟨.exit id, s, rfl, he, hr⟩
  | ret => intro β b s k he hf a w hr; exact wpIn_ret ⟨.ret, s, trivial, he, hr⟩
  | _ => intro β b s k he; cases he
end
end Go.Abs
