/-
A region without an order of its own: what holds when some of its operations are done.
-/
import Derived.Test.YtnkjpkfijafkgaaB3
set_option linter.unusedVariables false
set_option linter.unusedSimpArgs false
namespace Go.Abs
structure Tr (P : Program) (F : Fence) (T : TT) (all : List Oper) (rs : List Rec) (s0 s' : St) : Prop where
  len : rs.length = all.length
  at_ : ∀ (i : Nat) (o : Oper) (r : Rec), all[i]? = some o → rs[i]? = some r → StepF P F T all o r ∧ r.H0 = htx rs s0.H i ∧ Slots all rs s0.t i r.t
  fin : s'.H = htx rs s0.H all.length
  sl : Slots all rs s0.t all.length s'.t
section
variable {P : Program} {F : Fence} {G : Ctx} {T : TT} {all : List Oper} {rs : List Rec} {s0 s' : St} {B : Base} {d : Draw}

theorem Tr.rcd (h : Tr P F T all rs s0 s') {i : Nat} {o : Oper} (ho : all[i]? = some o) : ∃ r, rs[i]? = some r := by
  have := (List.getElem?_eq_some_iff.1 ho).1
  rw [← h.len] at this
  exact ⟨_, List.getElem?_eq_getElem this⟩
theorem Tr.op (h : Tr P F T all rs s0 s') {i : Nat} (hi : i < all.length) : ∃ o r, all[i]? = some o ∧ rs[i]? = some r := by
  have ho : all[i]? = some all[i] := List.getElem?_eq_getElem hi
  obtain ⟨r, hr⟩ := h.rcd ho
  exact ⟨_, r, ho, hr⟩
theorem Tr.step (h : Tr P F T all rs s0 s') {i : Nat} (hi : i < all.length) : (htx rs s0.H i).length ≤ (htx rs s0.H (i + 1)).length := by
  obtain ⟨o, r, ho, hr⟩ := h.op hi
  obtain ⟨h1, h2, _⟩ := h.at_ i o r ho hr
  rw [← h2, htx_succ hr]
  exact h1.le
theorem Tr.mono (h : Tr P F T all rs s0 s') {i j : Nat} (hij : i ≤ j) (hj : j ≤ all.length) : (htx rs s0.H i).length ≤ (htx rs s0.H j).length := by
  induction j with
  | zero => have : i = 0 := by omega
            subst this; exact Nat.le_refl _
  | succ j ih =>
    by_cases e : i = j + 1
    · subst e; exact Nat.le_refl _
    · exact Nat.le_trans (ih (by omega) (by omega)) (h.step (by omega))
/-- an operation that does not write lays blocks behind, or none -/
theorem Tr.nonw (h : Tr P F T all rs s0 s') {i : Nat} {o : Oper} (ho : all[i]? = some o) (hw : ¬ isW T o) : ∃ bs, htx rs s0.H (i + 1) = htx rs s0.H i ++ bs ∧ (¬ laysOrW T o → bs = []) := by
  obtain ⟨r, hr⟩ := h.rcd ho
  obtain ⟨h1, h2, _⟩ := h.at_ i o r ho hr
  rw [htx_succ hr, ← h2]
  cases hd : r.done with
  | true =>
    cases h1.fact hd with
    | pure hk hH _ => exact ⟨[], by rw [hH]; simp, fun _ => rfl⟩
    | alloc hk bs hH _ => exact ⟨bs, hH, fun hn => absurd (.inr hk) hn⟩
    | read hk hH _ => exact ⟨[], by rw [hH]; simp, fun _ => rfl⟩
    | write hk hle _ => exact absurd hk hw
  | false => exact ⟨[], by rw [(h1.skip hd).1]; simp, fun _ => rfl⟩
theorem fn_left (H bs : Heap) {x : Nat} (hx : x < H.length) : Heap.fn (H ++ bs) x = Heap.fn H x := by
  rw [fn_eq, fn_eq, List.getElem?_append_left hx]
theorem Tr.pre (h : Tr P F T all rs s0 s') {p i : Nat} (hpi : p ≤ i) (hi : i ≤ all.length) (hno : ∀ (j : Nat) (o : Oper), p ≤ j → j < i → all[j]? = some o → ¬ isW T o) : ∀ x, x < (htx rs s0.H p).length → Heap.fn (htx rs s0.H i) x = Heap.fn (htx rs s0.H p) x := by
  induction i with
  | zero => intro x hx; have : p = 0 := by omega
            subst this; rfl
  | succ i ih =>
    intro x hx
    by_cases e : p = i + 1
    · subst e; rfl
    · obtain ⟨o, r, ho, hr⟩ := h.op (i := i) (by omega)
      obtain ⟨bs, hbs, _⟩ := h.nonw ho (hno i o (by omega) (by omega) ho)
      rw [hbs, fn_left _ _ (Nat.lt_of_lt_of_le hx (h.mono (by omega) (by omega)))]
      exact ih (by omega) (by omega) (fun j o h1 h2 h3 => hno j o h1 (by omega) h3) x hx
theorem Tr.locate (h : Tr P F T all rs s0 s') {p i x : Nat} (hpi : p ≤ i) (hi : i ≤ all.length) (h1 : (htx rs s0.H p).length ≤ x) (h2 : x < (htx rs s0.H i).length) : ∃ j, p ≤ j ∧ j < i ∧ (htx rs s0.H j).length ≤ x ∧ x < (htx rs s0.H (j + 1)).length := by
  induction i with
  | zero => have : p = 0 := by omega
            subst this; omega
  | succ i ih =>
    by_cases e : p = i + 1
    · subst e; omega
    · by_cases hx : x < (htx rs s0.H i).length
      · obtain ⟨j, g1, g2, g3⟩ := ih (by omega) (by omega) hx
        exact ⟨j, g1, by omega, g3⟩
      · exact ⟨i, by omega, by omega, by omega, h2⟩

/-- the blocks of an operation -/
def rng (rs : List Rec) (s0 : St) (j x : Nat) : Prop := (htx rs s0.H j).length ≤ x ∧ x < (htx rs s0.H (j + 1)).length
structure InvD (B : Base) (T : TT) (all : List Oper) (rs : List Rec) (s0 : St) (E : Nat → Prop) (a : Act) (w : World) (ι : Emb) (h : HF) : Prop where
  sl1 : ∀ (j : Nat) (o : Oper) (r : Rec) (k : Nat), E j → all[j]? = some o → rs[j]? = some r → o.dst = some k → VR ι r.v (a.tmps.getD k undef)
  sl2 : ∀ k, (∀ (j : Nat) (o : Oper), E j → all[j]? = some o → o.dst ≠ some k) → VR ι (lk s0.t k) (a.tmps.getD k undef)
  hr : HR ι h w
  hp : ∃ p, p ≤ all.length ∧ (p = 0 ∨ ∃ w o, p = w + 1 ∧ E w ∧ all[w]? = some o ∧ isW T o) ∧ (∀ (j : Nat) (o : Oper), E j → all[j]? = some o → isW T o → j < p) ∧
    (∀ x, x < (htx rs s0.H p).length → h x = Heap.fn (htx rs s0.H p) x) ∧
    (∀ j, E j → p ≤ j → j < all.length → ∀ x, rng rs s0 j x → h x = Heap.fn (htx rs s0.H (j + 1)) x) ∧
    (∀ x, (htx rs s0.H p).length ≤ x → (∀ j, E j → p ≤ j → j < all.length → ¬ rng rs s0 j x) → h x = .dead)
  m : B.m ≤ s0.H.length
  fresh : ∀ x, s0.H.length ≤ x → (∀ j, E j → j < all.length → ¬ rng rs s0 j x) → ι x = none
  old : ∀ i, i < B.m → ι i = B.ι i
  stp : Stp B.ι B.h B.w ι h w
  defers : a.defers = []
  size : B.nt ≤ a.tmps.size

theorem InvD.cov (t : Tr P F T all rs s0 s') {E : Nat → Prop} {a : Act} {w : World} {ι : Emb} {h : HF} (v : InvD B T all rs s0 E a w ι h) {i : Nat} (hi : i ≤ all.length)
    (h1 : ∀ (j : Nat) (o : Oper), j < i → all[j]? = some o → laysOrW T o → E j) (h2 : ∀ (j : Nat) (o : Oper), i ≤ j → all[j]? = some o → isW T o → ¬ E j) : Cov (htx rs s0.H i) h := by
  obtain ⟨p, p0, p1, p2, p3, p4, p5⟩ := v.hp
  have hpi : p ≤ i := by
    rcases p1 with e | ⟨w, o, e, hw, ho, hk⟩
    · omega
    · rcases Nat.lt_or_ge w i with g | g
      · omega
      · exact absurd hw (h2 w o g ho hk)
  have hno : ∀ (j : Nat) (o : Oper), p ≤ j → j < i → all[j]? = some o → ¬ isW T o := fun j o g1 g2 g3 g4 => by
    have := p2 j o (h1 j o g2 g3 (.inl g4)) g3 g4
    omega
  intro x hx
  rcases Nat.lt_or_ge x (htx rs s0.H p).length with g | g
  · rw [p3 x g, t.pre hpi hi hno x g]
  · obtain ⟨j, j1, j2, j3, j4⟩ := t.locate hpi hi g hx
    obtain ⟨o, r, ho, hr⟩ := t.op (i := j) (by omega)
    obtain ⟨bs, hbs, hl⟩ := t.nonw ho (hno j o j1 j2 ho)
    have hlay : laysOrW T o := by
      by_cases hq : laysOrW T o
      · exact hq
      · rw [hbs, hl hq] at j4; simp at j4; omega
    rw [p4 j (h1 j o j2 ho hlay) j1 (by omega) x ⟨j3, j4⟩, t.pre (p := j + 1) (by omega) hi (fun j' o' g1 g2 g3 => hno j' o' (by omega) g2 g3) x j4]

/-- one more is done, whose blocks are there, whose value stands in its slot -/
theorem InvD.next (t : Tr P F T all rs s0 s') {E : Nat → Prop} {a : Act} {w w' : World} {ι ι' : Emb} {h h' : HF} (v : InvD B T all rs s0 E a w ι h) (hd : DrawS T all d) (hfit : ∀ (j : Nat) (o : Oper) (k : Nat), all[j]? = some o → o.dst = some k → k < B.nt)
    {i : Nat} {o : Oper} {r : Rec} (ho : all[i]? = some o) (hrc : rs[i]? = some r) (hE : ¬ E i) {x : Value} (hv : VR ι' r.v x) (hsub : Sub ι ι') (hr : HR ι' h' w') (hs : Stp ι h w ι' h' w') (hout : ∀ y, ¬ rng rs s0 i y → ι' y = ι y)
    (hp : ∃ p, p ≤ all.length ∧ (p = 0 ∨ ∃ w o, p = w + 1 ∧ (E w ∨ w = i) ∧ all[w]? = some o ∧ isW T o) ∧ (∀ (j : Nat) (o : Oper), (E j ∨ j = i) → all[j]? = some o → isW T o → j < p) ∧
      (∀ x, x < (htx rs s0.H p).length → h' x = Heap.fn (htx rs s0.H p) x) ∧
      (∀ j, (E j ∨ j = i) → p ≤ j → j < all.length → ∀ x, rng rs s0 j x → h' x = Heap.fn (htx rs s0.H (j + 1)) x) ∧
      (∀ x, (htx rs s0.H p).length ≤ x → (∀ j, (E j ∨ j = i) → p ≤ j → j < all.length → ¬ rng rs s0 j x) → h' x = .dead)) :
    InvD B T all rs s0 (fun j => E j ∨ j = i) (a.put o.dst x) w' ι' h' := by
  have hi : i < all.length := (List.getElem?_eq_some_iff.1 ho).1
  have hput : ∀ k, o.dst ≠ some k → (a.put o.dst x).tmps.getD k undef = a.tmps.getD k undef := fun k hk => by
    cases hdst : o.dst with
    | none => rfl
    | some c =>
      rw [hdst] at hk
      simp only [Act.put, Array.getD_eq_getD_getElem?]
      rw [Array.getElem?_setIfInBounds_ne (fun e => hk (by rw [e]))]
  refine ⟨fun j o' r' k hj ho' hr' hk => ?_, fun k hk => ?_, hr, hp, v.m, fun y hy hno => ?_, fun y hy => ?_, v.stp.trans hs, by rw [put_defers]; exact v.defers, by rw [put_size]; exact v.size⟩
  · rcases hj with hj | rfl
    · have hne : o.dst ≠ some k := fun e => by
        have := hd.dist j i o' o k ho' ho hk e
        subst this
        exact hE hj
      rw [hput k hne]
      exact (v.sl1 j o' r' k hj ho' hr' hk).mono hsub
    · rw [ho] at ho'; cases ho'
      rw [hrc] at hr'; cases hr'
      have hlt := Nat.lt_of_lt_of_le (hfit _ _ _ ho hk) v.size
      rw [hk]
      simp [Act.put, Array.getD, hlt, hv]
  · have hne : o.dst ≠ some k := hk i o (.inr rfl) ho
    rw [hput k hne]
    exact (v.sl2 k fun j o' hj ho' => hk j o' (.inl hj) ho').mono hsub
  · rw [hout y (hno i (.inr rfl) hi)]
    exact v.fresh y hy fun j hj hjN => hno j (.inl hj) hjN
  · have hm := t.mono (i := 0) (j := i) (by omega) (by omega)
    have := v.m
    have hm' : s0.H.length ≤ (htx rs s0.H i).length := hm
    rw [hout y (fun hr => by have := hr.1; omega)]
    exact v.old y hy
end
end Go.Abs
