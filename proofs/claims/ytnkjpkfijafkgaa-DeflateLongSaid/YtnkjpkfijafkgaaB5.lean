/-
A region without an order of its own: each operation, when its turn comes, does what it did in the text's order.
-/
import Derived.Test.YtnkjpkfijafkgaaB4
import Derived.OrdersIn
set_option linter.unusedVariables false
set_option linter.unusedSimpArgs false
namespace Go.Abs
section
variable {P : Program} {F : Fence} {G : Ctx} {T : TT} {all : List Oper} {rs : List Rec} {s0 s' : St} {B : Base} {d : Draw}

theorem rng_one (t : Tr P F T all rs s0 s') {i j x : Nat} (hi : i < all.length) (hj : j < all.length) (h1 : rng rs s0 i x) (h2 : rng rs s0 j x) : i = j := by
  rcases Nat.lt_trichotomy i j with g | g | g
  · have := t.mono (i := i + 1) (j := j) (by omega) (by omega)
    have a := h1.2; have b := h2.1; omega
  · exact g
  · have := t.mono (i := j + 1) (j := i) (by omega) (by omega)
    have a := h2.2; have b := h1.1; omega

/-- what an operation looks at -/
structure Turn (T : TT) (all : List Oper) (d : Draw) (E : Nat → Prop) (i : Nat) : Prop where
  no : ¬ E i
  anc : ∀ j ∈ d.A i, E j
  cl : ∀ j, E j → i ∉ d.A j
theorem slot_ok (t : Tr P F T all rs s0 s') (hd : DrawS T all d) {E : Nat → Prop} {a : Act} {w : World} {ι : Emb} {h : HF} (v : InvD B T all rs s0 E a w ι h) {i : Nat} {o : Oper} {r : Rec} (ho : all[i]? = some o) (hrc : rs[i]? = some r)
    (tn : Turn T all d E i) {k : Nat} (hk : k ∈ slotsOf all o) : VR ι (lk r.t k) (a.tmps.getD k undef) := by
  obtain ⟨_, _, hsl⟩ := t.at_ i o r ho hrc
  obtain ⟨g1, g2⟩ := hsl k
  by_cases hex : ∃ (j : Nat) (o' : Oper), j < i ∧ all[j]? = some o' ∧ o'.dst = some k
  · obtain ⟨j, o', hj, ho', hdst⟩ := hex
    obtain ⟨r', hr'⟩ := t.rcd ho'
    have hE : E j := by
      rcases hd.reads i o ho k hk j o' ho' hdst with e | ⟨_, e⟩ | ⟨e, _⟩
      · omega
      · exact tn.anc j e
      · omega
    rw [g1 j o' r' hj ho' hr' hdst fun j' o'' h1 h2 h3 h4 => by
      have := hd.dist j j' o' o'' k ho' h3 hdst h4
      omega]
    exact v.sl1 j o' r' k hE ho' hr' hdst
  · rw [g2 fun j o' hj ho' hdst => hex ⟨j, o', hj, ho', hdst⟩]
    refine v.sl2 k fun j o' hE ho' hdst => ?_
    rcases hd.reads i o ho k hk j o' ho' hdst with e | ⟨e, _⟩ | ⟨_, e⟩
    · subst e; exact tn.no hE
    · exact hex ⟨j, o', e, ho', hdst⟩
    · exact tn.cl j hE e
theorem trel_ok (t : Tr P F T all rs s0 s') (hd : DrawS T all d) {E : Nat → Prop} {a : Act} {w : World} {ι : Emb} {h : HF} (v : InvD B T all rs s0 E a w ι h) {i : Nat} {o : Oper} {r : Rec} (ho : all[i]? = some o) (hrc : rs[i]? = some r)
    (tn : Turn T all d E i) : TRel ι r.t a.tmps o.op.operands.toList := fun k hk =>
  slot_ok t hd v ho hrc tn (List.mem_append_left _ (List.mem_filterMap.mpr ⟨_, hk, rfl⟩))
theorem wanted_ok (t : Tr P F T all rs s0 s') (hd : DrawS T all d) {ops : Array Oper} (hops : ops.toList = all) {E : Nat → Prop} {a : Act} {w : World} {ι : Emb} {h : HF} (v : InvD B T all rs s0 E a w ι h) {i : Nat} {o : Oper} {r : Rec}
    (ho : all[i]? = some o) (hrc : rs[i]? = some r) (tn : Turn T all d E i) : Region.wanted o (yielded ops a.tmps) = r.done := by
  obtain ⟨hst, _, _⟩ := t.at_ i o r ho hrc
  have hg := hst.guard
  cases hgd : o.guard with
  | none =>
    rw [hgd] at hg
    simp only at hg
    simp [Region.wanted, hgd, hg]
  | some jw =>
    obtain ⟨j, want⟩ := jw
    rw [hgd] at hg
    simp only at hg
    obtain ⟨g, c, hj, hc, hcase⟩ := hg
    have hjo : ops[j]? = some g := by rw [← hops] at hj; simpa using hj
    have hmem : c ∈ slotsOf all o := by
      refine List.mem_append_right _ ?_
      rw [hgd]
      simp only [hj, hc]
      simp
    have hsl := slot_ok t hd v ho hrc tn hmem
    rcases hcase with ⟨x, hx, hdone⟩ | ⟨hx, hdone⟩
    · rw [hx] at hsl
      have hsl : a.tmps.getD c undef = .bool x := hsl
      have : a.tmps[c]? = some (.bool x) := by
        rw [Array.getD_eq_getD_getElem?] at hsl
        cases h1 : a.tmps[c]? with
        | none => rw [h1] at hsl; simp [undef] at hsl
        | some y => rw [h1] at hsl; simp at hsl; rw [hsl]
      simp only [Region.wanted, hgd, yielded, hjo, Option.bind_some, hc, this, hdone]
      cases x <;> cases want <;> rfl
    · rw [hx] at hsl
      obtain ⟨vs', e, hvs⟩ := hsl
      have : yielded ops a.tmps j = none := by
        rw [Array.getD_eq_getD_getElem?] at e
        cases h1 : a.tmps[c]? with
        | none => simp [yielded, hjo, hc, h1]
        | some y =>
          rw [h1] at e
          simp at e
          simp [yielded, hjo, hc, h1, e]
      simp [Region.wanted, hgd, this, hdone]

/-- where all blocks of before are there, and no later writer was: the text's heap -/
theorem cov_turn (t : Tr P F T all rs s0 s') (hd : DrawS T all d) {E : Nat → Prop} {a : Act} {w : World} {ι : Emb} {h : HF} (v : InvD B T all rs s0 E a w ι h) {i : Nat} {o : Oper} (ho : all[i]? = some o) (tn : Turn T all d E i) (hw : isW T o) : Cov (htx rs s0.H i) h := by
  have hi : i < all.length := (List.getElem?_eq_some_iff.1 ho).1
  refine v.cov t (by omega) (fun j o' hj ho' hl => tn.anc j (hd.wr i o ho hw j o' hj ho' hl)) fun j o' hj ho' hw' hE => ?_
  by_cases e : j = i
  · subst e; exact tn.no hE
  · exact tn.cl j hE (hd.wr j o' ho' hw' i o (by omega) ho (.inl hw))
/-- the last writer stood before -/
theorem last_before (t : Tr P F T all rs s0 s') (hd : DrawS T all d) {E : Nat → Prop} {i : Nat} {o : Oper} (ho : all[i]? = some o) (tn : Turn T all d E i) (hl : laysOrW T o) {p : Nat} (hp : p = 0 ∨ ∃ w o, p = w + 1 ∧ E w ∧ all[w]? = some o ∧ isW T o) : p ≤ i := by
  rcases hp with e | ⟨w, o', e, hw, ho', hk⟩
  · omega
  · rcases Nat.lt_trichotomy w i with g | g | g
    · omega
    · subst g; exact absurd hw tn.no
    · exact absurd (hd.wr w o' ho' hk i o g ho hl) (tn.cl w hw)

/-- after a writer -/
theorem hp_write (t : Tr P F T all rs s0 s') (hd : DrawS T all d) {E : Nat → Prop} {a : Act} {w : World} {ι : Emb} {h h' : HF} (v : InvD B T all rs s0 E a w ι h) {i : Nat} {o : Oper} (ho : all[i]? = some o) (tn : Turn T all d E i) (hw : isW T o)
    (hcov : Cov (htx rs s0.H (i + 1)) h') (hout : ∀ x, (htx rs s0.H (i + 1)).length ≤ x → h' x = h x) :
    ∃ p, p ≤ all.length ∧ (p = 0 ∨ ∃ w o, p = w + 1 ∧ (E w ∨ w = i) ∧ all[w]? = some o ∧ isW T o) ∧ (∀ (j : Nat) (o : Oper), (E j ∨ j = i) → all[j]? = some o → isW T o → j < p) ∧
      (∀ x, x < (htx rs s0.H p).length → h' x = Heap.fn (htx rs s0.H p) x) ∧
      (∀ j, (E j ∨ j = i) → p ≤ j → j < all.length → ∀ x, rng rs s0 j x → h' x = Heap.fn (htx rs s0.H (j + 1)) x) ∧
      (∀ x, (htx rs s0.H p).length ≤ x → (∀ j, (E j ∨ j = i) → p ≤ j → j < all.length → ¬ rng rs s0 j x) → h' x = .dead) := by
  have hi : i < all.length := (List.getElem?_eq_some_iff.1 ho).1
  obtain ⟨p, p0, p1, p2, p3, p4, p5⟩ := v.hp
  have hpi := last_before t hd ho tn (.inl hw) p1
  refine ⟨i + 1, by omega, .inr ⟨i, o, rfl, .inr rfl, ho, hw⟩, fun j o' hj ho' hw' => ?_, fun x hx => hcov x hx, fun j hj hij hjN x hx => ?_, fun x hx hno => ?_⟩
  · rcases hj with hj | rfl
    · rcases Nat.lt_trichotomy j i with g | g | g
      · omega
      · omega
      · exact absurd (hd.wr j o' ho' hw' i o g ho (.inl hw)) (tn.cl j hj)
    · omega
  · rcases hj with hj | rfl
    · have hm := t.mono (i := i + 1) (j := j) (by omega) (by omega)
      rw [hout x (by have := hx.1; omega)]
      exact p4 j hj (by omega) hjN x hx
    · omega
  · have hstep := t.step hi
    rw [hout x hx]
    refine p5 x (by have := t.mono (i := p) (j := i) (by omega) (by omega); omega) fun j hj hpj hjN hr => ?_
    rcases Nat.lt_or_ge j (i + 1) with g | g
    · have := t.mono (i := j + 1) (j := i + 1) (by omega) (by omega)
      have := hr.2
      omega
    · exact hno j (.inl hj) g hjN hr
/-- after one that lays nothing and writes nothing -/
theorem hp_same (t : Tr P F T all rs s0 s') {E : Nat → Prop} {a : Act} {w : World} {ι : Emb} {h : HF} (v : InvD B T all rs s0 E a w ι h) {i : Nat} {o : Oper} (ho : all[i]? = some o) (hw : ¬ isW T o) (hH : htx rs s0.H (i + 1) = htx rs s0.H i) :
    ∃ p, p ≤ all.length ∧ (p = 0 ∨ ∃ w o, p = w + 1 ∧ (E w ∨ w = i) ∧ all[w]? = some o ∧ isW T o) ∧ (∀ (j : Nat) (o : Oper), (E j ∨ j = i) → all[j]? = some o → isW T o → j < p) ∧
      (∀ x, x < (htx rs s0.H p).length → h x = Heap.fn (htx rs s0.H p) x) ∧
      (∀ j, (E j ∨ j = i) → p ≤ j → j < all.length → ∀ x, rng rs s0 j x → h x = Heap.fn (htx rs s0.H (j + 1)) x) ∧
      (∀ x, (htx rs s0.H p).length ≤ x → (∀ j, (E j ∨ j = i) → p ≤ j → j < all.length → ¬ rng rs s0 j x) → h x = .dead) := by
  obtain ⟨p, p0, p1, p2, p3, p4, p5⟩ := v.hp
  refine ⟨p, p0, p1.imp id fun ⟨w, o, e, h1, h2, h3⟩ => ⟨w, o, e, .inl h1, h2, h3⟩, fun j o' hj ho' hw' => ?_, p3, fun j hj hpj hjN x hx => ?_, fun x hx hno => p5 x hx fun j hj hpj hjN => hno j (.inl hj) hpj hjN⟩
  · rcases hj with hj | rfl
    · exact p2 j o' hj ho' hw'
    · rw [ho] at ho'; cases ho'; exact absurd hw' hw
  · rcases hj with hj | rfl
    · exact p4 j hj hpj hjN x hx
    · have a := hx.1; have b := hx.2; rw [hH] at b; omega
end
end Go.Abs
