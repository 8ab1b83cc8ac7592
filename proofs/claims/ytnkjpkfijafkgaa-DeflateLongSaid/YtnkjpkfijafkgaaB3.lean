/-
A region without an order of its own: the trace by places; what must hold of its edges.
-/
import Derived.Test.YtnkjpkfijafkgaaB2
set_option linter.unusedVariables false
set_option linter.unusedSimpArgs false
namespace Go.Abs
section
variable {P : Program} {F : Fence} {G : Ctx} {T : TT} {β : Type} {b : β}

/-- the heap before the i-th operation, in the text's order -/
def htx (rs : List Rec) (H : Heap) : Nat → Heap
  | 0 => H
  | i + 1 => match rs[i]? with
    | some r => r.H
    | none => []
theorem htx_cons (r : Rec) (rs : List Rec) (H : Heap) (i : Nat) : htx (r :: rs) H (i + 1) = htx rs r.H i := by
  cases i with
  | zero => rfl
  | succ i => simp only [htx, List.getElem?_cons_succ]
theorem htx_succ {rs : List Rec} {H : Heap} {i : Nat} {r : Rec} (h : rs[i]? = some r) : htx rs H (i + 1) = r.H := by simp [htx, h]
/-- the slots before the i-th one -/
def Slots (l : List Oper) (rs : List Rec) (t : Tm) (i : Nat) (t' : Tm) : Prop :=
  ∀ k, (∀ (j : Nat) (o : Oper) (r : Rec), j < i → l[j]? = some o → rs[j]? = some r → o.dst = some k → (∀ (j' : Nat) (o' : Oper), j < j' → j' < i → l[j']? = some o' → o'.dst ≠ some k) → lk t' k = r.v) ∧
    ((∀ (j : Nat) (o : Oper), j < i → l[j]? = some o → o.dst ≠ some k) → lk t' k = lk t k)
theorem Slots.cons {o : Oper} {l : List Oper} {r : Rec} {rs : List Rec} {t t1 t' : Tm} {i : Nat} (h1 : ∀ k, lk t1 k = if o.dst = some k then r.v else lk t k) (h : Slots l rs t1 i t') : Slots (o :: l) (r :: rs) t (i + 1) t' := by
  intro k
  obtain ⟨g1, g2⟩ := h k
  refine ⟨fun j o' r' hj ho hr hd hlast => ?_, fun hno => ?_⟩
  · cases j with
    | zero =>
      simp only [List.getElem?_cons_zero, Option.some.injEq] at ho hr
      subst ho; subst hr
      rw [g2 fun j o' hj' ho' => hlast (j + 1) o' (by omega) (by omega) (by simpa using ho'), h1, if_pos hd]
    | succ j =>
      simp only [List.getElem?_cons_succ] at ho hr
      exact g1 j o' r' (by omega) ho hr hd fun j' o'' h2 h3 h4 => hlast (j' + 1) o'' (by omega) (by omega) (by simpa using h4)
  · rw [g2 fun j o' hj' ho' => hno (j + 1) o' (by omega) (by simpa using ho'), h1, if_neg (hno 0 o (by omega) rfl)]
theorem put_lk {s : St} {d : Option Tmp} {v : AV} (k : Tmp) : lk (s.put d v).t k = if d = some k then v else lk s.t k := by
  cases d with
  | none => simp [St.put]
  | some d =>
    simp only [St.put, lk, Option.some.injEq]
theorem StepF.le {all : List Oper} {o : Oper} {r : Rec} (h : StepF P F T all o r) : r.H0.length ≤ r.H.length := by
  cases hd : r.done with
  | true =>
    cases h.fact hd with
    | pure hk hH _ => rw [hH]; exact Nat.le_refl _
    | alloc hk bs hH _ => rw [hH]; simp
    | read hk hH _ => rw [hH]; exact Nat.le_refl _
    | write hk hle _ => exact hle
  | false => rw [(h.skip hd).1]; exact Nat.le_refl _
theorem trace_at {all : List Oper} : ∀ {l : List Oper} {s : St} {rs : List Rec} {s' : St}, Trace P F T all l s rs s' →
    rs.length = l.length ∧ (∀ (i : Nat) (o : Oper) (r : Rec), l[i]? = some o → rs[i]? = some r → StepF P F T all o r ∧ r.H0 = htx rs s.H i ∧ Slots l rs s.t i r.t) ∧ s'.H = htx rs s.H l.length ∧ Slots l rs s.t l.length s'.t
  | [], s, [], s', h => by
    have h : s' = s := h
    subst h
    exact ⟨rfl, by simp, rfl, fun k => ⟨fun j o r hj => by simp at hj, fun _ => rfl⟩⟩
  | [], s, _ :: _, s', h => h.elim
  | _ :: _, s, [], s', h => h.elim
  | o :: l, s, r :: rs, s', h => by
    obtain ⟨h1, h2, h3, h4⟩ := h
    have hH1 : (St.put ⟨r.t, r.H⟩ o.dst r.v).H = r.H := by cases o.dst <;> rfl
    obtain ⟨g1, g2, g3, g4⟩ := trace_at h4
    have ht1 : ∀ k, lk (St.put ⟨r.t, r.H⟩ o.dst r.v).t k = if o.dst = some k then r.v else lk s.t k := fun k => by
      rw [put_lk]
      simp only [h1]
    rw [hH1] at g2 g3
    refine ⟨by simp [g1], fun i o' r' ho hr => ?_, ?_, ?_⟩
    · cases i with
      | zero =>
        simp only [List.getElem?_cons_zero, Option.some.injEq] at ho hr
        subst ho; subst hr
        exact ⟨h3, h2, fun k => ⟨fun j _ _ hj => by simp at hj, fun _ => h1 k⟩⟩
      | succ i =>
        simp only [List.getElem?_cons_succ] at ho hr
        obtain ⟨k1, k2, k3⟩ := g2 i o' r' ho hr
        exact ⟨k1, by rw [htx_cons]; exact k2, k3.cons ht1⟩
    · rw [List.length_cons, htx_cons]; exact g3
    · rw [List.length_cons]; exact g4.cons ht1

/-! ### the edges -/
def Draw.A (d : Draw) (i : Nat) : List Nat := d.anc.getD i []
/-- the slots that an operation looks at -/
def slotsOf (all : List Oper) (o : Oper) : List Nat :=
  (o.op.operands.toList.filterMap fun | .tmp k => some k | _ => none) ++ (match o.guard with
    | some (j, _) => (match all[j]? with | some g => (match g.dst with | some k => [k] | none => []) | none => [])
    | none => [])
def isW (T : TT) (o : Oper) : Prop := kindOf T o.op = .write
def laysOrW (T : TT) (o : Oper) : Prop := kindOf T o.op = .write ∨ kindOf T o.op = .alloc
/-- the writer 'c' may be the last one before 'i' -/
structure Cand (T : TT) (all : List Oper) (d : Draw) (i : Nat) (p : Nat) : Prop where
  it : p = 0 ∨ ∃ w o, p = w + 1 ∧ all[w]? = some o ∧ isW T o ∧ w ≠ i ∧ i ∉ d.A w
  last : ∀ j o, all[j]? = some o → isW T o → j ∈ d.A i → j < p
def capOf : Nat → Option Nat
  | 0 => none
  | w + 1 => some w
structure DrawS (T : TT) (all : List Oper) (d : Draw) : Prop where
  dist : ∀ (i j : Nat) (o o' : Oper) (k : Nat), all[i]? = some o → all[j]? = some o' → o.dst = some k → o'.dst = some k → i = j
  edges : ∀ (i : Nat) (o : Oper), all[i]? = some o → ∀ e ∈ o.after, Region.binds .any e = true → e.on < i
  anc : ∀ (i : Nat) (o : Oper), all[i]? = some o → ∀ j ∈ d.A i, (∃ e ∈ o.after, Region.binds .any e = true ∧ e.on = j) ∨ ∃ e ∈ o.after, Region.binds .any e = true ∧ j ∈ d.A e.on
  reads : ∀ (i : Nat) (o : Oper), all[i]? = some o → ∀ k ∈ slotsOf all o, ∀ (j : Nat) (o' : Oper), all[j]? = some o' → o'.dst = some k → j = i ∨ (j < i ∧ j ∈ d.A i) ∨ (i < j ∧ i ∈ d.A j)
  wr : ∀ (i : Nat) (o : Oper), all[i]? = some o → isW T o → ∀ (j : Nat) (o' : Oper), j < i → all[j]? = some o' → laysOrW T o' → j ∈ d.A i
  rd : ∀ (i : Nat) (o : Oper), all[i]? = some o → kindOf T o.op = .read →
    ((∀ (j : Nat) (o' : Oper), j < i → all[j]? = some o' → laysOrW T o' → j ∈ d.A i) ∧ ∀ (j : Nat) (o' : Oper), i < j → all[j]? = some o' → isW T o' → i ∈ d.A j) ∨
    ∀ p, Cand T all d i p → ∃ keep, (i, capOf p, keep) ∈ d.ents ∧ ∀ j ∈ keep, j ∈ d.A i ∧ ∀ o', all[j]? = some o' → ¬ isW T o'
end
end Go.Abs
