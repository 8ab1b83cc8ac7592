/-
A region without an order of its own: what its evaluation in the text's order has shown of each operation.
-/
import Derived.Test.YtnkjpkfijafkgaaB1
set_option linter.unusedVariables false
set_option linter.unusedSimpArgs false
namespace Go.Abs
section
variable {P : Program} {F : Fence} {G : Ctx} {β : Type} {b : β}

/-- what was shown of an operation that is carried out -/
inductive Fact (P : Program) (F : Fence) (T : TT) (o : Oper) (r : Rec) : Prop where
  | pure (hk : kindOf T o.op = .pure) (hH : r.H = r.H0) (h : ∀ {ι : Emb} {w : World} {a : Act}, TRel ι r.t a.tmps o.op.operands.toList → ∃ x, VR ι r.v x ∧ (execOp a.eval o).run P w = .ok (.value x) w)
  | alloc (hk : kindOf T o.op = .alloc) (bs : List Blk) (hH : r.H = r.H0 ++ bs) (h : ∀ {ι : Emb} {h : HF} {w : World} {a : Act}, TRel ι r.t a.tmps o.op.operands.toList → HR ι h w → (∀ i, i < bs.length → ι (r.H0.length + i) = none) →
      ∃ s ι' x w', Al P ι h w r.H0.length r.v bs s ι' x w' ∧ execOp a.eval o = (do pure (.value (← s))))
  | read (hk : kindOf T o.op = .read) (hH : r.H = r.H0) (h : ∀ {ι : Emb} {h : HF} {w : World} {a : Act}, TRel ι r.t a.tmps o.op.operands.toList → CovL r.H0 h → HR ι h w → ∃ y, VR ι r.v y ∧ (execOp a.eval o).run P w = .ok (.value y) w)
  | write (hk : kindOf T o.op = .write) (hle : r.H0.length ≤ r.H.length) (h : ∀ {ι : Emb} {h : HF} {w : World} {a : Act}, TRel ι r.t a.tmps o.op.operands.toList → Cov r.H0 h → HR ι h w → (∀ a, r.H0.length ≤ a → a < r.H.length → ι a = none) →
      OpOk P F o a w (fun x w' => ∃ ι' h', Wr ι h w r.H0.length r.H r.v ι' h' x w'))
structure StepF (P : Program) (F : Fence) (T : TT) (all : List Oper) (o : Oper) (r : Rec) : Prop where
  fact : r.done = true → Fact P F T o r
  skip : r.done = false → r.H = r.H0 ∧ r.v = .tuple []
  nodefer : r.done = true → ∀ c, o.op ≠ .defer c
  guard : match o.guard with
    | none => r.done = true
    | some (j, want) => ∃ g d, all[j]? = some g ∧ g.dst = some d ∧ ((∃ x, lk r.t d = .bool x ∧ r.done = (x == want)) ∨ (lk r.t d = .tuple [] ∧ r.done = false))
def Trace (P : Program) (F : Fence) (T : TT) (all : List Oper) : List Oper → St → List Rec → St → Prop
  | [], s, [], s' => s' = s
  | o :: l, s, r :: rs, s' => (∀ k, lk r.t k = lk s.t k) ∧ r.H0 = s.H ∧ StepF P F T all o r ∧ Trace P F T all l (St.put ⟨r.t, r.H⟩ o.dst r.v) rs s'
  | _, _, _, _ => False

theorem evOp_fact (hG : Known P F G) {s : St} {o : Oper} {q : AV → Heap → Option β} (he : evOp G s o q = some b) : ∃ v H, q v H = some b ∧ Fact P F G.T o ⟨s.t, s.H, true, v, H⟩ ∧ ∀ c, o.op ≠ .defer c := by
  have hd : ∀ c, o.op ≠ .defer c := fun c hc => by
    have : evOp G s o q = none := by unfold evOp; rw [hc]; rfl
    rw [this] at he; cases he
  unfold evOp at he
  split at he
  · rename_i hk
    obtain ⟨v, h1, h2⟩ := evPure_det he
    refine ⟨v, s.H, h2, .pure hk rfl (fun {ι w a} ht => ?_), hd⟩
    obtain ⟨v', x, g1, g2, g3⟩ := evPure_ok (P := P) (w := w) hG.ty hG.depth (h1 (fun v => some v)) ht
    simp only [Option.some.injEq] at g1
    subst g1
    exact ⟨x, g2, g3⟩
  · rename_i hk
    obtain ⟨v, bs, hq, h1⟩ := evAlloc_ok (P := P) hG.ty he
    exact ⟨v, s.H ++ bs, hq, .alloc hk bs rfl h1, hd⟩
  · rename_i hk
    obtain ⟨v, hq, h1⟩ := evRead_ok (P := P) hG.ty he
    exact ⟨v, s.H, hq, .read hk rfl h1, hd⟩
  · rename_i hk
    obtain ⟨v, H', hq, hle, h1⟩ := evWrite_ok hG he
    exact ⟨v, H', hq, .write hk hle h1, hd⟩
theorem know_lk {s : St} {d : Tmp} {v : AV} (h : lk s.t d = v) (k : Tmp) : lk (s.put (some d) v).t k = lk s.t k := by
  simp only [St.put, lk]
  by_cases e : d = k
  · subst e; rw [if_pos rfl, h]
  · rw [if_neg e]
theorem wants_inv {all : List Oper} {s : St} {o : Oper} {yes no : St → Option β} (he : wants all s o yes no = some b) :
    ∃ s1 done, (∀ k, lk s1.t k = lk s.t k) ∧ s1.H = s.H ∧ (done = true → yes s1 = some b) ∧ (done = false → no s1 = some b) ∧
      (match o.guard with
        | none => done = true
        | some (j, want) => ∃ g d, all[j]? = some g ∧ g.dst = some d ∧ ((∃ x, lk s1.t d = .bool x ∧ done = (x == want)) ∨ (lk s1.t d = .tuple [] ∧ done = false))) := by
  unfold wants at he
  split at he
  · rename_i hg
    refine ⟨s, true, fun _ => rfl, rfl, fun _ => he, by simp, ?_⟩
    rw [hg]
  · rename_i j want hg
    split at he
    · cases he
    · rename_i g hj
      split at he
      · cases he
      · rename_i d hd
        split at he
        · rename_i x hx
          have fin : ∀ (done : Bool), (x == want) = done → (done = true → yes (s.put (some d) (.bool x)) = some b) → (done = false → no (s.put (some d) (.bool x)) = some b) →
              ∃ s1 done, (∀ k, lk s1.t k = lk s.t k) ∧ s1.H = s.H ∧ (done = true → yes s1 = some b) ∧ (done = false → no s1 = some b) ∧
                (match o.guard with
                  | none => done = true
                  | some (j, want) => ∃ g d, all[j]? = some g ∧ g.dst = some d ∧ ((∃ x, lk s1.t d = .bool x ∧ done = (x == want)) ∨ (lk s1.t d = .tuple [] ∧ done = false))) := fun done h1 h2 h3 => by
            refine ⟨_, done, know_lk hx, rfl, h2, h3, ?_⟩
            rw [hg]
            exact ⟨g, d, nthO_get hj, hd, .inl ⟨x, by simp [St.put, lk], h1.symm⟩⟩
          split at he
          · cases x with
            | true => exact fin true rfl (fun _ => he) (by simp)
            | false => exact fin false rfl (by simp) (fun _ => he)
          · cases x with
            | true => exact fin false rfl (by simp) (fun _ => he)
            | false => exact fin true rfl (fun _ => he) (by simp)
        · rename_i hx
          refine ⟨s, false, fun _ => rfl, rfl, by simp, fun _ => he, ?_⟩
          rw [hg]
          exact ⟨g, d, nthO_get hj, hd, .inr ⟨hx, rfl⟩⟩
        · cases he
theorem evRec_trace (hG : Known P F G) {all : List Oper} : ∀ {l : List Oper} {s : St} {q : List Rec → St → Option β}, evRec G all l s q = some b → ∃ rs s', q rs s' = some b ∧ Trace P F G.T all l s rs s'
  | [], s, q, he => ⟨[], s, he, rfl⟩
  | o :: l, s, q, he => by
    unfold evRec at he
    obtain ⟨s1, done, h1, h2, hy, hn, hg⟩ := wants_inv he
    cases done with
    | true =>
      obtain ⟨v, H, hq, hf, hd⟩ := evOp_fact hG (hy rfl)
      obtain ⟨rs, s', h3, h4⟩ := evRec_trace hG hq
      refine ⟨_, s', h3, h1, h2, ⟨fun _ => hf, by simp, fun _ => hd, hg⟩, h4⟩
    | false =>
      obtain ⟨rs, s', h3, h4⟩ := evRec_trace hG (hn rfl)
      refine ⟨_, s', h3, h1, h2, ⟨by simp, fun _ => ⟨rfl, rfl⟩, by simp, hg⟩, ?_⟩
      have e : St.put ⟨s1.t, s1.H⟩ o.dst (.tuple []) = s1.put o.dst (.tuple []) := by cases o.dst <;> rfl
      rw [e]
      exact h4
end
end Go.Abs
