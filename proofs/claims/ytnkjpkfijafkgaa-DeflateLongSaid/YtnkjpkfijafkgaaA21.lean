/-
A function does what its meaning says.
-/
import Derived.Test.YtnkjpkfijafkgaaA20
set_option linter.unusedVariables false
set_option linter.unusedSimpArgs false
namespace Go.Abs
section
variable {P : Program} {F : Fence} {G : Ctx} {β : Type} {r : β}

theorem lk_argsT {ι : Emb} : ∀ {args : List AV} {xs : List Value} (i k : Nat), VRL ι args xs → VR ι (lk (argsT i args) k) (if i ≤ k then (xs[k - i]?).getD undef else undef)
  | [], xs, i, k, h => trivial
  | v :: r, xs, i, k, h => by
    obtain ⟨x, l', e, h1, h2⟩ := h
    subst e
    simp only [argsT, lk]
    by_cases hk : i = k
    · subst hk; rw [if_pos rfl, if_pos (Nat.le_refl _), Nat.sub_self]; exact h1
    · rw [if_neg hk]
      have := lk_argsT (i + 1) k h2
      by_cases hik : i ≤ k
      · rw [if_pos hik]
        rw [if_pos (by omega)] at this
        have e : k - i = (k - (i + 1)) + 1 := by omega
        rw [e]
        simpa using this
      · rw [if_neg hik]
        rw [if_neg (by omega)] at this
        exact this
/-- one result -/
def resOne (tmps : Array Value) : ResultVar → Sem Value
  | .tmp t => pure (tmps.getD t undef)
  | .cell a t => do loadVar t (← asAddr (tmps.getD a undef))
theorem resL_ok (hT : TyOK P G.T) {s : St} {q : List AV → Option β} : ∀ {rs : List ResultVar} {q : List AV → Option β}, resL G.T s rs q = some r →
    ∃ vs, q vs = some r ∧ ∀ {ι : Emb} {w : World} {tmps : Array Value} (acc : Array Value), (∀ k, VR ι (lk s.t k) (tmps.getD k undef)) → HR ι (Heap.fn s.H) w →
      ∃ xs : List Value, VRL ι vs xs ∧ (rs.foldlM (fun (acc : Array Value) (x : ResultVar) => (do let s ← resOne tmps x; pure (acc.push s) : Sem (Array Value))) acc).run P w = .ok (acc ++ xs.toArray) w
  | [], q, he => ⟨[], he, fun acc h hr => ⟨[], rfl, by simp⟩⟩
  | .tmp t :: rs, q, he => by
    unfold resL at he
    obtain ⟨vs, h1, h2⟩ := resL_ok hT (s := s) (q := q) he
    refine ⟨_, h1, fun {ι w tmps} acc h hr => ?_⟩
    obtain ⟨xs, g1, g2⟩ := h2 (acc.push (tmps.getD t undef)) h hr
    refine ⟨tmps.getD t undef :: xs, ⟨_, _, rfl, h t, g1⟩, ?_⟩
    rw [List.foldlM_cons, Sem.run_bind]
    have hone : (resOne tmps (.tmp t)).run P w = .ok (tmps.getD t undef) w := rfl
    simp only [Sem.run_bind, hone, Sem.run_pure, Result.andThen_ok]
    rw [g2]
    simp
  | .cell a ty :: rs, q, he => by
    unfold resL at he
    obtain ⟨v, hv, hl⟩ := loadV_ok (P := P) hT he
    obtain ⟨vs, h1, h2⟩ := resL_ok hT (s := s) (q := q) hv
    refine ⟨_, h1, fun {ι w tmps} acc h hr => ?_⟩
    obtain ⟨y, hy, hrun⟩ := hl (h a) (Cov.self s.H).l hr
    obtain ⟨xs, g1, g2⟩ := h2 (acc.push y) h hr
    refine ⟨y :: xs, ⟨_, _, rfl, hy, g1⟩, ?_⟩
    rw [List.foldlM_cons, Sem.run_bind]
    have hone : (resOne tmps (.cell a ty)).run P w = .ok y w := by
      have hp : ∃ ad, tmps.getD a undef = .pointer (some ad) := by
        unfold Instr.loadAt at hrun
        cases hx : tmps.getD a undef with
        | pointer p => cases p with
          | some ad => exact ⟨ad, rfl⟩
          | none => rw [hx] at hrun; simp [Instr.sureAddr, stuck] at hrun
        | _ => rw [hx] at hrun; simp [Instr.sureAddr, stuck] at hrun
      obtain ⟨ad, had⟩ := hp
      rw [had] at hrun
      simpa [resOne, had, asAddr, Instr.loadAt, Instr.sureAddr] using hrun
    simp only [Sem.run_bind, hone, Sem.run_pure, Result.andThen_ok]
    rw [g2]
    simp
def packV : List Value → Value
  | [x] => x
  | xs => .tuple xs.toArray
theorem results_eq (fn : Func) (tmps : Array Value) (w : World) {xs : List Value} (h : (fn.results.toList.foldlM (fun (acc : Array Value) (x : ResultVar) => (do let s ← resOne tmps x; pure (acc.push s) : Sem (Array Value))) #[]).run P w = .ok xs.toArray w) :
    (results fn tmps).run P w = .ok (packV xs) w := by
  have e : (fn.results.mapM (resOne tmps)).run P w = .ok xs.toArray w := by
    rw [Array.mapM_eq_foldlM_push, ← Array.foldlM_toList]
    exact h
  have e2 : results fn tmps = (do let vs ← fn.results.mapM (resOne tmps); pure (if h : vs.size = 1 then vs[0] else .tuple vs)) := by
    unfold results resOne
    congr 1
  rw [e2]
  simp only [Sem.run_bind, e, Result.andThen_ok, Sem.run_pure]
  congr 1
  match xs with
  | [] => simp [packV]
  | [x] => simp [packV]
  | x :: y :: l => simp [packV]
theorem pack_ok {ι : Emb} {vs : List AV} {xs : List Value} (h : VRL ι vs xs) : VR ι (pack vs) (packV xs) := by
  match vs, xs, h with
  | [], _, h => cases h; exact ⟨#[], rfl, rfl⟩
  | [v], _, h =>
    obtain ⟨x, l, rfl, h1, h2⟩ := h
    cases h2
    exact h1
  | v :: u :: vs, _, h =>
    obtain ⟨x, l, rfl, h1, y, l', rfl, h2, h3⟩ := h
    exact ⟨_, rfl, x, _, rfl, h1, y, _, rfl, h2, h3⟩

/-- a function that has a body does what its meaning says -/
theorem semF_ok (hG : Known P F G) (hro : F.round = none) {f : FuncId} {fn : Func} {c : Code} (hf : P.funcs[f]? = some fn) (hname : (fn.name == "runtime.NumGoroutine") = false) (hb : fn.body = some c) (hfit : okC G.T G.D fn.ntmps c = true) :
    FOk P F f (semF G fn) := by
  intro args H v H' he
  simp only [semF, hb] at he
  -- the end
  have hend : ∀ {x : XT} {s : St}, atEnd G.T H.length fn.results.toList x s = some (v, H') → H.length ≤ s.H.length → ∀ {ι : Emb} {w : World} {tmps : Array Value}, (∀ k, VR ι (lk s.t k) (tmps.getD k undef)) → HR ι (Heap.fn s.H) w →
      ∃ x ids, (results fn tmps).run P w = .ok x w ∧ ids.Nodup ∧ (∀ i, i < H.length → ids[i]? = some i) ∧ H' = part s.H ids ∧ VR (cutE ι ids) v x := by
    intro x s hx hle
    have key : resL G.T s fn.results.toList (fun vs => some (least H.length (pack vs) s.H)) = some (v, H') := by
      cases x <;> simp only [atEnd] at hx
      · exact hx
      · cases hx
      · exact hx
    obtain ⟨vs, h1, h2⟩ := resL_ok (P := P) hG.ty (s := s) (q := fun _ => none) key
    simp only [least, Option.some.injEq, Prod.mk.injEq] at h1
    obtain ⟨ids, hids, i1, i2, i3, i4⟩ := least_ids hle (pack vs).ids
    rw [← hids] at h1
    obtain ⟨e1, e2⟩ := h1
    intro ι w tmps ht hr
    obtain ⟨xs, g1, g2⟩ := h2 #[] ht hr
    simp only [Array.empty_append] at g2
    refine ⟨_, ids, results_eq fn tmps w g2, i1, i4, e2.symm, ?_⟩
    rw [← e1]
    exact (pack_ok g1).ren fun a l b => cutE_pos
  have hn : ¬ fn.name = "runtime.NumGoroutine" := by simpa using hname
  refine fun ι w xs hv hr hfr => .inr ⟨f, xs, w, ?_, ?_⟩
  · simp [callFunc, hf, hn, hb]
  · let B : Base := ⟨H.length, ι, Heap.fn H, w, fn.ntmps⟩
    have hinit : Rel B ⟨argsT 0 args, H⟩ { tmps := xs ++ Array.replicate (fn.ntmps - xs.size) undef, defers := [] } w := by
      refine ⟨ι, fun k => ?_, hr, Nat.le_refl _, fun _ _ => rfl, hfr, Stp.refl _ _ _, rfl, ?_⟩
      · have := lk_argsT 0 k hv
        simp only [Nat.zero_le, if_true, Nat.sub_zero] at this
        have e : (xs ++ Array.replicate (fn.ntmps - xs.size) undef).getD k undef = (xs.toList[k]?).getD undef := by
          rw [Array.getD_eq_getD_getElem?, Array.getElem?_append]
          by_cases hk : k < xs.size
          · rw [if_pos hk]; simp
          · rw [if_neg hk]
            have : xs.toList[k]? = none := by simp; omega
            rw [this]
            simp only [Option.getD_none]
            cases hq : (Array.replicate (fn.ntmps - xs.size) undef)[k - xs.size]? with
            | none => rfl
            | some y =>
              have := Array.getElem?_eq_some_iff.1 hq
              obtain ⟨h1, h2⟩ := this
              simp at h2
              simp [← h2]
        rw [e]
        exact this
      · show fn.ntmps ≤ _
        simp; omega
    refine callsIn_of_wp hf hb (hG.fence.fn f) (wpIn_mono (ev_ok (B := B) hG c he hfit hinit) fun e a w' ⟨x, s, h1, h2, ι1, h3⟩ => ?_) hro
    obtain ⟨y, ids, g1, g2, g3, g4, g5⟩ := hend h2 h3.m h3.t h3.hr
    have fin : a.defers = [] ∧ ∃ v_1, Sem.run P (results fn a.tmps) w' = Result.ok v_1 w' ∧ ∃ ι', VR ι' v v_1 ∧ HR ι' (Heap.fn H') w' ∧ (∀ a, a < H.length → ι' a = ι a) ∧ (∀ a, H'.length ≤ a → ι' a = none) ∧ Stp ι (Heap.fn H) w ι' (Heap.fn H') w' := by
      refine ⟨h3.defers, y, g1, cutE ι1 ids, g5, ?_, fun i hi => ?_, fun i hi => ?_, ?_⟩
      · rw [g4]; exact h3.hr.part (Cov.self _) g2
      · simp only [cutE, g3 i hi]; exact h3.old i hi
      · rw [g4, part_len] at hi
        simp only [cutE]
        rw [List.getElem?_eq_none hi]
      · rw [g4]; exact part_stp h3.stp
    cases e with
    | normal => exact fin
    | ret => exact fin
    | exit i =>
      cases x with
      | exit j => simp only [atEnd] at h2; cases h2
      | _ => simp only [exOk] at h1
    | goto l => cases x <;> simp only [exOk] at h1
    | panic l => cases x <;> simp only [exOk] at h1
    | outgrown => cases x <;> simp only [exOk] at h1
end
end Go.Abs
