/-
Calls, and every operation, against 'Oper.wpIn'.
-/
import Derived.Test.YtnkjpkfijafkgaaA17
set_option linter.unusedVariables false
set_option linter.unusedSimpArgs false
namespace Go.Abs

/-! ### the names of a part -/
theorem memN_iff : ∀ (l : List Nat) (a : Nat), memN l a = true ↔ a ∈ l
  | [], a => by simp [memN]
  | x :: r, a => by
    unfold memN
    by_cases h : x = a
    · simp [h]
    · have h' : ¬ a = x := fun e => h e.symm
      simp [h, h', memN_iff r a]
theorem addIds_ok : ∀ (more acc : List Nat), acc.Nodup → (addIds acc more).Nodup ∧ (∀ x ∈ addIds acc more, x ∈ acc ∨ x ∈ more) ∧ ∃ t, addIds acc more = acc ++ t
  | [], acc, h => ⟨h, fun x hx => .inl hx, [], by simp [addIds]⟩
  | x :: r, acc, h => by
    unfold addIds
    by_cases hm : memN acc x = true
    · rw [if_pos hm]
      obtain ⟨h1, h2, h3⟩ := addIds_ok r acc h
      exact ⟨h1, fun y hy => (h2 y hy).imp id fun e => List.mem_cons_of_mem _ e, h3⟩
    · rw [if_neg hm]
      have hx : x ∉ acc := fun e => hm ((memN_iff acc x).mpr e)
      obtain ⟨h1, h2, t, h3⟩ := addIds_ok r (acc ++ [x]) (by
        rw [List.nodup_append]
        refine ⟨h, by simp, fun a ha b hb e => ?_⟩
        simp at hb
        subst hb; subst e
        exact hx ha)
      refine ⟨h1, fun y hy => ?_, x :: t, by rw [h3]; simp⟩
      rcases h2 y hy with e | e
      · rcases List.mem_append.mp e with e | e
        · exact .inl e
        · simp at e; exact .inr (by simp [e])
      · exact .inr (List.mem_cons_of_mem _ e)
theorem liveIds_lt (H : Heap) : ∀ (l : List Nat), ∀ x ∈ liveIds H l, x < H.length
  | [], x, hx => by simp [liveIds] at hx
  | a :: r, x, hx => by
    unfold liveIds at hx
    split at hx
    · exact liveIds_lt H r x hx
    · exact liveIds_lt H r x hx
    · rename_i ha
      rcases List.mem_cons.mp hx with rfl | hx
      · exact (List.getElem?_eq_some_iff.1 ha).1
      · exact liveIds_lt H r x hx
theorem reach_ok (H : Heap) : ∀ (fuel i : Nat) (ids : List Nat), ids.Nodup → (∀ x ∈ ids, x < H.length) → (reach H fuel i ids).Nodup ∧ (∀ x ∈ reach H fuel i ids, x < H.length) ∧ ∃ t, reach H fuel i ids = ids ++ t
  | 0, i, ids, h1, h2 => ⟨h1, h2, [], by simp [reach]⟩
  | fuel + 1, i, ids, h1, h2 => by
    unfold reach
    split
    · exact ⟨h1, h2, [], by simp⟩
    · split
      · rename_i b _
        obtain ⟨g1, g2, t, g3⟩ := addIds_ok (liveIds H b.ids) ids h1
        obtain ⟨k1, k2, t', k3⟩ := reach_ok H fuel (i + 1) _ g1 (fun x hx => (g2 x hx).elim (h2 x) (liveIds_lt H _ x))
        exact ⟨k1, k2, t ++ t', by rw [k3, g3, List.append_assoc]⟩
      · exact reach_ok H fuel (i + 1) ids h1 h2
theorem hpart_eq (H : Heap) (roots : List Nat) : ∃ ids, hpart H roots = (ids, part H ids) ∧ ids.Nodup ∧ ∀ x ∈ ids, x < H.length := by
  obtain ⟨g1, g2, t, g3⟩ := addIds_ok (liveIds H roots) [] (by simp)
  obtain ⟨k1, k2, _⟩ := reach_ok H 64 0 _ g1 (fun x hx => (g2 x hx).elim (fun e => by simp at e) (liveIds_lt H _ x))
  exact ⟨_, rfl, k1, k2⟩

/-! ### what a call comes to -/
def CallOk (P : Program) (F : Fence) (f : FuncId) (xs : Array Value) (w : World) (R : Value → World → Prop) : Prop :=
  (∃ x w', (callFunc f xs).run P w = .ok (.value x) w' ∧ R x w') ∨
  ∃ g ys w1, (callFunc f xs).run P w = .ok (.enter g ys) w1 ∧ CallsIn F 0 P g ys w1 (fun e w' => match e with | .returned x => R x w' | _ => False)
/-- a function does on its part what its meaning says -/
def FOk (P : Program) (F : Fence) (f : FuncId) (sem : Fsem) : Prop :=
  ∀ args H v H', sem args H = some (v, H') → ∀ (ι : Emb) (w : World) (xs : Array Value), VRL ι args xs.toList → HR ι (Heap.fn H) w → (∀ a, H.length ≤ a → ι a = none) →
    CallOk P F f xs w (fun x w' => ∃ ι', VR ι' v x ∧ HR ι' (Heap.fn H') w' ∧ (∀ a, a < H.length → ι' a = ι a) ∧ (∀ a, H'.length ≤ a → ι' a = none) ∧ Stp ι (Heap.fn H) w ι' (Heap.fn H') w')
theorem CallOk.mono {P : Program} {F : Fence} {f : FuncId} {xs : Array Value} {w : World} {R R' : Value → World → Prop} (h : CallOk P F f xs w R) (hr : ∀ x w', R x w' → R' x w') : CallOk P F f xs w R' := by
  rcases h with ⟨x, w', h1, h2⟩ | ⟨g, ys, w1, h1, h2⟩
  · exact .inl ⟨x, w', h1, hr _ _ h2⟩
  · refine .inr ⟨g, ys, w1, h1, h2.mono fun e w' he => ?_⟩
    cases e with
    | returned x => exact hr _ _ he
    | panicked c => exact he
    | outgrown => exact he

section
variable {β : Type} {P : Program} {F : Fence} {T : TT} {ι : Emb} {w : World} {h : HF} {r : β}
theorem onCall_inv {x : Option (AV × Heap)} {q : AV → Heap → Option β} (he : onCall x q = some r) : ∃ v H, x = some (v, H) ∧ q v H = some r := by
  cases x with
  | none => rw [onCall_none] at he; cases he
  | some p => obtain ⟨v, H⟩ := p; rw [onCall_some] at he; exact ⟨v, H, rfl, he⟩
theorem cutE_ren {H : Heap} {ids : List Nat} {args : List AV} {xs : List Value} (hv : VRL ι args xs) : VRL (cutE ι ids) (AV.renL (posOf ids 0) args) xs := hv.ren fun a l b => cutE_pos
theorem onPart_ok {f : FuncId} {sem : Fsem} {args : List AV} {H : Heap} {q : AV → Heap → Option β} (hf : FOk P F f sem) (he : onPart sem args H q = some r) :
    ∃ v H', q v H' = some r ∧ H.length ≤ H'.length ∧ ∀ {ι : Emb} {h : HF} {w : World} {xs : Array Value}, VRL ι args xs.toList → Cov H h → HR ι h w → (∀ a, H.length ≤ a → a < H'.length → ι a = none) →
      CallOk P F f xs w (fun x w' => ∃ ι' h', Wr ι h w H.length H' v ι' h' x w') := by
  unfold onPart at he
  obtain ⟨ids, hp, hnd, hlt⟩ := hpart_eq H (AV.idsL args)
  rw [hp] at he
  simp only at he
  obtain ⟨v, Hl, hs, hq⟩ := onCall_inv he
  obtain ⟨hk, hq⟩ := bif_some hq
  simp only [decide_eq_true_eq] at hk
  have h2 := hf _ _ _ _ hs
  have hlen : (mergeH H ids Hl).length = H.length + (Hl.length - ids.length) := by simp [mergeH, putAll_len, renH_len]
  refine ⟨_, mergeH H ids Hl, hq, by omega, fun {ι h w xs} hv hc hr hfr => ?_⟩
  have hpl : (part H ids).length = ids.length := by simp [part, renH_len, pick_len]
  refine (h2 (cutE ι ids) w xs (cutE_ren (H := H) hv) (hr.part hc hnd) (fun a ha => by simp only [cutE]; rw [List.getElem?_eq_none (by omega)])).mono fun x w' hR => ?_
  obtain ⟨ιl, g1, g2, g3, g4, g5⟩ := hR
  exact (merge_ok hr hc hnd hlt hk (fun a h1 h2 => hfr a h1 (by omega)) (fun i hi => g3 i (by omega)) g4 g2 g5 g1).2

/-- an operation comes to a value, and goes on -/
def OpOk (P : Program) (F : Fence) (o : Oper) (a : Act) (w : World) (R : Value → World → Prop) : Prop :=
  ∀ (K : Act → World → Prop) (Q : Exit → Act → World → Prop), (∀ x w', R x w' → K (a.put o.dst x) w') → o.wpIn F 0 P a w K Q
structure FenceOk (F : Fence) : Prop where
  fn : ∀ f, F.fn f
  depth : F.depth = none
theorem OpOk.value {o : Oper} {a : Act} {R : Value → World → Prop} (hF : FenceOk F) (hd : ∀ c, o.op ≠ .defer c) {x : Value} {w' : World} (hrun : (execOp a.eval o).run P w = .ok (.value x) w') (hR : R x w') : OpOk P F o a w R := by
  intro K Q hK
  refine ⟨fun f _ => hF.fn f, ?_⟩
  rw [Oper.semAt_eq _ _ _ hd, hrun, Oper.uponIn_value]
  exact hK _ _ hR
theorem OpOk.skip {o : Oper} {a : Act} {R : Value → World → Prop} (hF : FenceOk F) (hd : ∀ c, o.op ≠ .defer c) {w' : World} (hrun : (execOp a.eval o).run P w = .ok .skip w') (hR : R undef w') : OpOk P F o a w R := by
  intro K Q hK
  refine ⟨fun f _ => hF.fn f, ?_⟩
  rw [Oper.semAt_eq _ _ _ hd, hrun, Oper.uponIn_skip]
  exact hK _ _ hR
theorem OpOk.call {o : Oper} {a : Act} {R : Value → World → Prop} (hF : FenceOk F) (hd : ∀ c, o.op ≠ .defer c) {f : FuncId} {xs : Array Value} (hrun : (execOp a.eval o).run P w = (callFunc f xs).run P w) (hc : CallOk P F f xs w R) : OpOk P F o a w R := by
  intro K Q hK
  refine ⟨fun f _ => hF.fn f, ?_⟩
  rw [Oper.semAt_eq _ _ _ hd, hrun]
  rcases hc with ⟨x, w', h1, h2⟩ | ⟨g, ys, w1, h1, h2⟩
  · rw [h1, Oper.uponIn_value]; exact hK _ _ h2
  · rw [h1, Oper.uponIn_enter]
    refine ⟨fun e => (by rw [hF.depth] at e; cases e), h2.mono fun e w' he => ?_⟩
    cases e with
    | returned x => exact hK _ _ he
    | panicked c => exact he.elim
    | outgrown => exact he.elim

/-- what is known of a program -/
structure Known (P : Program) (F : Fence) (G : Ctx) : Prop where
  fence : FenceOk F
  ty : TyOK P G.T
  depth : 40 ≤ P.depth
  mixed : P.follows .mixedOrders = true
  calls : ∀ f sem, G.C f = some sem → FOk P F f sem
  meth : ∀ t name f, G.M t name = some f → ∀ (ad : Addr) (w : World), (method (P.types.size + Made.depth) t (.pointer (some ad)) name).run P w = .ok (f, .pointer (some ad)) w

theorem callV_ok {G : Ctx} (hG : Known P F G) {f : FuncId} {args : List AV} {H : Heap} {q : AV → Heap → Option β} (he : callV G f args H q = some r) :
    ∃ v H', q v H' = some r ∧ H.length ≤ H'.length ∧ ∀ {ι : Emb} {h : HF} {w : World} {xs : Array Value}, VRL ι args xs.toList → Cov H h → HR ι h w → (∀ a, H.length ≤ a → a < H'.length → ι a = none) →
      CallOk P F f xs w (fun x w' => ∃ ι' h', Wr ι h w H.length H' v ι' h' x w') := by
  unfold callV at he
  split at he
  · rename_i sem hs
    exact onPart_ok (hG.calls _ _ hs) he
  · cases he

theorem opvs_all {t : Tm} {a : Act} {xs : List Operand} (h : TRel ι t a.tmps xs) {ys : Array Operand} (hy : ∀ y ∈ ys.toList, y ∈ xs) : VRL ι (opvs t ys.toList) (ys.map a.eval).toList := by
  rw [Array.toList_map]; exact opvs_ok h hy
theorem evWrite_ok {G : Ctx} (hG : Known P F G) {t : Tm} {H : Heap} {o : Oper} {q : AV → Heap → Option β} (he : evWrite G t H o.op q = some r) :
    ∃ v H', q v H' = some r ∧ H.length ≤ H'.length ∧ ∀ {ι : Emb} {h : HF} {w : World} {a : Act}, TRel ι t a.tmps o.op.operands.toList → Cov H h → HR ι h w → (∀ a, H.length ≤ a → a < H'.length → ι a = none) →
      OpOk P F o a w (fun x w' => ∃ ι' h', Wr ι h w H.length H' v ι' h' x w') := by
  obtain ⟨dst, op, ty, pos, af, gd⟩ := o
  simp only at he ⊢
  unfold evWrite at he
  split at he
  · rename_i tx x v
    obtain ⟨H', hq, hl, h1⟩ := storeV_ok (P := P) hG.ty he
    refine ⟨_, H', hq, hl, fun {ι h w a} ht hc hr hfr => ?_⟩
    obtain ⟨h', w', hrun, hw⟩ := h1 (opv_ok (a := a) ht (x := x) (by simp [Op.operands])) (opv_ok (a := a) ht (x := v) (by simp [Op.operands])) hc hr hfr
    exact OpOk.skip hG.fence (by simp) (w' := w') (by simp [execOp, hrun]) ⟨ι, h', hw⟩
  · rename_i x isStr
    obtain ⟨v, H', hq, hl, h1⟩ := nextV_ok (P := P) he
    refine ⟨v, H', hq, hl, fun {ι h w a} ht hc hr hfr => ?_⟩
    obtain ⟨h', z, w', hrun, hw⟩ := h1 (opv_ok (a := a) ht (x := x) (by simp [Op.operands])) hc hr
    exact OpOk.value hG.fence (by simp) (x := z) (w' := w') (by simp [execOp, hrun]) ⟨ι, h', hw⟩
  · rename_i src dt x
    obtain ⟨v, H', hq, hl, h1⟩ := convW_ok (P := P) hG.ty he
    refine ⟨v, H', hq, hl, fun {ι h w a} ht hc hr hfr => ?_⟩
    obtain ⟨h', z, w', hrun, hw⟩ := h1 (opv_ok (a := a) ht (x := x) (by simp [Op.operands])) hc hr
    exact OpOk.value hG.fence (by simp) (x := z) (w' := w') (by simp [execOp, hrun]) ⟨ι, h', hw⟩
  · rename_i c
    obtain ⟨callee, args, ats⟩ := c
    simp only at he
    split at he
    · split at he
      · rename_i s x hl
        obtain ⟨v, H', hq, hle, h1⟩ := appendV_ok (P := P) hG.ty he
        refine ⟨v, H', hq, hle, fun {ι h w a} ht hc hr hfr => ?_⟩
        have hv := opvs_all (a := a) ht (ys := args) fun y hy => by simpa [Op.operands, Call.operands] using hy
        rw [hl] at hv
        obtain ⟨vs, l1, e1, hvs, vx, l2, e2, hvx, e3⟩ := hv
        subst e3; subst e2
        have hargs : args.map a.eval = #[vs, vx] := Array.ext' (by simpa using e1)
        obtain ⟨ι', h', y, w', hrun, hw⟩ := h1 ty hvs hvx hc hr hfr
        exact OpOk.value hG.fence (by simp) (x := y) (w' := w') (by simp [execOp, resolve, invoke, builtin, hargs, hrun]) ⟨ι', h', hw⟩
      · cases he
    · split at he
      · rename_i s x hl
        obtain ⟨v, H', hq, hle, h1⟩ := copyV_ok (P := P) hG.ty he
        refine ⟨v, H', hq, hle, fun {ι h w a} ht hc hr hfr => ?_⟩
        have hv := opvs_all (a := a) ht (ys := args) fun y hy => by simpa [Op.operands, Call.operands] using hy
        rw [hl] at hv
        obtain ⟨vs, l1, e1, hvs, vx, l2, e2, hvx, e3⟩ := hv
        subst e3; subst e2
        have hargs : args.map a.eval = #[vs, vx] := Array.ext' (by simpa using e1)
        obtain ⟨h', y, w', hrun, hw⟩ := h1 ty hvs hvx hc hr
        exact OpOk.value hG.fence (by simp) (x := y) (w' := w') (by simp [execOp, resolve, invoke, builtin, hargs, hrun]) ⟨ι, h', hw⟩
      · cases he
    · cases he
    · rename_i f
      split at he
      · rename_i g first caps hf
        obtain ⟨v, H', hq, hle, h1⟩ := callV_ok hG he
        refine ⟨v, H', hq, hle, fun {ι h w a} ht hc hr hfr => ?_⟩
        have hv := opvs_all (a := a) ht (ys := args) fun y hy => by simp [Op.operands, Call.operands]; exact .inr (by simpa using hy)
        have hfv := opv_ok (a := a) ht (x := f) (by simp [Op.operands, Call.operands])
        rw [hf] at hfv
        obtain ⟨xs', cs', e, g1, g2⟩ := hfv
        refine OpOk.call hG.fence (by simp) (f := g) (xs := xs' ++ args.map a.eval ++ cs') (by simp [execOp, resolve, Deferred.ofValue, e, invoke]) (h1 ?_ hc hr hfr)
        rw [Array.toList_append, Array.toList_append]
        exact (g1.append hv).append g2
      · cases he
    · rename_i rc name
      split at he
      · rename_i tt a1 b1 i1 st1 hrc
        split at he
        · rename_i f hm
          obtain ⟨v, H', hq, hle, h1⟩ := callV_ok hG he
          refine ⟨v, H', hq, hle, fun {ι h w a} ht hc hr hfr => ?_⟩
          have hv := opvs_all (a := a) ht (ys := args) fun y hy => by simp [Op.operands, Call.operands]; exact .inr (by simpa using hy)
          have hfv := opv_ok (a := a) ht (x := rc) (by simp [Op.operands, Call.operands])
          rw [hrc] at hfv
          obtain ⟨x', e, hx'⟩ := hfv
          obtain ⟨l, hl, e2⟩ := hx'
          have hmr := hG.meth _ _ _ hm (l.at (b1 + i1 * st1)) w
          refine OpOk.call hG.fence (by simp) (f := f) (xs := #[x'] ++ args.map a.eval) (by
            subst e2
            have e0 : ∀ (x : Value) (ys : Array Value), (#[x] ++ ys)[0]? = some x := fun x ys => by simp [Array.getElem?_append]
            have e1 : ∀ (x : Value) (ys : Array Value), (#[x] ++ ys).extract 1 (#[x] ++ ys).size = ys := fun x ys => by
              apply Array.ext'
              simp
            simp only [execOp, resolve, e, invoke, Sem.run_bind, Sem.run_pure, Result.andThen_ok, e0, e1]
            simp [callMethod, hmr]) (h1 ?_ hc hr hfr)
          rw [Array.toList_append]
          exact ⟨x', _, rfl, ⟨l, hl, e2⟩, hv⟩
        · cases he
      · cases he
  · cases he

theorem evOp_ok {G : Ctx} (hG : Known P F G) {s : St} {o : Oper} {q : AV → Heap → Option β} (he : evOp G s o q = some r) {ι : Emb} {h : HF} {w : World} {a : Act}
    (ht : TRel ι s.t a.tmps o.op.operands.toList) (hc : Cov s.H h) (hr : HR ι h w) :
    ∃ v H', q v H' = some r ∧ s.H.length ≤ H'.length ∧ ((∀ a, s.H.length ≤ a → a < H'.length → ι a = none) → OpOk P F o a w (fun x w' => ∃ ι' h', Wr ι h w s.H.length H' v ι' h' x w')) := by
  have hd : ∀ c, o.op ≠ .defer c := fun c hc => by
    have : evOp G s o q = none := by unfold evOp; rw [hc]; rfl
    rw [this] at he; cases he
  unfold evOp at he
  split at he
  · obtain ⟨v, x, hq, hx, hrun⟩ := evPure_ok (w := w) hG.ty hG.depth he ht
    exact ⟨v, s.H, hq, Nat.le_refl _, fun _ => OpOk.value hG.fence hd hrun ⟨ι, h, Wr.pure hx hc hr⟩⟩
  · obtain ⟨v, bs, hq, h1⟩ := evAlloc_ok (P := P) hG.ty he
    refine ⟨v, s.H ++ bs, hq, by simp, fun hfr => ?_⟩
    have hfr' : ∀ i, i < bs.length → ι (s.H.length + i) = none := fun i hi => hfr _ (by omega) (by simp; omega)
    obtain ⟨sm, ι', x, w', al, hex⟩ := h1 ht hr hfr'
    exact OpOk.value hG.fence hd (x := x) (w' := w') (by rw [hex]; simp [al.run]) ⟨ι', _, al.wr hc hfr'⟩
  · obtain ⟨v, hq, h1⟩ := evRead_ok (P := P) hG.ty he
    refine ⟨v, s.H, hq, Nat.le_refl _, fun _ => ?_⟩
    obtain ⟨x, hx, hrun⟩ := h1 ht hc.l hr
    exact OpOk.value hG.fence hd hrun ⟨ι, h, Wr.pure hx hc hr⟩
  · obtain ⟨v, H', hq, hle, h1⟩ := evWrite_ok hG he
    exact ⟨v, H', hq, hle, fun hfr => h1 ht hc hr hfr⟩
end
end Go.Abs
