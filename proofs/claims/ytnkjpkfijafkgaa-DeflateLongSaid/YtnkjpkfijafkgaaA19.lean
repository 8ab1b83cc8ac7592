/-
Regions, code, loops: what the interpreter says of a body, 'Code.wpIn' has.
-/
import Derived.Test.YtnkjpkfijafkgaaA18
import Derived.TacticsIn
set_option linter.unusedVariables false
set_option linter.unusedSimpArgs false
namespace Go.Abs

/-- every slot that is written is one of a frame's -/
def fitsO (nt : Nat) : List Oper → Bool
  | [] => true
  | o :: r => (match o.dst with | some d => decide (d < nt) | none => true) && fitsO nt r
def fitsC (nt : Nat) : Code → Bool
  | .region _ ops _ => fitsO nt ops.toList
  | .seq a b => fitsC nt a && fitsC nt b
  | .cond _ a b => fitsC nt a && fitsC nt b
  | .block _ c => fitsC nt c
  | .loop c => fitsC nt c
  | _ => true

/-- where a function began -/
structure Base where
  m : Nat
  ι : Emb
  h : HF
  w : World
  nt : Nat
/-- a state of the interpreter stands for the frame's slots and the world -/
structure RelI (B : Base) (s : St) (a : Act) (w : World) (ι : Emb) : Prop where
  t : ∀ k, VR ι (lk s.t k) (a.tmps.getD k undef)
  hr : HR ι (Heap.fn s.H) w
  m : B.m ≤ s.H.length
  old : ∀ i, i < B.m → ι i = B.ι i
  fresh : ∀ i, s.H.length ≤ i → ι i = none
  stp : Stp B.ι B.h B.w ι (Heap.fn s.H) w
  defers : a.defers = []
  size : B.nt ≤ a.tmps.size
def Rel (B : Base) (s : St) (a : Act) (w : World) : Prop := ∃ ι, RelI B s a w ι

section
variable {P : Program} {F : Fence} {G : Ctx} {B : Base}

theorem undef_vr (ι : Emb) : VR ι (.tuple []) undef := ⟨#[], rfl, rfl⟩
theorem put_slots {ι ι' : Emb} {s : St} {a : Act} {d : Option Tmp} {v : AV} {x : Value} {H' : Heap} (h : ∀ k, VR ι (lk s.t k) (a.tmps.getD k undef)) (hs : Sub ι ι') (hv : VR ι' v x) (hd : ∀ k, d = some k → k < a.tmps.size) :
    ∀ k, VR ι' (lk (St.put ⟨s.t, H'⟩ d v).t k) ((a.put d x).tmps.getD k undef) := by
  intro k
  cases d with
  | none => exact (h k).mono hs
  | some d =>
    simp only [St.put, Act.put, lk]
    by_cases e : d = k
    · subst e
      rw [if_pos rfl]
      simp [Array.getD, hd d rfl, hv]
    · rw [if_neg e]
      have : (a.tmps.setIfInBounds d x).getD k undef = a.tmps.getD k undef := by
        simp only [Array.getD_eq_getD_getElem?]
        rw [Array.getElem?_setIfInBounds_ne e]
      rw [this]
      exact (h k).mono hs
theorem put_defers (a : Act) (d : Option Tmp) (x : Value) : (a.put d x).defers = a.defers := by cases d <;> rfl
theorem put_size (a : Act) (d : Option Tmp) (x : Value) : (a.put d x).tmps.size = a.tmps.size := by cases d <;> simp [Act.put]
theorem RelI.wr {s : St} {a : Act} {w w' : World} {ι ι' : Emb} {h' : HF} {H' : Heap} {v : AV} {x : Value} {d : Option Tmp} (hr : RelI B s a w ι) (hw : Wr ι (Heap.fn s.H) w s.H.length H' v ι' h' x w') (hle : s.H.length ≤ H'.length)
    (hd : ∀ k, d = some k → k < B.nt) : RelI B (St.put ⟨s.t, H'⟩ d v) (a.put d x) w' ι' where
  t := put_slots hr.t hw.sub hw.val (fun k hk => Nat.lt_of_lt_of_le (hd k hk) hr.size)
  hr := by
    have hH : (St.put ⟨s.t, H'⟩ d v).H = H' := by cases d <;> rfl
    rw [hH]
    have e : h' = Heap.fn H' := by
      funext x
      rcases Nat.lt_or_ge x H'.length with g | g
      · exact hw.cov x g
      · rw [(hw.out x g).2, fn_eq, fn_eq, List.getElem?_eq_none g, List.getElem?_eq_none (by omega)]
    rw [← e]
    exact hw.hr
  m := by
    have hH : (St.put ⟨s.t, H'⟩ d v).H = H' := by cases d <;> rfl
    rw [hH]
    have := hr.m
    omega
  old := fun i hi => by rw [hw.old i (Nat.lt_of_lt_of_le hi hr.m)]; exact hr.old i hi
  fresh := fun i hi => by
    have hH : (St.put ⟨s.t, H'⟩ d v).H = H' := by cases d <;> rfl
    rw [hH] at hi
    rw [(hw.out i hi).1]
    exact hr.fresh i (by omega)
  stp := by
    have hH : (St.put ⟨s.t, H'⟩ d v).H = H' := by cases d <;> rfl
    rw [hH]
    have e : h' = Heap.fn H' := by
      funext x
      rcases Nat.lt_or_ge x H'.length with g | g
      · exact hw.cov x g
      · rw [(hw.out x g).2, fn_eq, fn_eq, List.getElem?_eq_none g, List.getElem?_eq_none (by omega)]
    rw [← e]
    exact hr.stp.trans hw.stp
  defers := by rw [put_defers]; exact hr.defers
  size := by rw [put_size]; exact hr.size
theorem RelI.slot {s : St} {a : Act} {w : World} {ι : Emb} (hr : RelI B s a w ι) {d : Option Tmp} {v : AV} {x : Value} (hv : VR ι v x) (hd : ∀ k, d = some k → k < B.nt) : RelI B (s.put d v) (a.put d x) w ι := by
  have hH : (s.put d v).H = s.H := by cases d <;> rfl
  refine ⟨?_, ?_, ?_, hr.old, ?_, ?_, by rw [put_defers]; exact hr.defers, by rw [put_size]; exact hr.size⟩
  · exact put_slots (s := s) (H' := s.H) hr.t (Sub.refl ι) hv (fun k hk => Nat.lt_of_lt_of_le (hd k hk) hr.size)
  · rw [hH]; exact hr.hr
  · rw [hH]; exact hr.m
  · rw [hH]; exact hr.fresh
  · rw [hH]; exact hr.stp
/-- a slot may be laid anew with what it holds -/
theorem RelI.know {s : St} {a : Act} {w : World} {ι : Emb} (hr : RelI B s a w ι) {d : Tmp} {v : AV} (hv : VR ι v (a.tmps.getD d undef)) : RelI B (s.put (some d) v) a w ι := by
  refine ⟨fun k => ?_, hr.hr, hr.m, hr.old, hr.fresh, hr.stp, hr.defers, hr.size⟩
  simp only [St.put, lk]
  by_cases e : d = k
  · subst e; rw [if_pos rfl]; exact hv
  · rw [if_neg e]; exact hr.t k

theorem nthO_get : ∀ {l : List Oper} {i : Nat} {o : Oper}, nthO l i = some o → l[i]? = some o
  | [], i, o, h => by simp [nthO] at h
  | x :: r, i, o, h => by
    unfold nthO at h
    by_cases hi : i = 0
    · rw [if_pos hi] at h; cases h; subst hi; rfl
    · rw [if_neg hi] at h
      obtain ⟨j, rfl⟩ : ∃ j, i = j + 1 := ⟨i - 1, by omega⟩
      have := nthO_get h
      simpa using this
theorem fitsO_cons {nt : Nat} {o : Oper} {r : List Oper} (h : fitsO nt (o :: r) = true) : (∀ k, o.dst = some k → k < nt) ∧ fitsO nt r = true := by
  simp only [fitsO, Bool.and_eq_true] at h
  refine ⟨fun k hk => ?_, h.2⟩
  have := h.1
  rw [hk] at this
  simpa using this

variable {β : Type} {b : β}
theorem wants_ok {all : List Oper} {ops : Array Oper} (hall : ops.toList = all) {s : St} {o : Oper} {yes no : St → Option β} (he : wants all s o yes no = some b) {a : Act} {w : World} {ι : Emb} (hr : RelI B s a w ι) :
    (Region.wanted o (yielded ops a.tmps) = true ∧ ∃ s', yes s' = some b ∧ RelI B s' a w ι) ∨ (Region.wanted o (yielded ops a.tmps) = false ∧ ∃ s', no s' = some b ∧ RelI B s' a w ι) := by
  unfold wants at he
  split at he
  · rename_i hg
    exact .inl ⟨by simp [Region.wanted, hg], s, he, hr⟩
  · rename_i j want hg
    split at he
    · cases he
    · rename_i g hj
      split at he
      · cases he
      · rename_i d hd
        have hjo : ops[j]? = some g := by
          have := nthO_get hj
          rw [← hall] at this
          simpa using this
        have hsl := hr.t d
        have hy : ∀ x, a.tmps.getD d undef = .bool x → yielded ops a.tmps j = some x := fun x hx => by
          have : a.tmps[d]? = some (.bool x) := by
            rw [Array.getD_eq_getD_getElem?] at hx
            cases h1 : a.tmps[d]? with
            | none => rw [h1] at hx; simp [undef] at hx
            | some y => rw [h1] at hx; simp at hx; rw [hx]
          simp [yielded, hjo, hd, this]
        split at he
        · rename_i x hx
          rw [hx] at hsl
          have hyx := hy x hsl
          have hw : Region.wanted o (yielded ops a.tmps) = (x == want) := by
            simp only [Region.wanted, hg, hyx]
            cases x <;> cases want <;> rfl
          split at he
          · cases x with
            | true => exact .inl ⟨by rw [hw]; rfl, _, he, hr.know hsl⟩
            | false => exact .inr ⟨by rw [hw]; rfl, _, he, hr.know hsl⟩
          · cases x with
            | true => exact .inr ⟨by rw [hw]; rfl, _, he, hr.know hsl⟩
            | false => exact .inl ⟨by rw [hw]; rfl, _, he, hr.know hsl⟩
        · rename_i hx
          rw [hx] at hsl
          obtain ⟨vs', e, hvs⟩ := hsl
          refine .inr ⟨?_, s, he, hr⟩
          have : yielded ops a.tmps j = none := by
            rw [Array.getD_eq_getD_getElem?] at e
            cases h1 : a.tmps[d]? with
            | none => simp [yielded, hjo, hd, h1]
            | some y =>
              rw [h1] at e
              simp at e
              simp [yielded, hjo, hd, h1, e]
          simp [Region.wanted, hg, this]
        · cases he

theorem evList_ok (hG : Known P F G) {all : List Oper} {ops : Array Oper} (hall : ops.toList = all) {Q : Exit → Act → World → Prop} : ∀ {l : List Oper} {s : St} {q : St → Option β}, evList G all l s q = some b → fitsO B.nt l = true →
    (∀ s' a' w', q s' = some b → Rel B s' a' w' → Q .normal a' w') → ∀ {a : Act} {w : World}, Rel B s a w → wpListIn F 0 P ops Q l a w
  | [], s, q, he, hf, hq, a, w, hr => hq s a w he hr
  | o :: r, s, q, he, hf, hq, a, w, hr => by
    obtain ⟨ι, hr⟩ := hr
    obtain ⟨hd, hfr⟩ := fitsO_cons hf
    unfold evList at he
    unfold wpListIn
    rcases wants_ok hall he hr with ⟨hw, s', he', hr'⟩ | ⟨hw, s', he', hr'⟩
    · rw [if_pos hw]
      obtain ⟨v, H', hq', hle, hop⟩ := evOp_ok hG he' (fun k _ => hr'.t k) (Cov.self s'.H) hr'.hr
      refine hop (fun c h1 h2 => hr'.fresh c h1) _ _ fun x w' ⟨ι', h', hwr⟩ => ?_
      exact evList_ok hG hall hq' hfr hq ⟨ι', hr'.wr hwr hle hd⟩
    · rw [if_neg (by rw [hw]; simp)]
      refine ⟨fun f _ => hG.fence.fn f, evList_ok hG hall he' hfr hq ⟨ι, hr'.slot (undef_vr ι) hd⟩⟩

/-! ### the least part -/
theorem upto_ok : ∀ (m : Nat), (upto m).Nodup ∧ (∀ x ∈ upto m, x < m) ∧ (upto m).length = m ∧ ∀ i, i < m → (upto m)[i]? = some i
  | 0 => by simp [upto]
  | m + 1 => by
    obtain ⟨h1, h2, h3, h4⟩ := upto_ok m
    refine ⟨?_, fun x hx => ?_, by simp [upto, h3], fun i hi => ?_⟩
    · unfold upto
      rw [List.nodup_append]
      refine ⟨h1, by simp, fun a ha b hb e => ?_⟩
      simp at hb
      have := h2 a ha
      omega
    · unfold upto at hx
      rcases List.mem_append.mp hx with hx | hx
      · have := h2 x hx; omega
      · simp at hx; omega
    · unfold upto
      by_cases hm : i < m
      · rw [List.getElem?_append_left (by omega)]; exact h4 i hm
      · have : i = m := by omega
        subst this
        rw [List.getElem?_append_right (by omega)]
        simp [h3]
theorem least_ids {H : Heap} {m : Nat} (hm : m ≤ H.length) (roots : List Nat) : ∃ ids, ids = reach H 64 0 (addIds (upto m) (liveIds H roots)) ∧ ids.Nodup ∧ (∀ x ∈ ids, x < H.length) ∧ m ≤ ids.length ∧ ∀ i, i < m → ids[i]? = some i := by
  obtain ⟨u1, u2, u3, u4⟩ := upto_ok m
  obtain ⟨g1, g2, t, g3⟩ := addIds_ok (liveIds H roots) (upto m) u1
  obtain ⟨k1, k2, t', k3⟩ := reach_ok H 64 0 _ g1 (fun x hx => (g2 x hx).elim (fun e => by have := u2 x e; omega) (liveIds_lt H _ x))
  refine ⟨_, rfl, k1, k2, ?_, fun i hi => ?_⟩
  · rw [k3, g3, List.length_append, List.length_append, u3]; omega
  · rw [k3, g3, List.append_assoc, List.getElem?_append_left (by omega)]
    exact u4 i hi
theorem part_stp {ι : Emb} {H : Heap} {w : World} {ids : List Nat} {ι0 : Emb} {h0 : HF} {w0 : World} (hs : Stp ι0 h0 w0 ι (Heap.fn H) w) : Stp ι0 h0 w0 (cutE ι ids) (Heap.fn (part H ids)) w :=
  ⟨hs.size, hs.same, fun b hb ho => hs.own b hb (by obtain ⟨i, a, l, _, h1, h2, h3⟩ := part_own (Cov.self H) ho; exact ⟨a, l, h1, h2, h3⟩),
    fun b hb ho => hs.live b hb (by obtain ⟨i, a, l, _, h1, h2, h3⟩ := part_lives (Cov.self H) ho; exact ⟨a, l, h1, h2, h3⟩), hs.outer⟩
theorem part_len (H : Heap) (ids : List Nat) : (part H ids).length = ids.length := by simp [part, renH_len, pick_len]
theorem keepT_slots {ι : Emb} {ids : List Nat} {t : Tm} {tm : Array Value} (h : ∀ k, VR ι (lk t k) (tm.getD k undef)) : ∀ (keep : List Nat) (k : Nat), VR (cutE ι ids) (lk (renT (posOf ids 0) (keepT t keep)) k) (tm.getD k undef)
  | [], k => trivial
  | x :: r, k => by
    simp only [keepT, renT, lk]
    by_cases e : x = k
    · subst e; rw [if_pos rfl]; exact (h x).ren fun a l b => cutE_pos
    · rw [if_neg e]; exact keepT_slots h r k
theorem Rel.clean {s : St} {a : Act} {w : World} (hr : Rel B s a w) (keep : List Nat) : Rel B (clean B.m keep s) a w := by
  obtain ⟨ι, hr⟩ := hr
  obtain ⟨ids, hids, h1, h2, h3, h4⟩ := least_ids hr.m (idsT (keepT s.t keep))
  refine ⟨cutE ι ids, ?_⟩
  unfold Abs.clean
  simp only
  rw [← hids]
  refine ⟨keepT_slots hr.t keep, hr.hr.part (Cov.self _) h1, ?_, fun i hi => ?_, fun i hi => ?_, part_stp hr.stp, hr.defers, hr.size⟩
  · show B.m ≤ (part s.H ids).length
    rw [part_len]; exact h3
  · simp only [cutE, h4 i hi]
    exact hr.old i hi
  · have : ids.length ≤ i := by
      have hi' : (part s.H ids).length ≤ i := hi
      rwa [part_len] at hi'
    simp only [cutE]
    rw [List.getElem?_eq_none this]

end
end Go.Abs
