/-
A region without an order of its own: each operation in its turn, on.
-/
import Derived.Test.YtnkjpkfijafkgaaB5
set_option linter.unusedVariables false
set_option linter.unusedSimpArgs false
namespace Go.Abs
section
variable {P : Program} {F : Fence} {G : Ctx} {all : List Oper} {rs : List Rec} {s0 s' : St} {B : Base} {d : Draw}

theorem Al.stp {T : TT} {ι ι' : Emb} {h : HF} {w w' : World} {n : Nat} {v : AV} {bs : List Blk} {s : Sem Value} {x : Value} (al : Al P ι h w n v bs s ι' x w') (hn : ∀ i, i < bs.length → ι (n + i) = none) : Stp ι h w ι' (addB h n bs) w' := by
  have hl : ((List.range n).map h).length = n := by simp
  have hc : Cov ((List.range n).map h) h := fun a ha => by
    rw [hl] at ha
    rw [fn_eq]
    simp [ha]
  have al' : Al P ι h w ((List.range n).map h).length v bs s ι' x w' := by rw [hl]; exact al
  have := (al'.wr hc (by rw [hl]; exact hn)).stp
  rwa [hl] at this
theorem newB_get {keep : List Nat} : ∀ {l : List Rec} {i y : Nat} {b : Blk}, (newB keep i l)[y]? = some b → b.live = true → (∀ r ∈ l, r.H0.length ≤ r.H.length) → ∀ n, (∀ (j : Nat) (r : Rec), l[j]? = some r → r.H0.length = match j with | 0 => n | j + 1 => (match l[j]? with | some r' => r'.H.length | none => 0)) →
    ∃ (j : Nat) (r : Rec), l[j]? = some r ∧ (i + j) ∈ keep ∧ r.H0.length ≤ n + y ∧ n + y < r.H.length ∧ Heap.fn r.H (n + y) = b
  | [], i, y, b, h, _, _, n, _ => by simp [newB] at h
  | r :: l, i, y, b, h, hb, hle, n, hn => by
    have hr0 : r.H0.length = n := hn 0 r rfl
    have hrl := hle r (List.mem_cons_self ..)
    unfold newB at h
    rcases Nat.lt_or_ge y (r.H.length - r.H0.length) with g | g
    · cases hk : memN keep i with
      | true =>
        rw [hk] at h
        simp only [cond_true] at h
        rw [List.getElem?_append_left (by simp; omega), List.getElem?_drop] at h
        refine ⟨0, r, rfl, (memN_iff _ _).mp hk, by omega, by omega, ?_⟩
        rw [fn_eq, ← hr0, h]
        rfl
      | false =>
        rw [hk] at h
        simp only [cond_false] at h
        rw [List.getElem?_append_left (by simp; omega)] at h
        simp [g] at h
        subst h
        cases hb
    · have hlen : (bif memN keep i then r.H.drop r.H0.length else List.replicate (r.H.length - r.H0.length) Blk.dead).length = r.H.length - r.H0.length := by
        cases memN keep i <;> simp
      rw [List.getElem?_append_right (by rw [hlen]; exact g), hlen] at h
      obtain ⟨j, r', h1, h2, h3, h4, h5⟩ := newB_get h hb (fun q hq => hle q (List.mem_cons_of_mem _ hq)) r.H.length (fun j q hq => by
        have := hn (j + 1) q (by simpa using hq)
        cases j with
        | zero => simpa using this
        | succ j => simpa using this)
      have e : r.H.length + (y - (r.H.length - r.H0.length)) = n + y := by omega
      rw [e] at h3 h4 h5
      exact ⟨j + 1, r', by simpa using h1, by rw [show i + (j + 1) = i + 1 + j by omega]; exact h2, h3, h4, h5⟩
theorem nthR_get : ∀ {l : List Rec} {i : Nat} {r : Rec}, l[i]? = some r → nthR l i = some r
  | [], i, r, h => by simp at h
  | x :: l, 0, r, h => by simpa [nthR] using h
  | x :: l, i + 1, r, h => by simp only [nthR, Nat.succ_ne_zero, if_false, Nat.add_sub_cancel]; exact nthR_get (by simpa using h)

/-- the heap that a read may count on -/
theorem heapAt_cov {T : TT} (t : Tr P F T all rs s0 s') {E : Nat → Prop} {h : HF} {p : Nat} {keep : List Nat} (hp : p ≤ all.length) (hkeep : ∀ j ∈ keep, E j)
    (p3 : ∀ x, x < (htx rs s0.H p).length → h x = Heap.fn (htx rs s0.H p) x) (p4 : ∀ j, E j → p ≤ j → j < all.length → ∀ x, rng rs s0 j x → h x = Heap.fn (htx rs s0.H (j + 1)) x) : CovL (heapAt rs s0.H (capOf p) keep) h := by
  have e : heapAt rs s0.H (capOf p) keep = htx rs s0.H p ++ newB keep p (rs.drop p) := by
    cases p with
    | zero => simp [heapAt, capOf, htx]
    | succ w =>
      obtain ⟨o, r, ho, hr⟩ := t.op (i := w) (by omega)
      simp only [heapAt, capOf, nthR_get hr, htx, hr]
  rw [e]
  intro a b ha hb
  rcases Nat.lt_or_ge a (htx rs s0.H p).length with g | g
  · rw [List.getElem?_append_left g] at ha
    rw [p3 a g, fn_eq, ha]
    rfl
  · rw [List.getElem?_append_right g] at ha
    have hstp : ∀ (j : Nat) (r : Rec), rs[j]? = some r → r.H0 = htx rs s0.H j ∧ r.H = htx rs s0.H (j + 1) ∧ r.H0.length ≤ r.H.length := fun j r hr => by
      have hj := (List.getElem?_eq_some_iff.1 hr).1
      rw [t.len] at hj
      have ho : all[j]? = some all[j] := List.getElem?_eq_getElem hj
      obtain ⟨k1, k2, _⟩ := t.at_ j _ r ho hr
      exact ⟨k2, (htx_succ hr).symm, k1.le⟩
    obtain ⟨j, r, h1, h2, h3, h4, h5⟩ := newB_get ha hb (fun r hr => by
      obtain ⟨j, hj⟩ := List.getElem?_of_mem hr
      rw [List.getElem?_drop] at hj
      exact (hstp _ r hj).2.2) (htx rs s0.H p).length (fun j r hj => by
      rw [List.getElem?_drop] at hj
      cases j with
      | zero => rw [(hstp _ r hj).1]; rfl
      | succ j =>
        simp only [List.getElem?_drop]
        have hj' := (List.getElem?_eq_some_iff.1 hj).1
        have hq : rs[p + j]? = some rs[p + j] := List.getElem?_eq_getElem (by omega)
        rw [(hstp _ r hj).1, hq]
        simp only
        rw [(hstp _ _ hq).2.1]
        rfl)
    rw [List.getElem?_drop] at h1
    have hjN := (List.getElem?_eq_some_iff.1 h1).1
    rw [t.len] at hjN
    obtain ⟨e1, e2, _⟩ := hstp _ r h1
    rw [show (htx rs s0.H p).length + (a - (htx rs s0.H p).length) = a by omega] at h3 h4 h5
    rw [p4 (p + j) (hkeep _ h2) (by omega) hjN a ⟨by rw [← e1]; exact h3, by rw [← e2]; exact h4⟩, ← e2, h5]

/-- what the reads that may see other heaps were asked -/
def EntOk (G : Ctx) (all : List Oper) (rs : List Rec) (H0 : Heap) (e : Nat × Option Nat × List Nat) : Prop :=
  ∀ (o : Oper) (r : Rec), all[e.1]? = some o → rs[e.1]? = some r → r.done = true → evRead G.T r.t (heapAt rs H0 e.2.1 e.2.2) o.op some = some r.v

theorem exec (hG : Known P F G) (t : Tr P F G.T all rs s0 s') (hd : DrawS G.T all d) (hfit : ∀ (j : Nat) (o : Oper) (k : Nat), all[j]? = some o → o.dst = some k → k < B.nt) (hents : ∀ e ∈ d.ents, EntOk G all rs s0.H e)
    {ops : Array Oper} (hops : ops.toList = all) {E : Nat → Prop} {a : Act} {w : World} {ι : Emb} {h : HF} (v : InvD B G.T all rs s0 E a w ι h) {i : Nat} (hi : i < all.length) (tn : Turn G.T all d E i)
    {Q : Exit → Act → World → Prop} {K : Act → World → Prop} (hK : ∀ a' w' ι' h', InvD B G.T all rs s0 (fun j => E j ∨ j = i) a' w' ι' h' → K a' w') : wpOpIn F 0 P ops Q i K a w := by
  obtain ⟨o, r, ho, hrc⟩ := t.op hi
  obtain ⟨hst, hH0, _⟩ := t.at_ i o r ho hrc
  have hH : htx rs s0.H (i + 1) = r.H := htx_succ hrc
  have hoo : ops[i]? = some o := by rw [← hops] at ho; simpa using ho
  have hwt := wanted_ok t hd hops v ho hrc tn
  have htr := trel_ok t hd v ho hrc tn
  unfold wpOpIn
  rw [hoo]
  simp only
  -- one that lays nothing, and leaves the heap
  have same : ∀ {x : Value}, r.H = r.H0 → VR ι r.v x → K (a.put o.dst x) w := fun {x} hsame hv => by
    have hHs : htx rs s0.H (i + 1) = htx rs s0.H i := by rw [hH, hsame, hH0]
    refine hK _ _ ι h (v.next t hd hfit ho hrc tn.no hv (Sub.refl ι) v.hr (Stp.refl ι h w) (fun _ _ => rfl) ?_)
    by_cases hw : isW G.T o
    · exact hp_write t hd v ho tn hw (by rw [hHs]; exact cov_turn t hd v ho tn hw) (fun _ _ => rfl)
    · exact hp_same t v ho hw hHs
  cases hdone : r.done with
  | false =>
    rw [hdone] at hwt
    rw [if_neg (by rw [hwt]; simp)]
    refine ⟨fun f _ => hG.fence.fn f, same (hst.skip hdone).1 (by rw [(hst.skip hdone).2]; exact undef_vr ι)⟩
  | true =>
    rw [hdone] at hwt
    rw [if_pos hwt]
    have hnd := hst.nodefer hdone
    cases hst.fact hdone with
    | pure hk hsame hf =>
      obtain ⟨x, hx, hrun⟩ := hf (w := w) htr
      exact OpOk.value (R := fun y w' => y = x ∧ w' = w) hG.fence hnd hrun ⟨rfl, rfl⟩ K Q fun y w' ⟨e1, e2⟩ => by subst e1; subst e2; exact same hsame hx
    | read hk hsame hf =>
      have : ∃ x, VR ι r.v x ∧ (execOp a.eval o).run P w = .ok (.value x) w := by
        rcases hd.rd i o ho hk with ⟨h1, h2⟩ | hc
        · refine hf htr (Cov.l ?_) v.hr
          rw [hH0]
          refine v.cov t (by omega) (fun j o' hj ho' hl => tn.anc j (h1 j o' hj ho' hl)) fun j o' hj ho' hw' hE => ?_
          by_cases e : j = i
          · subst e; exact tn.no hE
          · exact tn.cl j hE (h2 j o' (by omega) ho' hw')
        · obtain ⟨p, p0, p1, p2, p3, p4, p5⟩ := v.hp
          obtain ⟨keep, hmem, hkeep⟩ := hc p ⟨p1.imp id fun ⟨w, o', e, hw, ho', hk'⟩ => ⟨w, o', e, ho', hk', fun e => by subst e; exact tn.no hw, tn.cl w hw⟩, fun j o' ho' hw' hA => p2 j o' (tn.anc j hA) ho' hw'⟩
          have he := hents _ hmem o r ho hrc hdone
          obtain ⟨v', hq, h1⟩ := evRead_ok (P := P) (t := r.t) (o := o) hG.ty he
          simp only [Option.some.injEq] at hq
          subst hq
          exact h1 htr (heapAt_cov t p0 (fun j hj => tn.anc j (hkeep j hj).1) p3 p4) v.hr
      obtain ⟨x, hx, hrun⟩ := this
      exact OpOk.value (R := fun y w' => y = x ∧ w' = w) hG.fence hnd hrun ⟨rfl, rfl⟩ K Q fun y w' ⟨e1, e2⟩ => by subst e1; subst e2; exact same hsame hx
    | alloc hk bs hbs hf =>
      have hw : ¬ isW G.T o := fun e => by unfold isW at e; rw [hk] at e; cases e
      have hfr : ∀ y, rng rs s0 i y → ι y = none := fun y hy => by
        have hm : s0.H.length ≤ (htx rs s0.H i).length := t.mono (i := 0) (by omega) (by omega)
        have h1 := hy.1
        refine v.fresh y (by omega) fun j hj hjN hr => ?_
        have := rng_one t hi hjN hy hr
        subst this
        exact tn.no hj
      have hlen : (htx rs s0.H (i + 1)).length = (htx rs s0.H i).length + bs.length := by rw [hH, hbs, hH0]; simp
      have hfr' : ∀ k, k < bs.length → ι (r.H0.length + k) = none := fun k hk => hfr _ ⟨by rw [← hH0]; omega, by rw [hlen, ← hH0]; omega⟩
      obtain ⟨s, ι', x, w', al, hex⟩ := hf (h := h) htr v.hr hfr'
      refine OpOk.value (R := fun y w1 => y = x ∧ w1 = w') hG.fence hnd (x := x) (w' := w') (by rw [hex]; simp [al.run]) ⟨rfl, rfl⟩ K Q fun y w1 ⟨e1, e2⟩ => ?_
      subst e1; subst e2
      obtain ⟨p, p0, p1, p2, p3, p4, p5⟩ := v.hp
      have hpi := last_before t hd ho tn (.inr hk) p1
      have hnr : ∀ y, ¬ rng rs s0 i y → (y < r.H0.length ∨ r.H0.length + bs.length ≤ y) := fun y hy => by
        rcases Nat.lt_or_ge y r.H0.length with g | g
        · exact .inl g
        · exact .inr (by
            rcases Nat.lt_or_ge y (r.H0.length + bs.length) with g' | g'
            · exact absurd ⟨by rw [← hH0]; exact g, by rw [hlen, ← hH0]; exact g'⟩ hy
            · exact g')
      refine hK _ _ ι' _ (v.next t hd hfit ho hrc tn.no al.val al.sub al.hr (al.stp (T := G.T) hfr') (fun y hy => al.out y (hnr y hy)) ?_)
      refine ⟨p, p0, p1.imp id fun ⟨w, o, e, h1, h2, h3⟩ => ⟨w, o, e, .inl h1, h2, h3⟩, fun j o' hj ho' hw' => ?_, fun y hy => ?_, fun j hj hpj hjN y hy => ?_, fun y hy hno => ?_⟩
      · rcases hj with hj | rfl
        · exact p2 j o' hj ho' hw'
        · rw [ho] at ho'; cases ho'; exact absurd hw' hw
      · have := t.mono hpi (by omega)
        rw [addB_out (.inl (by rw [hH0]; omega))]
        exact p3 y hy
      · rcases hj with hj | rfl
        · rw [addB_out (hnr y fun hr => by
            have := rng_one t hjN hi hy hr
            subst this
            exact tn.no hj)]
          exact p4 j hj hpj hjN y hy
        · have h1 := hy.1
          have h2 := hy.2
          rw [hlen] at h2
          rw [← hH0] at h1 h2
          have hb : bs[y - r.H0.length]? = some bs[y - r.H0.length] := List.getElem?_eq_getElem (by omega)
          have := addB_in (h := h) (n := r.H0.length) hb
          rw [show r.H0.length + (y - r.H0.length) = y by omega] at this
          rw [this, hH, hbs, fn_eq, List.getElem?_append_right h1, hb]
          rfl
      · rw [addB_out (hnr y (hno i (.inr rfl) hpi hi))]
        exact p5 y hy fun j hj hpj hjN => hno j (.inl hj) hpj hjN
    | write hk hle hf =>
      have hcov := cov_turn t hd v ho tn hk
      rw [← hH0] at hcov
      refine hf htr hcov v.hr (fun y h1 h2 => ?_) K Q fun x w' ⟨ι', h', hw⟩ => ?_
      · have hm : s0.H.length ≤ (htx rs s0.H i).length := t.mono (i := 0) (by omega) (by omega)
        rw [hH0] at h1
        refine v.fresh y (by omega) fun j hj hjN hr => ?_
        have := rng_one t hi hjN ⟨h1, by rw [hH]; exact h2⟩ hr
        subst this
        exact tn.no hj
      · refine hK _ _ ι' h' (v.next t hd hfit ho hrc tn.no hw.val hw.sub hw.hr hw.stp (fun y hy => ?_) (hp_write t hd v ho tn hk (by rw [hH]; exact hw.cov) (fun y hy => (hw.out y (by rw [← hH]; exact hy)).2)))
        rcases Nat.lt_or_ge y r.H0.length with g | g
        · exact hw.old y g
        · refine (hw.out y ?_).1
          rcases Nat.lt_or_ge y r.H.length with g' | g'
          · exact absurd ⟨by rw [← hH0]; exact g, by rw [hH]; exact g'⟩ hy
          · exact g'
end
end Go.Abs
