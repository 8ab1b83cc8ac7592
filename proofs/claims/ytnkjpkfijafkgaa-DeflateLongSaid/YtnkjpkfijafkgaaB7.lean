/-
A region without an order of its own comes, in whatever order, to what it comes to in the text's.
-/
import Derived.Test.YtnkjpkfijafkgaaB6
set_option linter.unusedVariables false
set_option linter.unusedSimpArgs false
namespace Go.Abs
section
variable {P : Program} {F : Fence} {G : Ctx} {T : TT} {all : List Oper} {rs : List Rec} {s0 s' : St} {B : Base} {d : Draw}

def InL (listed : Array Bool) (j : Nat) : Prop := listed[j]? = some true
def Closed (all : List Oper) (E : Nat → Prop) : Prop := ∀ (i : Nat) (o : Oper), E i → all[i]? = some o → ∀ e ∈ o.after, Region.binds .any e = true → E e.on
theorem anc_in (hd : DrawS T all d) {E : Nat → Prop} (hc : Closed all E) : ∀ (i : Nat) (o : Oper), all[i]? = some o → (∀ e ∈ o.after, Region.binds .any e = true → E e.on) → ∀ j ∈ d.A i, E j := by
  intro i
  induction i using Nat.strongRecOn with
  | _ i ih =>
    intro o ho hdir j hj
    rcases hd.anc i o ho j hj with ⟨e, he, hb, rfl⟩ | ⟨e, he, hb, hj'⟩
    · exact hdir e he hb
    · have hlt := hd.edges i o ho e he hb
      have hi := (List.getElem?_eq_some_iff.1 ho).1
      have ho' : all[e.on]? = some all[e.on] := List.getElem?_eq_getElem (by omega)
      exact ih e.on hlt _ ho' (hc e.on _ (hdir e he hb) ho') j hj'
def cnt (listed : Array Bool) : Nat → Nat
  | 0 => 0
  | n + 1 => cnt listed n + (if listed[n]? = some true then 0 else 1)
theorem cnt_zero {listed : Array Bool} : ∀ {n : Nat}, cnt listed n = 0 → ∀ i, i < n → listed[i]? = some true
  | 0, _, i, hi => by omega
  | n + 1, h, i, hi => by
    simp only [cnt] at h
    by_cases e : listed[n]? = some true
    · by_cases hin : i = n
      · subst hin; exact e
      · exact cnt_zero (n := n) (by omega) i (by omega)
    · rw [if_neg e] at h; omega
theorem cnt_set {listed : Array Bool} {i : Nat} (hs : i < listed.size) (hno : ¬ listed[i]? = some true) : ∀ {n : Nat}, cnt (listed.setIfInBounds i true) n + (if i < n then 1 else 0) = cnt listed n
  | 0 => by simp [cnt]
  | n + 1 => by
    have ih := cnt_set hs hno (n := n)
    simp only [cnt]
    by_cases e : i = n
    · subst e
      have e1 : (if i < i then 1 else 0) = 0 := if_neg (by omega)
      have e2 : (if i < i + 1 then 1 else 0) = 1 := if_pos (by omega)
      rw [e1] at ih
      rw [e2, if_neg hno, Array.getElem?_setIfInBounds_self_of_lt hs, if_pos rfl]
      omega
    · rw [Array.getElem?_setIfInBounds_ne e]
      by_cases h1 : i < n
      · have e1 : (if i < n then 1 else 0) = 1 := if_pos h1
        have e2 : (if i < n + 1 then 1 else 0) = 1 := if_pos (by omega)
        rw [e1] at ih; rw [e2]; omega
      · have e1 : (if i < n then 1 else 0) = 0 := if_neg h1
        have e2 : (if i < n + 1 then 1 else 0) = 0 := if_neg (by omega)
        rw [e1] at ih; rw [e2]; omega

/-- when all is done -/
theorem all_done (t : Tr P F T all rs s0 s') (hd : DrawS T all d) {E : Nat → Prop} {a : Act} {w : World} {ι : Emb} {h : HF} (v : InvD B T all rs s0 E a w ι h) (hall : ∀ i, i < all.length → E i) : Rel B s' a w := by
  have hcov := v.cov t (Nat.le_refl _) (fun j o hj _ _ => hall j hj) (fun j o hj ho _ => by
    have := (List.getElem?_eq_some_iff.1 ho).1
    omega)
  have hfn : h = Heap.fn s'.H := by
    funext x
    rw [t.fin]
    rcases Nat.lt_or_ge x (htx rs s0.H all.length).length with g | g
    · exact hcov x g
    · obtain ⟨p, p0, p1, p2, p3, p4, p5⟩ := v.hp
      rw [fn_eq, List.getElem?_eq_none g]
      refine p5 x (Nat.le_trans (t.mono p0 (Nat.le_refl _)) g) fun j _ _ hjN hr => ?_
      have := t.mono (i := j + 1) (j := all.length) (by omega) (Nat.le_refl _)
      have := hr.2
      omega
  have hm0 : s0.H.length ≤ s'.H.length := by rw [t.fin]; exact t.mono (i := 0) (by omega) (Nat.le_refl _)
  refine ⟨ι, fun k => ?_, hfn ▸ v.hr, Nat.le_trans v.m hm0, v.old, fun i hi => ?_, hfn ▸ v.stp, v.defers, v.size⟩
  · obtain ⟨g1, g2⟩ := t.sl k
    by_cases hex : ∃ (j : Nat) (o : Oper), j < all.length ∧ all[j]? = some o ∧ o.dst = some k
    · obtain ⟨j, o, hj, ho, hk⟩ := hex
      obtain ⟨r, hr⟩ := t.rcd ho
      rw [g1 j o r hj ho hr hk fun j' o' h1 h2 h3 h4 => by
        have := hd.dist j j' o o' k ho h3 hk h4
        omega]
      exact v.sl1 j o r k (hall j hj) ho hr hk
    · rw [g2 fun j o hj ho hk => hex ⟨j, o, hj, ho, hk⟩]
      exact v.sl2 k fun j o _ ho hk => hex ⟨j, o, (List.getElem?_eq_some_iff.1 ho).1, ho, hk⟩
  · refine v.fresh i (by omega) fun j _ hjN hr => ?_
    have := t.mono (i := j + 1) (j := all.length) (by omega) (Nat.le_refl _)
    have := hr.2
    rw [t.fin] at hi
    omega

theorem any_ok (hG : Known P F G) (t : Tr P F G.T all rs s0 s') (hd : DrawS G.T all d) (hfit : ∀ (j : Nat) (o : Oper) (k : Nat), all[j]? = some o → o.dst = some k → k < B.nt) (hents : ∀ e ∈ d.ents, EntOk G all rs s0.H e)
    {ops : Array Oper} (hops : ops.toList = all) {Q : Exit → Act → World → Prop} (hQ : ∀ a w, Rel B s' a w → Q .normal a w) :
    ∀ (fuel : Nat) (listed : Array Bool) (a : Act) (w : World), listed.size = all.length → Closed all (InL listed) → cnt listed all.length ≤ fuel → (∃ ι h, InvD B G.T all rs s0 (InL listed) a w ι h) →
      wpAnyIn F 0 P .any ops Q fuel listed a w := by
  have hget : ∀ {listed : Array Bool} {j : Nat}, listed.getD j false = true ↔ InL listed j := fun {listed j} => by
    unfold InL
    rw [Array.getD_eq_getD_getElem?]
    cases listed[j]? with
    | none => simp
    | some x => simp
  have hend : ∀ {listed : Array Bool} {a : Act} {w : World}, listed.size = all.length → Closed all (InL listed) → Region.ready .any ops listed = [] → (∃ ι h, InvD B G.T all rs s0 (InL listed) a w ι h) → Q .normal a w := by
    intro listed a w hsz hcl hr ⟨ι, h, v⟩
    refine hQ a w (all_done t hd v fun i => ?_)
    induction i using Nat.strongRecOn with
    | _ i ih =>
      intro hi
      by_cases hE : InL listed i
      · exact hE
      · obtain ⟨o, ho⟩ : ∃ o, all[i]? = some o := ⟨_, List.getElem?_eq_getElem hi⟩
        have hoo : ops[i]? = some o := by rw [← hops] at ho; simpa using ho
        have hmem : i ∈ Region.ready .any ops listed := by
          rw [mem_ready]
          refine ⟨?_, o, hoo, fun e he hb => ?_⟩
          · have hl : i < listed.size := by omega
            unfold InL at hE
            rw [Array.getD_eq_getD_getElem?]
            rw [Array.getElem?_eq_getElem hl] at hE ⊢
            simpa using hE
          · have hlt := hd.edges i _ ho e he hb
            exact hget.mpr (ih e.on hlt (by omega))
        rw [hr] at hmem
        cases hmem
  intro fuel
  induction fuel with
  | zero =>
    intro listed a w hsz hcl hcnt hv
    have hr : Region.ready .any ops listed = [] := by
      rw [List.eq_nil_iff_forall_not_mem]
      intro j hj
      obtain ⟨h1, o, ho, _⟩ := mem_ready.1 hj
      have hjN : j < all.length := by
        rw [← hops]
        have := (Array.getElem?_eq_some_iff.1 ho).1
        simpa using this
      have := cnt_zero (listed := listed) (n := all.length) (by omega) j hjN
      rw [Array.getD_eq_getD_getElem?, this] at h1
      cases h1
    exact ⟨hr, hend hsz hcl hr hv⟩
  | succ fuel ih =>
    intro listed a w hsz hcl hcnt hv
    refine ⟨fun hr => hend hsz hcl hr hv, fun i hi => ?_⟩
    obtain ⟨h1, o, ho, hdir⟩ := mem_ready.1 hi
    have hoa : all[i]? = some o := by rw [← hops]; simpa using ho
    have hiN := (List.getElem?_eq_some_iff.1 hoa).1
    have hno : ¬ InL listed i := fun e => by
      unfold InL at e
      rw [Array.getD_eq_getD_getElem?, e] at h1
      cases h1
    have hdir' : ∀ e ∈ o.after, Region.binds .any e = true → InL listed e.on := fun e he hb => hget.mp (hdir e he hb)
    obtain ⟨ι, h, v⟩ := hv
    have tn : Turn G.T all d (InL listed) i := by
      refine ⟨hno, anc_in hd hcl i o hoa hdir', fun j hj hA => hno ?_⟩
      have hjo : ∃ o', all[j]? = some o' := by
        have hj1 := (Array.getElem?_eq_some_iff.1 hj).1
        rw [hsz] at hj1
        exact ⟨_, List.getElem?_eq_getElem hj1⟩
      obtain ⟨o', ho'⟩ := hjo
      exact anc_in hd hcl j o' ho' (hcl j o' hj ho') i hA
    have hset : ∀ j, InL (listed.setIfInBounds i true) j ↔ (InL listed j ∨ j = i) := fun j => by
      unfold InL
      by_cases e : i = j
      · subst e
        rw [Array.getElem?_setIfInBounds_self_of_lt (by omega)]
        simp
      · rw [Array.getElem?_setIfInBounds_ne e]
        have e' : ¬ j = i := fun e' => e e'.symm
        simp [e']
    refine exec hG t hd hfit hents hops v hiN tn fun a' w' ι' h' v' => ih (listed.setIfInBounds i true) a' w' (by simpa using hsz) (fun j o' hj ho' e he hb => ?_) ?_ ⟨ι', h', ?_⟩
    · rw [hset] at hj ⊢
      rcases hj with hj | rfl
      · exact .inl (hcl j o' hj ho' e he hb)
      · rw [hoa] at ho'; cases ho'
        exact .inl (hdir' e he hb)
    · have := cnt_set (listed := listed) (i := i) (by omega) hno (n := all.length)
      rw [if_pos hiN] at this
      omega
    · have e : InL (listed.setIfInBounds i true) = fun j => InL listed j ∨ j = i := by
        funext j; exact propext (hset j)
      rw [e]
      exact v'

theorem Stp.drew {ι : Emb} {h : HF} {w : World} {ι0 : Emb} {h0 : HF} {w0 : World} (hs : Stp ι0 h0 w0 ι h w) : Stp ι0 h0 w0 ι h w.drew := ⟨hs.size, hs.same, hs.own, hs.live, hs.outer⟩
theorem region_draw_ok (hG : Known P F G) (hd : DrawS G.T all d) (hfit : ∀ (j : Nat) (o : Oper) (k : Nat), all[j]? = some o → o.dst = some k → k < B.nt) {ops : Array Oper} (hops : ops.toList = all) {β : Type} {b : β} {q : List Rec → St → Option β} {s : St}
    (he : evRec G all all s q = some b) {Q : Exit → Act → World → Prop} (hq : ∀ rs s' a w, q rs s' = some b → (∀ e ∈ d.ents, EntOk G all rs s.H e) ∧ (Rel B s' a w → Q .normal a w)) {id : Nat} {a : Act} {w : World} (hr : Rel B s a w) :
    (Code.region id ops true).wpIn F 0 P Q a w := by
  obtain ⟨rs, s', hqs, htr⟩ := evRec_trace hG he
  obtain ⟨t1, t2, t3, t4⟩ := trace_at htr
  have t : Tr P F G.T all rs s s' := ⟨t1, t2, t3, t4⟩
  refine wpIn_region_any hG.mixed ?_
  have hnone : ∀ j, ¬ InL (Array.replicate ops.size false) j := fun j hj => by
    unfold InL at hj
    obtain ⟨h1, h2⟩ := Array.getElem?_eq_some_iff.1 hj
    simp at h2
  have hsz : (Array.replicate ops.size false).size = all.length := by rw [← hops]; simp
  refine any_ok hG t hd hfit (hq rs s' a w hqs).1 hops (fun a' w' => (hq rs s' a' w' hqs).2) _ _ _ _ hsz (fun i o hi => absurd hi (hnone i)) ?_ ?_
  · have : ∀ (l : Array Bool) (n : Nat), cnt l n ≤ n := fun l n => by
      induction n with
      | zero => simp [cnt]
      | succ n ih => simp only [cnt]; split <;> omega
    have := this (Array.replicate ops.size false) all.length
    rw [← hops] at this ⊢
    simpa using this
  · obtain ⟨ι, hr⟩ := hr
    refine ⟨ι, Heap.fn s.H, fun j o r k hj => absurd hj (hnone j), fun k _ => hr.t k, hr.hr.keep (keep_drew w), ⟨0, by omega, .inl rfl, fun j o hj => absurd hj (hnone j), fun x _ => rfl, fun j hj => absurd hj (hnone j), fun x hx _ => ?_⟩, hr.m, fun x hx _ => hr.fresh x hx, hr.old, hr.stp.drew, hr.defers, hr.size⟩
    have hx' : s.H.length ≤ x := hx
    rw [fn_eq, List.getElem?_eq_none hx']
    rfl
end
end Go.Abs
