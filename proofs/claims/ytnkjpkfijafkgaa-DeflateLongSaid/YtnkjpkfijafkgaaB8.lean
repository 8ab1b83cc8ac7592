/-
The check of an unordered region's edges; the check of a body.
-/
import Derived.Test.YtnkjpkfijafkgaaB7
set_option linter.unusedVariables false
set_option linter.unusedSimpArgs false
namespace Go.Abs

def allI (n : Nat) (p : Nat → Bool) : Bool := (List.range n).all p
theorem allI_get {n : Nat} {p : Nat → Bool} (h : allI n p = true) {i : Nat} (hi : i < n) : p i = true := List.all_eq_true.mp h i (List.mem_range.mpr hi)
def kW (T : TT) (o : Oper) : Bool := match kindOf T o.op with | .write => true | _ => false
def kA (T : TT) (o : Oper) : Bool := match kindOf T o.op with | .write => true | .alloc => true | _ => false
def kR (T : TT) (o : Oper) : Bool := match kindOf T o.op with | .read => true | _ => false
theorem kW_iff {T : TT} {o : Oper} : kW T o = true ↔ isW T o := by
  unfold kW isW; cases kindOf T o.op <;> simp
theorem kA_iff {T : TT} {o : Oper} : kA T o = true ↔ laysOrW T o := by
  unfold kA laysOrW; cases kindOf T o.op <;> simp
theorem kR_iff {T : TT} {o : Oper} : kR T o = true ↔ kindOf T o.op = .read := by
  unfold kR; cases kindOf T o.op <;> simp
def atO (all : List Oper) (j : Nat) (p : Oper → Bool) : Bool := match nthO all j with | some o => p o | none => true
theorem get_nthO : ∀ {l : List Oper} {i : Nat} {o : Oper}, l[i]? = some o → nthO l i = some o
  | [], i, o, h => by simp at h
  | x :: l, 0, o, h => by simpa [nthO] using h
  | x :: l, i + 1, o, h => by simp only [nthO, Nat.succ_ne_zero, if_false, Nat.add_sub_cancel]; exact get_nthO (by simpa using h)
theorem atO_get {all : List Oper} {j : Nat} {p : Oper → Bool} (h : atO all j p = true) {o : Oper} (ho : all[j]? = some o) : p o = true := by
  unfold atO at h
  rw [get_nthO ho] at h
  exact h
def sameD (o o' : Oper) : Bool := match o.dst, o'.dst with | some k, some k' => k == k' | _, _ => false
def dstIs (o : Oper) (k : Nat) : Bool := match o.dst with | some k' => k' == k | none => false
def candB (T : TT) (all : List Oper) (d : Draw) (i p : Nat) : Bool :=
  (match p with
   | 0 => true
   | w + 1 => (match nthO all w with | some o => kW T o | none => false) && !(w == i) && !memN (d.A w) i) &&
  allI all.length fun j => atO all j fun o => !(kW T o && memN (d.A i) j) || decide (j < p)
def simpleB (T : TT) (all : List Oper) (d : Draw) (i : Nat) : Bool :=
  allI all.length fun j => atO all j fun o' => (!(decide (j < i) && kA T o') || memN (d.A i) j) && (!(decide (i < j) && kW T o') || memN (d.A j) i)
def entsB (T : TT) (all : List Oper) (d : Draw) (i : Nat) : Bool :=
  allI (all.length + 1) fun p => !candB T all d i p || d.ents.any fun (i', c, keep) => i' == i && decide (c = capOf p) && keep.all fun j => memN (d.A i) j && atO all j fun o' => !kW T o'
def drawOk (T : TT) (all : List Oper) (d : Draw) : Bool :=
  allI all.length fun i => atO all i fun o =>
    (o.after.toList.all fun e => !Region.binds .any e || decide (e.on < i)) &&
    ((d.A i).all fun j => (o.after.toList.any fun e => Region.binds .any e && e.on == j) || (o.after.toList.any fun e => Region.binds .any e && memN (d.A e.on) j)) &&
    (let sl := slotsOf all o
     allI all.length fun j => atO all j fun o' =>
      (j == i || !sameD o o') &&
      (!(sl.any fun k => dstIs o' k) || (j == i) || (decide (j < i) && memN (d.A i) j) || (decide (i < j) && memN (d.A j) i)) &&
      (!(kW T o && decide (j < i) && kA T o') || memN (d.A i) j)) &&
    (!kR T o || simpleB T all d i || entsB T all d i)

section
variable {T : TT} {all : List Oper} {d : Draw}
theorem imp_of {a b : Bool} (h : (!a || b) = true) (ha : a = true) : b = true := by subst ha; simpa using h
theorem drawS_of (h : drawOk T all d = true) : DrawS T all d := by
  have hi : ∀ {i : Nat} {o : Oper}, all[i]? = some o → _ := fun {i o} ho => atO_get (allI_get h (List.getElem?_eq_some_iff.1 ho).1) ho
  have hj : ∀ {p : Nat → Bool} {j : Nat} {o : Oper}, allI all.length p = true → all[j]? = some o → p j = true := fun hp ho => allI_get hp (List.getElem?_eq_some_iff.1 ho).1
  refine ⟨fun i j o o' k ho ho' h1 h2 => ?_, fun i o ho e he hb => ?_, fun i o ho j hjA => ?_, fun i o ho k hk j o' ho' hd => ?_, fun i o ho hw j o' hji ho' hl => ?_, fun i o ho hr => ?_⟩
  · have := hi ho
    simp only [Bool.and_eq_true] at this
    have := atO_get (hj this.1.2 ho') ho'
    simp only [Bool.and_eq_true, Bool.or_eq_true, beq_iff_eq, Bool.not_eq_true'] at this
    rcases this.1.1 with e | e
    · exact e.symm
    · simp [sameD, h1, h2] at e
  · have := hi ho
    simp only [Bool.and_eq_true] at this
    have := List.all_eq_true.mp this.1.1.1 e (by simpa using he)
    simpa using imp_of this hb
  · have := hi ho
    simp only [Bool.and_eq_true] at this
    have := List.all_eq_true.mp this.1.1.2 j hjA
    simp only [Bool.or_eq_true, List.any_eq_true, Bool.and_eq_true, beq_iff_eq] at this
    rcases this with ⟨e, he, hb, hq⟩ | ⟨e, he, hb, hq⟩
    · exact .inl ⟨e, by simpa using he, hb, hq⟩
    · exact .inr ⟨e, by simpa using he, hb, (memN_iff _ _).mp hq⟩
  · have := hi ho
    simp only [Bool.and_eq_true] at this
    have := atO_get (hj this.1.2 ho') ho'
    simp only [Bool.and_eq_true] at this
    have := this.1.2
    simp only [Bool.or_eq_true, Bool.and_eq_true, beq_iff_eq, decide_eq_true_eq] at this
    rcases this with ((e | e) | e) | e
    · have : (slotsOf all o).any (fun k => dstIs o' k) = true := List.any_eq_true.mpr ⟨k, hk, by simp [dstIs, hd]⟩
      rw [this] at e; cases e
    · exact .inl e
    · exact .inr (.inl ⟨e.1, (memN_iff _ _).mp e.2⟩)
    · exact .inr (.inr ⟨e.1, (memN_iff _ _).mp e.2⟩)
  · have := hi ho
    simp only [Bool.and_eq_true] at this
    have := atO_get (hj this.1.2 ho') ho'
    simp only [Bool.and_eq_true] at this
    exact (memN_iff _ _).mp (imp_of this.2 (by simp [kW_iff.mpr hw, hji, kA_iff.mpr hl]))
  · have := hi ho
    simp only [Bool.and_eq_true] at this
    have := this.2
    simp only [Bool.or_eq_true, Bool.not_eq_true'] at this
    rcases this with (e | e) | e
    · rw [kR_iff.mpr hr] at e; cases e
    · refine .inl ⟨fun j o' hji ho' hl => ?_, fun j o' hij ho' hw => ?_⟩
      · have := atO_get (hj e ho') ho'
        simp only [Bool.and_eq_true] at this
        exact (memN_iff _ _).mp (imp_of this.1 (by simp [hji, kA_iff.mpr hl]))
      · have := atO_get (hj e ho') ho'
        simp only [Bool.and_eq_true] at this
        exact (memN_iff _ _).mp (imp_of this.2 (by simp [hij, kW_iff.mpr hw]))
    · refine .inr fun p hc => ?_
      have hpN : p < all.length + 1 := by
        rcases hc.it with e | ⟨w, o', e, ho', _⟩
        · omega
        · have := (List.getElem?_eq_some_iff.1 ho').1; omega
      have hcb : candB T all d i p = true := by
        unfold candB
        rw [Bool.and_eq_true]
        refine ⟨?_, List.all_eq_true.mpr fun j hjm => ?_⟩
        · rcases hc.it with e | ⟨w, o', e, ho', hw, hne, hA⟩
          · subst e; rfl
          · subst e
            have hm : memN (d.A w) i = false := by
              cases hq : memN (d.A w) i with
              | false => rfl
              | true => exact absurd ((memN_iff _ _).mp hq) hA
            simp [get_nthO ho', kW_iff.mpr hw, hne, hm]
        · unfold atO
          cases hq : nthO all j with
          | none => rfl
          | some o' =>
            simp only
            cases hw : kW T o' with
            | false => rfl
            | true =>
              cases hm : memN (d.A i) j with
              | false => rfl
              | true =>
                have := hc.last j o' (nthO_get hq) (kW_iff.mp hw) ((memN_iff _ _).mp hm)
                simp [this]
      have := imp_of (allI_get e hpN) hcb
      simp only [List.any_eq_true, Bool.and_eq_true, beq_iff_eq, decide_eq_true_eq, List.all_eq_true] at this
      obtain ⟨⟨i', c, keep⟩, hmem, ⟨h1, h2⟩, h3⟩ := this
      simp only at h1 h2 h3
      subst h1; subst h2
      refine ⟨keep, hmem, fun j hjk => ⟨(memN_iff _ _).mp (h3 j hjk).1, fun o' ho' hw => ?_⟩⟩
      have := atO_get (h3 j hjk).2 ho'
      rw [kW_iff.mpr hw] at this
      cases this
end

mutual
theorem eqAV_ok : ∀ {x y : AV}, eqAV x y = true → x = y
  | x, y, h => by
    cases x <;> cases y <;> simp only [eqAV, Bool.and_eq_true, decide_eq_true_eq] at h <;> first
      | rfl
      | (cases h; done)
      | (subst h; rfl)
      | (obtain ⟨rfl, rfl⟩ := h; rfl)
      | (rename_i a b
         obtain ⟨⟨a⟩⟩ := a
         obtain ⟨⟨b⟩⟩ := b
         simp only at h
         subst h; rfl)
      | (obtain ⟨⟨⟨rfl, rfl⟩, rfl⟩, rfl⟩ := h; rfl)
      | (obtain ⟨⟨⟨⟨⟨⟨rfl, rfl⟩, rfl⟩, rfl⟩, rfl⟩, rfl⟩, rfl⟩ := h; rfl)
      | (obtain ⟨⟨h1, h2⟩, h3⟩ := h; rw [h1, eqAVL_ok h2, eqAVL_ok h3])
      | (obtain ⟨h1, h2⟩ := h; rw [h1, eqAV_ok h2])
      | (rw [eqAVS_ok h])
      | (rw [eqAVL_ok h])
theorem eqAVL_ok : ∀ {x y : List AV}, eqAVL x y = true → x = y
  | [], [], _ => rfl
  | [], _ :: _, h => by simp [eqAVL] at h
  | _ :: _, [], h => by simp [eqAVL] at h
  | x :: r, y :: s, h => by
    simp only [eqAVL, Bool.and_eq_true] at h
    rw [eqAV_ok h.1, eqAVL_ok h.2]
theorem eqAVS_ok : ∀ {x y : List Seg}, eqAVS x y = true → x = y
  | [], [], _ => rfl
  | [], _ :: _, h => by simp [eqAVS] at h
  | _ :: _, [], h => by simp [eqAVS] at h
  | .cell x :: r, .cell y :: s, h => by
    simp only [eqAVS, Bool.and_eq_true] at h
    rw [eqAV_ok h.1, eqAVS_ok h.2]
  | .run _ _ _ :: r, .run _ _ _ :: s, h => by
    simp only [eqAVS, Bool.and_eq_true, decide_eq_true_eq] at h
    obtain ⟨⟨⟨rfl, rfl⟩, rfl⟩, h⟩ := h
    rw [eqAVS_ok h]
  | .cell _ :: _, .run _ _ _ :: _, h => by simp [eqAVS] at h
  | .run _ _ _ :: _, .cell _ :: _, h => by simp [eqAVS] at h
end
theorem sameV_inv {β : Type} {x : Option AV} {v : AV} {q : Option β} {b : β} (h : sameV x v q = some b) : x = some v ∧ q = some b := by
  unfold sameV at h
  cases he : eqO x v with
  | true =>
    rw [he] at h
    cases x with
    | none => cases he
    | some y => exact ⟨by rw [eqAV_ok he], h⟩
  | false =>
    rw [he] at h
    simp only [cond_false] at h
    split at h
    · rename_i e; exact ⟨e, h⟩
    · cases h
theorem sameV_eq {β : Type} {x : Option AV} {v : AV} {q : Option β} (h : x = some v) : sameV x v q = q := by
  unfold sameV
  rw [if_pos h]
  cases eqO x v <;> rfl
theorem runEnts_inv {β : Type} {G : Ctx} {ops : List Oper} {rs : List Rec} {H0 : Heap} {q : Option β} {b : β} : ∀ {l : List (Nat × Option Nat × List Nat)}, runEnts G ops rs H0 q l = some b → q = some b ∧ ∀ e ∈ l, EntOk G ops rs H0 e
  | [], h => ⟨h, by simp⟩
  | (i, c, keep) :: l, h => by
    unfold runEnts at h
    split at h
    · rename_i r o hr ho
      have hfin : ∀ {x : Prop}, runEnts G ops rs H0 q l = some b → (r.done = true → evRead G.T r.t (heapAt rs H0 c keep) o.op some = some r.v) → q = some b ∧ ∀ e ∈ (i, c, keep) :: l, EntOk G ops rs H0 e := fun h1 h2 => by
        obtain ⟨g1, g2⟩ := runEnts_inv h1
        refine ⟨g1, fun e he => ?_⟩
        rcases List.mem_cons.mp he with rfl | he
        · intro o' r' ho' hr' hd
          simp only at ho' hr'
          rw [get_nthO ho'] at ho; cases ho
          rw [nthR_get hr'] at hr; cases hr
          exact h2 hd
        · exact g2 e he
      cases hd : r.done with
      | true =>
        rw [hd] at h
        obtain ⟨g1, g2⟩ := sameV_inv h
        exact hfin (x := True) g2 fun _ => g1
      | false => rw [hd] at h; exact hfin (x := True) h fun e => by rw [hd] at e; cases e
    · cases h

/-- a body's slots are a frame's; its unordered regions are of the make that is known -/
def okC (T : TT) (D : List Draw) (nt : Nat) : Code → Bool
  | .region id ops draw => fitsO nt ops.toList && (!draw || match drawOf D id with | some d => drawOk T ops.toList d | none => false)
  | .seq a b => okC T D nt a && okC T D nt b
  | .cond _ a b => okC T D nt a && okC T D nt b
  | .block _ c => okC T D nt c
  | .loop c => okC T D nt c
  | _ => true
theorem fitsO_at {nt : Nat} : ∀ {l : List Oper}, fitsO nt l = true → ∀ (j : Nat) (o : Oper) (k : Nat), l[j]? = some o → o.dst = some k → k < nt
  | [], _, j, o, k, ho, _ => by simp at ho
  | x :: l, h, 0, o, k, ho, hk => by
    simp only [List.getElem?_cons_zero, Option.some.injEq] at ho
    subst ho
    exact (fitsO_cons h).1 k hk
  | x :: l, h, j + 1, o, k, ho, hk => fitsO_at (fitsO_cons h).2 j o k (by simpa using ho) hk
end Go.Abs
