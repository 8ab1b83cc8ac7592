/-
The operations that lay new blocks, on: structs and arrays built of parts, slices, and all of them against 'execOp'.
-/
import Derived.Test.YtnkjpkfijafkgaaA7
set_option linter.unusedVariables false
set_option linter.unusedSimpArgs false
namespace Go.Abs
section alloc
variable {β : Type} {P : Program} {T : TT} {ι : Emb} {w : World} {h : HF} {r : β}

theorem segPut_spec {ss new ss' : List Seg} {b : Nat} (hp : segPut ss b new = some ss') :
    segSize ss' = segSize ss ∧ b + segSize new ≤ segSize ss ∧ (∀ i, segAtN ss' i = if b ≤ i ∧ i < b + segSize new then segAtN new (i - b) else segAtN ss i) ∧ (segsOk ss → segsOk new → segsOk ss') := by
  unfold segPut at hp
  cases h1 : segTake ss b with
  | none => simp [h1] at hp
  | some x =>
    cases h2 : segDrop ss (b + segSize new) with
    | none => simp [h1, h2] at hp
    | some y =>
      simp only [h1, h2, Option.bind_some, Option.map_some, Option.some.injEq] at hp
      subst hp
      obtain ⟨t1, t2, t3⟩ := segTake_spec h1
      obtain ⟨d1, d2, d3⟩ := segDrop_spec h2
      refine ⟨by rw [segSize_append, segSize_append]; omega, by omega, fun i => ?_, fun a c => segsOk_append.mpr ⟨segsOk_append.mpr ⟨t3 a, c⟩, d3 a⟩⟩
      rw [segAtN_append, segAtN_append, segSize_append, t1]
      by_cases hi : i < b
      · rw [if_pos (by omega), if_pos hi, if_neg (by omega), t2 i hi]
      · by_cases hj : i < b + segSize new
        · rw [if_pos (by omega), if_neg hi, if_pos (by omega)]
        · rw [if_neg (by omega), if_neg (by omega), d2]
          congr 1; omega

theorem foldl_set {off : Nat} : ∀ (vs : List Value) (k : Nat) (cs : Array Value), ((vs.zipIdx k).foldl (fun cs (c, j) => cs.setIfInBounds (off + j) c) cs).size = cs.size ∧
    ∀ i, ((vs.zipIdx k).foldl (fun cs (c, j) => cs.setIfInBounds (off + j) c) cs)[i]? = if off + k ≤ i ∧ i < off + k + vs.length ∧ i < cs.size then vs[i - off - k]? else cs[i]?
  | [], k, cs => by
    refine ⟨rfl, fun i => ?_⟩
    rw [if_neg (by simp; omega)]
    rfl
  | v :: r, k, cs => by
    obtain ⟨h1, h2⟩ := foldl_set r (k + 1) (cs.setIfInBounds (off + k) v)
    simp only [List.zipIdx_cons, List.foldl_cons]
    refine ⟨by rw [h1]; simp, fun i => ?_⟩
    rw [h2 i]
    simp only [Array.size_setIfInBounds, List.length_cons]
    by_cases hi : i = off + k
    · subst hi
      rw [if_neg (by omega)]
      by_cases hs : off + k < cs.size
      · rw [if_pos (by omega), Array.getElem?_setIfInBounds_self_of_lt hs]
        simp
      · rw [if_neg (by omega), Array.getElem?_eq_none (by simp; omega), Array.getElem?_eq_none (by omega)]
    · rw [Array.getElem?_setIfInBounds_ne (by omega)]
      by_cases hc : off + (k + 1) ≤ i ∧ i < off + (k + 1) + r.length ∧ i < cs.size
      · rw [if_pos hc, if_pos (by omega)]
        obtain ⟨j, hj⟩ : ∃ j, i - off - k = j + 1 := ⟨i - off - k - 1, by omega⟩
        rw [hj, show i - off - (k + 1) = j by omega]
        rfl
      · rw [if_neg hc, if_neg (by omega)]

/-- a part is laid into a row of cells -/
theorem SR.put {ss vs ss' : List Seg} {off : Nat} {cs : Array Value} {v : Value} (hs : SR ι ss cs.toList) (hv : SR ι vs v.cells.toList) (hp : segPut ss off vs = some ss') :
    off + v.cells.size ≤ cs.size ∧ SR ι ss' (v.cells.zipIdx.foldl (fun cs (c, j) => cs.setIfInBounds (off + j) c) cs).toList := by
  obtain ⟨p1, p2, p3, p4⟩ := segPut_spec hp
  have l1 := hs.len
  have l2 := hv.len
  simp only [Array.length_toList] at l1 l2
  have e : v.cells.zipIdx.foldl (fun cs (c, j) => cs.setIfInBounds (off + j) c) cs = (v.cells.toList.zipIdx 0).foldl (fun cs (c, j) => cs.setIfInBounds (off + j) c) cs := by
    rw [← Array.foldl_toList]; congr 1; simp
  rw [e]
  obtain ⟨f1, f2⟩ := foldl_set (off := off) v.cells.toList 0 cs
  refine ⟨by omega, SR.of_get (by rw [Array.length_toList, f1]; omega) (p4 hs.ok hv.ok) fun i u hi => ?_⟩
  rw [Array.getElem?_toList, f2 i]
  rw [p3 i] at hi
  simp only [Array.length_toList]
  by_cases hc : off ≤ i ∧ i < off + segSize vs
  · rw [if_pos hc] at hi
    rw [if_pos (by omega)]
    exact hv.get hi
  · rw [if_neg hc] at hi
    rw [if_neg (by omega)]
    obtain ⟨x, hx, hr⟩ := hs.get hi
    exact ⟨x, by simpa using hx, hr⟩

theorem fillS_ok (hT : TyOK P T) {place : Nat → Option (Nat × TypeId)} {pl : Nat → Option (Nat × Nat)} (hpl : ∀ i off t, place i = some (off, t) → pl i = some (off, sizeT T t)) :
    ∀ {parts : List (Nat × AV)} {xs : List (Nat × Value)} {ss ss' : List Seg} {n : Nat} {bs : List Blk} {cs : Array Value}, fillS T place ss n parts = some (ss', bs) → SR ι ss cs.toList →
    parts.map (·.1) = xs.map (·.1) → VRL ι (parts.map (·.2)) (xs.map (·.2)) →
    (∀ b ∈ bs, Phan b) ∧ ∃ cs', Instr.fill pl cs xs = some cs' ∧ SR ι ss' cs'.toList
  | [], xs, ss, ss', n, bs, cs, hf, hs, he, hv => by
    have : xs = [] := by simpa using he.symm
    subst this
    cases hf
    exact ⟨by simp, cs, rfl, hs⟩
  | (i, v) :: rest, xs, ss, ss', n, bs, cs, hf, hs, he, hv => by
    cases xs with
    | nil => simp at he
    | cons y xs =>
      obtain ⟨j, x⟩ := y
      simp only [List.map_cons, List.cons.injEq] at he
      obtain ⟨rfl, he⟩ := he
      obtain ⟨_, _, e, hvx, hv⟩ := hv
      simp only [List.map_cons, List.cons.injEq] at e
      obtain ⟨rfl, rfl⟩ := e
      unfold fillS at hf
      cases hp : place i with
      | none => rw [hp] at hf; cases hf
      | some p =>
        obtain ⟨off, t⟩ := p
        rw [hp] at hf
        simp only at hf
        cases hsa : segsAs T n t v with
        | none => rw [hsa] at hf; cases hf
        | some p =>
          obtain ⟨vs, b⟩ := p
          rw [hsa] at hf
          simp only at hf
          by_cases hz : segSize vs = sizeT T t
          · rw [if_pos hz] at hf
            cases hpu : segPut ss off vs with
            | none => rw [hpu] at hf; cases hf
            | some s1 =>
              rw [hpu] at hf
              simp only at hf
              cases hfr : fillS T place s1 (n + b.length) rest with
              | none => rw [hfr] at hf; cases hf
              | some p =>
                obtain ⟨s2, bs2⟩ := p
                rw [hfr] at hf
                cases hf
                obtain ⟨g1, g2⟩ := segsAs_ok hsa hvx
                obtain ⟨p1, p2⟩ := hs.put g2 hpu
                obtain ⟨q1, cs', q2, q3⟩ := fillS_ok hT hpl hfr p2 he hv
                refine ⟨fun c hc => (List.mem_append.mp hc).elim (g1 c) (q1 c), cs', ?_, q3⟩
                have hl := g2.len
                simp only [Array.length_toList] at hl
                unfold Instr.fill
                rw [hpl i off t hp]
                simp only
                rw [if_neg (by simp; omega)]
                exact q2
          · rw [if_neg hz] at hf; cases hf

theorem mapM_fields (hT : TyOK P T) : ∀ {fs : List Field} {acc : Array (Nat × Nat)} {w : World}, (∀ f ∈ fs, ∃ i, T f.type = some i) →
    (fs.foldlM (fun (acc : Array (Nat × Nat)) (f : Field) => (do let s ← sizeOf f.type; pure (acc.push (f.offset, s)) : Sem (Array (Nat × Nat)))) acc).run P w = .ok (acc ++ (fs.map fun f => (f.offset, sizeT T f.type)).toArray) w
  | [], acc, w, _ => by simp
  | f :: r, acc, w, hf => by
    obtain ⟨i, hi⟩ := hf f (List.mem_cons_self ..)
    have ih := mapM_fields hT (fs := r) (acc := acc.push (f.offset, sizeT T f.type)) (w := w) (fun g hg => hf g (List.mem_cons_of_mem _ hg))
    rw [List.foldlM_cons, Sem.run_bind, Sem.run_bind, hT.size hi]
    simp only [Result.andThen_ok, Sem.run_pure]
    rw [ih]
    simp
theorem run_places (hT : TyOK P T) {fields : Array Field} {w : World} (hf : ∀ f ∈ fields.toList, ∃ i, T f.type = some i) :
    (fields.mapM fun f => (do pure (f.offset, ← sizeOf f.type) : Sem (Nat × Nat))).run P w = .ok (fields.toList.map fun f => (f.offset, sizeT T f.type)).toArray w := by
  rw [Array.mapM_eq_foldlM_push, ← Array.foldlM_toList]
  have := mapM_fields (P := P) hT (acc := #[]) (w := w) hf
  simp only [bind_assoc, pure_bind]
  rw [this]
  simp

theorem structT_some {t : TypeId} {fs : List (Nat × TypeId)} (h : structT T t = some fs) : ∃ i, T t = some i ∧ i.shape = .struct fs := by
  unfold structT at h
  split at h
  · rename_i hi; cases h; exact ⟨_, hi, rfl⟩
  · cases h
/-- a struct, an array, built of parts -/
theorem buildS_ok (hT : TyOK P T) {n : Nat} {t : TypeId} {parts : List (Nat × AV)} {v : AV} {bs : List Blk} {xs : Array (Nat × Value)} (hb : buildS T n t parts = some (v, bs))
    (he : parts.map (·.1) = xs.toList.map (·.1)) (hv : VRL ι (parts.map (·.2)) (xs.toList.map (·.2))) :
    (∀ b ∈ bs, Phan b) ∧ ∃ x, VR ι v x ∧ (Instr.build t xs).run P w = .ok x w := by
  unfold buildS at hb
  cases hz : zeroSegs T n t with
  | none => rw [hz] at hb; cases hb
  | some p =>
    obtain ⟨z, b⟩ := p
    rw [hz] at hb
    simp only at hb
    obtain ⟨z1, zv, z2, z3⟩ := zeroSegs_ok (P := P) hT hz
    split at hb
    · rename_i fs hst
      split at hb
      · rename_i hall
        simp only [List.all_eq_true] at hall
        cases hf : fillS T (fun i => fs[i]?) z (n + b.length) parts with
        | none => rw [hf] at hb; cases hb
        | some p =>
          obtain ⟨ss, bs'⟩ := p
          rw [hf] at hb
          cases hb
          obtain ⟨i, hi, hsh⟩ := structT_some hst
          obtain ⟨fields, hu, hfl⟩ := hT.struct hi hsh
          have hknown : ∀ f ∈ fields.toList, ∃ i, T f.type = some i := fun f hf' => by
            have : (f.offset, f.type) ∈ fs := by rw [← hfl]; exact List.mem_map.mpr ⟨f, hf', rfl⟩
            exact Option.isSome_iff_exists.mp (hall _ this)
          obtain ⟨f1, cs', f2, f3⟩ := fillS_ok (P := P) (ι := ι) hT (pl := fun i => (fields.toList.map fun f => (f.offset, sizeT T f.type)).toArray[i]?) (fun i off u hp => by
            simp only [List.getElem?_toArray, List.getElem?_map]
            simp only [← hfl, List.getElem?_map] at hp
            cases hx : fields.toList[i]? with
            | none => rw [hx] at hp; cases hp
            | some f => rw [hx] at hp; simp at hp; obtain ⟨rfl, rfl⟩ := hp; simp) hf (z3 ι) he hv
          refine ⟨fun c hc => (List.mem_append.mp hc).elim (z1 c) (f1 c), .agg cs', ⟨cs', rfl, f3⟩, ?_⟩
          simp only [Instr.build, Sem.run_bind, z2, Result.andThen_ok, run_underlying hu, run_places hT hknown, f2, Sem.run_pure]
      · cases hb
    · split at hb
      · rename_i len e hsk
        split at hb
        · cases hb
        · rename_i hs0
          cases hf : fillS T (fun i => some (i * sizeT T e, e)) z (n + b.length) parts with
          | none => rw [hf] at hb; cases hb
          | some p =>
            obtain ⟨ss, bs'⟩ := p
            rw [hf] at hb
            cases hb
            have hu := skT_arr hT hsk
            have hsz := hT.sizeN rfl (by omega : 0 < sizeT T e)
            obtain ⟨f1, cs', f2, f3⟩ := fillS_ok (P := P) (ι := ι) hT (pl := fun i => some (i * sizeT T e, sizeT T e)) (fun i off u hp => by
              simp at hp; obtain ⟨rfl, rfl⟩ := hp; rfl) hf (z3 ι) he hv
            refine ⟨fun c hc => (List.mem_append.mp hc).elim (z1 c) (f1 c), .agg cs', ⟨cs', rfl, f3⟩, ?_⟩
            simp only [Instr.build, Sem.run_bind, z2, Result.andThen_ok, run_underlying hu, hsz, f2, Sem.run_pure]
      · cases hb

/-! ### new blocks in the model -/
theorem cell?_cells {w : World} {b : Nat} {c : Array Value} {t : TypeId} {fz : Nat × Nat} (hb : w.heap[b]? = some (.cells c t fz)) (i : Nat) : w.cell? ⟨b, i, none⟩ = c[i]? := by
  simp [World.cell?, hb]
theorem frozen?_cells {w : World} {b : Nat} {c : Array Value} {t : TypeId} {fz : Nat × Nat} (hb : w.heap[b]? = some (.cells c t fz)) (i : Nat) : w.frozen? ⟨b, i, none⟩ = (decide (fz.1 ≤ i) && decide (i < fz.2)) := by
  obtain ⟨lo, hi⟩ := fz
  simp [World.frozen?, hb]
theorem heap_alloc_last' (w : World) (o : Obj) : (w.alloc o).heap[w.heap.size]? = some o := heap_alloc_new w o
theorem BR.newSegs {ι' : Emb} {w' : World} {b : Nat} {c : Array Value} {t t' : TypeId} {ss : List Seg} (hb : w'.heap[b]? = some (.cells c t (0, 0))) (hs : SR ι' ss c.toList) : BR ι' w' ⟨b, 0, 0⟩ (.segs true t' ss) where
  cell := fun i v hv => by
    obtain ⟨x, hx, h1, h2⟩ := hs.get hv
    refine ⟨x, ?_, h1, h2⟩
    unfold Loc.at
    rw [Nat.zero_add, cell?_cells hb]
    simpa using hx
  ok := hs.ok
  room := fun _ i hi => by
    have := hs.len
    simp only [Array.length_toList] at this
    unfold Loc.at
    rw [Nat.zero_add, cell?_cells hb, frozen?_cells hb]
    simp only [Blk.room] at hi
    exact ⟨⟨c[i]'(by omega), by simp⟩, by simp⟩
  cap := trivial
  org := fun _ => rfl
  it := fun _ _ h => by cases h
  fz := fun _ => by simp [fzOf, hb]
theorem BR.newDyn {ι' : Emb} {w' : World} {b : Nat} {c : Array Value} {t t' : TypeId} {fz : Nat × Nat} {cols : List Col} {cap : Nat} (hb : w'.heap[b]? = some (.cells c t fz)) (hok : colsOk cols) (h0 : 0 < cols.length)
    (hcap : colsLen cols ≤ cap) (hsz : cap * cols.length ≤ c.size) (hfz : c.size ≤ fz.1 ∨ fz.2 = 0)
        (hc : ∀ i j v, i < colsLen cols → colGet1 cols j i = some v → j < cols.length → ∃ x, c[i * cols.length + j]? = some x ∧ VR ι' v x ∧ x.oneCell' = true)
    (hf2 : fz.1 ≤ fz.2 := by simp) : BR ι' w' ⟨b, 0, cap⟩ (.dyn true t' cols) where
  cell := fun i v hv => by
    simp only [Blk.at] at hv
    by_cases hi : i < colsLen cols * cols.length
    · rw [if_pos hi] at hv
      obtain ⟨x, hx, hr⟩ := hc (i / cols.length) (i % cols.length) v (Nat.div_lt_of_lt_mul (by rw [Nat.mul_comm]; exact hi)) hv (Nat.mod_lt _ h0)
      refine ⟨x, ?_, hr⟩
      unfold Loc.at
      rw [Nat.zero_add, cell?_cells hb, ← hx, Nat.mul_comm, Nat.div_add_mod]
    · rw [if_neg hi] at hv; cases hv
  ok := ⟨hok, h0⟩
  room := fun _ i hi => by
    simp only [Blk.room, if_true] at hi
    unfold Loc.at
    rw [Nat.zero_add, cell?_cells hb, frozen?_cells hb]
    refine ⟨⟨c[i]'(by omega), by simp⟩, ?_⟩
    rcases hfz with h | h
    · have : ¬ fz.1 ≤ i := by omega
      simp [this]
    · simp [h]
  cap := hcap
  org := fun _ => rfl
  it := fun _ _ h => by cases h
  fz := fun _ => by simpa [fzOf, hb] using hf2

theorem consRow_ok : ∀ {ss : List Seg} {cs cs' : List Col} {m : Nat}, consRow ss cs = some cs' → (∀ c ∈ cs, c.len = m) →
    ss.length = cs.length ∧ cs'.length = cs.length ∧ (∀ c ∈ cs', c.len = m + 1) ∧ (∀ j, j < cs.length → ∃ v, ss[j]? = some (.cell v) ∧ colGet1 cs' j 0 = some v) ∧ (∀ j i, colGet1 cs' j (i + 1) = colGet1 cs j i)
  | [], [], cs', m, h, hm => by cases h; exact ⟨rfl, rfl, by simp, by simp, fun j i => rfl⟩
  | .cell (.int k n) :: s, .ints k' l :: cs, cs', m, h, hm => by
    unfold consRow at h
    by_cases hk : k = k'
    · rw [if_pos hk] at h
      cases hq : consRow s cs with
      | none => rw [hq] at h; cases h
      | some x =>
        rw [hq] at h
        cases h
        subst hk
        obtain ⟨h1, h2, h3, h4, h5⟩ := consRow_ok hq (fun c hc => hm c (List.mem_cons_of_mem _ hc))
        have hl : l.length = m := hm (.ints k l) (List.mem_cons_self ..)
        refine ⟨by simp [h1], by simp [h2], fun c hc => ?_, fun j hj => ?_, fun j i => ?_⟩
        · rcases List.mem_cons.mp hc with rfl | hc
          · simp [Col.len, hl]
          · exact h3 c hc
        · cases j with
          | zero => exact ⟨_, rfl, by simp [colGet1, Col.get]⟩
          | succ j =>
            obtain ⟨v, g1, g2⟩ := h4 j (by simpa using hj)
            exact ⟨v, by simpa using g1, by simpa [colGet1] using g2⟩
        · cases j with
          | zero => simp [colGet1, Col.get, List.getD]
          | succ j => simpa [colGet1] using h5 j i
    · rw [if_neg hk] at h; cases h
  | .cell (.bool b) :: s, .bools l :: cs, cs', m, h, hm => by
    unfold consRow at h
    cases hq : consRow s cs with
    | none => rw [hq] at h; cases h
    | some x =>
      rw [hq] at h
      cases h
      obtain ⟨h1, h2, h3, h4, h5⟩ := consRow_ok hq (fun c hc => hm c (List.mem_cons_of_mem _ hc))
      have hl : l.length = m := hm (.bools l) (List.mem_cons_self ..)
      refine ⟨by simp [h1], by simp [h2], fun c hc => ?_, fun j hj => ?_, fun j i => ?_⟩
      · rcases List.mem_cons.mp hc with rfl | hc
        · simp [Col.len, hl]
        · exact h3 c hc
      · cases j with
        | zero => exact ⟨_, rfl, by simp [colGet1, Col.get]⟩
        | succ j =>
          obtain ⟨v, g1, g2⟩ := h4 j (by simpa using hj)
          exact ⟨v, by simpa using g1, by simpa [colGet1] using g2⟩
      · cases j with
        | zero => simp [colGet1, Col.get, List.getD]
        | succ j => simpa [colGet1] using h5 j i
theorem colsOk_of {cs : List Col} {m : Nat} (h : ∀ c ∈ cs, c.len = m) (h0 : 0 < cs.length) : colsOk cs ∧ colsLen cs = m := by
  cases cs with
  | nil => simp at h0
  | cons c r =>
    have : colsLen (c :: r) = m := h c (List.mem_cons_self ..)
    exact ⟨fun x hx => by rw [this]; exact h x hx, this⟩
theorem mkCols_ok {ks : List ColK} : ∀ {parts : List (Nat × AV)} {i : Nat} {cs : List Col}, mkCols ks i parts = some cs →
    cs.length = ks.length ∧ (∀ c ∈ cs, c.len = parts.length) ∧ (∀ q (h : q < parts.length), (parts[q]).1 = i + q ∧ ((parts[q]).2.segs).length = ks.length ∧ ∀ j, j < ks.length → ∃ v, ((parts[q]).2.segs)[j]? = some (.cell v) ∧ colGet1 cs j q = some v)
  | [], i, cs, h => by
    cases h
    refine ⟨by simp, fun c hc => ?_, fun q h => by simp at h⟩
    obtain ⟨k, _, rfl⟩ := List.mem_map.mp hc
    cases k <;> rfl
  | (j, v) :: r, i, cs, h => by
    unfold mkCols at h
    by_cases hj : j = i
    · rw [if_pos hj] at h
      cases hq : mkCols ks (i + 1) r with
      | none => rw [hq] at h; cases h
      | some c1 =>
        rw [hq] at h
        obtain ⟨g1, g2, g3⟩ := mkCols_ok hq
        obtain ⟨e1, e2, e3, e4, e5⟩ := consRow_ok h g2
        refine ⟨by omega, by simpa using e3, fun q hq' => ?_⟩
        cases q with
        | zero => exact ⟨hj, by simp [e1, g1], fun x hx => e4 x (by omega)⟩
        | succ q =>
          obtain ⟨f1, f2, f3⟩ := g3 q (by simpa using hq')
          refine ⟨by simp; omega, f2, fun x hx => ?_⟩
          obtain ⟨u, u1, u2⟩ := f3 x hx
          exact ⟨u, u1, by rw [e5]; exact u2⟩
    · rw [if_neg hj] at h; cases h
end alloc
end Go.Abs
