/-
The operations that lay new blocks, all of them, against 'execOp'.
-/
import Derived.Test.YtnkjpkfijafkgaaA8
set_option linter.unusedVariables false
set_option linter.unusedSimpArgs false
namespace Go.Abs
section alloc
variable {β : Type} {P : Program} {T : TT} {ι : Emb} {w : World} {h : HF} {r : β}

theorem fill_rows {sz : Nat} : ∀ {xs : List (Nat × Value)} {k : Nat} {cs : Array Value}, (∀ q (h : q < xs.length), (xs[q]).1 = k + q ∧ (xs[q]).2.cells.size = sz) → (k + xs.length) * sz ≤ cs.size →
    ∃ cs', Instr.fill (fun i => some (i * sz, sz)) cs xs = some cs' ∧ cs'.size = cs.size ∧ (∀ q (h : q < xs.length) j, j < sz → cs'[(k + q) * sz + j]? = (xs[q]).2.cells[j]?) ∧ ∀ i, i < k * sz → cs'[i]? = cs[i]?
  | [], k, cs, _, _ => ⟨cs, rfl, rfl, fun q h => by simp at h, fun i _ => rfl⟩
  | (i, x) :: r, k, cs, hx, hs => by
    obtain ⟨rfl, hsz⟩ : i = k ∧ x.cells.size = sz := by have := hx 0 (by simp); exact this
    have e : x.cells.zipIdx.foldl (fun cs (c, j) => cs.setIfInBounds (i * sz + j) c) cs = (x.cells.toList.zipIdx 0).foldl (fun cs (c, j) => cs.setIfInBounds (i * sz + j) c) cs := by
      rw [← Array.foldl_toList]; congr 1; simp
    obtain ⟨f1, f2⟩ := foldl_set (off := i * sz) x.cells.toList 0 cs
    simp only [List.length_cons] at hs
    have hm : (i + (r.length + 1)) * sz = i * sz + sz + r.length * sz := by rw [Nat.add_mul, Nat.add_mul]; omega
    have hm1 : (i + 1) * sz = i * sz + sz := by rw [Nat.add_mul]; omega
    have hm2 : (i + 1 + r.length) * sz = i * sz + sz + r.length * sz := by rw [Nat.add_mul, Nat.add_mul]; omega
    obtain ⟨cs', g1, g2, g3, g4⟩ := fill_rows (sz := sz) (xs := r) (k := i + 1) (cs := (x.cells.toList.zipIdx 0).foldl (fun cs (c, j) => cs.setIfInBounds (i * sz + j) c) cs)
      (fun q hq => by have := hx (q + 1) (by simp; omega); simp at this; exact ⟨by omega, this.2⟩) (by rw [f1]; omega)
    refine ⟨cs', ?_, by rw [g2, f1], fun q hq j hj => ?_, fun a ha => ?_⟩
    · unfold Instr.fill
      simp only
      rw [if_neg (by simp; omega), e]
      exact g1
    · cases q with
      | zero =>
        rw [Nat.add_zero, g4 _ (by omega), f2]
        simp only [Array.length_toList]
        rw [if_pos (by omega)]
        rw [show i * sz + j - i * sz - 0 = j by omega]
        simp
      | succ q =>
        have := g3 q (by simpa using hq) j hj
        rw [show i + (q + 1) = i + 1 + q by omega, this]
        rfl
    · rw [g4 _ (by omega), f2, if_neg (by omega)]

theorem VR.segs {v : AV} {x : Value} {ss : List Seg} (hv : VR ι v x) (hs : v.segs = ss) (hc : ∀ s ∈ ss, ∃ u, s = .cell u) (h1 : ∀ (j : Nat) u, ss[j]? = some (Seg.cell u) → (∃ k n, u = .int k n) ∨ (∃ b, u = .bool b)) : SR ι ss x.cells.toList := by
  subst hs
  have key : ∀ w : AV, w.segs = [.cell w] → w.segs = v.segs → w = v → SR ι v.segs x.cells.toList := by
    intro w e1 e2 e3
    subst e3
    rw [e1] at h1 ⊢
    rcases h1 0 w rfl with ⟨k, n, rfl⟩ | ⟨b, rfl⟩
    · cases hv; exact ⟨_, _, rfl, rfl, rfl, rfl⟩
    · cases hv; exact ⟨_, _, rfl, rfl, rfl, rfl⟩
  cases v with
  | agg ss => obtain ⟨cs, rfl, h⟩ := hv; exact h
  | _ => exact key _ rfl rfl rfl
theorem consRow_kind : ∀ {ss : List Seg} {cs cs' : List Col}, consRow ss cs = some cs' → ∀ (j : Nat) u, ss[j]? = some (Seg.cell u) → (∃ k n, u = .int k n) ∨ (∃ b, u = .bool b)
  | [], cs, cs', h, j, u, hj => by simp at hj
  | .cell (.int k n) :: s, .ints k' l :: cs, cs', h, j, u, hj => by
    unfold consRow at h
    by_cases hk : k = k'
    · rw [if_pos hk] at h
      cases hq : consRow s cs with
      | none => rw [hq] at h; cases h
      | some x =>
        cases j with
        | zero => simp at hj; exact .inl ⟨k, n, hj.symm⟩
        | succ j => exact consRow_kind hq j u (by simpa using hj)
    · rw [if_neg hk] at h; cases h
  | .cell (.bool b) :: s, .bools l :: cs, cs', h, j, u, hj => by
    unfold consRow at h
    cases hq : consRow s cs with
    | none => rw [hq] at h; cases h
    | some x =>
      cases j with
      | zero => simp at hj; exact .inr ⟨b, hj.symm⟩
      | succ j => exact consRow_kind hq j u (by simpa using hj)
theorem mkCols_kind {ks : List ColK} : ∀ {parts : List (Nat × AV)} {i : Nat} {cs : List Col}, mkCols ks i parts = some cs → ∀ q (h : q < parts.length) (j : Nat) u, ((parts[q]).2.segs)[j]? = some (Seg.cell u) → (∃ k n, u = .int k n) ∨ (∃ b, u = .bool b)
  | [], _, _, _, q, hq => by simp at hq
  | (j0, v) :: r, i, cs, h, q, hq => by
    unfold mkCols at h
    by_cases hj : j0 = i
    · rw [if_pos hj] at h
      cases hr : mkCols ks (i + 1) r with
      | none => rw [hr] at h; cases h
      | some c1 =>
        rw [hr] at h
        cases q with
        | zero => exact consRow_kind h
        | succ q => exact mkCols_kind hr q (by simpa using hq)
    · rw [if_neg hj] at h; cases h
theorem VRL.get {vs : List AV} {xs : List Value} : VRL ι vs xs → ∀ i (h : i < vs.length) (h' : i < xs.length), VR ι vs[i] xs[i] := by
  induction vs generalizing xs with
  | nil => intro _ i h; simp at h
  | cons v r ih =>
    rintro ⟨x, l, rfl, h1, h2⟩ i h h'
    cases i with
    | zero => exact h1
    | succ i => exact ih h2 i (by simpa using h) (by simpa using h')

theorem addB_one (h : HF) (n : Nat) (b : Blk) : addB h n [b] = upd h n b := rfl
/-- a new block of its own: as an operation's end -/
theorem Al.new {s : Sem Value} {w' : World} {n : Nat} {b : Blk} {l : Loc} {v : AV} {x : Value} (hr : HR ι h w) (hn : ι n = none) (hk : Keep w w') (hl : w.heap.size ≤ l.b) (hl' : l.b < w'.heap.size)
    (hb : BR (ι.put n l) w' l b) (hv : VR (ι.put n l) v x) (hrun : s.run P w = .ok x w') : Al P ι h w n v [b] s (ι.put n l) x w' where
  val := hv
  run := hrun
  sub := Emb.sub_put hn
  out := fun a ha => Emb.put_ne (by simp at ha; omega)
  keep := hk
  hr := hr.push hk hn hl hl' hb
  news := fun a k h1 h2 => by
    by_cases e : a = n
    · subst e; rw [Emb.put_same] at h2; cases h2; exact hl
    · rw [Emb.put_ne e, h1] at h2; cases h2
theorem Al.phans {s : Sem Value} {n : Nat} {bs : List Blk} {v : AV} {x : Value} (hr : HR ι h w) (hp : ∀ b ∈ bs, Phan b) (hn : ∀ i, i < bs.length → ι (n + i) = none) (hv : VR ι v x) (hrun : s.run P w = .ok x w) :
    Al P ι h w n v bs s ι x w where
  val := hv
  run := hrun
  sub := Sub.refl ι
  out := fun a ha => rfl
  keep := Keep.refl w
  hr := hr.phans hp hn
  news := fun a k h1 h2 => by rw [h1] at h2; cases h2
/-- nil slices' blocks first, then a block of its own -/
theorem Al.phansNew {s : Sem Value} {w' : World} {n : Nat} {bs : List Blk} {b : Blk} {l : Loc} {v : AV} {x : Value} (hr : HR ι h w) (hp : ∀ b ∈ bs, Phan b) (hn : ∀ i, i < bs.length + 1 → ι (n + i) = none) (hk : Keep w w')
    (hl : w.heap.size ≤ l.b) (hl' : l.b < w'.heap.size) (hb : BR (ι.put (n + bs.length) l) w' l b) (hv : VR (ι.put (n + bs.length) l) v x) (hrun : s.run P w = .ok x w') :
    Al P ι h w n v (bs ++ [b]) s (ι.put (n + bs.length) l) x w' where
  val := hv
  run := hrun
  sub := Emb.sub_put (hn _ (by omega))
  out := fun a ha => Emb.put_ne (by simp at ha; omega)
  keep := hk
  hr := by
    rw [addB_append]
    exact (hr.phans hp fun i hi => hn i (by omega)).push hk (hn _ (by omega)) hl hl' hb
  news := fun a k h1 h2 => by
    by_cases e : a = n + bs.length
    · subst e; rw [Emb.put_same] at h2; cases h2; exact hl
    · rw [Emb.put_ne e, h1] at h2; cases h2

theorem ptr_new {n : Nat} {b : Nat} : VR (ι.put n ⟨b, 0, 0⟩) (.ptr n 0 0 1) (.pointer (some ⟨b, 0, none⟩)) := ⟨_, Emb.put_same _ _ _, rfl⟩
theorem slice_new {n b len cap st : Nat} (hc : len ≤ cap) : VR (ι.put n ⟨b, 0, cap⟩) (.slice n 0 0 len st false true) (.slice (some ⟨b, 0, none⟩) len cap) :=
  VR.slice (Emb.put_same _ _ _) hc (fun _ => by simp [Loc.at]) (fun _ => ⟨rfl, rfl⟩)

theorem buildSliceS_ok (hT : TyOK P T) {n : Nat} {t : TypeId} {len : Nat} {parts : List (Nat × AV)} {v : AV} {bs : List Blk} {xs : Array (Nat × Value)} (hb : buildSliceS T n t len parts = some (v, bs))
    (he : parts.map (·.1) = xs.toList.map (·.1)) (hv : VRL ι (parts.map (·.2)) (xs.toList.map (·.2))) (hr : HR ι h w) (hn : ι n = none) :
    ∃ ι' x w', Al P ι h w n v bs (Instr.buildSlice t len xs) ι' x w' := by
  unfold buildSliceS at hb
  split at hb
  · rename_i e hs
    split at hb
    · rename_i ks hk
      split at hb
      · rename_i hc
        split at hb
        · rename_i cs hm
          cases hb
          obtain ⟨h0, ie, hie, hcols⟩ := colsT_some hk
          obtain ⟨inf, dd, i1, i2, i3, i4, i5, i6, i7, i8⟩ := hT.dig hie
          obtain ⟨k1, ⟨z, kz1, kz2⟩, k3⟩ := i8 _ hcols
          have hu : P.underlying t = some (.slice e) := by
            unfold sliceT at hs
            split at hs
            · rename_i hi; cases hs; exact hT.slice hi rfl
            · cases hs
          have hsz : ∀ w, (sizeOf e).run P w = .ok ks.length w := fun w => by rw [hT.size hie w]; simp [sizeT, hie, k1]
          obtain ⟨m1, m2, m3⟩ := mkCols_ok hm
          have hlen : parts.length = xs.size := by have := congrArg List.length he; simpa using this
          have hcell : ∀ q (hq : q < parts.length) (hq' : q < xs.toList.length), SR ι (parts[q]).2.segs (xs.toList[q]).2.cells.toList := fun q hq hq' => by
            obtain ⟨a1, a2, a3⟩ := m3 q hq
            have hvr := VRL.get hv q (by simpa using hq) (by simpa using hq')
            simp only [List.getElem_map] at hvr
            refine VR.segs hvr rfl (fun s hs => ?_) (mkCols_kind hm q hq)
            obtain ⟨j, hj, rfl⟩ := List.getElem_of_mem hs
            obtain ⟨u, u1, _⟩ := a3 j (by omega)
            rw [List.getElem?_eq_getElem hj] at u1
            exact ⟨u, by simpa using u1⟩
          have hsegs : ∀ (l : List Seg), (∀ j, j < l.length → ∃ v, l[j]? = some (.cell v)) → segSize l = l.length := by
            intro l
            induction l with
            | nil => intro _; rfl
            | cons s l ih =>
              intro hl
              obtain ⟨u, hu⟩ := hl 0 (by simp)
              simp at hu
              subst hu
              simp [segSize, ih fun j hj => by simpa using hl (j + 1) (by simpa using hj)]
          have hrow : ∀ q (hq : q < xs.toList.length), (xs.toList[q]).1 = 0 + q ∧ (xs.toList[q]).2.cells.size = ks.length := fun q hq => by
            have hq1 : q < parts.length := by rw [hlen]; simpa using hq
            obtain ⟨a1, a2, a3⟩ := m3 q hq1
            have hsr := (hcell q hq1 hq).len
            rw [hsegs _ fun j hj => by obtain ⟨u, u1, _⟩ := a3 j (by omega); exact ⟨u, u1⟩, a2, Array.length_toList] at hsr
            refine ⟨?_, hsr⟩
            have e1 : (parts.map (·.1))[q]? = (xs.toList.map (·.1))[q]? := by rw [he]
            simp only [List.getElem?_map, List.getElem?_eq_getElem hq1, List.getElem?_eq_getElem hq, Option.map_some, Option.some.injEq] at e1
            rw [← e1, a1]
          have hzc : z.cells.size = ks.length := by
            have : ∀ (ks : List ColK) (l : List Value), kzOk ks l = true → l.length = ks.length := by
              intro ks
              induction ks with
              | nil => intro l hl; cases l <;> simp_all [kzOk]
              | cons k r ih => intro l hl; cases l with
                | nil => simp [kzOk] at hl
                | cons c l => simp only [kzOk, Bool.and_eq_true] at hl; simp [ih l hl.2]
            simpa using this _ _ kz2
          obtain ⟨zz, hzz'⟩ : ∃ zz : Array Value, (len * ks.length = 0 ∧ zz = #[]) ∨ (¬ len * ks.length = 0 ∧ zz = z.cells) := by
            by_cases h00 : len * ks.length = 0
            · exact ⟨_, .inl ⟨h00, rfl⟩⟩
            · exact ⟨_, .inr ⟨h00, rfl⟩⟩
          obtain ⟨cs', f1, f2, f3, f4⟩ := fill_rows (sz := ks.length) (xs := xs.toList) (k := 0) (cs := (Array.range (len * ks.length)).map (zz[· % zz.size]!)) hrow (by
            simp only [Array.length_toList, Array.size_map, Array.size_range, Nat.zero_add]
            rw [← hlen, hc.1]; exact Nat.le_refl _)
          have hlc : colsLen cs = len := by rw [(colsOk_of m2 (by omega)).2, hc.1]
          refine ⟨_, _, _, Al.new (l := ⟨w.heap.size, 0, len⟩) hr hn (keep_alloc w (.cells cs' e)) (Nat.le_refl _) (by simp) (BR.newDyn (heap_alloc_last' w _) (colsOk_of m2 (by omega)).1 (by omega) (by omega) ?_ (.inr rfl) ?_) (slice_new (Nat.le_refl _)) ?_⟩
          · rw [f2, m1]; simp
          · intro q j u hq hu hj
            rw [hlc, ← hc.1] at hq
            obtain ⟨a1, a2, a3⟩ := m3 q hq
            obtain ⟨u', u1, u2⟩ := a3 j (by omega)
            rw [u2] at hu
            cases hu
            have hsr := hcell q hq (by rw [Array.length_toList, ← hlen]; exact hq)
            have hat : segAtN (parts[q]).2.segs j = some u := by
              have : ∀ (l : List Seg) (j : Nat), (∀ j, j < l.length → ∃ v, l[j]? = some (.cell v)) → l[j]? = some (.cell u) → segAtN l j = some u := by
                intro l
                induction l with
                | nil => intro j _ hj; simp at hj
                | cons s l ih =>
                  intro j hl hj
                  obtain ⟨x, hx⟩ := hl 0 (by simp)
                  simp at hx
                  subst hx
                  cases j with
                  | zero => simp at hj; subst hj; rfl
                  | succ j =>
                    simp only [segAtN, Nat.succ_ne_zero, if_false, Nat.add_sub_cancel]
                    exact ih j (fun i hi => by simpa using hl (i + 1) (by simpa using hi)) (by simpa using hj)
              exact this _ j (fun i hi => by obtain ⟨u, u1, _⟩ := a3 i (by omega); exact ⟨u, u1⟩) u1
            obtain ⟨y, hy, hyr, hy1⟩ := hsr.get hat
            refine ⟨y, ?_, hyr.mono (Emb.sub_put hn), hy1⟩
            have := f3 q (by rw [Array.length_toList, ← hlen]; exact hq) j (by omega)
            rw [Nat.zero_add] at this
            rw [m1, this]
            simpa using hy
          · have hb24 : ¬ (len * ks.length > 2 ^ 24) := by have := hc.2; omega
            simp only [Instr.buildSlice, Sem.run_bind, run_underlying hu, Result.andThen_ok, hsz]
            rw [Sem.run_ite, if_neg hb24]
            rcases hzz' with ⟨g, rfl⟩ | ⟨g, rfl⟩
            · rw [if_pos g]
              simp only [Sem.run_bind, Sem.run_pure, Result.andThen_ok]
              rw [f1]
              simp [newRow]
            · have hzv : (zeroValue e).run P w = .ok z w := by simp [zeroValue, typeInfo, i1, kz1]
              rw [if_neg g]
              simp only [Sem.run_bind, Sem.run_pure, Result.andThen_ok, hzv]
              rw [f1]
              simp [newRow]
        · cases hb
      · cases hb
    · cases hb
  · cases hb
end alloc
end Go.Abs
