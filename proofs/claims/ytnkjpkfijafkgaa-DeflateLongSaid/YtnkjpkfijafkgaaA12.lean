/-
Writing: what a step may do to a heap; a block written in place, a block that is handed on by a new name.
-/
import Derived.Test.YtnkjpkfijafkgaaA11
set_option linter.unusedVariables false
set_option linter.unusedSimpArgs false
namespace Go.Abs

/-- a block of the model that may be written -/
def Own (ι : Emb) (h : HF) (b : Nat) : Prop := ∃ a l, (h a).rw = true ∧ ι a = some l ∧ l.b = b
/-- a block of the model that is known -/
def Lives (ι : Emb) (h : HF) (b : Nat) : Prop := ∃ a l, (h a).live = true ∧ ι a = some l ∧ l.b = b
/-- what a step may have done -/
structure Stp (ι : Emb) (h : HF) (w : World) (ι' : Emb) (h' : HF) (w' : World) : Prop where
  size : w.heap.size ≤ w'.heap.size
  same : ∀ b, b < w.heap.size → ¬ Own ι h b → w'.heap[b]? = w.heap[b]?
  own : ∀ b, b < w.heap.size → Own ι' h' b → Own ι h b
  live : ∀ b, b < w.heap.size → Lives ι' h' b → Lives ι h b
  outer : Outer w w'
theorem Stp.refl (ι : Emb) (h : HF) (w : World) : Stp ι h w ι h w := ⟨Nat.le_refl _, fun _ _ _ => rfl, fun _ _ h => h, fun _ _ h => h, Outer.refl w⟩
theorem Stp.trans {ι ι1 ι2 : Emb} {h h1 h2 : HF} {w w1 w2 : World} (s : Stp ι h w ι1 h1 w1) (s' : Stp ι1 h1 w1 ι2 h2 w2) : Stp ι h w ι2 h2 w2 where
  size := Nat.le_trans s.size s'.size
  same := fun b hb hn => (s'.same b (Nat.lt_of_lt_of_le hb s.size) fun ho => hn (s.own b hb ho)).trans (s.same b hb hn)
  own := fun b hb ho => s.own b hb (s'.own b (Nat.lt_of_lt_of_le hb s.size) ho)
  live := fun b hb ho => s.live b hb (s'.live b (Nat.lt_of_lt_of_le hb s.size) ho)
  outer := s.outer.trans s'.outer

/-- a step of the interpreter on a heap of n blocks, and the model's -/
structure Wr (ι : Emb) (h : HF) (w : World) (n : Nat) (H' : Heap) (v : AV) (ι' : Emb) (h' : HF) (x : Value) (w' : World) : Prop where
  val : VR ι' v x
  sub : Sub ι ι'
  old : ∀ a, a < n → ι' a = ι a
  out : ∀ a, H'.length ≤ a → ι' a = ι a ∧ h' a = h a
  cov : Cov H' h'
  hr : HR ι' h' w'
  stp : Stp ι h w ι' h' w'

section
variable {β : Type} {P : Program} {T : TT} {ι : Emb} {w : World} {h : HF} {r : β}

theorem Wr.pure {H : Heap} {v : AV} {x : Value} (hv : VR ι v x) (hc : Cov H h) (hr : HR ι h w) : Wr ι h w H.length H v ι h x w := ⟨hv, Sub.refl ι, fun _ _ => rfl, fun _ _ => ⟨rfl, rfl⟩, hc, hr, Stp.refl ι h w⟩
theorem addB_rw : ∀ {bs : List Blk} {h : HF} {n a : Nat}, a < n ∨ n + bs.length ≤ a → (addB h n bs a) = h a := addB_out
theorem Al.wr {H : Heap} {v : AV} {bs : List Blk} {s : Sem Value} {ι' : Emb} {x : Value} {w' : World} (al : Al P ι h w H.length v bs s ι' x w') (hc : Cov H h)
    (hn : ∀ i, i < bs.length → ι (H.length + i) = none) : Wr ι h w H.length (H ++ bs) v ι' (addB h H.length bs) x w' where
  val := al.val
  sub := al.sub
  old := fun a ha => al.out a (.inl ha)
  out := fun a ha => by simp at ha; exact ⟨al.out a (.inr ha), addB_out (.inr ha)⟩
  cov := hc.add bs
  hr := al.hr
  stp := by
    have key : ∀ (k : Blk → Bool), (∀ a l, k (addB h H.length bs a) = true → ι' a = some l → l.b < w.heap.size → k (h a) = true ∧ ι a = some l) := fun k a l h1 h2 h3 => by
      cases hi : ι a with
      | none => exact absurd (al.news a l hi h2) (by omega)
      | some l' =>
        have := al.sub a l' hi
        rw [h2] at this
        cases this
        rcases Nat.lt_or_ge a H.length with hl | hl
        · rw [addB_out (.inl hl)] at h1; exact ⟨h1, rfl⟩
        · rcases Nat.lt_or_ge a (H.length + bs.length) with hl' | hl'
          · have := hn (a - H.length) (by omega)
            rw [show H.length + (a - H.length) = a by omega, hi] at this
            cases this
          · rw [addB_out (.inr hl')] at h1; exact ⟨h1, rfl⟩
    refine ⟨al.keep.size, fun b hb _ => al.keep.same b hb, fun b hb ⟨a, l, h1, h2, h3⟩ => ?_, fun b hb ⟨a, l, h1, h2, h3⟩ => ?_, al.keep.outer⟩
    · obtain ⟨g1, g2⟩ := key Blk.rw a l h1 h2 (by omega)
      exact ⟨a, l, g1, g2, h3⟩
    · obtain ⟨g1, g2⟩ := key Blk.live a l h1 h2 (by omega)
      exact ⟨a, l, g1, g2, h3⟩

/-! ### a row of cells is written -/
theorem heap_setCells {b : Nat} : ∀ (vs : List Value) (o : Nat) (w : World), (w.setCells b o vs).heap.size = w.heap.size ∧ ∀ k, k ≠ b → (w.setCells b o vs).heap[k]? = w.heap[k]?
  | [], o, w => ⟨rfl, fun _ _ => rfl⟩
  | v :: r, o, w => by
    obtain ⟨h1, h2⟩ := heap_setCells r (o + 1) (w.setCell ⟨b, o, none⟩ v)
    refine ⟨by rw [World.setCells, h1, World.size_setCell], fun k hk => ?_⟩
    rw [World.setCells, h2 k hk, heap_setCell_other _ _ _ _ hk]
theorem outer_setCells {b : Nat} : ∀ (vs : List Value) (o : Nat) (w : World), Outer w (w.setCells b o vs)
  | [], o, w => Outer.refl w
  | v :: r, o, w => Outer.trans (b := w.setCell ⟨b, o, none⟩ v) ⟨rfl, rfl, rfl⟩ (outer_setCells r (o + 1) _)
theorem fzOf_setCell {b o c : Nat} {v : Value} (w : World) : fzOf (w.setCell ⟨b, o, none⟩ v) c = fzOf w c := by
  unfold fzOf World.setCell
  simp only [Array.getElem?_modify]
  by_cases e : b = c
  · rw [if_pos e, ← e]
    cases w.heap[b]? with
    | none => rfl
    | some x => cases x <;> rfl
  · rw [if_neg e]
theorem fzOf_setCells {b c : Nat} : ∀ (vs : List Value) (o : Nat) (w : World), fzOf (w.setCells b o vs) c = fzOf w c
  | [], o, w => rfl
  | v :: r, o, w => by rw [World.setCells, fzOf_setCells r (o + 1), fzOf_setCell]
theorem BR.write' {l : Loc} {k k' : Blk} {o : Nat} {vs : List Value} (hb : BR ι w l k) (hrw : k.rw = true) (hok : k'.ok) (hcap : k'.capOk l) (hroom : k'.room l ≤ k.room l)
    (hvs : o + vs.length ≤ k.room l) (h1 : ∀ v ∈ vs, v.oneCell' = true)
    (hat : ∀ i v, k'.at i = some v → if o ≤ i ∧ i < o + vs.length then ∃ x, vs[i - o]? = some x ∧ VR ι v x else ∃ v', k.at i = some v' ∧ ∀ x, VR ι v' x → VR ι v x)
    (hit : ∀ s p, k' ≠ .iter s p := by intro s p h; cases h) :
    BR ι (w.setCells l.b (l.o + o) vs) l k' ∧ (storeCells (l.at o) vs).run P w = .ok () (w.setCells l.b (l.o + o) vs) := by
  have hin : ∀ j, j < vs.length → (w.cell? ⟨l.b, l.o + o + j, none⟩).isSome = true := fun j hj => by
    obtain ⟨⟨x, hx⟩, _⟩ := hb.room hrw (o + j) (by omega)
    have : w.cell? ⟨l.b, l.o + o + j, none⟩ = some x := by rw [show l.o + o + j = l.o + (o + j) by omega]; exact hx
    rw [this]; rfl
  refine ⟨⟨fun i v hv => ?_, hok, fun _ i hi => ?_, hcap, fun _ => hb.org hrw, fun s p h => absurd h (hit s p), fun _ => by rw [fzOf_setCells]; exact hb.fz hrw⟩, ?_⟩
  · have := hat i v hv
    by_cases hc : o ≤ i ∧ i < o + vs.length
    · rw [if_pos hc] at this
      obtain ⟨x, hx, hvr⟩ := this
      have hj : i - o < vs.length := by omega
      have hs := World.cell?_setCells_in l.b vs (l.o + o) w hin (i - o) hj
      rw [List.getElem?_eq_getElem hj] at hx
      refine ⟨x, ?_, hvr, h1 x (by simp at hx; rw [← hx]; exact List.getElem_mem hj)⟩
      unfold Loc.at
      rw [show l.o + i = l.o + o + (i - o) by omega, hs, hx]
    · rw [if_neg hc] at this
      obtain ⟨v', hat', himp⟩ := this
      obtain ⟨x, hx, hr, hr1⟩ := hb.cell i v' hat'
      refine ⟨x, ?_, himp x hr, hr1⟩
      rw [World.cell?_setCells_out l.b vs (l.o + o) w _ (fun _ _ => by simp only [Loc.at]; omega)]
      exact hx
  · obtain ⟨⟨x, hx⟩, hf⟩ := hb.room hrw i (by omega)
    refine ⟨?_, by rw [World.frozen?_setCells]; exact hf⟩
    by_cases hc : o ≤ i ∧ i < o + vs.length
    · have hj : i - o < vs.length := by omega
      have hs := World.cell?_setCells_in l.b vs (l.o + o) w hin (i - o) hj
      refine ⟨vs[i - o], ?_⟩
      unfold Loc.at
      rw [show l.o + i = l.o + o + (i - o) by omega, hs]
    · refine ⟨x, ?_⟩
      rw [World.cell?_setCells_out l.b vs (l.o + o) w _ (fun _ _ => by simp only [Loc.at]; omega)]
      exact hx
  · have := run_storeCells_cells (P := P) l.b (l.o + o) vs 0 w (by simpa using hin) (fun j hj => by
      have := (hb.room hrw (o + j) (by omega)).2
      rw [Nat.add_zero, show l.o + o + j = l.o + (o + j) by omega]; exact this) h1
    rw [Nat.add_zero] at this
    exact this
theorem BR.write {l : Loc} {k k' : Blk} {o : Nat} {vs : List Value} (hb : BR ι w l k) (hrw : k.rw = true) (hok : k'.ok) (hcap : k'.capOk l) (hroom : k'.room l ≤ k.room l)
    (hvs : o + vs.length ≤ k.room l) (h1 : ∀ v ∈ vs, v.oneCell' = true)
    (hat : ∀ i v, k'.at i = some v → if o ≤ i ∧ i < o + vs.length then ∃ x, vs[i - o]? = some x ∧ VR ι v x else k.at i = some v)
    (hit : ∀ s p, k' ≠ .iter s p := by intro s p h; cases h) :
    BR ι (w.setCells l.b (l.o + o) vs) l k' ∧ (storeCells (l.at o) vs).run P w = .ok () (w.setCells l.b (l.o + o) vs) :=
  hb.write' hrw hok hcap hroom hvs h1 (fun i v hv => by
    have := hat i v hv
    by_cases hc : o ≤ i ∧ i < o + vs.length
    · rw [if_pos hc] at this ⊢; exact this
    · rw [if_neg hc] at this ⊢; exact ⟨v, this, fun _ h => h⟩) hit
theorem HR.write {a : Nat} {l : Loc} {k' : Blk} {w' : World} (hr : HR ι h w) (hrw : (h a).rw = true) (hl : ι a = some l) (hs : w'.heap.size = w.heap.size) (hsame : ∀ b, b ≠ l.b → w'.heap[b]? = w.heap[b]?)
    (hb : BR ι w' l k') : HR ι (upd h a k') w' where
  blk := fun x lx hx hlx => by
    by_cases e : x = a
    · subst e
      rw [hl] at hlx
      cases hlx
      rw [upd_same]
      exact ⟨hb, by rw [hs]; exact (hr.blk x l (Blk.live_of_rw hrw) hl).2⟩
    · rw [upd_ne e] at hx ⊢
      obtain ⟨h1, h2⟩ := hr.blk x lx hx hlx
      have hne := hr.one a x l lx (fun e' => e e'.symm) hrw hx hl hlx
      exact ⟨h1.world (hsame _ fun e' => hne e'.symm), by rw [hs]; exact h2⟩
  nil := fun x hx hlx => by
    by_cases e : x = a
    · subst e; rw [hl] at hlx; cases hlx
    · rw [upd_ne e] at hx ⊢; exact hr.nil x hx hlx
  one := fun x y lx ly hne h1 h2 hx hy => by
    by_cases e1 : x = a
    · subst e1
      have e2 : y ≠ x := fun e => hne e.symm
      rw [upd_ne e2] at h2
      exact hr.one x y lx ly hne hrw h2 hx hy
    · rw [upd_ne e1] at h1
      by_cases e2 : y = a
      · subst e2
        exact hr.one x y lx ly hne h1 (Blk.live_of_rw hrw) hx hy
      · rw [upd_ne e2] at h2
        exact hr.one x y lx ly hne h1 h2 hx hy
theorem HR.kill (hr : HR ι h w) (a : Nat) : HR ι (upd h a .dead) w where
  blk := fun x l hx hl => by
    by_cases e : x = a
    · subst e; rw [upd_same] at hx; cases hx
    · rw [upd_ne e] at hx ⊢; exact hr.blk x l hx hl
  nil := fun x hx hl => by
    by_cases e : x = a
    · subst e; rw [upd_same] at hx; cases hx
    · rw [upd_ne e] at hx ⊢; exact hr.nil x hx hl
  one := fun x y l l' hne h1 h2 hl hl' => by
    have e1 : x ≠ a := fun e => by subst e; rw [upd_same] at h1; cases h1
    have e2 : y ≠ a := fun e => by subst e; rw [upd_same] at h2; cases h2
    rw [upd_ne e1] at h1
    rw [upd_ne e2] at h2
    exact hr.one x y l l' hne h1 h2 hl hl'
/-- a block goes on under a new name -/
theorem HR.move {a n : Nat} {l : Loc} (hr : HR ι h w) (hl : ι a = some l) (hrw : (h a).rw = true) (hn : ι n = none) (hne : a ≠ n) : HR (ι.put n l) (upd (upd h a .dead) n (h a)) w where
  blk := fun x lx hx hlx => by
    by_cases e : x = n
    · subst e
      rw [Emb.put_same] at hlx
      cases hlx
      rw [upd_same]
      obtain ⟨h1, h2⟩ := hr.blk a l (Blk.live_of_rw hrw) hl
      exact ⟨h1.mono (Emb.sub_put hn), h2⟩
    · rw [upd_ne e] at hx ⊢
      rw [Emb.put_ne e] at hlx
      by_cases e' : x = a
      · subst e'; rw [upd_same] at hx; cases hx
      · rw [upd_ne e'] at hx ⊢
        obtain ⟨h1, h2⟩ := hr.blk x lx hx hlx
        exact ⟨h1.mono (Emb.sub_put hn), h2⟩
  nil := fun x hx hlx => by
    by_cases e : x = n
    · subst e; rw [Emb.put_same] at hlx; cases hlx
    · rw [upd_ne e] at hx ⊢
      rw [Emb.put_ne e] at hlx
      by_cases e' : x = a
      · subst e'; rw [upd_same] at hx; cases hx
      · rw [upd_ne e'] at hx ⊢; exact hr.nil x hx hlx
  one := fun x y lx ly hxy h1 h2 hx hy => by
    have key : ∀ z lz, (upd (upd h a .dead) n (h a) z).live = true → (ι.put n l) z = some lz → z ≠ n → z ≠ a ∧ (h z).live = true ∧ ι z = some lz := fun z lz hz hlz ez => by
      rw [upd_ne ez] at hz
      rw [Emb.put_ne ez] at hlz
      have : z ≠ a := fun e => by subst e; rw [upd_same] at hz; cases hz
      rw [upd_ne this] at hz
      exact ⟨this, hz, hlz⟩
    by_cases e1 : x = n
    · subst e1
      rw [Emb.put_same] at hx
      cases hx
      obtain ⟨k1, k2, k3⟩ := key y ly h2 hy (fun e => hxy e.symm)
      exact hr.one a y l ly (fun e => k1 e.symm) hrw k2 hl k3
    · obtain ⟨k1, k2, k3⟩ := key x lx (Blk.live_of_rw h1) hx e1
      rw [upd_ne e1, upd_ne k1] at h1
      by_cases e2 : y = n
      · subst e2
        rw [Emb.put_same] at hy
        cases hy
        exact hr.one x a lx l k1 h1 (Blk.live_of_rw hrw) k3 hl
      · obtain ⟨j1, j2, j3⟩ := key y ly h2 hy e2
        exact hr.one x y lx ly hxy h1 j2 k3 j3

/-! ### stores -/
theorem segUpd_some {ss : List Seg} {b i : Nat} {x : AV} {q : List Seg → Option β} (hu : segUpd ss b i x q = some r) (ho : segsOk ss) :
    ∃ ss', q ss' = some r ∧ segSize ss' = segSize ss ∧ segsOk ss' ∧ b + i < segSize ss ∧ ∀ j, segAtN ss' j = if j = b + i then some x else segAtN ss j := by
  unfold segUpd at hu
  split at hu
  · rename_i l k n z rest ht hd
    split at hu
    · rename_i k' m
      obtain ⟨hk, hu⟩ := bif_some hu
      simp only [decide_eq_true_eq] at hk
      subst hk
      split at hu
      · rename_i hi
        obtain ⟨t1, t2, t3⟩ := segTake_spec ht
        obtain ⟨d1, d2, d3⟩ := segDrop_spec hd
        have hz : z.length = n := (d3 ho).1
        have hsz : segSize (l ++ Seg.run k' n (z.set i m) :: rest) = segSize ss := by
          rw [segSize_append, t1]; simp only [segSize] at d1 ⊢; omega
        refine ⟨_, hu, hsz, segsOk_append.mpr ⟨t3 ho, by simp [hz], (d3 ho).2⟩, by simp only [segSize] at d1; omega, fun j => ?_⟩
        rw [segAtN_append, t1]
        by_cases hj : j < b
        · rw [if_pos hj, if_neg (by omega), t2 j hj]
        · rw [if_neg hj]
          have e2 := d2 (j - b)
          rw [show b + (j - b) = j by omega] at e2
          rw [← e2]
          simp only [segAtN]
          by_cases hjn : j - b < n
          · rw [if_pos hjn, if_pos hjn]
            by_cases hji : j = b + i
            · rw [if_pos hji]
              have : j - b = i := by omega
              rw [this]
              simp [List.getD, List.getElem?_set, hz, hi]
            · rw [if_neg hji]
              have : ¬ i = j - b := by omega
              simp [List.getD, List.getElem?_set, this]
          · rw [if_neg hjn, if_neg hjn, if_neg (by omega)]
      · cases hu
    · cases hu
  · rename_i l u rest ht hd
    obtain ⟨hi, hu2⟩ := bif_some hu
    simp only [decide_eq_true_eq] at hi
    subst hi
    clear hu
    obtain ⟨_, hu⟩ := bif_some hu2
    obtain ⟨t1, t2, t3⟩ := segTake_spec ht
    obtain ⟨d1, d2, d3⟩ := segDrop_spec hd
    have hsz : segSize (l ++ Seg.cell x :: rest) = segSize ss := by
      rw [segSize_append, t1]; simp only [segSize] at d1 ⊢; omega
    refine ⟨_, hu, hsz, segsOk_append.mpr ⟨t3 ho, d3 ho⟩, by simp only [segSize] at d1; omega, fun j => ?_⟩
    rw [segAtN_append, t1]
    by_cases hj : j < b
    · rw [if_pos hj, if_neg (by omega), t2 j hj]
    · rw [if_neg hj]
      have e2 := d2 (j - b)
      rw [show b + (j - b) = j by omega] at e2
      rw [← e2]
      simp only [segAtN]
      by_cases hjb : j - b = 0
      · rw [if_pos hjb, if_pos (by omega)]
      · rw [if_neg hjb, if_neg hjb, if_neg (by omega)]
  · cases hu

theorem Col.set_some {c c' : Col} {i : Nat} {v : AV} (hs : c.set i v = some c') : c'.len = c.len ∧ (∀ k, k ≠ i → c'.get k = c.get k) ∧ (i < c.len → c'.get i = v) ∧ c'.kind = c.kind := by
  cases c with
  | ints k l => cases v with
    | int k' n =>
      simp only [Col.set] at hs
      by_cases hk : k' = k
      · rw [if_pos hk] at hs
        cases hs
        subst hk
        refine ⟨by simp [Col.len], fun j hj => ?_, fun hi => ?_, rfl⟩
        · simp only [Col.get]; congr 1; have hj' : ¬ i = j := fun e => hj e.symm; simp [List.getD, List.getElem?_set, hj']
        · simp only [Col.get, Col.len] at hi ⊢; congr 1; simp [List.getD, List.getElem?_set, hi]
      · rw [if_neg hk] at hs; cases hs
    | _ => cases hs
  | bools l => cases v with
    | bool b =>
      simp only [Col.set] at hs
      cases hs
      refine ⟨by simp [Col.len], fun j hj => ?_, fun hi => ?_, rfl⟩
      · simp only [Col.get]; congr 1; have hj' : ¬ i = j := fun e => hj e.symm; simp [List.getD, List.getElem?_set, hj']
      · simp only [Col.get, Col.len] at hi ⊢; congr 1; simp [List.getD, List.getElem?_set, hi]
    | _ => cases hs
theorem colSet1_some {i m : Nat} {v : AV} (hi : i < m) : ∀ {cs cs' : List Col} {j : Nat}, colSet1 cs j i v = some cs' → (∀ c ∈ cs, c.len = m) →
    cs'.length = cs.length ∧ (∀ c ∈ cs', c.len = m) ∧ j < cs.length ∧ ∀ j' k, colGet1 cs' j' k = if j' = j ∧ k = i then some v else colGet1 cs j' k
  | [], _, _, hs, _ => by cases hs
  | c :: cs, cs', j, hs, hm => by
    unfold colSet1 at hs
    by_cases hj : j = 0
    · rw [if_pos hj] at hs
      subst hj
      cases hc : c.set i v with
      | none => rw [hc] at hs; cases hs
      | some c' =>
        rw [hc] at hs
        simp at hs
        subst hs
        obtain ⟨s1, s2, s3, _⟩ := Col.set_some hc
        have hcl := hm c (List.mem_cons_self ..)
        refine ⟨by simp, fun d hd => ?_, by simp, fun j' k => ?_⟩
        · rcases List.mem_cons.mp hd with rfl | hd
          · omega
          · exact hm d (List.mem_cons_of_mem _ hd)
        · simp only [colGet1]
          by_cases hj' : j' = 0
          · rw [if_pos hj', if_pos hj']
            by_cases hk : k = i
            · subst hk; rw [if_pos ⟨hj', rfl⟩, s3 (by omega)]
            · rw [if_neg (fun e => hk e.2), s2 k hk]
          · rw [if_neg hj', if_neg hj', if_neg (fun e => hj' e.1)]
    · rw [if_neg hj] at hs
      cases hc : colSet1 cs (j - 1) i v with
      | none => rw [hc] at hs; cases hs
      | some c' =>
        rw [hc] at hs
        simp at hs
        subst hs
        obtain ⟨s1, s2, s3, s4⟩ := colSet1_some hi hc (fun d hd => hm d (List.mem_cons_of_mem _ hd))
        refine ⟨by simp [s1], fun d hd => ?_, by simp; omega, fun j' k => ?_⟩
        · rcases List.mem_cons.mp hd with rfl | hd
          · exact hm _ (List.mem_cons_self ..)
          · exact s2 d hd
        · simp only [colGet1]
          by_cases hj' : j' = 0
          · rw [if_pos hj', if_pos hj', if_neg (fun e => hj (by omega))]
          · rw [if_neg hj', if_neg hj', s4]
            by_cases hc' : j' - 1 = j - 1 ∧ k = i
            · rw [if_pos hc', if_pos ⟨by omega, hc'.2⟩]
            · rw [if_neg hc', if_neg (fun e => hc' ⟨by omega, e.2⟩)]
theorem colsSet_some {i m : Nat} (hi : i < m) : ∀ {cs cs' : List Col} {vs : List AV}, colsSet cs i vs = some cs' → (∀ c ∈ cs, c.len = m) →
    cs'.length = cs.length ∧ vs.length = cs.length ∧ (∀ c ∈ cs', c.len = m) ∧ ∀ j k, colGet1 cs' j k = if k = i then vs[j]? else colGet1 cs j k
  | [], _, [], hs, _ => by cases hs; exact ⟨rfl, rfl, by simp, fun j k => by simp [colGet1]⟩
  | [], _, _ :: _, hs, _ => by cases hs
  | _ :: _, _, [], hs, _ => by cases hs
  | c :: cs, cs', v :: vs, hs, hm => by
    unfold colsSet at hs
    cases hc : c.set i v with
    | none => rw [hc] at hs; cases hs
    | some c' =>
      cases hq : colsSet cs i vs with
      | none => rw [hc, hq] at hs; cases hs
      | some cs1 =>
        rw [hc, hq] at hs
        simp at hs
        subst hs
        obtain ⟨s1, s2, s3, _⟩ := Col.set_some hc
        obtain ⟨g1, g2, g3, g4⟩ := colsSet_some hi hq (fun d hd => hm d (List.mem_cons_of_mem _ hd))
        have hcl := hm c (List.mem_cons_self ..)
        refine ⟨by simp [g1], by simp [g2], fun d hd => ?_, fun j k => ?_⟩
        · rcases List.mem_cons.mp hd with rfl | hd
          · omega
          · exact g3 d hd
        · simp only [colGet1]
          cases j with
          | zero =>
            simp only [if_true]
            by_cases hk : k = i
            · subst hk; rw [if_pos rfl, s3 (by omega)]; rfl
            · rw [if_neg hk, s2 k hk]
          | succ j =>
            simp only [Nat.succ_ne_zero, if_false, Nat.add_sub_cancel]
            rw [g4]
            rfl
end
end Go.Abs
