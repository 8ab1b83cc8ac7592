/-
Renaming; a part of a heap; what a call on a part does to the whole.
-/
import Derived.Test.YtnkjpkfijafkgaaA16w
set_option linter.unusedVariables false
set_option linter.unusedSimpArgs false
set_option linter.unusedSectionVars false
namespace Go.Abs

section ren
variable {ι ι' : Emb} {f : Nat → Option Nat} (hf : ∀ a l b, ι a = some l → f a = some b → ι' b = some l)
include hf
mutual
theorem VR.ren : ∀ {v : AV} {x : Value}, VR ι v x → VR ι' (v.ren f) x
  | .undef, _, _ => trivial
  | .bool _, _, hv => hv
  | .int _ _, _, hv => hv
  | .str _, _, hv => hv
  | .nilptr, _, hv => hv
  | .ptr a b i st, _, hv => by
    obtain ⟨l, hl, e⟩ := hv
    unfold AV.ren
    cases hfa : f a with
    | none => exact trivial
    | some a' => exact ⟨l, hf a l a' hl hfa, e⟩
  | .slice a b o n st nl w, _, hv => by
    unfold AV.ren
    cases hfa : f a with
    | none => exact trivial
    | some a' =>
      refine ⟨hv.1, fun hn => ?_⟩
      obtain ⟨l, ad, cap, hl, e⟩ := hv.2 hn
      exact ⟨l, ad, cap, hf a l a' hl hfa, e⟩
  | .nilsl, _, hv => hv
  | .func g xs cs, _, hv => by
    obtain ⟨xs', cs', e, h1, h2⟩ := hv
    exact ⟨xs', cs', e, VRL.ren h1, VRL.ren h2⟩
  | .nilfunc, _, hv => hv
  | .yield _, _, hv => hv
  | .iface t x, _, hv => by obtain ⟨x', e, h1⟩ := hv; exact ⟨x', e, VR.ren h1⟩
  | .niliface, _, hv => hv
  | .agg ss, _, hv => by obtain ⟨cs, e, h1⟩ := hv; exact ⟨cs, e, SR.ren h1⟩
  | .tuple vs, _, hv => by obtain ⟨vs', e, h1⟩ := hv; exact ⟨vs', e, VRL.ren h1⟩
theorem VRL.ren : ∀ {v : List AV} {x : List Value}, VRL ι v x → VRL ι' (AV.renL f v) x
  | [], _, hv => hv
  | v :: r, _, hv => by obtain ⟨x, l', e, h1, h2⟩ := hv; exact ⟨x, l', e, VR.ren h1, VRL.ren h2⟩
theorem SR.ren : ∀ {v : List Seg} {x : List Value}, SR ι v x → SR ι' (AV.renS f v) x
  | [], _, hv => hv
  | .cell v :: r, _, hv => by obtain ⟨x, l', e, h1, h2, h3⟩ := hv; exact ⟨x, l', e, VR.ren h1, h2, SR.ren h3⟩
  | .run k n z :: r, _, hv => by obtain ⟨e0, l', e, h1⟩ := hv; exact ⟨e0, l', e, SR.ren h1⟩
end
end ren

section
variable {f : Nat → Option Nat}
theorem segSize_ren : ∀ (ss : List Seg), segSize (AV.renS f ss) = segSize ss
  | [] => by simp [AV.renS]
  | .cell v :: r => by simp [AV.renS, segSize, segSize_ren r]
  | .run k n z :: r => by simp [AV.renS, segSize, segSize_ren r]
theorem segsOk_ren : ∀ (ss : List Seg), segsOk ss → segsOk (AV.renS f ss)
  | [], _ => by simp [AV.renS, segsOk]
  | .cell v :: r, h => by simp only [AV.renS, segsOk]; exact segsOk_ren r h
  | .run k n z :: r, h => by simp only [AV.renS, segsOk]; exact ⟨h.1, segsOk_ren r h.2⟩
theorem segAtN_ren : ∀ (ss : List Seg) (i : Nat) (v : AV), segAtN (AV.renS f ss) i = some v → ∃ u, segAtN ss i = some u ∧ v = u.ren f
  | [], i, v, h => by simp [AV.renS, segAtN] at h
  | .cell u :: r, i, v, h => by
    simp only [AV.renS, segAtN] at h ⊢
    by_cases hi : i = 0
    · rw [if_pos hi] at h; cases h; exact ⟨u, by rw [if_pos hi], rfl⟩
    · rw [if_neg hi] at h; rw [if_neg hi]; exact segAtN_ren r (i - 1) v h
  | .run k n z :: r, i, v, h => by
    simp only [AV.renS, segAtN] at h ⊢
    by_cases hi : i < n
    · rw [if_pos hi] at h; cases h; exact ⟨_, by rw [if_pos hi], by simp [AV.ren]⟩
    · rw [if_neg hi] at h; rw [if_neg hi]; exact segAtN_ren r (i - n) v h
theorem colGet1_ren : ∀ {cs : List Col} {j i : Nat} {u : AV}, colGet1 cs j i = some u → u.ren f = u
  | [], j, i, u, h => by simp [colGet1] at h
  | c :: cs, j, i, u, h => by
    unfold colGet1 at h
    by_cases hj : j = 0
    · rw [if_pos hj] at h; cases h; cases c <;> simp [Col.get, AV.ren]
    · rw [if_neg hj] at h; exact colGet1_ren h
theorem Blk.at_ren (b : Blk) (i : Nat) (v : AV) (h : (b.ren f).at i = some v) : ∃ u, b.at i = some u ∧ v = u.ren f := by
  cases b with
  | dead => simp [Blk.ren, Blk.at] at h
  | iter s p => simp [Blk.ren, Blk.at] at h
  | segs rw t ss => exact segAtN_ren ss i v h
  | dyn rw t cols =>
    simp only [Blk.ren, Blk.at] at h ⊢
    by_cases hi : i < colsLen cols * cols.length
    · rw [if_pos hi] at h ⊢; exact ⟨v, h, (colGet1_ren h).symm⟩
    · rw [if_neg hi] at h; cases h
theorem Blk.live_ren (b : Blk) : (b.ren f).live = b.live := by cases b <;> rfl
theorem Blk.rw_ren (b : Blk) : (b.ren f).rw = b.rw := by cases b <;> rfl
theorem Blk.ok_ren (b : Blk) (h : b.ok) : (b.ren f).ok := by
  cases b with
  | segs rw t ss => exact segsOk_ren ss h
  | _ => exact h
theorem Blk.room_ren (b : Blk) (l : Loc) : (b.ren f).room l = b.room l := by
  cases b with
  | segs rw t ss => exact segSize_ren ss
  | _ => rfl
theorem Blk.cap_ren (b : Blk) (l : Loc) (h : b.capOk l) : (b.ren f).capOk l := by cases b <;> exact h
theorem BR.ren {ι ι' : Emb} {w : World} {l : Loc} {b : Blk} (hf : ∀ a l b, ι a = some l → f a = some b → ι' b = some l) (h : BR ι w l b) : BR ι' w l (b.ren f) where
  cell := fun i v hv => by
    obtain ⟨u, hu, rfl⟩ := b.at_ren i v hv
    obtain ⟨x, hx, h1, h2⟩ := h.cell i u hu
    exact ⟨x, hx, h1.ren hf, h2⟩
  ok := b.ok_ren h.ok
  room := fun hrw i hi => h.room (by rwa [b.rw_ren] at hrw) i (by rwa [b.room_ren] at hi)
  cap := b.cap_ren l h.cap
  org := fun hrw => h.org (by rwa [b.rw_ren] at hrw)
  fz := fun hrw => h.fz (by rwa [b.rw_ren] at hrw)
  it := fun s p e => h.it s p (by cases b <;> simp only [Blk.ren] at e <;> first | exact e | cases e)
end

/-! ### a part of a heap -/
def cutE (ι : Emb) (ids : List Nat) : Emb := fun i => match ids[i]? with
  | some a => ι a
  | none => none
theorem posOf_get : ∀ {l : List Nat} {k a i : Nat}, posOf l k a = some i → ∃ j, i = k + j ∧ l[j]? = some a
  | [], k, a, i, h => by simp [posOf] at h
  | x :: r, k, a, i, h => by
    unfold posOf at h
    by_cases e : x = a
    · rw [if_pos e] at h; cases h; exact ⟨0, by simp, by simp [e]⟩
    · rw [if_neg e] at h
      obtain ⟨j, h1, h2⟩ := posOf_get h
      exact ⟨j + 1, by omega, by simpa using h2⟩
theorem cutE_pos {ι : Emb} {ids : List Nat} {a : Nat} {l : Loc} {b : Nat} (h : ι a = some l) (hp : posOf ids 0 a = some b) : cutE ι ids b = some l := by
  obtain ⟨j, rfl, hj⟩ := posOf_get hp
  rw [Nat.zero_add]
  simp [cutE, hj, h]
theorem fn_eq (H : Heap) (a : Nat) : Heap.fn H a = (H[a]?).getD .dead := by
  unfold Heap.fn; cases H[a]? <;> rfl
theorem pick_get (H : Heap) : ∀ (ids : List Nat) (i : Nat), (pick H ids)[i]? = (ids[i]?).map (Heap.fn H)
  | [], i => by simp [pick]
  | a :: r, 0 => by simp [pick, fn_eq]
  | a :: r, i + 1 => by simp [pick, pick_get H r i]
theorem renH_get (f : Nat → Option Nat) : ∀ (H : Heap) (i : Nat), (renH f H)[i]? = (H[i]?).map (Blk.ren f)
  | [], i => by simp [renH]
  | b :: r, 0 => by simp [renH]
  | b :: r, i + 1 => by simp [renH, renH_get f r i]
theorem renH_len (f : Nat → Option Nat) : ∀ (H : Heap), (renH f H).length = H.length
  | [] => rfl
  | b :: r => by simp [renH, renH_len f r]
theorem pick_len (H : Heap) : ∀ (ids : List Nat), (pick H ids).length = ids.length
  | [] => rfl
  | b :: r => by simp [pick, pick_len H r]
/-- the part that some blocks are -/
def part (H : Heap) (ids : List Nat) : Heap := renH (posOf ids 0) (pick H ids)
theorem part_fn (H : Heap) (ids : List Nat) (i : Nat) : Heap.fn (part H ids) i = match ids[i]? with | some a => (Heap.fn H a).ren (posOf ids 0) | none => .dead := by
  rw [fn_eq, part, renH_get, pick_get]
  cases ids[i]? <;> rfl
theorem fn_live {H : Heap} {h : HF} (hc : Cov H h) {a : Nat} (hl : (Heap.fn H a).live = true) : h a = Heap.fn H a := by
  refine hc a ?_
  rcases Nat.lt_or_ge a H.length with g | g
  · exact g
  · rw [fn_eq, List.getElem?_eq_none g] at hl; cases hl
theorem part_live {H : Heap} {h : HF} (hc : Cov H h) {ids : List Nat} {i : Nat} (hl : (Heap.fn (part H ids) i).live = true) : ∃ a, ids[i]? = some a ∧ (h a).live = true ∧ Heap.fn (part H ids) i = (h a).ren (posOf ids 0) := by
  rw [part_fn] at hl ⊢
  cases hi : ids[i]? with
  | none => rw [hi] at hl; cases hl
  | some a =>
    rw [hi] at hl
    simp only [Blk.live_ren] at hl ⊢
    exact ⟨a, rfl, by rw [fn_live hc hl]; exact hl, by rw [fn_live hc hl]⟩
theorem nodup_get {ids : List Nat} (hnd : ids.Nodup) {i j a : Nat} (h1 : ids[i]? = some a) (h2 : ids[j]? = some a) : i = j := by
  obtain ⟨hi, ei⟩ := List.getElem?_eq_some_iff.1 h1
  obtain ⟨hj, ej⟩ := List.getElem?_eq_some_iff.1 h2
  rcases Nat.lt_trichotomy i j with g | g | g
  · exact absurd (ei.trans ej.symm) (List.pairwise_iff_getElem.1 hnd i j hi hj g)
  · exact g
  · exact absurd (ej.trans ei.symm) (List.pairwise_iff_getElem.1 hnd j i hj hi g)
theorem part_own {H : Heap} {h : HF} {ι : Emb} (hc : Cov H h) {ids : List Nat} {b : Nat} (ho : Own (cutE ι ids) (Heap.fn (part H ids)) b) : ∃ (i a : Nat) (l : Loc), ids[i]? = some a ∧ (h a).rw = true ∧ ι a = some l ∧ l.b = b := by
  obtain ⟨i, l, h1, h2, h3⟩ := ho
  obtain ⟨a, g1, g2, g3⟩ := part_live hc (Blk.live_of_rw h1)
  rw [g3, Blk.rw_ren] at h1
  simp only [cutE, g1] at h2
  exact ⟨i, a, l, g1, h1, h2, h3⟩
theorem part_lives {H : Heap} {h : HF} {ι : Emb} (hc : Cov H h) {ids : List Nat} {b : Nat} (ho : Lives (cutE ι ids) (Heap.fn (part H ids)) b) : ∃ (i a : Nat) (l : Loc), ids[i]? = some a ∧ (h a).live = true ∧ ι a = some l ∧ l.b = b := by
  obtain ⟨i, l, h1, h2, h3⟩ := ho
  obtain ⟨a, g1, g2, g3⟩ := part_live hc h1
  simp only [cutE, g1] at h2
  exact ⟨i, a, l, g1, g2, h2, h3⟩
theorem HR.part {ι : Emb} {H : Heap} {h : HF} {w : World} {ids : List Nat} (hr : HR ι h w) (hc : Cov H h) (hnd : ids.Nodup) : HR (cutE ι ids) (Heap.fn (part H ids)) w where
  blk := fun i l hi hl => by
    obtain ⟨a, g1, g2, g3⟩ := part_live hc hi
    simp only [cutE, g1] at hl
    obtain ⟨h1, h2⟩ := hr.blk a l g2 hl
    rw [g3]
    exact ⟨h1.ren fun a l b => cutE_pos, h2⟩
  nil := fun i hi hl => by
    obtain ⟨a, g1, g2, g3⟩ := part_live hc hi
    simp only [cutE, g1] at hl
    obtain ⟨t, cols, e, h1, h2, h3⟩ := hr.nil a g2 hl
    exact ⟨t, cols, by rw [g3, e]; rfl, h1, h2, h3⟩
  one := fun i j l l' hne h1 h2 hl hl' => by
    obtain ⟨a, g1, g2, g3⟩ := part_live hc (Blk.live_of_rw h1)
    obtain ⟨a', g1', g2', g3'⟩ := part_live hc h2
    simp only [cutE, g1] at hl
    simp only [cutE, g1'] at hl'
    rw [g3, Blk.rw_ren] at h1
    refine hr.one a a' l l' (fun e => hne ?_) h1 g2' hl hl'
    subst e
    exact nodup_get hnd g1 g1'

/-! ### a part laid back -/
theorem putAll_len : ∀ (ids : List Nat) (bs : List Blk) (H : Heap), (putAll H ids bs).length = H.length
  | [], bs, H => by cases bs <;> rfl
  | a :: r, [], H => rfl
  | a :: r, b :: bs, H => by simp [putAll, putAll_len r bs]
theorem putAll_out : ∀ (ids : List Nat) (bs : List Blk) (H : Heap) (x : Nat), x ∉ ids → (putAll H ids bs)[x]? = H[x]?
  | [], bs, H, x, _ => by cases bs <;> rfl
  | a :: r, [], H, x, _ => rfl
  | a :: r, b :: bs, H, x, hx => by
    simp only [putAll]
    rw [putAll_out r bs _ x (fun h => hx (List.mem_cons_of_mem _ h)), List.getElem?_set_ne (fun e => hx (by simp [e]))]
theorem putAll_in : ∀ (ids : List Nat) (bs : List Blk) (H : Heap) (x i : Nat) (b : Blk), ids.Nodup → ids[i]? = some x → bs[i]? = some b → x < H.length → (putAll H ids bs)[x]? = some b
  | [], bs, H, x, i, b, _, h, _, _ => by simp at h
  | a :: r, [], H, x, i, b, _, _, h, _ => by simp at h
  | a :: r, c :: bs, H, x, 0, b, hnd, h1, h2, hx => by
    simp at h1 h2
    subst h1; subst h2
    simp only [putAll]
    rw [putAll_out r bs _ a (List.nodup_cons.mp hnd).1, List.getElem?_set_self hx]
  | a :: r, c :: bs, H, x, i + 1, b, hnd, h1, h2, hx => by
    simp only [putAll]
    exact putAll_in r bs _ x i b (List.nodup_cons.mp hnd).2 (by simpa using h1) (by simpa using h2) (by simpa using hx)

/-- what a call made of its part, laid into the whole -/
def mergeH (H : Heap) (ids : List Nat) (Hl : Heap) : Heap := putAll H ids ((renH (unpos ids H.length) Hl).take ids.length) ++ (renH (unpos ids H.length) Hl).drop ids.length
theorem merge_ok {ι ιl : Emb} {h : HF} {w w' : World} {H Hl : Heap} {ids : List Nat} {v : AV} {x : Value} (hr : HR ι h w) (hc : Cov H h) (hnd : ids.Nodup) (hlt : ∀ a ∈ ids, a < H.length) (hk : ids.length ≤ Hl.length)
    (hfresh : ∀ a, H.length ≤ a → a < H.length + (Hl.length - ids.length) → ι a = none)
    (hold : ∀ i, i < ids.length → ιl i = cutE ι ids i) (hnew : ∀ i, Hl.length ≤ i → ιl i = none) (hrl : HR ιl (Heap.fn Hl) w') (hst : Stp (cutE ι ids) (Heap.fn (part H ids)) w ιl (Heap.fn Hl) w') (hv : VR ιl v x) :
    (mergeH H ids Hl).length = H.length + (Hl.length - ids.length) ∧ ∃ ι' h', Wr ι h w H.length (mergeH H ids Hl) (v.ren (unpos ids H.length)) ι' h' x w' := by
  have hlen : (mergeH H ids Hl).length = H.length + (Hl.length - ids.length) := by
    simp [mergeH, putAll_len, renH_len]
  refine ⟨hlen, ?_⟩
  let ι' : Emb := fun a => if a < H.length then ι a else if a < H.length + (Hl.length - ids.length) then ιl (ids.length + (a - H.length)) else ι a
  let h' : HF := fun a => if a < (mergeH H ids Hl).length then Heap.fn (mergeH H ids Hl) a else h a
  have hcut : ∀ {i a}, ids[i]? = some a → i < ids.length := fun {i a} hi => (List.getElem?_eq_some_iff.1 hi).1
  have hmem : ∀ {i a}, ids[i]? = some a → a ∈ ids := fun {i a} hi => List.mem_of_getElem? hi
  have hgι : ∀ a l b, ιl a = some l → unpos ids H.length a = some b → ι' b = some l := fun i l b hl hg => by
    unfold unpos at hg
    cases hi : ids[i]? with
    | some a =>
      rw [hi] at hg
      cases hg
      have := hold i (hcut hi)
      simp only [cutE, hi] at this
      show (if b < H.length then ι b else _) = some l
      rw [if_pos (hlt _ (hmem hi)), ← this, hl]
    | none =>
      rw [hi] at hg
      cases hg
      have h1 : ids.length ≤ i := by
        rcases Nat.lt_or_ge i ids.length with g | g
        · rw [List.getElem?_eq_getElem g] at hi; cases hi
        · exact g
      have h2 : i < Hl.length := by
        rcases Nat.lt_or_ge i Hl.length with g | g
        · exact g
        · rw [hnew i g] at hl; cases hl
      show (if H.length + (i - ids.length) < H.length then _ else if _ then ιl _ else _) = some l
      rw [if_neg (by omega), if_pos (by omega), ← hl]
      congr 1; omega
  -- each block is a block of the part, or one that the call knew nothing of
  have hcase : ∀ b, (∃ i, i < Hl.length ∧ unpos ids H.length i = some b ∧ h' b = (Heap.fn Hl i).ren (unpos ids H.length) ∧ ι' b = ιl i) ∨ (b ∉ ids ∧ h' b = h b ∧ ι' b = ι b) := fun b => by
    by_cases hb : b < H.length + (Hl.length - ids.length)
    · have e0 : h' b = Heap.fn (mergeH H ids Hl) b := by show (if b < _ then _ else _) = _; rw [if_pos (by omega)]
      by_cases hbN : b < H.length
      · by_cases hin : b ∈ ids
        · obtain ⟨i, hi, hib⟩ := List.getElem_of_mem hin
          have hi? : ids[i]? = some b := by rw [List.getElem?_eq_getElem hi, hib]
          refine .inl ⟨i, by omega, by simp [unpos, hi?], ?_, ?_⟩
          · rw [e0, fn_eq, mergeH, List.getElem?_append_left (by rw [putAll_len]; exact hbN), putAll_in ids _ H b i ((Heap.fn Hl i).ren (unpos ids H.length)) hnd hi? ?_ hbN]
            · rfl
            · rw [List.getElem?_take_of_lt hi, renH_get, fn_eq, List.getElem?_eq_getElem (by omega)]
              rfl
          · show (if b < H.length then ι b else _) = ιl i
            rw [if_pos hbN, hold i hi]
            simp [cutE, hi?]
        · refine .inr ⟨hin, ?_, ?_⟩
          · rw [e0, fn_eq, mergeH, List.getElem?_append_left (by rw [putAll_len]; exact hbN), putAll_out _ _ _ _ hin, hc b hbN, fn_eq]
          · show (if b < H.length then ι b else _) = ι b
            rw [if_pos hbN]
      · refine .inl ⟨ids.length + (b - H.length), by omega, ?_, ?_, ?_⟩
        · unfold unpos
          rw [List.getElem?_eq_none (by omega)]
          simp only [Option.some.injEq]
          omega
        · rw [e0, fn_eq, mergeH, List.getElem?_append_right (by rw [putAll_len]; omega), putAll_len, List.getElem?_drop, renH_get, fn_eq, List.getElem?_eq_getElem (by omega)]
          rfl
        · show (if b < H.length then ι b else if _ then ιl _ else _) = _
          rw [if_neg hbN, if_pos hb]
    · refine .inr ⟨fun hin => ?_, ?_, ?_⟩
      · have := hlt b hin; omega
      · show (if b < _ then _ else _) = _; rw [if_neg (by omega)]
      · show (if b < H.length then ι b else if _ then ιl _ else _) = _
        rw [if_neg (by omega), if_neg hb]
  have hinj : ∀ {i j b}, i < Hl.length → j < Hl.length → unpos ids H.length i = some b → unpos ids H.length j = some b → i = j := fun {i j b} hi hj h1 h2 => by
    unfold unpos at h1 h2
    cases ei : ids[i]? with
    | some a =>
      rw [ei] at h1
      cases h1
      cases ej : ids[j]? with
      | some a' => rw [ej] at h2; cases h2; exact nodup_get hnd ei ej
      | none => rw [ej] at h2; cases h2; have := hlt _ (hmem ei); omega
    | none =>
      rw [ei] at h1
      cases h1
      have h3 : ids.length ≤ i := by
        rcases Nat.lt_or_ge i ids.length with g | g
        · rw [List.getElem?_eq_getElem g] at ei; cases ei
        · exact g
      cases ej : ids[j]? with
      | some a' => rw [ej] at h2; simp only [Option.some.injEq] at h2; have := hlt _ (hmem ej); omega
      | none =>
        rw [ej] at h2
        simp only [Option.some.injEq] at h2
        have h4 : ids.length ≤ j := by
          rcases Nat.lt_or_ge j ids.length with g | g
          · rw [List.getElem?_eq_getElem g] at ej; cases ej
          · exact g
        omega
  have hown : ∀ b, b < w.heap.size → Own ιl (Heap.fn Hl) b → ∃ (i a : Nat) (l : Loc), ids[i]? = some a ∧ (h a).rw = true ∧ ι a = some l ∧ l.b = b := fun b hb ho => part_own hc (hst.own b hb ho)
  have hlive : ∀ b, b < w.heap.size → Lives ιl (Heap.fn Hl) b → ∃ (i a : Nat) (l : Loc), ids[i]? = some a ∧ (h a).live = true ∧ ι a = some l ∧ l.b = b := fun b hb ho => part_lives hc (hst.live b hb ho)
  refine ⟨ι', h', hv.ren hgι, fun a l ha => ?_, fun a ha => ?_, fun a ha => ⟨?_, ?_⟩, fun a ha => ?_, ⟨fun a l hl hla => ?_, fun a hl hla => ?_, fun a a' l l' hne h1 h2 hla hla' => ?_⟩, ⟨hst.size, fun b hb hno => ?_, fun b hb ⟨a, l, h1, h2, h3⟩ => ?_, fun b hb ⟨a, l, h1, h2, h3⟩ => ?_, hst.outer⟩⟩
  · show (if a < H.length then ι a else if _ then ιl _ else _) = some l
    by_cases h1 : a < H.length
    · rw [if_pos h1, ha]
    · rw [if_neg h1]
      by_cases h2 : a < H.length + (Hl.length - ids.length)
      · rw [hfresh a (by omega) h2] at ha; cases ha
      · rw [if_neg h2, ha]
  · show (if a < H.length then ι a else if _ then ιl _ else _) = ι a
    rw [if_pos ha]
  · show (if a < H.length then ι a else if _ then ιl _ else _) = ι a
    rw [if_neg (by omega), if_neg (by omega)]
  · show (if a < _ then _ else _) = h a
    rw [if_neg (by omega)]
  · show (if a < _ then _ else _) = _
    rw [if_pos ha]
  · rcases hcase a with ⟨i, g0, g1, g2, g3⟩ | ⟨g1, g2, g3⟩
    · rw [g2, Blk.live_ren] at hl
      rw [g3] at hla
      obtain ⟨b1, b2⟩ := hrl.blk i l hl hla
      rw [g2]
      exact ⟨b1.ren hgι, b2⟩
    · rw [g2] at hl ⊢
      rw [g3] at hla
      obtain ⟨b1, b2⟩ := hr.blk a l hl hla
      have hno : ¬ Own (cutE ι ids) (Heap.fn (part H ids)) l.b := fun ho => by
        obtain ⟨i, a0, l0, e1, e2, e3, e4⟩ := part_own hc ho
        exact hr.one a0 a l0 l (fun e => g1 (by rw [← e]; exact hmem e1)) e2 hl e3 hla e4
      refine ⟨(b1.mono (ι' := ι') fun z lz hz => ?_).world (hst.same l.b b2 hno), Nat.lt_of_lt_of_le b2 hst.size⟩
      show (if z < H.length then ι z else if _ then ιl _ else _) = some lz
      by_cases h1 : z < H.length
      · rw [if_pos h1, hz]
      · rw [if_neg h1]
        by_cases h2 : z < H.length + (Hl.length - ids.length)
        · rw [hfresh z (by omega) h2] at hz; cases hz
        · rw [if_neg h2, hz]
  · rcases hcase a with ⟨i, g0, g1, g2, g3⟩ | ⟨g1, g2, g3⟩
    · rw [g2, Blk.live_ren] at hl
      rw [g3] at hla
      obtain ⟨t, cols, e, r⟩ := hrl.nil i hl hla
      exact ⟨t, cols, by rw [g2, e]; rfl, r⟩
    · rw [g2] at hl ⊢
      rw [g3] at hla
      exact hr.nil a hl hla
  · rcases hcase a with ⟨i, g0, g1, g2, g3⟩ | ⟨g1, g2, g3⟩
    · rw [g2, Blk.rw_ren] at h1
      rw [g3] at hla
      rcases hcase a' with ⟨j, k0, k1, k2, k3⟩ | ⟨k1, k2, k3⟩
      · rw [k2, Blk.live_ren] at h2
        rw [k3] at hla'
        refine hrl.one i j l l' (fun e => hne ?_) h1 h2 hla hla'
        subst e
        rw [g1] at k1
        exact Option.some.inj k1
      · rw [k2] at h2
        rw [k3] at hla'
        have hb' := (hr.blk a' l' h2 hla').2
        intro e
        obtain ⟨i0, a0, l0, e1, e2, e3, e4⟩ := hown l.b (by omega) ⟨i, l, h1, hla, rfl⟩
        exact hr.one a0 a' l0 l' (fun e => k1 (by rw [← e]; exact hmem e1)) e2 h2 e3 hla' (by omega)
    · rw [g2] at h1
      rw [g3] at hla
      have hb := (hr.blk a l (Blk.live_of_rw h1) hla).2
      rcases hcase a' with ⟨j, k0, k1, k2, k3⟩ | ⟨k1, k2, k3⟩
      · rw [k2, Blk.live_ren] at h2
        rw [k3] at hla'
        intro e
        obtain ⟨i0, a0, l0, e1, e2, e3, e4⟩ := hlive l'.b (by omega) ⟨j, l', h2, hla', rfl⟩
        exact hr.one a a0 l l0 (fun e => g1 (by rw [e]; exact hmem e1)) h1 e2 hla e3 (by omega)
      · rw [k2] at h2
        rw [k3] at hla'
        exact hr.one a a' l l' hne h1 h2 hla hla'
  · refine hst.same b hb fun ho => hno ?_
    obtain ⟨i, a0, l0, e1, e2, e3, e4⟩ := part_own hc ho
    exact ⟨a0, l0, e2, e3, e4⟩
  · rcases hcase a with ⟨i, g0, g1, g2, g3⟩ | ⟨g1, g2, g3⟩
    · rw [g2, Blk.rw_ren] at h1
      rw [g3] at h2
      obtain ⟨i0, a0, l0, e1, e2, e3, e4⟩ := hown b hb ⟨i, l, h1, h2, h3⟩
      exact ⟨a0, l0, e2, e3, e4⟩
    · rw [g2] at h1
      rw [g3] at h2
      exact ⟨a, l, h1, h2, h3⟩
  · rcases hcase a with ⟨i, g0, g1, g2, g3⟩ | ⟨g1, g2, g3⟩
    · rw [g2, Blk.live_ren] at h1
      rw [g3] at h2
      obtain ⟨i0, a0, l0, e1, e2, e3, e4⟩ := hlive b hb ⟨i, l, h1, h2, h3⟩
      exact ⟨a0, l0, e2, e3, e4⟩
    · rw [g2] at h1
      rw [g3] at h2
      exact ⟨a, l, h1, h2, h3⟩
end Go.Abs
