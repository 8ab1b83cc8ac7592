/-
How an abstract value, an abstract heap stand for the model's: the relations, and how they last.
-/
import Derived.Test.YtnkjpkfijafkgaaA2
import Derived.WalkKit
set_option linter.unusedVariables false
set_option linter.unusedSimpArgs false
namespace Go.Abs

/-- where a block lies: the model's block, its first cell, how many elements there is room for -/
structure Loc where
  b : Nat
  o : Nat
  cap : Nat
abbrev Emb := Nat → Option Loc
def Loc.at (l : Loc) (i : Nat) : Addr := ⟨l.b, l.o + i, none⟩

mutual
def VR (ι : Emb) : AV → Value → Prop
  | .undef, _ => True
  | .bool b, v => v = .bool b
  | .int k n, v => v = .int k n
  | .str s, v => v = .string s
  | .nilptr, v => v = .pointer none
  | .ptr a b i st, v => ∃ l, ι a = some l ∧ v = .pointer (some (l.at (b + i * st)))
  | .slice a b o n st nl w, v =>
    (nl = true → v = .slice none 0 0 ∧ n = 0) ∧
    (nl = false → ∃ l ad cap, ι a = some l ∧ v = .slice (some ad) n cap ∧ n ≤ cap ∧ (0 < n → ad = l.at (b + o * st)) ∧ (w = true → ad = l.at 0 ∧ cap = l.cap))
  | .nilsl, v => v = .slice none 0 0
  | .func f xs cs, v => ∃ xs' cs', v = .func (.func f) xs' cs' ∧ VRL ι xs xs'.toList ∧ VRL ι cs cs'.toList
  | .nilfunc, v => v = .nilFunc
  | .yield l, v => v = .func (.yield l) #[] #[]
  | .iface t x, v => ∃ x', v = .iface t x' ∧ VR ι x x'
  | .niliface, v => v = .nilIface
  | .agg ss, v => ∃ cs, v = .agg cs ∧ SR ι ss cs.toList
  | .tuple vs, v => ∃ vs', v = .tuple vs' ∧ VRL ι vs vs'.toList
def VRL (ι : Emb) : List AV → List Value → Prop
  | [], l => l = []
  | v :: r, l => ∃ x l', l = x :: l' ∧ VR ι v x ∧ VRL ι r l'
def SR (ι : Emb) : List Seg → List Value → Prop
  | [], l => l = []
  | .cell v :: r, l => ∃ x l', l = x :: l' ∧ VR ι v x ∧ x.oneCell' = true ∧ SR ι r l'
  | .run k n z :: r, l => z.length = n ∧ ∃ l', l = z.map (.int k) ++ l' ∧ SR ι r l'
end

def Sub (ι ι' : Emb) : Prop := ∀ a l, ι a = some l → ι' a = some l
theorem Sub.refl (ι : Emb) : Sub ι ι := fun _ _ h => h
theorem Sub.trans {a b c : Emb} (h : Sub a b) (h' : Sub b c) : Sub a c := fun x l hx => h' x l (h x l hx)

mutual
theorem VR.mono {ι ι' : Emb} (h : Sub ι ι') : ∀ {v : AV} {x : Value}, VR ι v x → VR ι' v x
  | .undef, _, _ => trivial
  | .bool _, _, hv => hv
  | .int _ _, _, hv => hv
  | .str _, _, hv => hv
  | .nilptr, _, hv => hv
  | .ptr a b i st, _, hv => by obtain ⟨l, hl, e⟩ := hv; exact ⟨l, h _ _ hl, e⟩
  | .slice a b o n st nl w, _, hv => by
    refine ⟨hv.1, fun hn => ?_⟩
    obtain ⟨l, ad, cap, hl, e⟩ := hv.2 hn
    exact ⟨l, ad, cap, h _ _ hl, e⟩
  | .nilsl, _, hv => hv
  | .func f xs cs, _, hv => by
    obtain ⟨xs', cs', e, h1, h2⟩ := hv
    exact ⟨xs', cs', e, VRL.mono h h1, VRL.mono h h2⟩
  | .nilfunc, _, hv => hv
  | .yield _, _, hv => hv
  | .iface t x, _, hv => by obtain ⟨x', e, h1⟩ := hv; exact ⟨x', e, VR.mono h h1⟩
  | .niliface, _, hv => hv
  | .agg ss, _, hv => by obtain ⟨cs, e, h1⟩ := hv; exact ⟨cs, e, SR.mono h h1⟩
  | .tuple vs, _, hv => by obtain ⟨vs', e, h1⟩ := hv; exact ⟨vs', e, VRL.mono h h1⟩
theorem VRL.mono {ι ι' : Emb} (h : Sub ι ι') : ∀ {v : List AV} {x : List Value}, VRL ι v x → VRL ι' v x
  | [], _, hv => hv
  | v :: r, _, hv => by obtain ⟨x, l', e, h1, h2⟩ := hv; exact ⟨x, l', e, VR.mono h h1, VRL.mono h h2⟩
theorem SR.mono {ι ι' : Emb} (h : Sub ι ι') : ∀ {v : List Seg} {x : List Value}, SR ι v x → SR ι' v x
  | [], _, hv => hv
  | .cell v :: r, _, hv => by obtain ⟨x, l', e, h1, h2, h3⟩ := hv; exact ⟨x, l', e, VR.mono h h1, h2, SR.mono h h3⟩
  | .run k n z :: r, _, hv => by obtain ⟨e0, l', e, h1⟩ := hv; exact ⟨e0, l', e, SR.mono h h1⟩
end

theorem VRL.length {ι : Emb} : ∀ {v : List AV} {x : List Value}, VRL ι v x → x.length = v.length
  | [], _, hv => by cases hv; rfl
  | v :: r, _, hv => by obtain ⟨x, l', e, h1, h2⟩ := hv; subst e; simp [VRL.length h2]
theorem VRL.append {ι : Emb} : ∀ {v v' : List AV} {x x' : List Value}, VRL ι v x → VRL ι v' x' → VRL ι (v ++ v') (x ++ x')
  | [], _, _, _, hv, h' => by cases hv; exact h'
  | v :: r, _, _, _, hv, h' => by obtain ⟨x, l', e, h1, h2⟩ := hv; subst e; exact ⟨x, _, rfl, h1, h2.append h'⟩
theorem VRL.nth {ι : Emb} : ∀ {vs : List AV} {xs : List Value} {i : Nat} {v : AV}, VRL ι vs xs → nth vs i = some v → ∃ x, xs[i]? = some x ∧ VR ι v x
  | [], _, _, _, _, h => by simp [Abs.nth] at h
  | v :: r, _, i, u, hv, h => by
    obtain ⟨x, l', e, h1, h2⟩ := hv
    subst e
    unfold Abs.nth at h
    by_cases hi : i = 0
    · subst hi; simp at h; subst h; exact ⟨x, rfl, h1⟩
    · rw [if_neg hi] at h
      obtain ⟨y, hy, hr⟩ := VRL.nth h2 h
      refine ⟨y, ?_, hr⟩
      obtain ⟨j, rfl⟩ : ∃ j, i = j + 1 := ⟨i - 1, by omega⟩
      simpa using hy

/-! ### rows of cells -/
def segAtN : List Seg → Nat → Option AV
  | [], _ => none
  | .cell v :: r, i => if i = 0 then some v else segAtN r (i - 1)
  | .run k n z :: r, i => if i < n then some (.int k (z.getD i 0)) else segAtN r (i - n)
def segsOk : List Seg → Prop
  | [] => True
  | .cell v :: r => segsOk r
  | .run k n z :: r => z.length = n ∧ segsOk r

theorem SR.len {ι : Emb} : ∀ {ss : List Seg} {l : List Value}, SR ι ss l → l.length = segSize ss
  | [], _, h => by cases h; rfl
  | .cell v :: r, _, h => by obtain ⟨x, l', e, _, _, h2⟩ := h; subst e; simp [segSize, SR.len h2]
  | .run k n z :: r, _, h => by obtain ⟨e0, l', e, h1⟩ := h; subst e; simp [segSize, SR.len h1, e0]; omega
theorem SR.ok {ι : Emb} : ∀ {ss : List Seg} {l : List Value}, SR ι ss l → segsOk ss
  | [], _, h => trivial
  | .cell v :: r, _, h => by obtain ⟨x, l', e, _, _, h2⟩ := h; exact SR.ok (ss := r) h2
  | .run k n z :: r, _, h => by obtain ⟨e0, l', e, h1⟩ := h; exact ⟨e0, SR.ok h1⟩
theorem getD_map_int {k : IntKind} {z : List Int} {i : Nat} (h : i < z.length) : (z.map (Value.int k))[i]? = some (.int k (z.getD i 0)) := by
  simp [List.getD, h]
theorem SR.get {ι : Emb} : ∀ {ss : List Seg} {l : List Value} {i : Nat} {v : AV}, SR ι ss l → segAtN ss i = some v → ∃ x, l[i]? = some x ∧ VR ι v x ∧ x.oneCell' = true
  | [], _, _, _, _, h => by simp [segAtN] at h
  | .cell u :: r, _, i, v, hs, h => by
    obtain ⟨x, l', e, h1, h2, h3⟩ := hs
    subst e
    unfold segAtN at h
    by_cases hi : i = 0
    · subst hi; simp at h; subst h; exact ⟨x, rfl, h1, h2⟩
    · rw [if_neg hi] at h
      obtain ⟨y, hy, hr⟩ := SR.get h3 h
      obtain ⟨j, rfl⟩ : ∃ j, i = j + 1 := ⟨i - 1, by omega⟩
      exact ⟨y, by simpa using hy, hr⟩
  | .run k n z :: r, _, i, v, hs, h => by
    obtain ⟨e0, l', e, h1⟩ := hs
    subst e
    unfold segAtN at h
    by_cases hi : i < n
    · rw [if_pos hi] at h
      simp at h
      subst h
      refine ⟨_, ?_, rfl, rfl⟩
      rw [List.getElem?_append_left (by simp; omega)]
      exact getD_map_int (by omega)
    · rw [if_neg hi] at h
      obtain ⟨y, hy, hr⟩ := SR.get h1 h
      refine ⟨y, ?_, hr⟩
      rw [List.getElem?_append_right (by simp; omega)]
      simpa [e0] using hy
theorem SR.of_get {ι : Emb} : ∀ {ss : List Seg} {l : List Value}, l.length = segSize ss → segsOk ss →
    (∀ i v, segAtN ss i = some v → ∃ x, l[i]? = some x ∧ VR ι v x ∧ x.oneCell' = true) → SR ι ss l
  | [], l, hl, _, _ => by
    have : l = [] := by simpa [segSize] using hl
    subst this; exact rfl
  | .cell u :: r, l, hl, hok, h => by
    cases l with
    | nil => simp [segSize] at hl
    | cons x l' =>
      obtain ⟨y, hy, h1, h2⟩ := h 0 u (by simp [segAtN])
      simp at hy
      subst hy
      refine ⟨x, l', rfl, h1, h2, SR.of_get (by simpa [segSize] using hl) hok fun i v hi => ?_⟩
      obtain ⟨y, hy, hr⟩ := h (i + 1) v (by simpa [segAtN] using hi)
      exact ⟨y, by simpa using hy, hr⟩
  | .run k n z :: r, l, hl, hok, h => by
    refine ⟨hok.1, l.drop n, ?_, SR.of_get ?_ hok.2 fun i v hi => ?_⟩
    · have hz := hok.1
      simp only [segSize] at hl
      apply List.ext_getElem?
      intro i
      by_cases hi : i < n
      · rw [List.getElem?_append_left (by simp; omega)]
        obtain ⟨y, hy, h1, _⟩ := h i (.int k (z.getD i 0)) (by simp [segAtN, hi])
        rw [hy, getD_map_int (by omega)]
        exact congrArg some h1
      · rw [List.getElem?_append_right (by simp; omega)]
        simp [hz]
        congr 1
        omega
    · simp only [segSize] at hl; simp; omega
    · obtain ⟨y, hy, hr⟩ := h (n + i) v (by unfold segAtN; rw [if_neg (by omega)]; simpa using hi)
      exact ⟨y, by simpa using hy, hr⟩

theorem segAtN_lt : ∀ {ss : List Seg} {i : Nat} {v : AV}, segAtN ss i = some v → i < segSize ss
  | [], _, _, h => by simp [segAtN] at h
  | .cell u :: r, i, v, h => by
    unfold segAtN at h
    by_cases hi : i = 0
    · simp [segSize]; omega
    · rw [if_neg hi] at h; have := segAtN_lt h; simp [segSize]; omega
  | .run k n z :: r, i, v, h => by
    unfold segAtN at h
    by_cases hi : i < n
    · simp [segSize]; omega
    · rw [if_neg hi] at h; have := segAtN_lt h; simp [segSize]; omega
theorem segAtN_some : ∀ {ss : List Seg} {i : Nat}, i < segSize ss → ∃ v, segAtN ss i = some v
  | [], _, h => by simp [segSize] at h
  | .cell u :: r, i, h => by
    unfold segAtN
    by_cases hi : i = 0
    · rw [if_pos hi]; exact ⟨_, rfl⟩
    · rw [if_neg hi]; exact segAtN_some (by simp [segSize] at h; omega)
  | .run k n z :: r, i, h => by
    unfold segAtN
    by_cases hi : i < n
    · rw [if_pos hi]; exact ⟨_, rfl⟩
    · rw [if_neg hi]; exact segAtN_some (by simp [segSize] at h; omega)
theorem segSize_append : ∀ (x y : List Seg), segSize (x ++ y) = segSize x + segSize y
  | [], y => by simp [segSize]
  | .cell u :: r, y => by simp [segSize, segSize_append r y]; omega
  | .run k n z :: r, y => by simp [segSize, segSize_append r y]; omega
theorem segsOk_append : ∀ {x y : List Seg}, segsOk (x ++ y) ↔ segsOk x ∧ segsOk y
  | [], y => by simp [segsOk]
  | .cell u :: r, y => by simp [segsOk, segsOk_append (x := r)]
  | .run k n z :: r, y => by simp [segsOk, segsOk_append (x := r), and_assoc]
theorem segAtN_append : ∀ (x y : List Seg) (i : Nat), segAtN (x ++ y) i = if i < segSize x then segAtN x i else segAtN y (i - segSize x)
  | [], y, i => by simp [segSize]
  | .cell u :: r, y, i => by
    have e : segSize (Seg.cell u :: r) = segSize r + 1 := rfl
    have e1 : segAtN (Seg.cell u :: r ++ y) i = if i = 0 then some u else segAtN (r ++ y) (i - 1) := rfl
    have e2 : segAtN (Seg.cell u :: r) i = if i = 0 then some u else segAtN r (i - 1) := rfl
    rw [e, e1, e2]
    by_cases hi : i = 0
    · subst hi; simp
    · rw [if_neg hi, if_neg hi, segAtN_append r y]
      by_cases h : i - 1 < segSize r
      · rw [if_pos h, if_pos (by omega)]
      · rw [if_neg h, if_neg (by omega)]; congr 1; omega
  | .run k n z :: r, y, i => by
    have e : segSize (Seg.run k n z :: r) = segSize r + n := rfl
    have e1 : segAtN (Seg.run k n z :: r ++ y) i = if i < n then some (.int k (z.getD i 0)) else segAtN (r ++ y) (i - n) := rfl
    have e2 : segAtN (Seg.run k n z :: r) i = if i < n then some (.int k (z.getD i 0)) else segAtN r (i - n) := rfl
    rw [e, e1, e2]
    by_cases hi : i < n
    · rw [if_pos hi, if_pos (by omega), if_pos hi]
    · rw [if_neg hi, if_neg hi, segAtN_append r y]
      by_cases h : i - n < segSize r
      · rw [if_pos h, if_pos (by omega)]
      · rw [if_neg h, if_neg (by omega)]; congr 1; omega
theorem segDrop_spec : ∀ {ss : List Seg} {b : Nat} {r : List Seg}, segDrop ss b = some r → segSize ss = b + segSize r ∧ (∀ i, segAtN r i = segAtN ss (b + i)) ∧ (segsOk ss → segsOk r)
  | [], b, r, h => by
    unfold segDrop at h
    by_cases hb : b = 0
    · rw [if_pos hb] at h; simp at h; subst h; subst hb; simp
    · rw [if_neg hb] at h; simp at h
  | .cell u :: q, b, r, h => by
    unfold segDrop at h
    by_cases hb : b = 0
    · rw [if_pos hb] at h; simp at h; subst h; subst hb; simp
    · rw [if_neg hb] at h
      obtain ⟨h1, h2, h3⟩ := segDrop_spec h
      refine ⟨by simp [segSize]; omega, fun i => ?_, fun ho => h3 ho⟩
      rw [h2, segAtN, if_neg (by omega)]; congr 1; omega
  | .run k n z :: q, b, r, h => by
    unfold segDrop at h
    by_cases hb : b = 0
    · rw [if_pos hb] at h; simp at h; subst h; subst hb; simp
    · rw [if_neg hb] at h
      by_cases hn : n ≤ b
      · rw [if_pos hn] at h
        obtain ⟨h1, h2, h3⟩ := segDrop_spec h
        refine ⟨by simp [segSize]; omega, fun i => ?_, fun ho => h3 ho.2⟩
        rw [h2, segAtN, if_neg (by omega)]; congr 1; omega
      · rw [if_neg hn] at h; simp at h
theorem segTake_spec : ∀ {ss : List Seg} {b : Nat} {r : List Seg}, segTake ss b = some r → segSize r = b ∧ (∀ i, i < b → segAtN r i = segAtN ss i) ∧ (segsOk ss → segsOk r)
  | [], b, r, h => by
    unfold segTake at h
    by_cases hb : b = 0
    · rw [if_pos hb] at h; simp at h; subst h; subst hb; simp [segSize]
    · rw [if_neg hb] at h; simp at h
  | .cell u :: q, b, r, h => by
    unfold segTake at h
    by_cases hb : b = 0
    · rw [if_pos hb] at h; simp at h; subst h; subst hb; simp [segSize, segsOk]
    · rw [if_neg hb] at h
      cases hq : segTake q (b - 1) with
      | none => rw [hq] at h; simp at h
      | some r' =>
        rw [hq] at h; simp at h; subst h
        obtain ⟨h1, h2, h3⟩ := segTake_spec hq
        refine ⟨by simp [segSize]; omega, fun i hi => ?_, fun ho => h3 ho⟩
        simp only [segAtN]
        by_cases h0 : i = 0
        · simp [h0]
        · rw [if_neg h0, if_neg h0]; exact h2 _ (by omega)
  | .run k n z :: q, b, r, h => by
    unfold segTake at h
    by_cases hb : b = 0
    · rw [if_pos hb] at h; simp at h; subst h; subst hb; simp [segSize, segsOk]
    · rw [if_neg hb] at h
      by_cases hn : n ≤ b
      · rw [if_pos hn] at h
        cases hq : segTake q (b - n) with
        | none => rw [hq] at h; simp at h
        | some r' =>
          rw [hq] at h; simp at h; subst h
          obtain ⟨h1, h2, h3⟩ := segTake_spec hq
          refine ⟨by simp [segSize]; omega, fun i hi => ?_, fun ho => ⟨ho.1, h3 ho.2⟩⟩
          simp only [segAtN]
          by_cases h0 : i < n
          · simp [h0]
          · rw [if_neg h0, if_neg h0]; exact h2 _ (by omega)
      · rw [if_neg hn] at h; simp at h
theorem segCut_spec {ss : List Seg} {b n : Nat} {r : List Seg} (h : segCut ss b n = some r) :
    segSize r = n ∧ b + n ≤ segSize ss ∧ (∀ i, i < n → segAtN r i = segAtN ss (b + i)) ∧ (segsOk ss → segsOk r) := by
  unfold segCut at h
  cases hd : segDrop ss b with
  | none => simp [hd] at h
  | some x =>
    simp [hd] at h
    obtain ⟨d1, d2, d3⟩ := segDrop_spec hd
    obtain ⟨t1, t2, t3⟩ := segTake_spec h
    refine ⟨t1, ?_, fun i hi => by rw [t2 i hi, d2], fun ho => t3 (d3 ho)⟩
    have : n ≤ segSize x := by
      rcases Nat.lt_or_ge (segSize x) n with hlt | hge
      · obtain ⟨v, hv⟩ := segAtN_some (ss := r) (i := segSize x) (by omega)
        rw [t2 _ hlt] at hv
        exact absurd (segAtN_lt hv) (by omega)
      · exact hge
    omega
theorem segGet_at : ∀ {ss : List Seg} {b i : Nat} {v : AV}, segGet ss b i = some v → segAtN ss (b + i) = some v
  | [], _, _, _, h => by simp [segGet] at h
  | .cell u :: q, b, i, v, h => by
    unfold segGet at h
    by_cases hb : b = 0
    · rw [if_pos hb] at h
      by_cases hi : i = 0
      · rw [if_pos hi] at h; subst hb; subst hi; simpa [segAtN] using h
      · rw [if_neg hi] at h; simp at h
    · rw [if_neg hb] at h
      rw [segAtN, if_neg (by omega), ← segGet_at h]; congr 1; omega
  | .run k n z :: q, b, i, v, h => by
    unfold segGet at h
    by_cases hb : b < n
    · rw [if_pos hb] at h
      by_cases hi : b + i < n
      · rw [if_pos hi] at h; rw [segAtN, if_pos hi]; exact h
      · rw [if_neg hi] at h; simp at h
    · rw [if_neg hb] at h
      rw [segAtN, if_neg (by omega), ← segGet_at h]; congr 1; omega

/-! ### blocks -/
def colsOk (cols : List Col) : Prop := ∀ c ∈ cols, c.len = colsLen cols
/-- the cell of a block -/
def Blk.at : Blk → Nat → Option AV
  | .dead, _ => none
  | .segs _ _ ss, i => segAtN ss i
  | .dyn _ _ cols, i => if i < colsLen cols * cols.length then colGet1 cols (i % cols.length) (i / cols.length) else none
  | .iter _ _, _ => none
def Blk.ok : Blk → Prop
  | .dead => True
  | .segs _ _ ss => segsOk ss
  | .dyn _ _ cols => colsOk cols ∧ 0 < cols.length
  | .iter _ _ => True
/-- how many cells there are beyond doubt -/
def Blk.room (l : Loc) : Blk → Nat
  | .dead => 0
  | .segs _ _ ss => segSize ss
  | .dyn rw _ cols => if rw then l.cap * cols.length else colsLen cols * cols.length
  | .iter _ _ => 0
def Blk.capOk (l : Loc) : Blk → Prop
  | .dyn _ _ cols => colsLen cols ≤ l.cap
  | _ => True
/-- the frozen cells of a block -/
def fzOf (w : World) (b : Nat) : Nat × Nat := match w.heap[b]? with
  | some (.cells _ _ f) => f
  | _ => (0, 0)
structure BR (ι : Emb) (w : World) (l : Loc) (k : Blk) : Prop where
  cell : ∀ i v, k.at i = some v → ∃ x, w.cell? (l.at i) = some x ∧ VR ι v x ∧ x.oneCell' = true
  ok : k.ok
  room : k.rw = true → ∀ i, i < k.room l → (∃ x, w.cell? (l.at i) = some x) ∧ w.frozen? (l.at i) = false
  cap : k.capOk l
  org : k.rw = true → l.o = 0
  it : ∀ s p, k = .iter s p → w.heap[l.b]? = some (.stringIter s p)
  fz : k.rw = true → (fzOf w l.b).1 ≤ (fzOf w l.b).2

abbrev HF := Nat → Blk
def Heap.fn (H : Heap) : HF := fun a => match H[a]? with | some b => b | none => .dead
/-- a heap stands for a world -/
structure HR (ι : Emb) (h : HF) (w : World) : Prop where
  blk : ∀ a l, (h a).live = true → ι a = some l → BR ι w l (h a) ∧ l.b < w.heap.size
  nil : ∀ a, (h a).live = true → ι a = none → ∃ t cols, h a = .dyn true t cols ∧ colsOk cols ∧ 0 < cols.length ∧ colsLen cols = 0
  one : ∀ a a' l l', a ≠ a' → (h a).rw = true → (h a').live = true → ι a = some l → ι a' = some l' → l.b ≠ l'.b

theorem Blk.live_of_rw {k : Blk} (h : k.rw = true) : k.live = true := by cases k <;> simp_all [Blk.rw, Blk.live]
theorem BR.mono {ι ι' : Emb} {w : World} {l : Loc} {k : Blk} (h : BR ι w l k) (hs : Sub ι ι') : BR ι' w l k :=
  ⟨fun i v hv => let ⟨x, hx, h1, h2⟩ := h.cell i v hv; ⟨x, hx, h1.mono hs, h2⟩, h.ok, h.room, h.cap, h.org, h.it, h.fz⟩
theorem cell?_of_heap {w w' : World} {b : Nat} (h : w'.heap[b]? = w.heap[b]?) (i : Nat) : w'.cell? ⟨b, i, none⟩ = w.cell? ⟨b, i, none⟩ := by
  simp only [World.cell?, h]
theorem frozen?_of_heap {w w' : World} {b : Nat} (h : w'.heap[b]? = w.heap[b]?) (i : Nat) : w'.frozen? ⟨b, i, none⟩ = w.frozen? ⟨b, i, none⟩ := by
  simp only [World.frozen?, h]
theorem BR.world {ι : Emb} {w w' : World} {l : Loc} {k : Blk} (h : BR ι w l k) (e : w'.heap[l.b]? = w.heap[l.b]?) : BR ι w' l k :=
  ⟨fun i v hv => let ⟨x, hx, h1, h2⟩ := h.cell i v hv; ⟨x, (cell?_of_heap e _).trans hx, h1, h2⟩, h.ok,
    fun hr i hi => let ⟨⟨x, hx⟩, h2⟩ := h.room hr i hi; ⟨⟨x, (cell?_of_heap e _).trans hx⟩, (frozen?_of_heap e _).trans h2⟩, h.cap, h.org, fun s p hk => e.trans (h.it s p hk), fun hr => by have := h.fz hr; simp only [fzOf, e] at this ⊢; exact this⟩

/-- what a step may have turned: only blocks that may be written -/
structure Fr (ι : Emb) (h : HF) (w w' : World) : Prop where
  size : w.heap.size ≤ w'.heap.size
  same : ∀ b, b < w.heap.size → (∀ a l, (h a).rw = true → ι a = some l → l.b ≠ b) → w'.heap[b]? = w.heap[b]?
theorem Fr.refl (ι : Emb) (h : HF) (w : World) : Fr ι h w w := ⟨Nat.le_refl _, fun _ _ _ => rfl⟩
/-- what is not the heap is as it was -/
def Outer (w w' : World) : Prop := w'.os = w.os ∧ w'.tape = w.tape ∧ w'.output = w.output
theorem Outer.refl (w : World) : Outer w w := ⟨rfl, rfl, rfl⟩
theorem Outer.trans {a b c : World} (h : Outer a b) (h' : Outer b c) : Outer a c := ⟨h'.1.trans h.1, h'.2.1.trans h.2.1, h'.2.2.trans h.2.2⟩
/-- all that was there is as it was -/
structure Keep (w w' : World) : Prop where
  size : w.heap.size ≤ w'.heap.size
  same : ∀ b, b < w.heap.size → w'.heap[b]? = w.heap[b]?
  outer : Outer w w'
theorem Keep.refl (w : World) : Keep w w := ⟨Nat.le_refl _, fun _ _ => rfl, Outer.refl w⟩
theorem Keep.trans {a b c : World} (h : Keep a b) (h' : Keep b c) : Keep a c :=
  ⟨Nat.le_trans h.size h'.size, fun i hi => (h'.same i (Nat.lt_of_lt_of_le hi h.size)).trans (h.same i hi), h.outer.trans h'.outer⟩
theorem Keep.fr {w w' : World} (h : Keep w w') (ι : Emb) (k : HF) : Fr ι k w w' := ⟨h.size, fun b hb _ => h.same b hb⟩
theorem keep_alloc (w : World) (o : Obj) : Keep w (w.alloc o) := ⟨by simp, fun b hb => heap_alloc_old w o hb, ⟨rfl, rfl, rfl⟩⟩
theorem keep_drew (w : World) : Keep w w.drew := ⟨Nat.le_refl _, fun _ _ => rfl, ⟨rfl, rfl, rfl⟩⟩
theorem HR.keep {ι : Emb} {h : HF} {w w' : World} (hr : HR ι h w) (k : Keep w w') : HR ι h w' :=
  ⟨fun a l ha hl => let ⟨h1, h2⟩ := hr.blk a l ha hl; ⟨h1.world (k.same _ h2), Nat.lt_of_lt_of_le h2 k.size⟩, hr.nil, hr.one⟩

end Go.Abs
