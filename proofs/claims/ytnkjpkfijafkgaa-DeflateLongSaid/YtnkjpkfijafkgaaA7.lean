/-
The operations that lay new blocks do what the interpreter says.
-/
import Derived.Test.YtnkjpkfijafkgaaA6
import Derived.Laws.IdiomStrings
set_option linter.unusedVariables false
set_option linter.unusedSimpArgs false
namespace Go.Abs

def upd (h : HF) (a : Nat) (k : Blk) : HF := fun x => if x = a then k else h x
def addB : HF → Nat → List Blk → HF
  | h, _, [] => h
  | h, n, b :: r => addB (upd h n b) (n + 1) r
theorem upd_same (h : HF) (a : Nat) (k : Blk) : upd h a k a = k := by simp [upd]
theorem upd_ne {h : HF} {a x : Nat} {k : Blk} (e : x ≠ a) : upd h a k x = h x := by simp [upd, e]
theorem addB_out : ∀ {bs : List Blk} {h : HF} {n a : Nat}, (a < n ∨ n + bs.length ≤ a) → addB h n bs a = h a
  | [], _, _, _, _ => rfl
  | b :: r, h, n, a, ha => by
    unfold addB
    rw [addB_out (by simp at ha; omega), upd_ne (by simp at ha; omega)]
theorem addB_in : ∀ {bs : List Blk} {h : HF} {n i : Nat} {b : Blk}, bs[i]? = some b → addB h n bs (n + i) = b
  | [], _, _, _, _, h => by simp at h
  | c :: r, h, n, 0, b, hb => by
    unfold addB
    simp at hb
    rw [addB_out (by simp), Nat.add_zero, upd_same, hb]
  | c :: r, h, n, i + 1, b, hb => by
    unfold addB
    rw [show n + (i + 1) = n + 1 + i by omega]
    exact addB_in (by simpa using hb)
theorem addB_append : ∀ {x y : List Blk} {h : HF} {n : Nat}, addB h n (x ++ y) = addB (addB h n x) (n + x.length) y
  | [], y, h, n => by simp [addB]
  | b :: r, y, h, n => by
    simp only [List.cons_append, addB, List.length_cons]
    rw [addB_append, show n + 1 + r.length = n + (r.length + 1) by omega]
theorem fn_append (H : Heap) (bs : List Blk) : Heap.fn (H ++ bs) = addB (Heap.fn H) H.length bs := by
  funext a
  unfold Heap.fn
  rcases Nat.lt_or_ge a H.length with h | h
  · rw [addB_out (.inl h), List.getElem?_append_left h]
  · rcases Nat.lt_or_ge a (H.length + bs.length) with h' | h'
    · have : bs[a - H.length]? = some bs[a - H.length] := by simp
      rw [List.getElem?_append_right h, this]
      have := addB_in (h := Heap.fn H) (n := H.length) this
      rw [show H.length + (a - H.length) = a by omega] at this
      unfold Heap.fn at this
      rw [this]
    · rw [addB_out (.inr h')]
      rw [List.getElem?_eq_none (by simp; omega), List.getElem?_eq_none (by omega)]

def Phan (b : Blk) : Prop := ∃ t cols, b = .dyn true t cols ∧ colsOk cols ∧ 0 < cols.length ∧ colsLen cols = 0
def Emb.put (ι : Emb) (a : Nat) (l : Loc) : Emb := fun x => if x = a then some l else ι x
theorem Emb.put_same (ι : Emb) (a : Nat) (l : Loc) : ι.put a l a = some l := by simp [Emb.put]
theorem Emb.put_ne {ι : Emb} {a x : Nat} {l : Loc} (e : x ≠ a) : ι.put a l x = ι x := by simp [Emb.put, e]
theorem Emb.sub_put {ι : Emb} {a : Nat} {l : Loc} (h : ι a = none) : Sub ι (ι.put a l) := fun x k hx => by
  by_cases e : x = a
  · subst e; rw [h] at hx; cases hx
  · rw [Emb.put_ne e]; exact hx

/-- a nil slice's block is there by name alone -/
theorem HR.phan {ι : Emb} {h : HF} {w : World} {a : Nat} {b : Blk} (hr : HR ι h w) (hp : Phan b) (hn : ι a = none) : HR ι (upd h a b) w where
  blk := fun x l hx hl => by
    by_cases e : x = a
    · subst e; rw [hn] at hl; cases hl
    · rw [upd_ne e] at hx ⊢; exact hr.blk x l hx hl
  nil := fun x hx hl => by
    by_cases e : x = a
    · subst e; rw [upd_same]; exact hp
    · rw [upd_ne e] at hx ⊢; exact hr.nil x hx hl
  one := fun x y l l' hne h1 h2 hl hl' => by
    have e1 : x ≠ a := fun e => by subst e; rw [hn] at hl; cases hl
    have e2 : y ≠ a := fun e => by subst e; rw [hn] at hl'; cases hl'
    rw [upd_ne e1] at h1
    rw [upd_ne e2] at h2
    exact hr.one x y l l' hne h1 h2 hl hl'
theorem HR.phans {ι : Emb} {w : World} : ∀ {bs : List Blk} {h : HF} {n : Nat}, HR ι h w → (∀ b ∈ bs, Phan b) → (∀ i, i < bs.length → ι (n + i) = none) → HR ι (addB h n bs) w
  | [], _, _, hr, _, _ => hr
  | b :: r, h, n, hr, hp, hn => by
    unfold addB
    exact HR.phans (hr.phan (hp b (by simp)) (hn 0 (by simp))) (fun c hc => hp c (by simp [hc])) fun i hi => by
      have := hn (i + 1) (by simp; omega)
      rwa [show n + (i + 1) = n + 1 + i by omega] at this
/-- a new block -/
theorem HR.push {ι : Emb} {h : HF} {w w' : World} {a : Nat} {b : Blk} {l : Loc} (hr : HR ι h w) (hk : Keep w w') (hn : ι a = none) (hl : w.heap.size ≤ l.b) (hl' : l.b < w'.heap.size)
    (hb : BR (ι.put a l) w' l b) : HR (ι.put a l) (upd h a b) w' where
  blk := fun x k hx hlx => by
    by_cases e : x = a
    · subst e
      rw [Emb.put_same] at hlx
      cases hlx
      rw [upd_same]
      exact ⟨hb, hl'⟩
    · rw [upd_ne e] at hx ⊢
      rw [Emb.put_ne e] at hlx
      obtain ⟨h1, h2⟩ := (hr.keep hk).blk x k hx hlx
      exact ⟨h1.mono (Emb.sub_put hn), h2⟩
  nil := fun x hx hlx => by
    by_cases e : x = a
    · subst e; rw [Emb.put_same] at hlx; cases hlx
    · rw [upd_ne e] at hx ⊢; rw [Emb.put_ne e] at hlx; exact hr.nil x hx hlx
  one := fun x y k k' hne h1 h2 hx hy => by
    by_cases e1 : x = a
    · subst e1
      rw [Emb.put_same] at hx
      cases hx
      have e2 : y ≠ x := fun e => hne e.symm
      rw [Emb.put_ne e2] at hy
      rw [upd_ne e2] at h2
      have := (hr.blk y k' h2 hy).2
      omega
    · rw [Emb.put_ne e1] at hx
      rw [upd_ne e1] at h1
      by_cases e2 : y = a
      · subst e2
        rw [Emb.put_same] at hy
        cases hy
        have := (hr.blk x k (Blk.live_of_rw h1) hx).2
        omega
      · rw [Emb.put_ne e2] at hy
        rw [upd_ne e2] at h2
        exact hr.one x y k k' hne h1 h2 hx hy

/-- what an operation that lays blocks comes to -/
structure Al (P : Program) (ι : Emb) (h : HF) (w : World) (n : Nat) (v : AV) (bs : List Blk) (s : Sem Value) (ι' : Emb) (x : Value) (w' : World) : Prop where
  val : VR ι' v x
  run : s.run P w = .ok x w'
  sub : Sub ι ι'
  out : ∀ a, (a < n ∨ n + bs.length ≤ a) → ι' a = ι a
  keep : Keep w w'
  hr : HR ι' (addB h n bs) w'
  news : ∀ a l, ι a = none → ι' a = some l → w.heap.size ≤ l.b

section alloc
variable {P : Program} {T : TT} {ι : Emb} {w : World} {h : HF}
theorem colsT_some {t : TypeId} {ks : List ColK} (hc : colsT T t = some ks) : 0 < ks.length ∧ ∃ i, T t = some i ∧ i.cols = some ks := by
  unfold colsT at hc
  split at hc
  · rename_i hi
    cases hc
    exact ⟨by simp, _, hi, rfl⟩
  · cases hc
theorem nils_ok (ks : List ColK) : colsOk (ks.map ColK.nils) ∧ colsLen (ks.map ColK.nils) = 0 := by
  have h0 : ∀ k : ColK, k.nils.len = 0 := fun k => by cases k <;> rfl
  have hl : colsLen (ks.map ColK.nils) = 0 := by
    cases ks with
    | nil => rfl
    | cons k r => exact h0 k
  refine ⟨fun c hc => ?_, hl⟩
  obtain ⟨k, _, rfl⟩ := List.mem_map.mp hc
  rw [hl, h0]
theorem nilOf_ok {n : Nat} {e : TypeId} {v : AV} {bs : List Blk} (hv : nilOf T n e = some (v, bs)) : (∀ b ∈ bs, Phan b) ∧ ∀ ι, VR ι v (.slice none 0 0) := by
  unfold nilOf at hv
  split at hv
  · rename_i ks hk
    cases hv
    refine ⟨fun b hb => ?_, fun ι => VR.nilslice⟩
    simp at hb
    subst hb
    obtain ⟨h1, h2⟩ := nils_ok ks
    exact ⟨e, _, rfl, h1, by simpa using (colsT_some hk).1, h2⟩
  · cases hv
theorem mat_ok {n : Nat} {t : TypeId} {v v' : AV} {bs : List Blk} {x : Value} (hv : mat T n t v = some (v', bs)) (hx : VR ι v x) : (∀ b ∈ bs, Phan b) ∧ VR ι v' x := by
  unfold mat at hv
  split at hv
  · cases hx
    split at hv
    · obtain ⟨h1, h2⟩ := nilOf_ok hv
      exact ⟨h1, h2 ι⟩
    · cases hv
  · cases hv; exact ⟨by simp, hx⟩
theorem vOk_ok {x : AV} {c : Value} (h : vOk x c = true) (ι : Emb) : VR ι x c ∧ c.oneCell' = true := by
  unfold vOk at h
  split at h <;> first
    | (cases h; done)
    | (simp only [Bool.and_eq_true, decide_eq_true_eq, beq_iff_eq] at h; obtain ⟨rfl, rfl⟩ := h; exact ⟨rfl, rfl⟩)
    | (simp only [beq_iff_eq] at h; subst h; exact ⟨rfl, rfl⟩)
    | (rename_i s s'
       simp only [Bool.and_eq_true, List.isEmpty_iff] at h
       have : s = s' := by
         obtain ⟨⟨a⟩⟩ := s; obtain ⟨⟨b⟩⟩ := s'; simp_all
       subst this; exact ⟨rfl, rfl⟩)
    | exact ⟨rfl, rfl⟩
theorem int0_ok {k : IntKind} {c : Value} (h : int0 k c = true) : c = .int k 0 := by
  unfold int0 at h
  split at h
  · simp only [Bool.and_eq_true, decide_eq_true_eq, beq_iff_eq] at h; obtain ⟨rfl, rfl⟩ := h; rfl
  · cases h
theorem zOk_sl {e : TypeId} {r : List ZS} {z : List Value} (h : zOk (.sl e :: r) z = true) : ∃ l, z = .slice none 0 0 :: l ∧ zOk r l = true := by
  cases z with
  | nil => simp [zOk] at h
  | cons c l =>
    cases c <;> first
      | (simp [zOk] at h; done)
      | (rename_i a n c
         cases a <;> first
           | (simp [zOk] at h; done)
           | (cases n <;> first
               | (simp [zOk] at h; done)
               | (cases c <;> first
                   | (simp [zOk] at h; done)
                   | exact ⟨l, rfl, by simpa [zOk] using h⟩)))
theorem zsegs_ok : ∀ {zs : List ZS} {n : Nat} {ss : List Seg} {bs : List Blk}, zsegs T n zs = some (ss, bs) → (∀ b ∈ bs, Phan b) ∧ ∀ z : List Value, zOk zs z = true → ∀ ι, SR ι ss z
  | [], n, ss, bs, hz => by
    cases hz
    refine ⟨by simp, fun z hz ι => ?_⟩
    cases z with
    | nil => exact rfl
    | cons _ _ => simp [zOk] at hz
  | .v x :: r, n, ss, bs, hz => by
    unfold zsegs at hz
    cases hr : zsegs T n r with
    | none => rw [hr] at hz; cases hz
    | some p =>
      obtain ⟨ss', bs'⟩ := p
      rw [hr] at hz
      cases hz
      obtain ⟨h1, h2⟩ := zsegs_ok hr
      refine ⟨h1, fun z hz ι => ?_⟩
      cases z with
      | nil => simp [zOk] at hz
      | cons c l =>
        simp only [zOk, Bool.and_eq_true] at hz
        obtain ⟨g1, g2⟩ := vOk_ok hz.1 ι
        exact ⟨c, l, rfl, g1, g2, h2 l hz.2 ι⟩
  | .run k m :: r, n, ss, bs, hz => by
    unfold zsegs at hz
    cases hr : zsegs T n r with
    | none => rw [hr] at hz; cases hz
    | some p =>
      obtain ⟨ss', bs'⟩ := p
      rw [hr] at hz
      cases hz
      obtain ⟨h1, h2⟩ := zsegs_ok hr
      refine ⟨h1, fun z hz ι => ?_⟩
      simp only [zOk, Bool.and_eq_true, beq_iff_eq, List.all_eq_true] at hz
      refine ⟨by simp, z.drop m, ?_, h2 _ hz.2 ι⟩
      have : z.take m = (List.replicate m (0 : Int)).map (Value.int k) := by
        rw [List.map_replicate]
        exact List.eq_replicate_iff.mpr ⟨hz.1.1, fun b hb => int0_ok (hz.1.2 b hb)⟩
      rw [← this, List.take_append_drop]
  | .sl e :: r, n, ss, bs, hz => by
    unfold zsegs at hz
    cases ho : nilOf T n e with
    | none => rw [ho] at hz; cases hz
    | some p =>
      obtain ⟨v, b⟩ := p
      rw [ho] at hz
      simp only at hz
      cases hr : zsegs T (n + 1) r with
      | none => rw [hr] at hz; cases hz
      | some p =>
        obtain ⟨ss', bs'⟩ := p
        rw [hr] at hz
        cases hz
        obtain ⟨h1, h2⟩ := zsegs_ok hr
        obtain ⟨g1, g2⟩ := nilOf_ok ho
        refine ⟨fun c hc => (List.mem_append.mp hc).elim (g1 c) (h1 c), fun z hz ι => ?_⟩
        obtain ⟨l, rfl, hl⟩ := zOk_sl hz
        exact ⟨_, _, rfl, g2 ι, rfl, h2 _ hl ι⟩
theorem zeroSegs_ok (hT : TyOK P T) {n : Nat} {t : TypeId} {ss : List Seg} {bs : List Blk} (hz : zeroSegs T n t = some (ss, bs)) :
    (∀ b ∈ bs, Phan b) ∧ ∃ z, (∀ w, (zeroValue t).run P w = .ok z w) ∧ ∀ ι, SR ι ss z.cells.toList := by
  unfold zeroSegs at hz
  split at hz
  · rename_i zs hi
    obtain ⟨h1, h2⟩ := zsegs_ok hz
    obtain ⟨inf, dd, i1, i2, i3, i4, i5, i6, i7, i8⟩ := hT.dig hi
    obtain ⟨z, hz1, hz2⟩ := i7 _ rfl
    exact ⟨h1, z, fun w => by simp [zeroValue, typeInfo, i1, hz1], fun ι => h2 _ hz2 ι⟩
  · cases hz
theorem one_ok {v : AV} {x : Value} (h : v.one = true) (hv : VR ι v x) : x.oneCell' = true ∧ x.cells = #[x] := by
  cases v <;> simp [AV.one] at h <;> try (cases hv; exact ⟨rfl, rfl⟩)
  case ptr => obtain ⟨l, _, rfl⟩ := hv; exact ⟨rfl, rfl⟩
  case slice a b o n st nl wh =>
    cases nl with
    | true => obtain ⟨rfl, _⟩ := hv.1 rfl; exact ⟨rfl, rfl⟩
    | false => obtain ⟨l, ad, cap, _, rfl, _⟩ := hv.2 rfl; exact ⟨rfl, rfl⟩
  case func => obtain ⟨xs, cs, rfl, _⟩ := hv; exact ⟨rfl, rfl⟩
  case iface => obtain ⟨y, rfl, _⟩ := hv; exact ⟨rfl, rfl⟩
theorem segsAs_ok {n : Nat} {t : TypeId} {v : AV} {ss : List Seg} {bs : List Blk} {x : Value} (hs : segsAs T n t v = some (ss, bs)) (hv : VR ι v x) : (∀ b ∈ bs, Phan b) ∧ SR ι ss x.cells.toList := by
  unfold segsAs at hs
  split at hs
  · cases hs
    obtain ⟨cs, rfl, hc⟩ := hv
    exact ⟨by simp, hc⟩
  · obtain ⟨h1, hs⟩ := bif_some hs
    split at hs
    · rename_i v' bs' hm
      cases hs
      obtain ⟨g1, g2⟩ := mat_ok hm hv
      obtain ⟨o1, o2⟩ := one_ok h1 hv
      exact ⟨g1, by rw [o2]; exact ⟨x, [], rfl, g2, o1, rfl⟩⟩
    · cases hs
end alloc
end Go.Abs
