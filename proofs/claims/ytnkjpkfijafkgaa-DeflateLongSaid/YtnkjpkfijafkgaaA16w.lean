/-
Going through a string; bytes turned into their own type.
-/
import Derived.Test.YtnkjpkfijafkgaaA16
import Derived.Laws.RangeString
set_option linter.unusedVariables false
set_option linter.unusedSimpArgs false
namespace Go.Abs
section
variable {β : Type} {P : Program} {T : TT} {ι : Emb} {w : World} {h : HF} {r : β}
theorem upd_fin {H : Heap} {a : Nat} {k k' : Blk} {l : Loc} {v : AV} {x : Value} {w' : World} (hc : Cov H h) (hr : HR ι h w) (hH : H[a]? = some k) (hrw : k.rw = true) (hl : ι a = some l)
    (s1 : w'.heap.size = w.heap.size) (s2 : ∀ b, b ≠ l.b → w'.heap[b]? = w.heap[b]?) (ho : Outer w w') (hb : BR ι w l k → BR ι w' l k') (hv : VR ι v x) :
    Wr ι h w H.length (H.set a k') v ι (upd h a k') x w' := by
  have hka := hc.get hH
  have haL : a < H.length := by
    rcases Nat.lt_or_ge a H.length with q | q
    · exact q
    · rw [List.getElem?_eq_none q] at hH; cases hH
  have hb0 := (hr.blk a l (by rw [hka]; exact Blk.live_of_rw hrw) hl).1
  rw [hka] at hb0
  refine ⟨hv, Sub.refl ι, fun _ _ => rfl, fun x hx => ⟨rfl, ?_⟩, hc.set a k', hr.write (by rw [hka]; exact hrw) hl s1 s2 (hb hb0), ?_⟩
  · simp at hx
    rw [upd_ne (by omega)]
  · refine ⟨by omega, fun b hb hno => s2 b fun e => hno ⟨a, l, by rw [hka]; exact hrw, hl, e.symm⟩, fun b hb ⟨x, lx, h1, h2, h3⟩ => ?_, fun b hb ⟨x, lx, h1, h2, h3⟩ => ?_, ho⟩
    · by_cases e : x = a
      · subst e; exact ⟨x, lx, by rw [hka]; exact hrw, h2, h3⟩
      · rw [upd_ne e] at h1
        exact ⟨x, lx, h1, h2, h3⟩
    · by_cases e : x = a
      · subst e; exact ⟨x, lx, by rw [hka]; exact Blk.live_of_rw hrw, h2, h3⟩
      · rw [upd_ne e] at h1
        exact ⟨x, lx, h1, h2, h3⟩
theorem bt_lt {s : ByteArray} {pos : Nat} (hp : pos < s.size) : bt s pos = ((s[pos]'hp).toNat : Int) := by
  have h : pos < s.data.toList.length := by simpa using hp
  simp only [bt, List.getD, List.getElem?_eq_getElem h, Option.getD_some]
  simp [ByteArray.getElem_eq_getElem_data]
theorem nextV_ok {H : Heap} {x : AV} {isStr : Bool} {q : AV → Heap → Option β} (he : nextV H isStr x q = some r) :
    ∃ v H', q v H' = some r ∧ H.length ≤ H'.length ∧ ∀ {ι : Emb} {h : HF} {w : World} {y : Value}, VR ι x y → Cov H h → HR ι h w →
      ∃ h' z w', (∀ ty, (Instr.next y isStr ty).run P w = .ok z w') ∧ Wr ι h w H.length H' v ι h' z w' := by
  unfold nextV at he
  split at he <;> try (cases he; done)
  rename_i a
  split at he <;> try (cases he; done)
  rename_i s pos hH
  obtain ⟨hs, he⟩ := bif_some he
  subst hs
  have hget : ∀ {ι : Emb} {h : HF} {w : World} {y : Value}, VR ι (.ptr a 0 0 1) y → Cov H h → HR ι h w → ∃ l, ι a = some l ∧ y = .pointer (some ⟨l.b, 0, none⟩) ∧ w.heap[l.b]? = some (.stringIter s pos) ∧ l.b < w.heap.size := by
    intro ι h w y hv hc hr
    obtain ⟨l, hl, e⟩ := hv
    have hka := hc.get hH
    obtain ⟨hb, hlt⟩ := hr.blk a l (by rw [hka]; rfl) hl
    rw [hka] at hb
    refine ⟨l, hl, ?_, hb.it s pos rfl, hlt⟩
    rw [e]
    simp [Loc.at, hb.org rfl]
  by_cases hp : pos < s.size
  · rw [if_pos hp] at he
    by_cases ha : bt s pos < 128
    · rw [if_pos ha] at he
      refine ⟨_, _, he, by simp, fun {ι h w y} hv hc hr => ?_⟩
      obtain ⟨l, hl, rfl, hit, hlt⟩ := hget hv hc hr
      have ha' : (s[pos]'hp).toNat < 128 := by rw [bt_lt hp] at ha; omega
      refine ⟨_, .tuple #[.bool true, .int .i64 pos, .int .i32 (s[pos]'hp).toNat], { w with heap := w.heap.setIfInBounds l.b (.stringIter s (pos + 1)) }, fun ty => ?_, upd_fin (k' := .iter s (pos + 1)) hc hr hH rfl hl ?_ ?_ ⟨rfl, rfl, rfl⟩ ?_ ?_⟩
      · simp only [Instr.next, getObj, setObj, Sem.run_bind, Sem.run, hit, Result.andThen, hp, if_true, decode_ascii s pos hp ha']
        simp [goInt, Sem.run, hit]
      · simp
      · intro b hb
        simp [Array.getElem?_setIfInBounds, Ne.symm hb]
      · intro hb
        refine ⟨fun i v h => (by cases h), trivial, fun _ i hi => absurd hi (Nat.not_lt_zero _), trivial, hb.org, fun s' p' e => ?_, fun _ => ?_⟩
        · cases e
          simp [Array.getElem?_setIfInBounds, hlt]
        · simp [fzOf, Array.getElem?_setIfInBounds, hlt]
      · exact ⟨_, rfl, _, _, rfl, rfl, _, _, rfl, rfl, _, _, rfl, by rw [VR, bt_lt hp], rfl⟩
    · rw [if_neg ha] at he; cases he
  · rw [if_neg hp] at he
    refine ⟨_, _, he, Nat.le_refl _, fun {ι h w y} hv hc hr => ?_⟩
    obtain ⟨l, hl, rfl, hit, hlt⟩ := hget hv hc hr
    refine ⟨h, .tuple #[.bool false], w, fun ty => ?_, Wr.pure ⟨_, rfl, _, _, rfl, rfl, rfl⟩ hc hr⟩
    simp [Instr.next, getObj, Sem.run, hit, hp]

theorem cell?_freeze (w : World) (a : Addr) (n : Nat) (x : Addr) : (w.freeze a n).cell? x = w.cell? x := by
  unfold World.freeze
  split
  · rfl
  · simp only [World.cell?, Array.getElem?_modify]
    by_cases e : a.block = x.block
    · rw [if_pos e, ← e]
      cases w.heap[a.block]? with
      | none => rfl
      | some o => cases o <;> rfl
    · rw [if_neg e]
theorem convW_ok (hT : TyOK P T) {H : Heap} {src dst : TypeId} {x : AV} {q : AV → Heap → Option β} (he : convW T src dst H x q = some r) :
    ∃ v H', q v H' = some r ∧ H.length ≤ H'.length ∧ ∀ {ι : Emb} {h : HF} {w : World} {y : Value}, VR ι x y → Cov H h → HR ι h w →
      ∃ h' z w', (convert src dst y).run P w = .ok z w' ∧ Wr ι h w H.length H' v ι h' z w' := by
  unfold convW at he
  split at he <;> try (cases he; done)
  rename_i a b o n st
  split at he <;> try (cases he; done)
  rename_i e hs
  obtain ⟨hb, he2⟩ := bif_some he
  clear he
  simp only [Bool.and_eq_true, decide_eq_true_eq] at hb
  obtain ⟨hsd, hk⟩ := hb
  subst hsd
  split at he2 <;> try (cases he2; done)
  rename_i ty cols hH
  refine ⟨_, _, he2, Nat.le_refl _, fun {ι h w y} hv hc hr => ?_⟩
  have hv0 := hv
  obtain ⟨l, ad, cap, hl, rfl, h1, h2, h3⟩ := hv.2 rfl
  obtain ⟨rfl, -⟩ := h3 rfl
  have hka := hc.get hH
  obtain ⟨hb, hlt⟩ := hr.blk a l (by rw [hka]; rfl) hl
  rw [hka] at hb
  have hcv : (convert src src (.slice (some (l.at 0)) n cap)).run P w = (do markStringish (l.at 0); pure (Value.slice (some (l.at 0)) n cap)).run P w := by
    simp [convert, run_underlying (sliceT_ok hT hs), run_underlying (byteT_ok hT hk).1]
  cases hsh : w.shape? l.b with
  | none =>
    refine ⟨h, .slice (some (l.at 0)) n cap, w, ?_, Wr.pure hv0 hc hr⟩
    rw [hcv]
    simp [markStringish, Loc.at, hsh]
  | some p =>
    obtain ⟨tt, m⟩ := p
    have hset : H.set a (.dyn true ty cols) = H := by
      apply List.ext_getElem?
      intro i
      rw [List.getElem?_set]
      by_cases e : a = i
      · subst e
        have : a < H.length := by
          rcases Nat.lt_or_ge a H.length with q | q
          · exact q
          · rw [List.getElem?_eq_none q] at hH; cases hH
        rw [if_pos rfl, if_pos this, hH]
      · simp [e]
    refine ⟨upd h a (.dyn true ty cols), .slice (some (l.at 0)) n cap, w.freeze ⟨l.b, m, none⟩ 1, by rw [hcv]; simp [markStringish, Loc.at, hsh], ?_⟩
    have hfin := upd_fin (k' := .dyn true ty cols) (v := .slice a b o n st false true) (x := .slice (some (l.at 0)) n cap) (w' := w.freeze ⟨l.b, m, none⟩ 1) hc hr hH rfl hl ?_ ?_ ⟨rfl, rfl, rfl⟩ ?_ hv0
    · rw [hset] at hfin; exact hfin
    · simp [World.freeze]
    · intro c hcne
      simp [World.freeze, Array.getElem?_modify, Ne.symm hcne]
    · intro _
      unfold World.shape? at hsh
      split at hsh <;> try (cases hsh; done)
      rename_i c el fz hcell
      obtain ⟨lo, hi⟩ := fz
      simp only [Option.some.injEq, Prod.mk.injEq] at hsh
      obtain ⟨rfl, rfl⟩ := hsh
      have hw' : (w.freeze ⟨l.b, c.size, none⟩ 1).heap[l.b]? = some (.cells c el (if lo == hi then (c.size, c.size + 1) else (min lo c.size, max hi (c.size + 1)))) := by
        simp [World.freeze, Array.getElem?_modify, hcell]
      have horg : l.o = 0 := hb.org rfl
      have hfz : lo ≤ hi := by have := hb.fz rfl; simpa [fzOf, hcell] using this
      refine ⟨fun i v hq => ?_, hb.ok, fun _ i hi' => ?_, hb.cap, hb.org, fun s p e => (by cases e), fun _ => ?_⟩
      · obtain ⟨x, hx, g⟩ := hb.cell i v hq
        exact ⟨x, by rw [cell?_freeze]; exact hx, g⟩
      · obtain ⟨⟨x, hx⟩, hf⟩ := hb.room rfl i hi'
        refine ⟨⟨x, by rw [cell?_freeze]; exact hx⟩, ?_⟩
        have hic : i < c.size := by
          simp only [World.cell?, Loc.at, hcell, horg, Nat.zero_add] at hx
          rcases Nat.lt_or_ge i c.size with q | q
          · exact q
          · rw [Array.getElem?_eq_none q] at hx; simp at hx
        have hlo : ∀ j, j < (Blk.dyn true ty cols).room l → ¬ (lo ≤ j ∧ j < hi) := by
          intro j hj
          have := (hb.room rfl j hj).2
          simpa [World.frozen?, Loc.at, hcell, horg] using this
        simp only [World.frozen?, Loc.at, hw', horg, Nat.zero_add]
        by_cases e : lo = hi
        · subst e
          simp; omega
        · have h4 := hlo i hi'
          have h5 : ¬ (lo ≤ i) := fun hle => by
            have := hlo lo (by omega)
            omega
          simp [e]
          omega
      · simp only [fzOf, hw']
        split <;> simp <;> omega
end
end Go.Abs
