/-
Stores do what the interpreter says.
-/
import Derived.Test.YtnkjpkfijafkgaaA12
set_option linter.unusedVariables false
set_option linter.unusedSimpArgs false
namespace Go.Abs
section
variable {β : Type} {P : Program} {T : TT} {ι : Emb} {w : World} {h : HF} {r : β}

theorem SR.one {ι : Emb} : ∀ {ss : List Seg} {l : List Value}, SR ι ss l → ∀ v ∈ l, v.oneCell' = true
  | [], _, hs => by cases hs; simp
  | .cell u :: q, _, hs => by
    obtain ⟨x, l', e, _, h1, h2⟩ := hs
    subst e
    intro v hv
    rcases List.mem_cons.mp hv with rfl | hv
    · exact h1
    · exact SR.one h2 v hv
  | .run k n z :: q, _, hs => by
    obtain ⟨_, l', e, h2⟩ := hs
    subst e
    intro v hv
    rcases List.mem_append.mp hv with hv | hv
    · obtain ⟨m, _, rfl⟩ := List.mem_map.mp hv; rfl
    · exact SR.one h2 v hv
theorem colsSet_cells {i : Nat} : ∀ {cs cs' : List Col} {vs : List Seg}, colsSet cs i (vs.map Seg.val) = some cs' → segSize vs = vs.length ∧ ∀ j, segAtN vs j = (vs.map Seg.val)[j]?
  | [], _, [], _ => ⟨rfl, fun j => by simp [segAtN]⟩
  | [], _, _ :: _, hs => by cases hs
  | _ :: _, _, [], hs => by cases hs
  | c :: cs, cs', v :: vs, hs => by
    simp only [List.map_cons] at hs
    unfold colsSet at hs
    cases hc : c.set i v.val with
    | none => rw [hc] at hs; cases hs
    | some c' =>
      cases hq : colsSet cs i (vs.map Seg.val) with
      | none => rw [hc, hq] at hs; cases hs
      | some cs1 =>
        obtain ⟨g1, g2⟩ := colsSet_cells hq
        cases v with
        | run k n l => cases c <;> cases hc
        | cell u =>
          refine ⟨by simp [segSize, g1], fun j => ?_⟩
          cases j with
          | zero => rfl
          | succ j => simp only [segAtN, Nat.succ_ne_zero, if_false, Nat.add_sub_cancel, g2 j]; rfl

theorem Cov.set {H : Heap} {h : HF} (c : Cov H h) (a : Nat) (k : Blk) : Cov (H.set a k) (upd h a k) := fun x hx => by
  simp only [List.length_set] at hx
  by_cases e : x = a
  · subst e
    rw [upd_same, Heap.fn, List.getElem?_set_self hx]
  · rw [upd_ne e, c x hx, Heap.fn, Heap.fn, List.getElem?_set_ne (fun e' => e e'.symm)]
theorem fresh_phans {bs : List Blk} {n : Nat} (hp : ∀ b ∈ bs, Phan b) (hn : ∀ i, i < bs.length → ι (n + i) = none) {f : Blk → Bool} {a : Nat} {l : Loc} (h1 : f (addB h n bs a) = true) (h2 : ι a = some l) : f (h a) = true := by
  rcases Nat.lt_or_ge a n with hl | hl
  · rwa [addB_out (.inl hl)] at h1
  · rcases Nat.lt_or_ge a (n + bs.length) with hl' | hl'
    · have := hn (a - n) (by omega)
      rw [show n + (a - n) = a by omega, h2] at this
      cases this
    · rwa [addB_out (.inr hl')] at h1

/-- a block's cells are written, in place -/
theorem store_fin {H : Heap} {bs : List Blk} {a : Nat} {k k' : Blk} {l : Loc} {o : Nat} {vs : List Value} (hc : Cov H h) (hr : HR ι h w) (hH : H[a]? = some k) (hrw : k.rw = true) (hl : ι a = some l)
    (hp : ∀ b ∈ bs, Phan b) (hn : ∀ i, i < bs.length → ι (H.length + i) = none)
    (hk : k'.rw = true) (hok : k.ok → k'.ok) (hcap : k.capOk l → k.ok → k'.capOk l) (hroom : k.ok → k'.room l ≤ k.room l)
    (hvs : k.ok → k.capOk l → o + vs.length ≤ k.room l) (h1 : ∀ v ∈ vs, v.oneCell' = true)
    (hat : k.ok → ∀ i v, k'.at i = some v → if o ≤ i ∧ i < o + vs.length then ∃ x, vs[i - o]? = some x ∧ VR ι v x else k.at i = some v)
    (hit : ∀ s p, k' ≠ .iter s p := by intro s p h; cases h) :
    ∃ h' w', (storeCells (l.at o) vs).run P w = .ok () w' ∧ Wr ι h w H.length ((H ++ bs).set a k') (.tuple []) ι h' undef w' := by
  have hka := hc.get hH
  have haL : a < H.length := by
    rcases Nat.lt_or_ge a H.length with q | q
    · exact q
    · rw [List.getElem?_eq_none q] at hH; cases hH
  have hb := (hr.blk a l (by rw [hka]; exact Blk.live_of_rw hrw) hl).1
  rw [hka] at hb
  obtain ⟨g1, g2⟩ := hb.write (P := P) hrw (hok hb.ok) (hcap hb.cap hb.ok) (hroom hb.ok) (hvs hb.ok hb.cap) h1 (hat hb.ok) hit
  obtain ⟨s1, s2⟩ := heap_setCells (b := l.b) vs (l.o + o) w
  have hr1 := hr.phans hp hn
  have e1 : addB h H.length bs a = h a := addB_out (.inl haL)
  refine ⟨_, _, g2, ⟨⟨#[], rfl, rfl⟩, Sub.refl ι, fun _ _ => rfl, fun x hx => ⟨rfl, ?_⟩, (hc.add bs).set a k', hr1.write (by rw [e1, hka]; exact hrw) hl s1 s2 g1, ?_⟩⟩
  · simp at hx
    rw [upd_ne (by omega), addB_out (.inr hx)]
  · refine ⟨by omega, fun b hb hno => s2 b fun e => hno ⟨a, l, by rw [hka]; exact hrw, hl, e.symm⟩, fun b hb ⟨x, lx, h1, h2, h3⟩ => ?_, fun b hb ⟨x, lx, h1, h2, h3⟩ => ?_, outer_setCells _ _ _⟩
    · by_cases e : x = a
      · subst e; exact ⟨x, lx, by rw [hka]; exact hrw, h2, h3⟩
      · rw [upd_ne e] at h1
        exact ⟨x, lx, fresh_phans (f := Blk.rw) hp hn h1 h2, h2, h3⟩
    · by_cases e : x = a
      · subst e; exact ⟨x, lx, by rw [hka]; exact Blk.live_of_rw hrw, h2, h3⟩
      · rw [upd_ne e] at h1
        exact ⟨x, lx, fresh_phans (f := Blk.live) hp hn h1 h2, h2, h3⟩

theorem run_storeAt {ti : TI} {t : TypeId} (hT : TyOK P T) (hi : T t = some ti) {a : Addr} {x : Value} (hs : x.cells.size = ti.size) {w' : World} (hst : (storeCells a x.cells.toList).run P w = .ok () w') :
    (Instr.storeAt t (.pointer (some a)) x).run P w = .ok () w' := by
  have := hT.size hi w
  simp [Instr.storeAt, Instr.sureAddr, storeVar, this, sizeT, hi, hs, hst]

theorem storeV_ok (hT : TyOK P T) {t : TypeId} {H : Heap} {x v : AV} {q : Heap → Option β} (he : storeV T t H x v q = some r) :
    ∃ H', q H' = some r ∧ H.length ≤ H'.length ∧ ∀ {ι : Emb} {h : HF} {w : World} {vx vv : Value}, VR ι x vx → VR ι v vv → Cov H h → HR ι h w → (∀ a, H.length ≤ a → a < H'.length → ι a = none) →
      ∃ h' w', (Instr.storeAt t vx vv).run P w = .ok () w' ∧ Wr ι h w H.length H' (.tuple []) ι h' undef w' := by
  unfold storeV at he
  split at he
  · rename_i a b i st
    split at he
    · cases he
    · rename_i vs bs hsa
      obtain ⟨hsz, he⟩ := bif_some he
      simp only [Bool.and_eq_true, decide_eq_true_eq] at hsz
      obtain ⟨ti, hti⟩ := Option.isSome_iff_exists.mp hsz.1
      have hsize : segSize vs = ti.size := by rw [hsz.2]; simp [sizeT, hti]
      have hfr : ∀ {H' : Heap} {ι : Emb}, H'.length = H.length + bs.length → (∀ a, H.length ≤ a → a < H'.length → ι a = none) → ∀ i, i < bs.length → ι (H.length + i) = none :=
        fun hl hn i hi => hn _ (by omega) (by omega)
      have one : ∀ {ι : Emb} {v' : AV} {l : List Value}, SR ι [.cell v'] l → ∃ y, l = [y] ∧ VR ι v' y := fun hs => by
        obtain ⟨y, l', e, h1, h2, h3⟩ := hs
        cases h3
        exact ⟨y, e, h1⟩
      split at he
      · rename_i ty ss hH
        have seg1 : ∀ {v' : AV} {p j : Nat}, vs = [.cell v'] → segUpd ss p j v' (fun ss' => q ((H ++ bs).set a (.segs true ty ss'))) = some r → p + j = b + i * st →
            ∃ H', q H' = some r ∧ H.length ≤ H'.length ∧ ∀ {ι : Emb} {h : HF} {w : World} {vx vv : Value}, VR ι (.ptr a b i st) vx → VR ι v vv → Cov H h → HR ι h w → (∀ a, H.length ≤ a → a < H'.length → ι a = none) →
              ∃ h' w', (Instr.storeAt t vx vv).run P w = .ok () w' ∧ Wr ι h w H.length H' (.tuple []) ι h' undef w' := by
          intro v' p j hvs hu hp
          subst hvs
          by_cases ho : segsOk ss
          · obtain ⟨ss', hq, u1, u2, u3, u4⟩ := segUpd_some hu ho
            refine ⟨_, hq, by simp, fun {ι h w vx vv} hx hv hc hr hn => ?_⟩
            obtain ⟨l, hl, rfl⟩ := hx
            obtain ⟨g1, g2⟩ := segsAs_ok hsa hv
            obtain ⟨y, hy, hyr⟩ := one g2
            obtain ⟨h', w', k1, k2⟩ := store_fin (P := P) (o := b + i * st) (vs := vv.cells.toList) (k' := .segs true ty ss') hc hr hH rfl hl g1 (hfr (by simp) hn) rfl (fun _ => u2) (fun _ _ => trivial) (fun _ => by simp only [Blk.room]; omega)
              (fun _ _ => by rw [hy]; simp only [Blk.room, List.length_cons, List.length_nil]; omega) g2.one (fun _ i' v'' hat => by
                rw [hy]
                simp only [Blk.at, u4, hp] at hat
                simp only [List.length_cons, List.length_nil]
                by_cases e : i' = b + i * st
                · rw [if_pos e] at hat; cases hat
                  rw [if_pos (by omega), e, Nat.sub_self]
                  exact ⟨y, rfl, hyr⟩
                · rw [if_neg e] at hat
                  rw [if_neg (by omega)]; exact hat)
            exact ⟨h', w', run_storeAt hT hti (by rw [← hsize, ← g2.len]; simp) k1, k2⟩
          · -- the pieces are never wrong where the heap stands for a world
            have : ∃ ss', q ((H ++ bs).set a (.segs true ty ss')) = some r := by
              unfold segUpd at hu
              split at hu
              · split at hu
                · obtain ⟨_, hu⟩ := bif_some hu
                  split at hu
                  · exact ⟨_, hu⟩
                  · cases hu
                · cases hu
              · obtain ⟨_, hu1⟩ := bif_some hu
                obtain ⟨_, hu2⟩ := bif_some hu1
                exact ⟨_, hu2⟩
              · cases hu
            obtain ⟨ss', hq⟩ := this
            refine ⟨_, hq, by simp, fun {ι h w vx vv} hx hv hc hr hn => ?_⟩
            obtain ⟨l, hl, rfl⟩ := hx
            have hb := (hr.blk a l (by rw [hc.get hH]; rfl) hl).1
            rw [hc.get hH] at hb
            exact absurd hb.ok ho
        split at he
        · rename_i v'
          cases hst : decide (st = 1) with
          | true =>
            rw [hst] at he
            simp only [decide_eq_true_eq] at hst
            exact seg1 rfl he (by rw [hst]; omega)
          | false => rw [hst] at he; exact seg1 rfl he (by omega)
        · obtain ⟨hi0, he2⟩ := bif_some he
          simp only [decide_eq_true_eq] at hi0
          subst hi0
          clear he
          split at he2
          · rename_i ss' hput
            obtain ⟨p1, p2, p3, p4⟩ := segPut_spec hput
            refine ⟨_, he2, by simp, fun {ι h w vx vv} hx hv hc hr hn => ?_⟩
            obtain ⟨l, hl, rfl⟩ := hx
            obtain ⟨g1, g2⟩ := segsAs_ok hsa hv
            have hlen := g2.len
            obtain ⟨h', w', k1, k2⟩ := store_fin (P := P) (o := b + 0 * st) (vs := vv.cells.toList) (k' := .segs true ty ss') hc hr hH rfl hl g1 (hfr (by simp) hn) rfl (fun ho => p4 ho g2.ok) (fun _ _ => trivial) (fun _ => by simp only [Blk.room]; omega)
              (fun _ _ => by simp only [Blk.room]; omega) g2.one (fun _ i' v'' hat => by
                simp only [Blk.at, p3] at hat
                rw [hlen, Nat.zero_mul, Nat.add_zero]
                by_cases e : b ≤ i' ∧ i' < b + segSize vs
                · rw [if_pos e] at hat
                  rw [if_pos e]
                  obtain ⟨y, hy, hyr, _⟩ := g2.get hat
                  exact ⟨y, hy, hyr⟩
                · rw [if_neg e] at hat
                  rw [if_neg e]; exact hat)
            exact ⟨h', w', run_storeAt hT hti (by rw [← hsize, ← g2.len]; simp) k1, k2⟩
          · cases he2
      · rename_i ty cols hH
        obtain ⟨hst, he2⟩ := bif_some he
        simp only [decide_eq_true_eq] at hst
        subst hst
        clear he
        have he := lenK_some he2
        split at he
        · rename_i hi
          split at he
          · rename_i v'
            split at he
            · rename_i cs hcs
              refine ⟨_, he, by simp, fun {ι h w vx vv} hx hv hc hr hn => ?_⟩
              obtain ⟨l, hl, rfl⟩ := hx
              obtain ⟨g1, g2⟩ := segsAs_ok hsa hv
              obtain ⟨y, hy, hyr⟩ := one g2
              obtain ⟨d1, d2⟩ := hr.dyn_ok (hc.get hH)
              obtain ⟨c1, c2, c3, c4⟩ := colSet1_some hi hcs d1
              obtain ⟨o1, o2⟩ := colsOk_of c2 (by omega)
              obtain ⟨h', w', k1, k2⟩ := store_fin (P := P) (o := b + i * cols.length) (vs := vv.cells.toList) (k' := .dyn true ty cs) hc hr hH rfl hl g1 (hfr (by simp) hn) rfl (fun _ => ⟨o1, by omega⟩) (fun hcap _ => by simp only [Blk.capOk] at hcap ⊢; omega)
                (fun _ => by simp [Blk.room, c1])
                (fun _ hcap => by
                  rw [hy]
                  simp only [Blk.room, Blk.capOk, List.length_cons, List.length_nil, if_true] at hcap ⊢
                  have := rowLt (m := l.cap) c3 (Nat.lt_of_lt_of_le hi hcap)
                  omega) g2.one (fun _ i' v'' hat => by
                  rw [hy]
                  simp only [Blk.at, c1, o2] at hat ⊢
                  simp only [List.length_cons, List.length_nil]
                  by_cases hlt : i' < colsLen cols * cols.length
                  · rw [if_pos hlt, c4] at hat
                    obtain ⟨r1, r2⟩ := rowPos (i := i) c3
                    by_cases e : i' = b + i * cols.length
                    · rw [e, Nat.add_comm, if_pos ⟨r1, r2⟩] at hat
                      cases hat
                      rw [if_pos (by omega), e, Nat.sub_self]
                      exact ⟨y, rfl, hyr⟩
                    · rw [if_neg (fun e' => by
                        obtain ⟨e1, e2⟩ := e'
                        have := Nat.div_add_mod i' cols.length
                        rw [e1, e2, Nat.mul_comm] at this
                        omega)] at hat
                      rw [if_neg (by omega), if_pos hlt]; exact hat
                  · rw [if_neg hlt] at hat; cases hat)
              exact ⟨h', w', run_storeAt hT hti (by rw [← hsize, ← g2.len]; simp) k1, k2⟩
            · cases he
          · obtain ⟨hb0, he3⟩ := bif_some he
            simp only [decide_eq_true_eq] at hb0
            obtain ⟨rfl, hvl⟩ := hb0
            clear he he2
            split at he3
            · rename_i cs hcs
              refine ⟨_, he3, by simp, fun {ι h w vx vv} hx hv hc hr hn => ?_⟩
              obtain ⟨l, hl, rfl⟩ := hx
              obtain ⟨g1, g2⟩ := segsAs_ok hsa hv
              obtain ⟨d1, d2⟩ := hr.dyn_ok (hc.get hH)
              obtain ⟨c1, c2, c3, c4⟩ := colsSet_some hi hcs d1
              obtain ⟨f1, f2⟩ := colsSet_cells hcs
              obtain ⟨o1, o2⟩ := colsOk_of c3 (by omega)
              have hlen := g2.len
              rw [f1, hvl] at hlen
              obtain ⟨h', w', k1, k2⟩ := store_fin (P := P) (o := 0 + i * cols.length) (vs := vv.cells.toList) (k' := .dyn true ty cs) hc hr hH rfl hl g1 (hfr (by simp) hn) rfl (fun _ => ⟨o1, by omega⟩) (fun hcap _ => by simp only [Blk.capOk] at hcap ⊢; omega)
                (fun _ => by simp [Blk.room, c1])
                (fun _ hcap => by
                  rw [hlen]
                  simp only [Blk.room, Blk.capOk, if_true] at hcap ⊢
                  have : (i + 1) * cols.length ≤ l.cap * cols.length := Nat.mul_le_mul_right _ (by omega)
                  rw [Nat.add_mul] at this
                  omega) g2.one (fun _ i' v'' hat => by
                  rw [hlen]
                  simp only [Blk.at, c1, o2] at hat ⊢
                  by_cases hlt : i' < colsLen cols * cols.length
                  · rw [if_pos hlt, c4] at hat
                    by_cases e : i' / cols.length = i
                    · rw [if_pos e, ← f2] at hat
                      obtain ⟨y, hy, hyr, _⟩ := g2.get hat
                      have h1 := Nat.div_add_mod i' cols.length
                      have h2 := Nat.mod_lt i' d2
                      rw [e, Nat.mul_comm] at h1
                      rw [if_pos (by omega)]
                      refine ⟨y, ?_, hyr⟩
                      rw [show i' - (0 + i * cols.length) = i' % cols.length by omega]; exact hy
                    · rw [if_neg e] at hat
                      rw [if_neg (fun e' => e (by
                        obtain ⟨e1, e2⟩ := e'
                        have : i' = i * cols.length + (i' - i * cols.length) := by omega
                        rw [this]
                        exact (rowPos (by omega)).2)), if_pos hlt]; exact hat
                  · rw [if_neg hlt] at hat; cases hat)
              exact ⟨h', w', run_storeAt hT hti (by rw [← hsize, ← g2.len]; simp) k1, k2⟩
            · cases he3
        · cases he
      · cases he
  · cases he
end
end Go.Abs
