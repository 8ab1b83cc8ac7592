/-
The operations that read memory do what the interpreter says.
-/
import Derived.Test.YtnkjpkfijafkgaaA10
import Derived.Laws.IdiomCopy
import Derived.Laws.BytesString
set_option linter.unusedVariables false
set_option linter.unusedSimpArgs false
namespace Go.Abs

/-- on the names of a heap, a table of blocks is that heap -/
def Cov (H : Heap) (h : HF) : Prop := ∀ a, a < H.length → h a = Heap.fn H a
theorem Cov.get {H : Heap} {h : HF} (c : Cov H h) {a : Nat} {b : Blk} (e : H[a]? = some b) : h a = b := by
  have hl : a < H.length := by
    rcases Nat.lt_or_ge a H.length with hl | hl
    · exact hl
    · rw [List.getElem?_eq_none hl] at e; cases e
  rw [c a hl]
  simp [Heap.fn, e]
theorem Cov.self (H : Heap) : Cov H (Heap.fn H) := fun _ _ => rfl
theorem Cov.add {H : Heap} {h : HF} (c : Cov H h) (bs : List Blk) : Cov (H ++ bs) (addB h H.length bs) := fun a ha => by
  rcases Nat.lt_or_ge a H.length with hl | hl
  · rw [addB_out (.inl hl), c a hl]
    simp [Heap.fn, List.getElem?_append_left hl]
  · simp at ha
    have e : (H ++ bs)[a]? = some bs[a - H.length] := by rw [List.getElem?_append_right hl]; simp
    have := addB_in (h := h) (n := H.length) (i := a - H.length) (bs := bs) (b := bs[a - H.length]) (by simp)
    rw [show H.length + (a - H.length) = a by omega] at this
    rw [this, Heap.fn, e]

/-- what lives of a heap, a table of blocks has -/
def CovL (H : Heap) (h : HF) : Prop := ∀ a b, H[a]? = some b → b.live = true → h a = b
theorem Cov.l {H : Heap} {h : HF} (c : Cov H h) : CovL H h := fun _ _ e _ => c.get e
theorem CovL.get {H : Heap} {h : HF} (c : CovL H h) {a : Nat} {b : Blk} (e : H[a]? = some b) (hl : b.live = true := by rfl) : h a = b := c a b e hl

def Col.val : Col → Nat → Value
  | .ints k l, i => .int k (l.getD i 0)
  | .bools l, i => .bool (l.getD i false)
def colVal : List Col → Nat → Nat → Value
  | [], _, _ => undef
  | c :: cs, j, i => if j = 0 then c.val i else colVal cs (j - 1) i
/-- the cell of a row of elements -/
def flatAt (cs : List Col) (p : Nat) : Value := colVal cs (p % cs.length) (p / cs.length)
theorem Col.val_get {ι : Emb} (c : Col) (i : Nat) (x : Value) : VR ι (c.get i) x ↔ x = c.val i := by cases c <;> exact Iff.rfl
theorem Col.val_one (c : Col) (i : Nat) : (c.val i).oneCell' = true := by cases c <;> rfl
theorem colGet1_val : ∀ {cs : List Col} {j i : Nat}, j < cs.length → ∃ v, colGet1 cs j i = some v ∧ ∀ ι x, VR ι v x ↔ x = colVal cs j i
  | [], j, i, h => by simp at h
  | c :: cs, j, i, h => by
    by_cases hj : j = 0
    · subst hj
      exact ⟨c.get i, by simp [colGet1], fun ι x => by simp [colVal, Col.val_get]⟩
    · obtain ⟨v, h1, h2⟩ := colGet1_val (cs := cs) (j := j - 1) (i := i) (by simp at h; omega)
      exact ⟨v, by simp [colGet1, hj, h1], fun ι x => by simp [colVal, hj, h2]⟩
theorem colGet1_lt : ∀ {cs : List Col} {j i : Nat} {v : AV}, colGet1 cs j i = some v → j < cs.length
  | [], j, i, v, h => by simp [colGet1] at h
  | c :: cs, j, i, v, h => by
    unfold colGet1 at h
    by_cases hj : j = 0
    · subst hj; simp
    · rw [if_neg hj] at h; have := colGet1_lt h; simp; omega
theorem colVal_one : ∀ {cs : List Col} {j i : Nat}, j < cs.length → (colVal cs j i).oneCell' = true
  | [], j, i, h => by simp at h
  | c :: cs, j, i, h => by
    unfold colVal
    by_cases hj : j = 0
    · rw [if_pos hj]; exact Col.val_one c i
    · rw [if_neg hj]; exact colVal_one (by simp at h; omega)
theorem colsRow_at (i : Nat) : ∀ (cs : List Col) (j : Nat), segAtN (colsRow i cs) j = colGet1 cs j i
  | [], j => rfl
  | c :: cs, j => by
    simp only [colsRow, segAtN, colGet1]
    by_cases hj : j = 0
    · rw [if_pos hj, if_pos hj]
    · rw [if_neg hj, if_neg hj, colsRow_at i cs]
theorem colsRow_ok (i : Nat) : ∀ (cs : List Col), segsOk (colsRow i cs) ∧ segSize (colsRow i cs) = cs.length
  | [] => ⟨trivial, rfl⟩
  | c :: cs => ⟨(colsRow_ok i cs).1, by simp [colsRow, segSize, (colsRow_ok i cs).2]⟩
theorem rowPos {i j st : Nat} (h : j < st) : (i * st + j) % st = j ∧ (i * st + j) / st = i := by
  constructor
  · rw [Nat.add_comm, Nat.add_mul_mod_self_right, Nat.mod_eq_of_lt h]
  · rw [Nat.add_comm, Nat.add_mul_div_right _ _ (by omega), Nat.div_eq_of_lt h, Nat.zero_add]
theorem rowLt {i j st m : Nat} (h : j < st) (hi : i < m) : i * st + j < m * st := by
  have : (i + 1) * st ≤ m * st := Nat.mul_le_mul_right _ (by omega)
  rw [Nat.add_mul] at this
  omega

section read
variable {β : Type} {P : Program} {T : TT} {ι : Emb} {w : World} {h : HF} {r : β}
theorem BR.dynAt {l : Loc} {rw' : Bool} {t : TypeId} {cols : List Col} (hb : BR ι w l (.dyn rw' t cols)) {p : Nat} (hp : p < colsLen cols * cols.length) : w.cell? (l.at p) = some (flatAt cols p) := by
  have h0 : 0 < cols.length := hb.ok.2
  obtain ⟨v, h1, h2⟩ := colGet1_val (cs := cols) (j := p % cols.length) (i := p / cols.length) (Nat.mod_lt _ h0)
  obtain ⟨x, hx, hv, _⟩ := hb.cell p v (by simp only [Blk.at]; rw [if_pos hp, h1])
  rw [hx, (h2 ι x).mp hv]
  rfl
theorem run_loadAt1 {i : TI} {t : TypeId} (hT : TyOK P T) (hi : T t = some i) (ha : i.agg = false) {a : Addr} {x : Value} (hc : w.cell? a = some x) : (Instr.loadAt t (.pointer (some a))).run P w = .ok x w := by
  have := hT.agg hi w
  simp [Instr.loadAt, Instr.sureAddr, loadVar, this, aggT, hi, ha, hc]
theorem run_loadAtN {i : TI} {t : TypeId} (hT : TyOK P T) (hi : T t = some i) (ha : i.agg = true) {a : Addr} {cs : List Value} (hl : cs.length = i.size) (hc : ∀ j v, cs[j]? = some v → w.cell? (a.add j) = some v) :
    (Instr.loadAt t (.pointer (some a))).run P w = .ok (.agg cs.toArray) w := by
  have h1 := hT.agg hi w
  have h2 := hT.size hi w
  have h3 := run_loadCells_list (P := P) w a cs hc
  rw [hl] at h3
  simp [Instr.loadAt, Instr.sureAddr, loadVar, h1, aggT, hi, ha, h2, sizeT, h3]
theorem SR.build {n : Nat} {f : Nat → Option Value} {ss : List Seg} (hs : segSize ss = n) (ho : segsOk ss) (hf : ∀ j v, segAtN ss j = some v → ∃ x, f j = some x ∧ VR ι v x ∧ x.oneCell' = true) :
    ∃ cs : List Value, cs.length = n ∧ SR ι ss cs ∧ ∀ j v, cs[j]? = some v → f j = some v := by
  have key : ∀ j, j < n → ∃ x, f j = some x := fun j hj => by
    obtain ⟨v, hv⟩ := segAtN_some (ss := ss) (i := j) (by omega)
    obtain ⟨x, hx, _⟩ := hf j v hv
    exact ⟨x, hx⟩
  refine ⟨(List.range n).map fun j => (f j).getD undef, by simp, SR.of_get (by simp [hs]) ho fun j v hv => ?_, fun j v hv => ?_⟩
  · obtain ⟨x, hx, hr⟩ := hf j v hv
    have := segAtN_lt hv
    exact ⟨x, by simp [show j < n by omega, hx], hr⟩
  · have hj : j < n := by
      have := (List.getElem?_eq_some_iff.1 hv).1
      simpa using this
    obtain ⟨x, hx⟩ := key j hj
    simp [hj, hx] at hv
    rw [hx, hv]
theorem lenK_some {cols : List Col} {q : Nat → Option β} (hq : lenK cols q = some r) : q (colsLen cols) = some r := by rwa [lenK_eq] at hq

theorem loadV_ok (hT : TyOK P T) {t : TypeId} {H : Heap} {x : AV} {q : AV → Option β} (he : loadV T t H x q = some r) :
    ∃ v, q v = some r ∧ ∀ {ι : Emb} {h : HF} {w : World} {vx : Value}, VR ι x vx → CovL H h → HR ι h w → ∃ y, VR ι v y ∧ (Instr.loadAt t vx).run P w = .ok y w := by
  unfold loadV at he
  split at he
  · rename_i a b i st
    split at he
    · cases he
    · rename_i ti hti
      split at he
      · rename_i rw' ty ss hH
        by_cases hag : ti.agg = true
        · rw [hag] at he
          obtain ⟨hi0, he⟩ := bif_some he
          simp only [decide_eq_true_eq] at hi0
          subst hi0
          split at he
          · rename_i x' hcut
            refine ⟨_, he, fun {ι h w vx} hx hc hr => ?_⟩
            obtain ⟨l, hl, rfl⟩ := hx
            have hb := (hr.blk a l (by rw [hc.get hH]; rfl) hl).1
            rw [hc.get hH] at hb
            obtain ⟨c1, c2, c3, c4⟩ := segCut_spec hcut
            obtain ⟨cs, k1, k2, k3⟩ := SR.build (ι := ι) (f := fun j => w.cell? (l.at (b + j))) c1 (c4 hb.ok) (fun j v hj => by
              rw [c3 j (by have := segAtN_lt hj; omega)] at hj
              exact hb.cell _ v hj)
            refine ⟨.agg cs.toArray, ⟨_, rfl, by simpa using k2⟩, run_loadAtN hT hti hag k1 fun j v hj => ?_⟩
            rw [Nat.zero_mul, Nat.add_zero, Loc.at_add]
            exact k3 j v hj
          · cases he
        · have hag : ti.agg = false := by simpa using hag
          rw [hag] at he
          have : ∃ v, segAtN ss (b + i * st) = some v ∧ q v = some r := by
            by_cases h1 : st = 1
            · subst h1
              have := segAt_at (r := r) (by simpa using he)
              simpa using this
            · have := segAt_at (r := r) (ss := ss) (b := b + i * st) (i := 0) (q := q) (by simpa [h1] using he)
              simpa using this
          obtain ⟨v, hv, hq⟩ := this
          refine ⟨v, hq, fun {ι h w vx} hx hc hr => ?_⟩
          obtain ⟨l, hl, rfl⟩ := hx
          have hb := (hr.blk a l (by rw [hc.get hH]; rfl) hl).1
          rw [hc.get hH] at hb
          obtain ⟨y, hy, hvr, _⟩ := hb.cell _ v hv
          exact ⟨y, hvr, run_loadAt1 hT hti hag hy⟩
      · rename_i rw' ty cols hH
        obtain ⟨hst, he2⟩ := bif_some he
        simp only [decide_eq_true_eq] at hst
        subst hst
        clear he
        have he := lenK_some he2
        split at he
        · rename_i hi
          by_cases hag : ti.agg = true
          · rw [hag] at he
            simp only [cond_true] at he
            split at he
            · rename_i x' hcut
              refine ⟨_, he, fun {ι h w vx} hx hc hr => ?_⟩
              obtain ⟨l, hl, rfl⟩ := hx
              have hb := (hr.blk a l (by rw [hc.get hH]; rfl) hl).1
              rw [hc.get hH] at hb
              obtain ⟨c1, c2, c3, c4⟩ := segCut_spec hcut
              rw [(colsRow_ok i cols).2] at c2
              obtain ⟨cs, k1, k2, k3⟩ := SR.build (ι := ι) (f := fun j => w.cell? (l.at (b + i * cols.length + j))) c1 (c4 (colsRow_ok i cols).1) (fun j v hj => by
                have hjn := segAtN_lt hj
                rw [c3 j (by omega), colsRow_at] at hj
                refine hb.cell _ v ?_
                have hlt : b + j < cols.length := colGet1_lt hj
                obtain ⟨r1, r2⟩ := rowPos (i := i) hlt
                rw [show b + i * cols.length + j = i * cols.length + (b + j) by omega]
                simp only [Blk.at]
                rw [if_pos (rowLt hlt hi), r1, r2, hj])
              refine ⟨.agg cs.toArray, ⟨_, rfl, by simpa using k2⟩, run_loadAtN hT hti hag k1 fun j v hj => ?_⟩
              rw [Loc.at_add]
              exact k3 j v hj
            · cases he
          · have hag : ti.agg = false := by simpa using hag
            rw [hag] at he
            obtain ⟨v, hv, hq⟩ := onSome_some he
            refine ⟨v, hq, fun {ι h w vx} hx hc hr => ?_⟩
            obtain ⟨l, hl, rfl⟩ := hx
            have hb := (hr.blk a l (by rw [hc.get hH]; rfl) hl).1
            rw [hc.get hH] at hb
            have hlt : b < cols.length := colGet1_lt hv
            obtain ⟨r1, r2⟩ := rowPos (i := i) hlt
            obtain ⟨y, hy, hvr, _⟩ := hb.cell (b + i * cols.length) v (by
              rw [Nat.add_comm]
              simp only [Blk.at]
              rw [if_pos (rowLt hlt hi), r1, r2, hv])
            exact ⟨y, hvr, run_loadAt1 hT hti hag hy⟩
        · cases he
      · cases he
  · cases he

/-- a slice's elements, as columns -/
structure Els (w : World) (x : Value) (st : Nat) (cs : List Col) : Prop where
  wid : cs.length = st
  pos : 0 < st
  ok : colsOk cs
  val : (x = .slice none 0 0 ∧ colsLen cs = 0) ∨ ∃ ad cap, x = .slice (some ad) (colsLen cs) cap ∧ ∀ p, p < colsLen cs * st → w.cell? (ad.add p) = some (flatAt cs p)

theorem Col.cut_val {c : Col} {o n i : Nat} (h : i < n) (hl : o + n ≤ c.len) : (c.cut o n).val i = c.val (o + i) := by
  cases c with
  | ints k l =>
    show Value.int _ _ = Value.int _ _
    simp [List.getD, List.getElem?_take, h]
  | bools l =>
    show Value.bool _ = Value.bool _
    simp [List.getD, List.getElem?_take, h]
theorem Col.cut_len {c : Col} {o n : Nat} (hl : o + n ≤ c.len) : (c.cut o n).len = n := by
  cases c with
  | ints k l => simp only [Col.len] at hl; simp [Col.cut, Col.len]; omega
  | bools l => simp only [Col.len] at hl; simp [Col.cut, Col.len]; omega
theorem colVal_map_cut {o n i : Nat} (hi : i < n) : ∀ {cs : List Col} {j : Nat}, (∀ c ∈ cs, o + n ≤ c.len) → colVal (cs.map fun c => c.cut o n) j i = colVal cs j (o + i)
  | [], _, _ => rfl
  | c :: cs, j, h => by
    simp only [List.map_cons, colVal]
    by_cases hj : j = 0
    · rw [if_pos hj, if_pos hj, Col.cut_val hi (h c (List.mem_cons_self ..))]
    · rw [if_neg hj, if_neg hj]; exact colVal_map_cut hi fun d hd => h d (List.mem_cons_of_mem _ hd)
theorem cut_ok {cols : List Col} {o n : Nat} (hok : colsOk cols) (h0 : 0 < cols.length) (hn : o + n ≤ colsLen cols) : colsOk (cols.map fun c => c.cut o n) ∧ colsLen (cols.map fun c => c.cut o n) = n :=
  colsOk_of (fun c hc => by
    obtain ⟨d, hd, rfl⟩ := List.mem_map.mp hc
    exact Col.cut_len (by rw [hok d hd]; exact hn)) (by simpa using h0)
theorem flatAt_cut {cols : List Col} {o n p : Nat} (hok : colsOk cols) (h0 : 0 < cols.length) (hn : o + n ≤ colsLen cols) (hp : p < n * cols.length) : flatAt (cols.map fun c => c.cut o n) p = flatAt cols (o * cols.length + p) := by
  unfold flatAt
  rw [List.length_map]
  have hd : p / cols.length < n := Nat.div_lt_of_lt_mul (by rw [Nat.mul_comm]; exact hp)
  rw [colVal_map_cut hd fun c hc => by rw [hok c hc]; exact hn]
  rw [Nat.add_comm (o * cols.length) p, Nat.add_mul_mod_self_right, Nat.add_mul_div_right _ _ h0, Nat.add_comm]

theorem els_dyn {a o n st : Nat} {nl wh rw' : Bool} {t : TypeId} {cols : List Col} {vx : Value} (hx : VR ι (.slice a 0 o n st nl wh) vx) (hr : HR ι h w) (hH : h a = .dyn rw' t cols) (hst : st = cols.length) (hn : o + n ≤ colsLen cols)
    (h0 : 0 < cols.length) (hok : colsOk cols) : Els w vx st (cols.map fun c => c.cut o n) := by
  obtain ⟨c1, c2⟩ := cut_ok hok h0 hn
  refine ⟨by simp [hst], by omega, c1, ?_⟩
  rw [c2]
  cases nl with
  | true => obtain ⟨rfl, rfl⟩ := hx.1 rfl; exact .inl ⟨rfl, rfl⟩
  | false =>
    obtain ⟨l, ad, cap, hl, rfl, h1, h2, h3⟩ := hx.2 rfl
    refine .inr ⟨ad, cap, rfl, fun p hp => ?_⟩
    have hb := (hr.blk a l (by rw [hH]; rfl) hl).1
    rw [hH] at hb
    subst hst
    have hn0 : 0 < n := by
      rcases Nat.eq_zero_or_pos n with e | e
      · subst e; simp at hp
      · exact e
    rw [h2 hn0, Loc.at_add, Nat.zero_add, flatAt_cut hok h0 hn hp]
    refine hb.dynAt ?_
    have : (o + n) * cols.length ≤ colsLen cols * cols.length := Nat.mul_le_mul_right _ hn
    rw [Nat.add_mul] at this
    omega
theorem HR.dyn_ok {a : Nat} {rw' : Bool} {t : TypeId} {cols : List Col} (hr : HR ι h w) (hH : h a = .dyn rw' t cols) : colsOk cols ∧ 0 < cols.length := by
  cases hl : ι a with
  | none =>
    obtain ⟨t', cols', e, h1, h2, _⟩ := hr.nil a (by rw [hH]; rfl) hl
    rw [hH] at e
    cases e
    exact ⟨h1, h2⟩
  | some l =>
    have hb := (hr.blk a l (by rw [hH]; rfl) hl).1
    rw [hH] at hb
    exact hb.ok

theorem elems_ok {H : Heap} {x : AV} {q : List Col → Option β} (he : elems H x q = some r) :
    ∃ cs, q cs = some r ∧ ∀ {ι : Emb} {h : HF} {w : World} {vx : Value}, VR ι x vx → CovL H h → HR ι h w → ∃ a b o n st nl wh, x = .slice a b o n st nl wh ∧ colsLen cs = n ∧ Els w vx st cs := by
  unfold elems at he
  split at he
  · rename_i a b o n st nl wh
    split at he
    · rename_i rw' t cols hH
      obtain ⟨hc, he2⟩ := bif_some he
      simp only [decide_eq_true_eq] at hc
      obtain ⟨rfl, hst⟩ := hc
      clear he
      have he := lenK_some he2
      split at he
      · rename_i hn
        refine ⟨_, he, fun {ι h w vx} hx hc hr => ⟨a, 0, o, n, st, nl, wh, rfl, ?_, ?_⟩⟩
        · obtain ⟨d1, d2⟩ := hr.dyn_ok (hc.get hH)
          exact (cut_ok d1 d2 hn).2
        · obtain ⟨d1, d2⟩ := hr.dyn_ok (hc.get hH)
          exact els_dyn hx hr (hc.get hH) hst hn d2 d1
      · cases he
    · rename_i rw' t ss hH
      split at he
      · rename_i k m l rest hd
        obtain ⟨hst, he⟩ := bif_some he
        simp only [decide_eq_true_eq] at hst
        subst hst
        split at he
        · rename_i hn
          refine ⟨_, he, fun {ι h w vx} hx hc hr => ?_⟩
          obtain ⟨d1, d2, d3⟩ := segDrop_spec hd
          cases nl with
          | true =>
            obtain ⟨rfl, rfl⟩ := hx.1 rfl
            exact ⟨_, _, _, _, _, _, _, rfl, by simp [colsLen, Col.len], by simp, by simp, fun c hc => by simp at hc; subst hc; rfl, .inl ⟨rfl, by simp [colsLen, Col.len]⟩⟩
          | false =>
            obtain ⟨L, ad, cap, hl, rfl, h1, h2, h3⟩ := hx.2 rfl
            have hb := (hr.blk a L (by rw [hc.get hH]; rfl) hl).1
            rw [hc.get hH] at hb
            have hlen : l.length = m := (d3 hb.ok).1
            have hcl : colsLen [Col.ints k ((l.drop o).take n)] = n := by simp [colsLen, Col.len]; omega
            refine ⟨_, _, _, _, _, _, _, rfl, hcl, by simp, by simp, fun c hc => by simp at hc; subst hc; rfl, .inr ⟨ad, cap, by rw [hcl], fun p hp => ?_⟩⟩
            rw [hcl, Nat.mul_one] at hp
            rw [h2 (by omega), Loc.at_add, Nat.mul_one]
            have hat : segAtN ss (b + (o + p)) = some (.int k (l.getD (o + p) 0)) := by
              rw [← d2]
              simp only [segAtN]
              rw [if_pos (by omega)]
            obtain ⟨y, hy, hv, _⟩ := hb.cell _ _ hat
            rw [show b + o + p = b + (o + p) by omega, hy]
            cases hv
            show some (Value.int _ _) = some (flatAt _ _)
            simp only [flatAt, List.length_cons, List.length_nil, Nat.zero_add, Nat.mod_one, Nat.div_one, colVal, if_true, Col.val]
            congr 2
            simp [List.getD, List.getElem?_take, hp]
        · cases he
      · cases he
    · cases he
  · cases he
theorem elemsW_ok {H : Heap} {x : AV} {q : List Col → Option β} (he : elemsW H x q = some r) :
    ∃ cs, q cs = some r ∧ ∀ {ι : Emb} {h : HF} {w : World} {vx : Value}, VR ι x vx → CovL H h → HR ι h w → ∃ a b o n st nl wh, x = .slice a b o n st nl wh ∧ colsLen cs = n ∧ Els w vx st cs := by
  unfold elemsW at he
  split at he
  · rename_i a n st nl
    split at he
    · rename_i rw' t cols hH
      obtain ⟨hst, he⟩ := bif_some he
      simp only [decide_eq_true_eq] at hst
      have he := lenK_some he
      split at he
      · rename_i hn
        refine ⟨_, he, fun {ι h w vx} hx hc hr => ⟨a, 0, 0, n, st, nl, true, rfl, hn.symm, ?_⟩⟩
        obtain ⟨d1, d2⟩ := hr.dyn_ok (hc.get hH)
        have := els_dyn hx hr (hc.get hH) hst (by omega) d2 d1
        have e : (cols.map fun c => c.cut 0 n) = cols := by
          have : ∀ c ∈ cols, c.cut 0 n = c := fun c hc => by
            have h1 := d1 c hc
            cases c with
            | ints k l => have h2 : l.length = n := h1.trans hn.symm; simp [Col.cut, List.take_of_length_le (Nat.le_of_eq h2)]
            | bools l => have h2 : l.length = n := h1.trans hn.symm; simp [Col.cut, List.take_of_length_le (Nat.le_of_eq h2)]
          rw [List.map_congr_left this]; simp
        rwa [e] at this
      · cases he
    · cases he
  · exact elems_ok he

theorem push_foldl : ∀ (l : List Int) (s : ByteArray), l.foldl (fun r n => r.push (UInt8.ofNat n.toNat)) s = ⟨s.data ++ (l.map fun n => UInt8.ofNat n.toNat).toArray⟩
  | [], s => by simp
  | n :: l, s => by
    rw [List.foldl_cons, push_foldl l]
    simp [ByteArray.push]
theorem evRead_ok (hT : TyOK P T) {t : Tm} {H : Heap} {o : Oper} {q : AV → Option β} (he : evRead T t H o.op q = some r) :
    ∃ v, q v = some r ∧ ∀ {ι : Emb} {h : HF} {w : World} {a : Act}, TRel ι t a.tmps o.op.operands.toList → CovL H h → HR ι h w → ∃ y, VR ι v y ∧ (execOp a.eval o).run P w = .ok (.value y) w := by
  obtain ⟨dst, op, ty, pos, af, gd⟩ := o
  simp only at he ⊢
  cases op <;> simp only [evRead] at he <;> try (cases he; done)
  case load tx x =>
    obtain ⟨v, h1, h2⟩ := loadV_ok (P := P) hT he
    refine ⟨v, h1, fun {ι h w a} ht hc hr => ?_⟩
    obtain ⟨y, hy, hrun⟩ := h2 (opv_ok (a := a) ht (by simp [Op.operands])) hc hr
    exact ⟨y, hy, by simp [execOp, hrun]⟩
  case convert src ds x =>
    obtain ⟨hds, he⟩ := bif_some he
    have hd := strT_ok hT hds
    split at he
    · rename_i s hx
      obtain ⟨hs, he⟩ := bif_some he
      refine ⟨_, he, fun {ι h w a} ht hc hr => ⟨.string s, rfl, ?_⟩⟩
      have hv := opv_ok (a := a) ht (x := x) (by simp [Op.operands])
      rw [hx, VR] at hv
      simp [execOp, hv, convert, run_underlying hd, run_underlying (strT_ok hT hs)]
    · rename_i v hv
      split at he
      · rename_i e hse
        obtain ⟨hb, he⟩ := bif_some he
        obtain ⟨cs, hq, h1⟩ := elemsW_ok he
        split at hq
        · rename_i l
          refine ⟨_, hq, fun {ι h w a} ht hc hr => ⟨.string (mkStr l), rfl, ?_⟩⟩
          obtain ⟨_, _, _, n, st, _, _, hxe, hn, hels⟩ := h1 (opv_ok (a := a) ht (x := x) (by simp [Op.operands])) hc hr
          have hwid := hels.wid
          simp only [List.length_cons, List.length_nil] at hwid
          subst hwid
          have hbs : (convert src ds (a.eval x)).run P w = .ok (.string (mkStr l)) w := by
            rcases hels.val with ⟨e1, e2⟩ | ⟨ad, cap, e1, e2⟩
            · rw [e1, run_convert_bytes_string w src ds e none 0 0 (sliceT_ok hT hse) (byteT_ok hT hb).1 hd]
              have : l = [] := by simpa [colsLen, Col.len] using e2
              subst this
              simp [Conv.bytesToString, mkStr]
              rfl
            · rw [e1, run_convert_bytes_string w src ds e (some ad) _ _ (sliceT_ok hT hse) (byteT_ok hT hb).1 hd]
              have hcl : colsLen [Col.ints .u8 l] = l.length := rfl
              rw [hcl] at e2 ⊢
              have hld := run_loadCells_list (P := P) w ad (l.map (Value.int .u8)) (fun j v hj => by
                have hj' : j < l.length := by have := (List.getElem?_eq_some_iff.1 hj).1; simpa using this
                rw [e2 j (by simpa using hj')]
                simp only [flatAt, List.length_cons, List.length_nil, Nat.zero_add, Nat.mod_one, Nat.div_one, colVal, if_true, Col.val]
                simp [hj'] at hj
                simp [List.getD, hj', ← hj])
              rw [List.length_map] at hld
              rw [run_bytesToString w ad l.length cap l hld, push_foldl]
              simp [mkStr]
          simp [execOp, hbs]
        · cases hq
      · cases he
end read
end Go.Abs
