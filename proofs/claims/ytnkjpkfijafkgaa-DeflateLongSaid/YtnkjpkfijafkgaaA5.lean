/-
The operations that touch no memory, on: slices, fields, places of elements.
-/
import Derived.Test.YtnkjpkfijafkgaaA4
import Derived.Laws.Slices
set_option linter.unusedVariables false
set_option linter.unusedSimpArgs false
namespace Go.Abs
def OR (ι : Emb) : Option AV → Option Value → Prop
  | none, none => True
  | some a, some x => VR ι a x
  | _, _ => False

section pure
variable {β : Type} {P : Program} {T : TT} {ι : Emb} {w : World} {r : β}

theorem OR.nn : OR ι .none .none := trivial
theorem OR.some {a : AV} {v : Option Value} (h : OR ι (some a) v) : ∃ x, v = .some x ∧ VR ι a x := by
  cases v with
  | none => exact h.elim
  | some x => exact ⟨x, rfl, h⟩
theorem OR.none {v : Option Value} (h : OR ι none v) : v = .none := by
  cases v with
  | none => rfl
  | some x => exact h.elim

theorem VR.slice {a b o n st : Nat} {w : Bool} {L : Loc} {ad : Addr} {cap : Nat} (hL : ι a = some L) (hc : n ≤ cap) (had : 0 < n → ad = L.at (b + o * st)) (hw : w = true → ad = L.at 0 ∧ cap = L.cap) :
    VR ι (.slice a b o n st false w) (.slice (some ad) n cap) := ⟨by simp, fun _ => ⟨L, ad, cap, hL, rfl, hc, had, hw⟩⟩
theorem VR.nilslice {a b o st : Nat} {w : Bool} : VR ι (.slice a b o 0 st true w) (.slice none 0 0) := ⟨fun _ => ⟨rfl, rfl⟩, by simp⟩

theorem Loc.at_add (l : Loc) (i n : Nat) : (l.at i).add n = l.at (i + n) := by
  unfold Addr.add Loc.at
  by_cases h : n = 0
  · rw [if_pos h]; subst h; rfl
  · rw [if_neg h]; simp [Nat.add_assoc]

theorem run_bound {k : IntKind} {i : Int} {y : Nat} {code : BoundsCode} (h0 : 0 ≤ i) (h1 : i.toNat ≤ y) : (Instr.sliceBound (.int k i) y code).run P w = .ok i.toNat w := by
  rw [run_sliceBound_if, if_pos ⟨h0, by omega⟩]

/-- the model's bounds, for the ways that the interpreter takes -/
theorem bounds_ok {isSl : Bool} {len cap : Nat} {lo hi mx : Option AV} {vlo vhi vmx : Option Value} {q : Nat → Nat → Option β}
    (h : bounds len lo hi mx q = some r) (hlo : OR ι lo vlo) (hhi : OR ι hi vhi) (hmx : OR ι mx vmx) (hc : len ≤ cap) :
    ∃ l h' m, q l h' = some r ∧ l ≤ h' ∧ h' ≤ len ∧ h' ≤ m ∧ m ≤ cap ∧ (mx = none → m = cap) ∧ (isAll lo hi mx = true → l = 0 ∧ h' = len) ∧ (Instr.sliceBounds isSl len cap vlo vhi vmx).run P w = .ok (l, h', m) w := by
  unfold bounds at h
  split at h
  · cases hlo.none; cases hhi.none; cases hmx.none
    exact ⟨0, len, cap, h, by omega, by omega, hc, Nat.le_refl _, by simp, by simp, by simp [Instr.sliceBounds]⟩
  · obtain ⟨x, rfl, hx⟩ := hlo.some
    cases hhi.none; cases hmx.none; cases hx
    split at h
    · rename_i hb
      exact ⟨_, _, cap, h, hb.2, by omega, hc, Nat.le_refl _, by simp, by simp [isAll], by simp [Instr.sliceBounds, run_bound hb.1 hb.2]⟩
    · cases h
  · obtain ⟨x, rfl, hx⟩ := hhi.some
    cases hlo.none; cases hmx.none; cases hx
    split at h
    · rename_i hb
      exact ⟨_, _, cap, h, by omega, hb.2, by omega, Nat.le_refl _, by simp, by simp [isAll], by simp [Instr.sliceBounds, run_bound (P := P) (w := w) hb.1 (Nat.le_trans hb.2 hc)]⟩
    · cases h
  · obtain ⟨x, rfl, hx⟩ := hlo.some
    obtain ⟨y, rfl, hy⟩ := hhi.some
    cases hmx.none; cases hx; cases hy
    split at h
    · rename_i hb
      exact ⟨_, _, cap, h, hb.2.2.1, hb.2.2.2, by omega, Nat.le_refl _, by simp, by simp [isAll],
        by simp [Instr.sliceBounds, run_bound (P := P) (w := w) hb.2.1 (Nat.le_trans hb.2.2.2 hc), run_bound (P := P) (w := w) hb.1 hb.2.2.1]⟩
    · cases h
  · obtain ⟨x, rfl, hx⟩ := hlo.some
    obtain ⟨y, rfl, hy⟩ := hhi.some
    obtain ⟨z, rfl, hz⟩ := hmx.some
    cases hx; cases hy; cases hz
    split at h
    · rename_i hb
      exact ⟨_, _, _, h, hb.2.2.2.1, by omega, hb.2.2.2.2.1, by omega, by simp, by simp [isAll],
        by simp [Instr.sliceBounds, run_bound (P := P) (w := w) hb.2.2.1 (Nat.le_trans hb.2.2.2.2.2 hc), run_bound (P := P) (w := w) hb.2.1 hb.2.2.2.2.1, run_bound (P := P) (w := w) hb.1 hb.2.2.2.1]⟩
    · cases h
  · cases h

theorem T_some_size {t : TypeId} {n : Nat} (h : sizeT T t = n) (hn : 0 < n) : ∃ i, T t = some i := by
  unfold sizeT at h
  cases hi : T t with
  | none => rw [hi] at h; simp at h; omega
  | some i => exact ⟨i, rfl⟩
theorem skT_str (hT : TyOK P T) {t : TypeId} (h : skT T t = .str) : P.underlying t = some .string := by
  unfold skT at h
  split at h <;> first
    | (cases h; done)
    | exact hT.str (by assumption) rfl
theorem skT_slice (hT : TyOK P T) {t e : TypeId} (h : skT T t = .slice e) : P.underlying t = some (.slice e) := by
  unfold skT at h
  split at h <;> first
    | (cases h; done)
    | (cases h; exact hT.slice (by assumption) rfl)
theorem skT_arr (hT : TyOK P T) {t e : TypeId} {n : Nat} (h : skT T t = .arr n e) : P.underlying t = some (.array n e) := by
  unfold skT at h
  split at h <;> first
    | (cases h; done)
    | (cases h; exact hT.arr (by assumption) rfl)
theorem TyOK.sizeN (hT : TyOK P T) {t : TypeId} {n : Nat} (h : sizeT T t = n) (hn : 0 < n) (w : World) : (sizeOf t).run P w = .ok n w := by
  obtain ⟨i, hi⟩ := T_some_size h hn
  rw [hT.size hi w, h]

theorem bif_some {c : Bool} {a : Option β} (h : (bif c then a else none) = some r) : c = true ∧ a = some r := by
  cases c
  · cases h
  · exact ⟨rfl, h⟩
theorem bif_none {c : Bool} {a : Option β} (h : (bif c then none else a) = some r) : c = false ∧ a = some r := by
  cases c
  · exact ⟨rfl, h⟩
  · cases h

theorem sliceV_ok (hT : TyOK P T) {t : TypeId} {x : AV} {vx : Value} {lo hi mx : Option AV} {vlo vhi vmx : Option Value} {q : AV → Option β}
    (h : sliceV T t x lo hi mx q = some r) (hx : VR ι x vx) (hlo : OR ι lo vlo) (hhi : OR ι hi vhi) (hmx : OR ι mx vmx) :
    Pu P ι w (Instr.sliceAt t vx vlo vhi vmx) q r := by
  unfold sliceV at h
  split at h
  · -- a string
    rename_i s hsk
    obtain ⟨hm, hnew⟩ := bif_none h
    replace h := hnew
    have hm' : mx = none := by cases mx <;> simp_all
    subst hm'
    cases hmx.none; cases hx
    have hu := skT_str hT hsk
    obtain ⟨l, h', m, hq, h1, h2, h3, h4, h5, h6, hr⟩ := bounds_ok (P := P) (w := w) (isSl := false) h hlo hhi OR.nn (Nat.le_refl _)
    refine ⟨_, _, hq, rfl, ?_⟩
    simp only [Instr.sliceAt, Sem.run_bind, run_underlying hu, Result.andThen_ok, Instr.slice, Option.isSome_none, Bool.false_eq_true, if_false]
    simp [hr]
  · -- a slice
    rename_i e a b o n st nl wh hsk
    obtain ⟨hc, hnew⟩ := bif_some h
    replace h := hnew
    simp only [decide_eq_true_eq] at hc
    have hu := skT_slice hT hsk
    have hsz := hT.sizeN hc.1 hc.2
    cases nl with
    | true =>
      obtain ⟨rfl, rfl⟩ := hx.1 rfl
      cases hw : (wh && isAll lo hi mx) with
      | true =>
        rw [hw, cond_true] at h
        simp only [Bool.and_eq_true] at hw
        have : lo = none ∧ hi = none ∧ mx = none := by
          unfold isAll at hw; split at hw <;> simp_all
        obtain ⟨rfl, rfl, rfl⟩ := this
        cases hlo.none; cases hhi.none; cases hmx.none
        refine ⟨_, _, h, hx, ?_⟩
        simp [Instr.sliceAt, run_underlying hu, Instr.slice, Instr.sliceBounds, hsz]
      | false =>
        rw [hw, cond_false] at h
        obtain ⟨l, h', m, hq, h1, h2, h3, h4, h5, h6, hr⟩ := bounds_ok (P := P) (w := w) (isSl := true) h hlo hhi hmx (Nat.le_refl _)
        have e1 : l = 0 := by omega
        have e2 : h' = 0 := by omega
        have e3 : m = 0 := by omega
        subst e1; subst e2; subst e3
        refine ⟨_, .slice none 0 0, hq, VR.nilslice, ?_⟩
        simp [Instr.sliceAt, run_underlying hu, Instr.slice, hr, hsz]
    | false =>
      obtain ⟨L, ad, cap, hL, rfl, hcap, had, hwh⟩ := hx.2 rfl
      cases hw : (wh && isAll lo hi mx) with
      | true =>
        rw [hw, cond_true] at h
        simp only [Bool.and_eq_true] at hw
        have : lo = none ∧ hi = none ∧ mx = none := by
          unfold isAll at hw; split at hw <;> simp_all
        obtain ⟨rfl, rfl, rfl⟩ := this
        cases hlo.none; cases hhi.none; cases hmx.none
        refine ⟨_, _, h, hx, ?_⟩
        have : ad.add 0 = ad := by simp [Addr.add]
        simp [Instr.sliceAt, run_underlying hu, Instr.slice, Instr.sliceBounds, hsz, this]
      | false =>
        rw [hw, cond_false] at h
        obtain ⟨l, h', m, hq, h1, h2, h3, h4, h5, h6, hr⟩ := bounds_ok (P := P) (w := w) (isSl := true) h hlo hhi hmx hcap
        refine ⟨_, .slice (some (if m = l then ad else ad.add (l * st))) (h' - l) (m - l), hq, VR.slice hL (by omega) (fun hpos => ?_) (fun h => by cases h), ?_⟩
        · rw [if_neg (by omega), had (by omega), Loc.at_add]
          congr 1
          rw [Nat.add_mul]; omega
        · by_cases hml : m = l
          · simp [Instr.sliceAt, run_underlying hu, Instr.slice, hr, hsz, hml]
          · simp [Instr.sliceAt, run_underlying hu, Instr.slice, hr, hsz, hml]
  · -- an array behind a pointer
    rename_i n e a b hsk
    obtain ⟨hm, hnew⟩ := bif_none h
    replace h := hnew
    simp only [Bool.or_eq_false_iff, decide_eq_false_iff_not] at hm
    have hm' : mx = none := by cases mx <;> simp_all
    subst hm'
    cases hmx.none
    have hu := skT_arr hT hsk
    have hsz := hT.sizeN rfl (by omega : 0 < sizeT T e)
    obtain ⟨L, hL, rfl⟩ := hx
    obtain ⟨l, h', m, hq, h1, h2, h3, h4, h5, h6, hr⟩ := bounds_ok (P := P) (w := w) (isSl := false) h hlo hhi OR.nn (Nat.le_refl _)
    refine ⟨_, .slice (some (if m = l then L.at (b + 0 * 1) else (L.at (b + 0 * 1)).add (l * sizeT T e))) (h' - l) (m - l), hq, VR.slice hL (by omega) (fun hpos => ?_) (fun h => by cases h), ?_⟩
    · rw [if_neg (by omega), Loc.at_add]; congr 1
    · simp [Instr.sliceAt, run_underlying hu, Instr.sureAddr, hr, hsz]
  · cases h

theorem fieldOf_ok (hT : TyOK P T) {s f off : Nat} {t : TypeId} (h : fieldOf T s f = some (off, t)) : ∃ (fields : Array Field) (fd : Field), P.underlying s = some (.struct fields) ∧ fields[f]? = some fd ∧ fd.offset = off ∧ fd.type = t := by
  unfold fieldOf at h
  split at h
  · rename_i fs i hi
    obtain ⟨fields, hu, hf⟩ := hT.struct hi rfl
    rw [← hf] at h
    rw [List.getElem?_map] at h
    cases hx : fields.toList[f]? with
    | none => rw [hx] at h; simp at h
    | some fd =>
      rw [hx] at h
      simp at h
      exact ⟨fields, fd, hu, by simpa using hx, h.1, h.2⟩
  · cases h
theorem fieldAddrV_ok (hT : TyOK P T) {s f : Nat} {x v : AV} {vx : Value} (h : fieldAddrV T s x f = some v) (hx : VR ι x vx) :
    ∃ y, VR ι v y ∧ (Instr.fieldAt s vx f).run P w = .ok y w := by
  unfold fieldAddrV at h
  split at h
  · rename_i a b i st
    obtain ⟨L, hL, rfl⟩ := hx
    split at h
    · rename_i off t hf
      obtain ⟨fields, fd, hu, hfd, e1, e2⟩ := fieldOf_ok hT hf
      by_cases hs : sizeT T t = 0
      · rw [if_pos hs] at h; cases h
      · rw [if_neg hs] at h
        cases h
        subst e1; subst e2
        have hsz := hT.sizeN rfl (by omega : 0 < sizeT T fd.type)
        refine ⟨_, ⟨L, hL, rfl⟩, ?_⟩
        simp only [Instr.fieldAt, Sem.run_bind, run_underlying hu, Result.andThen_ok, hfd, Instr.sureAddr, Sem.run_pure, fieldPlace, hsz, Sem.run_ite, if_neg hs, Loc.at_add]
        rw [show b + i * st + fd.offset = b + fd.offset + i * st by omega]
    · cases h
  · cases h

theorem extract_toList (c : Array Value) (i j : Nat) : (c.extract i j).toList = (c.toList.drop i).take (j - i) := by simp

/-- a part of an aggregate -/
theorem cellsV_ok (hT : TyOK P T) {t : TypeId} {ss : List Seg} {b : Nat} {v : AV} {c : Array Value} (h : cellsV T t ss b = some v) (hs : SR ι ss c.toList) :
    ∃ y, VR ι v y ∧ (Go.part t c b).run P w = .ok y w := by
  unfold cellsV at h
  by_cases hz : sizeT T t = 0
  · rw [if_pos hz] at h; cases h
  · rw [if_neg hz] at h
    obtain ⟨i, hi⟩ := T_some_size (T := T) (t := t) rfl (by omega)
    have hsz := hT.size hi
    have hag := hT.agg hi
    cases ha : aggT T t with
    | true =>
      rw [ha, if_pos rfl] at h
      split at h
      · rename_i x hx
        cases h
        obtain ⟨c1, c2, c3, c4⟩ := segCut_spec hx
        refine ⟨.agg (c.extract b (b + sizeT T t)), ⟨_, rfl, ?_⟩, by simp [Go.part, hag, ha, hsz]⟩
        have hl := hs.len
        refine SR.of_get ?_ (c4 hs.ok) fun j u hj => ?_
        · rw [extract_toList, c1]; simp at hl ⊢; omega
        · have hjlt := segAtN_lt hj
          rw [c1] at hjlt
          rw [c3 j hjlt] at hj
          obtain ⟨y, hy, hr⟩ := hs.get hj
          refine ⟨y, ?_, hr⟩
          rw [extract_toList, List.getElem?_take, if_pos (by omega), List.getElem?_drop]
          exact hy
      · cases h
    | false =>
      rw [ha] at h
      simp only [Bool.false_eq_true, if_false] at h
      obtain ⟨y, hy, hr, _⟩ := hs.get (segGet_at h)
      refine ⟨y, hr, ?_⟩
      simp only [Go.part, Sem.run_bind, hag, ha, Result.andThen_ok, Bool.false_eq_true, if_false, Sem.run_ite]
      rw [show c[b]? = some y by simpa using hy]
      rfl
theorem fieldV_ok (hT : TyOK P T) {s f : Nat} {x v : AV} {vx : Value} (h : fieldV T s x f = some v) (hx : VR ι x vx) :
    ∃ y, VR ι v y ∧ (Instr.field s vx f).run P w = .ok y w := by
  unfold fieldV at h
  split at h
  · rename_i ss
    obtain ⟨c, rfl, hs⟩ := hx
    split at h
    · rename_i off t hf
      obtain ⟨fields, fd, hu, hfd, e1, e2⟩ := fieldOf_ok hT hf
      subst e1; subst e2
      obtain ⟨y, hy, hr⟩ := cellsV_ok (w := w) hT h hs
      exact ⟨y, hy, by simp [Instr.field, run_underlying hu, hfd, asAgg, hr]⟩
    · cases h
  · cases h

theorem segAt_at {ss : List Seg} {b i : Nat} {q : AV → Option β} (h : segAt ss b i q = some r) : ∃ v, segAtN ss (b + i) = some v ∧ q v = some r := by
  unfold segAt at h
  split at h
  · rename_i k n l rest hd
    obtain ⟨d1, d2, d3⟩ := segDrop_spec hd
    by_cases hi : i < n
    · rw [if_pos hi] at h
      exact ⟨_, by rw [← d2, segAtN, if_pos hi], h⟩
    · rw [if_neg hi] at h; cases h
  · rename_i v rest hd
    obtain ⟨d1, d2, d3⟩ := segDrop_spec hd
    obtain ⟨hc, hnew⟩ := bif_some h
    replace h := hnew
    simp only [decide_eq_true_eq] at hc
    subst hc
    exact ⟨v, by rw [← d2, segAtN, if_pos rfl], h⟩
  · cases h

theorem indexAddrV_ok (hT : TyOK P T) {t : TypeId} {x i : AV} {vx vi : Value} {q : AV → Option β} (h : indexAddrV T t x i q = some r) (hx : VR ι x vx) (hi : VR ι i vi) :
    Pu P ι w (Instr.indexAt t vx vi) q r := by
  unfold indexAddrV at h
  split at h
  · rename_i e a b o n st nl wh k i hsk
    cases hi
    obtain ⟨hc, hnew⟩ := bif_some h
    replace h := hnew
    simp only [decide_eq_true_eq] at hc
    have hu := skT_slice hT hsk
    have hsz := hT.sizeN hc.1 hc.2
    by_cases hb : 0 ≤ i ∧ i.toNat < n
    · rw [if_pos hb] at h
      cases nl with
      | true => have := (hx.1 rfl).2; omega
      | false =>
        obtain ⟨L, ad, cap, hL, rfl, hcap, had, hwh⟩ := hx.2 rfl
        refine ⟨_, _, h, ⟨L, hL, rfl⟩, ?_⟩
        have hlt : 0 ≤ i ∧ i < (n : Int) := by omega
        simp only [Instr.indexAt, Sem.run_bind, asIntOf, Sem.run_pure, Result.andThen_ok, run_underlying hu, hsz, Sem.run_ite, if_pos hlt, had (by omega), Loc.at_add]
        rw [show b + o * st + i.toNat * st = b + (o + i.toNat) * st by rw [Nat.add_mul]; omega]
    · rw [if_neg hb] at h; cases h
  · rename_i n e a b k i hsk
    cases hi
    obtain ⟨hc, hnew⟩ := bif_none h
    replace h := hnew
    simp only [decide_eq_false_iff_not] at hc
    have hu := skT_arr hT hsk
    have hsz := hT.sizeN rfl (by omega : 0 < sizeT T e)
    obtain ⟨L, hL, rfl⟩ := hx
    by_cases hb : 0 ≤ i ∧ i.toNat < n
    · rw [if_pos hb] at h
      have hlt : 0 ≤ i ∧ i < (n : Int) := by omega
      have hrun : (Instr.indexAt t (.pointer (some (L.at (b + 0 * 1)))) (.int k i)).run P w = .ok (.pointer (some (L.at (b + i.toNat * sizeT T e)))) w := by
        simp only [Instr.indexAt, Sem.run_bind, asIntOf, Sem.run_pure, Result.andThen_ok, run_underlying hu, Instr.sureAddr, hsz, Sem.run_ite, if_pos hlt, Loc.at_add]
        simp
      cases hr : runT T t with
      | true =>
        rw [hr] at h
        obtain ⟨hc1, h⟩ := bif_some h
        simp only [decide_eq_true_eq] at hc1
        refine ⟨_, _, h, ⟨L, hL, rfl⟩, ?_⟩
        rw [hrun, hc1]
      | false =>
        rw [hr] at h
        refine ⟨_, _, h, ⟨L, hL, rfl⟩, ?_⟩
        rw [hrun]
        rfl
    · rw [if_neg hb] at h; cases h
  · cases h

theorem bt_at {s : ByteArray} {i : Nat} (h : i < s.size) : ∃ b, s[i]? = some b ∧ bt s i = (b.toNat : Int) := by
  refine ⟨s[i], by simp [h], ?_⟩
  have : s.data.toList[i]? = some s[i] := by
    simp [ByteArray.getElem_eq_getElem_data]
  simp [bt, List.getD, this]
theorem indexV_ok (hT : TyOK P T) {t : TypeId} {x i : AV} {vx vi : Value} {q : AV → Option β} (h : indexV T t x i q = some r) (hx : VR ι x vx) (hi : VR ι i vi) :
    Pu P ι w (Instr.index t vx vi) q r := by
  unfold indexV at h
  split at h
  · rename_i s k i hsk
    cases hi; cases hx
    have hu := skT_str hT hsk
    by_cases hb : 0 ≤ i ∧ i.toNat < s.size
    · rw [if_pos hb] at h
      obtain ⟨b, hb', e⟩ := bt_at hb.2
      refine ⟨_, _, h, rfl, ?_⟩
      simp [Instr.index, asIntOf, run_underlying hu, hb.1, hb', e]
    · rw [if_neg hb] at h; cases h
  · rename_i n e ss k i hsk
    cases hi
    obtain ⟨c, rfl, hs⟩ := hx
    obtain ⟨hc, hnew⟩ := bif_none h
    replace h := hnew
    simp only [decide_eq_false_iff_not] at hc
    have hu := skT_arr hT hsk
    have hsz := hT.sizeN rfl (by omega : 0 < sizeT T e)
    by_cases hb : 0 ≤ i ∧ i.toNat < n
    · rw [if_pos hb] at h
      have hlt : 0 ≤ i ∧ i < (n : Int) := by omega
      cases hr : runT T t with
      | true =>
        rw [hr] at h
        obtain ⟨hc1, h⟩ := bif_some h
        simp only [Bool.and_eq_true, decide_eq_true_eq, Bool.not_eq_true'] at hc1
        obtain ⟨v, hv, hq⟩ := segAt_at h
        obtain ⟨y, hy, hvr, _⟩ := hs.get hv
        obtain ⟨ie, hie⟩ := T_some_size (T := T) (t := e) rfl (by omega)
        have hag := hT.agg hie
        refine ⟨v, y, hq, hvr, ?_⟩
        simp only [Instr.index, Sem.run_bind, asIntOf, Sem.run_pure, Result.andThen_ok, run_underlying hu, Sem.run_ite, if_pos hlt, hsz, Go.part, hag, hc1.2, Bool.false_eq_true, if_false, hc1.1, Nat.mul_one]
        rw [show c[i.toNat]? = some y by simpa using hy]
        rfl
      | false =>
        rw [hr] at h
        simp only [cond_false] at h
        split at h
        · rename_i v hv
          obtain ⟨y, hvr, hrun⟩ := cellsV_ok (w := w) hT hv hs
          refine ⟨v, y, h, hvr, ?_⟩
          simp only [Instr.index, Sem.run_bind, asIntOf, Sem.run_pure, Result.andThen_ok, run_underlying hu, Sem.run_ite, if_pos hlt, hsz, hrun]
        · cases h
    · rw [if_neg hb] at h; cases h
  · cases h
end pure
end Go.Abs
