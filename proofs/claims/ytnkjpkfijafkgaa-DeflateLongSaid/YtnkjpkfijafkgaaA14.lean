/-
'append' and 'copy' do what the interpreter says.
-/
import Derived.Test.YtnkjpkfijafkgaaA13
import Derived.Laws.AppendOwn
set_option linter.unusedVariables false
set_option linter.unusedSimpArgs false
namespace Go.Abs
section
variable {β : Type} {P : Program} {T : TT} {ι : Emb} {w : World} {h : HF} {r : β}

theorem growBy_le (n : Nat) : ∀ (k c : Nat), c ≤ n + (n + 768) / 4 → Builtin.growBy n k c ≤ n + (n + 768) / 4
  | 0, c, h => h
  | k + 1, c, h => by
    unfold Builtin.growBy
    split
    · exact h
    · exact growBy_le n k _ (by omega)
theorem nextslicecap_le {n c : Nat} (h : n ≤ 1099511627776) (hc : c < n) : Builtin.nextslicecap n c ≤ 4398046511104 := by
  unfold Builtin.nextslicecap
  split
  · omega
  · split
    · omega
    · have := growBy_le n 4 c (by omega)
      omega

/-- what an appended part is: its length, its cells -/
structure Src (P : Program) (w : World) (x : Value) (size n : Nat) (news : List Value) : Prop where
  len : ∀ w', (Builtin.lenOf x).run P w' = .ok n w'
  cells : ∀ w' : World, (∀ a, w'.cell? a = w.cell? a) → (Builtin.firstCells size n x).run P w' = .ok news.toArray w'
  size : news.length = n * size

theorem run_append_in {ats : Array TypeId} {ty t u e : TypeId} {d : TypeDesc} {i : TypeInfo} {x : Value} {n : Nat} {news : List Value} {ad : Addr} {sLen sCap : Nat} (h0 : ats[0]? = some t) (h1 : ats[1]? = some u)
    (ht : P.underlying t = some (.slice e)) (hu : P.underlying u = some d) (hd : ∀ k, d ≠ .int k) (hi : P.info? e = some i) (hs : Src P w x i.size n news) (hroom : sLen + n ≤ sCap) {w' : World}
    (hst : (storeCells (ad.add (sLen * i.size)) news).run P w = .ok () w') :
    (Builtin.append_ ats ty #[.slice (some ad) sLen sCap, x]).run P w = .ok (.slice (some ad) (sLen + n) sCap) w' := by
  have hc := hs.cells w fun _ => rfl
  have hz : (match d with | .int _ => true | _ => false) = false := by
    cases d <;> first | rfl | exact absurd rfl (hd _)
  simp [Builtin.append_, h0, h1, run_underlying ht, run_underlying hu, sizeOf, typeInfo, hi, hz, hs.len, hroom, hc, hst]
theorem run_append_none {ats : Array TypeId} {ty t u e : TypeId} {d : TypeDesc} {i : TypeInfo} {x : Value} {news : List Value} (h0 : ats[0]? = some t) (h1 : ats[1]? = some u)
    (ht : P.underlying t = some (.slice e)) (hu : P.underlying u = some d) (hd : ∀ k, d ≠ .int k) (hi : P.info? e = some i) (hs : Src P w x i.size 0 news) :
    (Builtin.append_ ats ty #[.slice none 0 0, x]).run P w = .ok (.slice none 0 0) w := by
  have hc := hs.cells w fun _ => rfl
  have hz : (match d with | .int _ => true | _ => false) = false := by
    cases d <;> first | rfl | exact absurd rfl (hd _)
  simp [Builtin.append_, h0, h1, run_underlying ht, run_underlying hu, sizeOf, typeInfo, hi, hz, hs.len, hc]
theorem run_append_new {ats : Array TypeId} {ty t u e : TypeId} {d : TypeDesc} {i : TypeInfo} {z x : Value} {n : Nat} {olds news : List Value} {base : Option Addr} {sLen sCap : Nat} (h0 : ats[0]? = some t) (h1 : ats[1]? = some u)
    (ht : P.underlying t = some (.slice e)) (hu : P.underlying u = some d) (hd : ∀ k, d ≠ .int k) (hi : P.info? e = some i) (hzv : i.zero = some z) (hs : Src P w x i.size n news) (hroom : ¬ sLen + n ≤ sCap)
    (hold : ∀ w' : World, (∀ a, w'.cell? a = w.cell? a) → (Builtin.firstCells i.size sLen (.slice base sLen sCap)).run P w' = .ok olds.toArray w')
    (hlim : sLen + n ≤ 1099511627776) (hb : i.bytes ≤ 64) :
    (Builtin.append_ ats ty #[.slice base sLen sCap, x]).run P w = .ok (.slice (some ⟨w.heap.size, 0, none⟩) (sLen + n) (grownCap w (sLen + n) sCap e))
      (w.drew.alloc (.cells (olds.toArray ++ news.toArray ++ Builtin.zeroCells z.cells (grownCap w (sLen + n) sCap e - (sLen + n))) e)) := by
  have hc := hs.cells w.drew fun _ => rfl
  have ho := hold w.drew fun _ => rfl
  have hz : (match d with | .int _ => true | _ => false) = false := by
    cases d <;> first | rfl | exact absurd rfl (hd _)
  have h63 : ¬ (9223372036854775807 < ((sLen : Int) + (n : Int))) := by omega
  have hnext := nextslicecap_le (c := sCap) hlim (by omega)
  have h48 : ¬ (281474976710656 < Builtin.nextslicecap (sLen + n) sCap * i.bytes) := by
    have : Builtin.nextslicecap (sLen + n) sCap * i.bytes ≤ 4398046511104 * 64 := Nat.mul_le_mul hnext hb
    omega
  simp [Builtin.append_, h0, h1, run_underlying ht, run_underlying hu, sizeOf, typeInfo, zeroValue, hi, hzv, hz, hs.len, hroom, h63, h48, Question.forced, hc, ho, newRow, grownCap]
  congr 2
  apply Array.ext'
  simp [List.append_assoc]

theorem rowK_some (hT : TyOK P T) {t : TypeId} (h : rowK (skT T t) = true) : ∃ d, P.underlying t = some d ∧ ∀ k, d ≠ .int k := by
  cases hk : skT T t with
  | str => exact ⟨_, skT_str hT hk, fun k e => by cases e⟩
  | slice e => exact ⟨_, skT_slice hT hk, fun k e => by cases e⟩
  | arr n e => rw [hk] at h; cases h
  | other => rw [hk] at h; cases h
theorem typ_some {c : Call} {i : Nat} {k : SK} (h : typ T c i = k) (hk : k ≠ .other) : ∃ t, c.argTypes[i]? = some t ∧ skT T t = k := by
  unfold typ at h
  split at h
  · exact ⟨_, by assumption, h⟩
  · exact absurd h.symm hk

theorem Col.app_some {c d e : Col} (hs : c.app d = some e) : e.len = c.len + d.len ∧ ∀ i, e.val i = if i < c.len then c.val i else d.val (i - c.len) := by
  cases c with
  | ints k l => cases d with
    | ints k' l' =>
      simp only [Col.app] at hs
      by_cases hk : k' = k
      · rw [if_pos hk] at hs
        cases hs
        subst hk
        refine ⟨by simp [Col.len], fun i => ?_⟩
        by_cases hi : i < (Col.ints k' l).len
        · have hi' : i < l.length := hi
          rw [if_pos hi]
          simp only [Col.val, List.getD]
          rw [List.getElem?_append_left hi']
        · have hi' : ¬ i < l.length := hi
          rw [if_neg hi]
          simp only [Col.val, Col.len, List.getD]
          rw [List.getElem?_append_right (by omega)]
      · rw [if_neg hk] at hs; cases hs
    | bools l' => cases hs
  | bools l => cases d with
    | ints k' l' => cases hs
    | bools l' =>
      simp only [Col.app] at hs
      cases hs
      refine ⟨by simp [Col.len], fun i => ?_⟩
      by_cases hi : i < (Col.bools l).len
      · have hi' : i < l.length := hi
        rw [if_pos hi]
        simp only [Col.val, List.getD]
        rw [List.getElem?_append_left hi']
      · have hi' : ¬ i < l.length := hi
        rw [if_neg hi]
        simp only [Col.val, Col.len, List.getD]
        rw [List.getElem?_append_right (by omega)]
theorem colsApp_some {m m' : Nat} : ∀ {cs ds es : List Col}, colsApp cs ds = some es → (∀ c ∈ cs, c.len = m) → (∀ c ∈ ds, c.len = m') →
    es.length = cs.length ∧ ds.length = cs.length ∧ (∀ c ∈ es, c.len = m + m') ∧ ∀ j i, j < cs.length → colVal es j i = if i < m then colVal cs j i else colVal ds j (i - m)
  | [], [], es, hs, _, _ => by cases hs; exact ⟨rfl, rfl, by simp, fun j i hj => by simp at hj⟩
  | [], _ :: _, _, hs, _, _ => by cases hs
  | _ :: _, [], _, hs, _, _ => by cases hs
  | c :: cs, d :: ds, es, hs, hm, hm' => by
    unfold colsApp at hs
    cases hc : c.app d with
    | none => rw [hc] at hs; cases hs
    | some c' =>
      cases hq : colsApp cs ds with
      | none => rw [hc, hq] at hs; cases hs
      | some es1 =>
        rw [hc, hq] at hs
        simp at hs
        subst hs
        obtain ⟨a1, a2⟩ := Col.app_some hc
        obtain ⟨g1, g2, g3, g4⟩ := colsApp_some hq (fun x hx => hm x (List.mem_cons_of_mem _ hx)) (fun x hx => hm' x (List.mem_cons_of_mem _ hx))
        have l1 := hm c (List.mem_cons_self ..)
        have l2 := hm' d (List.mem_cons_self ..)
        refine ⟨by simp [g1], by simp [g2], fun x hx => ?_, fun j i hj => ?_⟩
        · rcases List.mem_cons.mp hx with rfl | hx
          · omega
          · exact g3 x hx
        · simp only [colVal]
          by_cases hj0 : j = 0
          · rw [if_pos hj0, if_pos hj0, if_pos hj0, a2, l1]
          · rw [if_neg hj0, if_neg hj0, if_neg hj0]
            exact g4 (j - 1) i (by simp at hj; omega)

/-- the cells of a row of columns -/
def flat (cs : List Col) : List Value := (List.range (colsLen cs * cs.length)).map (flatAt cs)
theorem flat_len (cs : List Col) : (flat cs).length = colsLen cs * cs.length := by simp [flat]
theorem flat_at {cs : List Col} {p : Nat} (h : p < colsLen cs * cs.length) : (flat cs)[p]? = some (flatAt cs p) := by simp [flat, h]
theorem flat_one {cs : List Col} (h0 : 0 < cs.length) : ∀ v ∈ flat cs, v.oneCell' = true := fun v hv => by
  obtain ⟨p, _, rfl⟩ := List.mem_map.mp hv
  exact colVal_one (Nat.mod_lt _ h0)
theorem dyn_at {rw' : Bool} {t : TypeId} {cs : List Col} (h0 : 0 < cs.length) {p : Nat} {v : AV} (hv : (Blk.dyn rw' t cs).at p = some v) : p < colsLen cs * cs.length ∧ ∀ ι x, VR ι v x ↔ x = flatAt cs p := by
  simp only [Blk.at] at hv
  by_cases hp : p < colsLen cs * cs.length
  · rw [if_pos hp] at hv
    obtain ⟨u, h1, h2⟩ := colGet1_val (cs := cs) (j := p % cs.length) (i := p / cs.length) (Nat.mod_lt _ h0)
    rw [h1] at hv
    cases hv
    exact ⟨hp, h2⟩
  · rw [if_neg hp] at hv; cases hv

/-- where the appended columns come from -/
theorem srcOf_some {H : Heap} {ks : List ColK} {x : AV} {q : List Col → Option β} (he : srcOf H ks x q = some r) (h0 : 0 < ks.length) :
    ∃ cs, q cs = some r ∧ ∀ {ι : Emb} {h : HF} {w : World} {vx : Value}, cs.length = ks.length → VR ι x vx → Cov H h → HR ι h w → colsOk cs ∧ Src P w vx ks.length (colsLen cs) (flat cs) := by
  have els : ∀ {cs : List Col} {w : World} {vx : Value}, cs.length = ks.length → (∃ st, Els w vx st cs) → colsOk cs ∧ Src P w vx ks.length (colsLen cs) (flat cs) := fun {cs w vx} hl ⟨st, e⟩ => by
    refine ⟨e.ok, ?_⟩
    have hst : st = ks.length := by rw [← hl, e.wid]
    subst hst
    rcases e.val with ⟨rfl, h2⟩ | ⟨ad, cap, rfl, h2⟩
    · exact ⟨fun w' => by simp [Builtin.lenOf, h2], fun w' _ => by simp [Builtin.firstCells, flat, h2], by rw [flat_len, hl]⟩
    · refine ⟨fun w' => by simp [Builtin.lenOf], fun w' hw => ?_, by rw [flat_len, hl]⟩
      refine run_firstCells_some (P := P) w' ks.length (colsLen cs) ad _ cap (flat cs) (by rw [flat_len, hl]) fun j v hj => ?_
      have hp : j < colsLen cs * cs.length := by
        have := (List.getElem?_eq_some_iff.1 hj).1
        rwa [flat_len] at this
      rw [flat_at hp] at hj
      cases hj
      rw [hw]
      exact h2 j (by rw [← hl]; exact hp)
  unfold srcOf at he
  split at he
  · rename_i z
    split at he
    · refine ⟨_, he, fun {ι h w vx} hl hx hc hr => ?_⟩
      cases hx
      have hz : (strInts z).length = z.size := by simp [strInts]
      refine ⟨fun c hc => by simp at hc; subst hc; rfl, ⟨fun w' => by simp [Builtin.lenOf, colsLen, Col.len, hz], fun w' _ => ?_, by simp [flat_len]⟩⟩
      have e1 : colsLen [Col.ints .u8 (strInts z)] = z.size := hz
      rw [e1]
      simp only [Builtin.firstCells, Sem.run_pure]
      congr 1
      apply Array.ext'
      rw [show (z.extract 0 z.size).data = z.data from by simp [ByteArray.extract_zero_size]]
      rw [Array.toList_map]
      simp only
      apply List.ext_getElem?
      intro p
      by_cases hp : p < z.size
      · rw [flat_at (by rw [e1]; simpa using hp)]
        have hp' : p < z.data.size := hp
        have e2 : z.data[p]? = some z.data[p] := by simp [hp']
        simp [flatAt, colVal, Col.val, strInts, List.getD, e2, Nat.mod_one]
      · rw [List.getElem?_eq_none (by simp; exact Nat.le_of_not_lt hp), List.getElem?_eq_none (by rw [flat_len, e1]; simp; omega)]
    · cases he
  · refine ⟨_, he, fun {ι h w vx} hl hx hc hr => ?_⟩
    cases hx
    obtain ⟨n1, n2⟩ := nils_ok ks
    exact ⟨n1, ⟨fun w' => by simp [Builtin.lenOf, n2], fun w' _ => by simp [Builtin.firstCells, flat, n2], by rw [flat_len, hl]⟩⟩
  · obtain ⟨cs, hq, h1⟩ := elemsW_ok he
    refine ⟨cs, hq, fun {ι h w vx} hl hx hc hr => ?_⟩
    obtain ⟨_, _, _, _, st, _, _, _, _, e⟩ := h1 hx hc.l hr
    exact els hl ⟨st, e⟩
end
end Go.Abs
