/-
'copy' does what the interpreter says.
-/
import Derived.Test.YtnkjpkfijafkgaaA15
set_option linter.unusedVariables false
set_option linter.unusedSimpArgs false
namespace Go.Abs
section
variable {β : Type} {P : Program} {T : TT} {ι : Emb} {w : World} {h : HF} {r : β}

theorem getD_over {α : Type} (l l' : List α) (o i : Nat) (d : α) (hl : o + l'.length ≤ l.length) : (l.take o ++ l' ++ l.drop (o + l'.length)).getD i d = if o ≤ i ∧ i < o + l'.length then l'.getD (i - o) d else l.getD i d := by
  simp only [List.getD]
  by_cases hi : o ≤ i ∧ i < o + l'.length
  · rw [if_pos hi, List.getElem?_append_left (by simp; omega), List.getElem?_append_right (by simp; omega)]
    simp only [List.length_take]
    rw [Nat.min_eq_left (by omega)]
  · rw [if_neg hi]
    by_cases h1 : i < o
    · rw [List.getElem?_append_left (by simp; omega), List.getElem?_append_left (by simp; omega), List.getElem?_take_of_lt h1]
    · rw [List.getElem?_append_right (by simp; omega), List.getElem?_drop]
      simp only [List.length_append, List.length_take]
      rw [Nat.min_eq_left (by omega), show o + l'.length + (i - (o + l'.length)) = i by omega]
theorem Col.over_some {c d e : Col} {o : Nat} (hs : c.over o d = some e) (hl : o + d.len ≤ c.len) : e.len = c.len ∧ ∀ i, e.val i = if o ≤ i ∧ i < o + d.len then d.val (i - o) else c.val i := by
  cases c with
  | ints k l => cases d with
    | ints k' l' =>
      simp only [Col.over] at hs
      by_cases hk : k' = k
      · rw [if_pos hk] at hs
        cases hs
        subst hk
        simp only [Col.len] at hl
        refine ⟨by simp [Col.len]; omega, fun i => ?_⟩
        have := getD_over l l' o i 0 hl
        by_cases hi : o ≤ i ∧ i < o + (Col.ints k' l').len
        · rw [if_pos hi]; rw [if_pos (show o ≤ i ∧ i < o + l'.length from hi)] at this; exact congrArg (Value.int k') this
        · rw [if_neg hi]; rw [if_neg (show ¬ (o ≤ i ∧ i < o + l'.length) from hi)] at this; exact congrArg (Value.int k') this
      · rw [if_neg hk] at hs; cases hs
    | bools l' => cases hs
  | bools l => cases d with
    | ints k' l' => cases hs
    | bools l' =>
      simp only [Col.over] at hs
      cases hs
      simp only [Col.len] at hl
      refine ⟨by simp [Col.len]; omega, fun i => ?_⟩
      have := getD_over l l' o i false hl
      by_cases hi : o ≤ i ∧ i < o + (Col.bools l').len
      · rw [if_pos hi]; rw [if_pos (show o ≤ i ∧ i < o + l'.length from hi)] at this; exact congrArg Value.bool this
      · rw [if_neg hi]; rw [if_neg (show ¬ (o ≤ i ∧ i < o + l'.length) from hi)] at this; exact congrArg Value.bool this
theorem colsOver_some {m m' o : Nat} (hl : o + m' ≤ m) : ∀ {cs ds es : List Col}, colsOver cs o ds = some es → (∀ c ∈ cs, c.len = m) → (∀ c ∈ ds, c.len = m') →
    es.length = cs.length ∧ ds.length = cs.length ∧ (∀ c ∈ es, c.len = m) ∧ ∀ j i, j < cs.length → colVal es j i = if o ≤ i ∧ i < o + m' then colVal ds j (i - o) else colVal cs j i
  | [], [], es, hs, _, _ => by cases hs; exact ⟨rfl, rfl, by simp, fun j i hj => by simp at hj⟩
  | [], _ :: _, _, hs, _, _ => by cases hs
  | _ :: _, [], _, hs, _, _ => by cases hs
  | c :: cs, d :: ds, es, hs, hm, hm' => by
    unfold colsOver at hs
    cases hc : c.over o d with
    | none => rw [hc] at hs; cases hs
    | some c' =>
      cases hq : colsOver cs o ds with
      | none => rw [hc, hq] at hs; cases hs
      | some es1 =>
        rw [hc, hq] at hs
        simp at hs
        subst hs
        have l1 := hm c (List.mem_cons_self ..)
        have l2 := hm' d (List.mem_cons_self ..)
        obtain ⟨a1, a2⟩ := Col.over_some hc (by omega)
        obtain ⟨g1, g2, g3, g4⟩ := colsOver_some hl hq (fun x hx => hm x (List.mem_cons_of_mem _ hx)) (fun x hx => hm' x (List.mem_cons_of_mem _ hx))
        refine ⟨by simp [g1], by simp [g2], fun x hx => ?_, fun j i hj => ?_⟩
        · rcases List.mem_cons.mp hx with rfl | hx
          · omega
          · exact g3 x hx
        · simp only [colVal]
          by_cases hj0 : j = 0
          · rw [if_pos hj0, if_pos hj0, if_pos hj0, a2, l2]
          · rw [if_neg hj0, if_neg hj0, if_neg hj0]
            exact g4 (j - 1) i (by simp at hj; omega)

theorem run_copy {ats : Array TypeId} {ty t e : TypeId} {size n dLen dCap : Nat} {base : Option Addr} {x : Value} {news : List Value} {w' : World} (h0 : ats[0]? = some t) (ht : P.underlying t = some (.slice e))
    (hsz : (sizeOf e).run P w = .ok size w) (hlen : (Builtin.lenOf x).run P w = .ok n w) (hf : (Builtin.firstCells size (Nat.min n dLen) x).run P w = .ok news.toArray w)
    (hst : match base with | some a => (storeCells a news).run P w = .ok () w' | none => w' = w) :
    (Builtin.copy_ ats ty #[.slice base dLen dCap, x]).run P w = .ok (.int .i64 (Nat.min n dLen : Nat)) w' := by
  cases base with
  | none => subst hst; simp [Builtin.copy_, h0, run_underlying ht, hsz, hlen, hf, goInt]
  | some a => simp only at hst; simp [Builtin.copy_, h0, run_underlying ht, hsz, hlen, hf, hst, goInt]

theorem copyV_ok (hT : TyOK P T) {c : Call} {H : Heap} {s x : AV} {q : AV → Heap → Option β} (he : copyV T c H s x q = some r) :
    ∃ v H', q v H' = some r ∧ H.length ≤ H'.length ∧ ∀ {ι : Emb} {h : HF} {w : World} {vs vx : Value} (ty : TypeId), VR ι s vs → VR ι x vx → Cov H h → HR ι h w →
      ∃ h' y w', (Builtin.copy_ c.argTypes ty #[vs, vx]).run P w = .ok y w' ∧ Wr ι h w H.length H' v ι h' y w' := by
  unfold copyV at he
  split at he <;> try (cases he; done)
  rename_i e a o n st nl wh a' b' o' n' st' nl' wh' ht0
  obtain ⟨new, he1, hnew⟩ := elems_ok he
  clear he
  split at he1 <;> try (cases he1; done)
  rename_i tt cols hH
  obtain ⟨hst, he2⟩ := bif_some he1
  simp only [decide_eq_true_eq] at hst
  obtain ⟨hst, hst', hse⟩ := hst
  have he3 := lenK_some (lenK_some he2)
  split at he3 <;> try (cases he3; done)
  rename_i hnm
  split at he3 <;> try (cases he3; done)
  rename_i cs hcs
  refine ⟨_, _, he3, by simp, fun {ι h w vs vx} ty hvs hvx hc hr => ?_⟩
  obtain ⟨t, hat0, hsk0⟩ := typ_some ht0 (by simp)
  have htu := skT_slice hT hsk0
  obtain ⟨d1, d2⟩ := hr.dyn_ok (hc.get hH)
  have haL : a < H.length := by
    rcases Nat.lt_or_ge a H.length with g | g
    · exact g
    · rw [List.getElem?_eq_none g] at hH; cases hH
  -- the source, cut to what is copied
  have hsrc : ∃ vx', VR ι (.slice a' b' o' (min n' n) st' nl' false) vx' ∧ ((nl' = true ∧ vx = .slice none 0 0 ∧ vx' = vx ∧ n' = 0) ∨ ∃ ad cap, nl' = false ∧ vx = .slice (some ad) n' cap ∧ vx' = .slice (some ad) (min n' n) cap) := by
    cases nl' with
    | true =>
      obtain ⟨rfl, rfl⟩ := hvx.1 rfl
      refine ⟨_, ?_, .inl ⟨rfl, rfl, rfl, rfl⟩⟩
      rw [Nat.zero_min]
      exact VR.nilslice
    | false =>
      obtain ⟨l, ad, cap, hl, rfl, h1, h2, h3⟩ := hvx.2 rfl
      exact ⟨_, VR.slice hl (by omega) (fun hp => h2 (by omega)) (by simp), .inr ⟨ad, cap, rfl, rfl, rfl⟩⟩
  obtain ⟨vx', hvx', hcase⟩ := hsrc
  obtain ⟨a2, b2, o2, n2, st2, nl2, wh2, hxe, hcl, hels⟩ := hnew hvx' hc.l hr
  simp only [AV.slice.injEq] at hxe
  obtain ⟨rfl, rfl, rfl, rfl, rfl, rfl, rfl⟩ := hxe
  have hst0 : 0 < st := by omega
  have hsz := hT.sizeN hse hst0 w
  have hnewl : new.length = cols.length := by rw [hels.wid]; omega
  obtain ⟨c1, c2, c3, c4⟩ := colsOver_some (m := colsLen cols) (m' := colsLen new) (o := o) (by omega) hcs d1 hels.ok
  obtain ⟨k1, k2⟩ := colsOk_of c3 (by omega)
  have hfl : (flat new).length = min n' n * st := by rw [flat_len, hcl, hels.wid, hst']
  have hlenx : (Builtin.lenOf vx).run P w = .ok n' w := by
    rcases hcase with ⟨_, rfl, _, h0⟩ | ⟨ad, cap, _, rfl, _⟩
    · simp [Builtin.lenOf, h0]
    · simp [Builtin.lenOf]
  have hfirst : (Builtin.firstCells st (Nat.min n' n) vx).run P w = .ok (flat new).toArray w := by
    rcases hcase with ⟨_, rfl, _, h0⟩ | ⟨ad, cap, _, rfl, rfl⟩
    · have : flat new = [] := List.eq_nil_of_length_eq_zero (by rw [hfl, h0]; simp)
      simp [Builtin.firstCells, this]
    · rcases hels.val with ⟨e1, _⟩ | ⟨ad', cap', e1, e2⟩
      · cases e1
      · simp only [Value.slice.injEq, Option.some.injEq] at e1
        obtain ⟨rfl, e3, rfl⟩ := e1
        refine run_firstCells_some (P := P) w st _ ad n' cap (flat new) hfl fun j v hj => ?_
        have hp : j < colsLen new * new.length := by
          have := (List.getElem?_eq_some_iff.1 hj).1
          rwa [flat_len] at this
        rw [flat_at hp] at hj
        cases hj
        exact e2 j (by rw [← hels.wid]; exact hp)
  have hkey : ∀ {ι : Emb} {l : Loc}, ι a = some l → ∀ {h : HF} {w : World}, Cov H h → HR ι h w → ∃ h' w', (storeCells (l.at (o * st)) (flat new)).run P w = .ok () w' ∧ Wr ι h w H.length ((H ++ []).set a (.dyn true tt cs)) (.tuple []) ι h' undef w' := by
    intro ι l hl h w hc hr
    refine store_fin (P := P) (o := o * st) (vs := flat new) (k' := .dyn true tt cs) hc hr hH rfl hl (by simp) (by simp) rfl (fun _ => ⟨k1, by omega⟩) (fun hcap _ => by simp only [Blk.capOk] at hcap ⊢; omega) (fun _ => by simp [Blk.room, c1])
      (fun _ hcap => by
        simp only [Blk.room, Blk.capOk, if_true] at hcap ⊢
        rw [hfl, ← hst, ← Nat.add_mul]
        exact Nat.mul_le_mul_right _ (by omega)) (flat_one (by omega)) (fun _ i v hat => ?_)
    obtain ⟨p1, p2⟩ := dyn_at (by omega) hat
    rw [k2, c1] at p1
    have hmod : i % cols.length < cols.length := Nat.mod_lt _ d2
    have hda := Nat.div_add_mod i cols.length
    have hc4 := c4 (i % cols.length) (i / cols.length) hmod
    rw [hfl, hst, ← Nat.add_mul]
    have hiff : (o * cols.length ≤ i ∧ i < (o + min n' n) * cols.length) ↔ (o ≤ i / cols.length ∧ i / cols.length < o + colsLen new) := by
      rw [hcl, Nat.le_div_iff_mul_le d2, Nat.div_lt_iff_lt_mul d2]
    by_cases hi : o * cols.length ≤ i ∧ i < (o + min n' n) * cols.length
    · rw [if_pos hi]
      rw [if_pos (hiff.mp hi)] at hc4
      have hlt : i - o * cols.length < colsLen new * new.length := by
        rw [hnewl, hcl]
        have := hi.2
        rw [Nat.add_mul] at this
        omega
      refine ⟨_, flat_at hlt, (p2 ι _).mpr ?_⟩
      simp only [flatAt, hnewl, c1]
      rw [hc4]
      have e1 : (i - o * cols.length) % cols.length = i % cols.length := by
        rw [Nat.mul_comm, Nat.sub_mul_mod (by rw [Nat.mul_comm]; exact hi.1)]
      have e2 : (i - o * cols.length) / cols.length = i / cols.length - o := by
        rw [Nat.mul_comm, Nat.sub_mul_div]
      rw [e1, e2]
    · rw [if_neg hi]
      rw [if_neg (fun e => hi (hiff.mpr e))] at hc4
      -- the very same cell
      simp only [Blk.at] at hat ⊢
      rw [k2, c1, if_pos p1] at hat
      rw [if_pos p1]
      have hsame : colGet1 cs (i % cols.length) (i / cols.length) = colGet1 cols (i % cols.length) (i / cols.length) := by
        obtain ⟨u1, g1, g2⟩ := colGet1_val (cs := cs) (j := i % cols.length) (i := i / cols.length) (by rw [c1]; exact hmod)
        obtain ⟨u2, g3, g4⟩ := colGet1_val (cs := cols) (j := i % cols.length) (i := i / cols.length) hmod
        have val_inj : ∀ {cs : List Col} {j i : Nat} {u : AV}, colGet1 cs j i = some u → ∃ c : Col, u = c.get i := by
          intro cs
          induction cs with
          | nil => intro j i u h; cases h
          | cons c cs ih =>
            intro j i u h
            unfold colGet1 at h
            by_cases hj : j = 0
            · rw [if_pos hj] at h; cases h; exact ⟨c, rfl⟩
            · rw [if_neg hj] at h; exact ih h
        obtain ⟨x1, rfl⟩ := val_inj g1
        obtain ⟨x2, rfl⟩ := val_inj g3
        have e1 := (Col.val_get (ι := ι) x1 (i / cols.length) _).symm.trans (g2 ι (x1.val (i / cols.length)))
        have e2 := (Col.val_get (ι := ι) x2 (i / cols.length) _).symm.trans (g4 ι (x2.val (i / cols.length)))
        have e3 : x1.val (i / cols.length) = x2.val (i / cols.length) := by
          rw [e1.mp rfl, e2.mp rfl, hc4]
        rw [g1, g3]
        cases x1 <;> cases x2 <;> simp only [Col.val] at e3 <;> simp only [Col.get] <;> first
          | (cases e3; done)
          | (injection e3 with e4 e5; rw [e4, e5])
          | (injection e3 with e4; rw [e4])
      rw [← hsame]
      exact hat
  rw [List.append_nil] at hkey
  have hfin : ∀ {h' w'} (hw : Wr ι h w H.length (H.set a (.dyn true tt cs)) (.tuple []) ι h' undef w'), Wr ι h w H.length (H.set a (.dyn true tt cs)) (.int .i64 (min n' n : Nat)) ι h' (.int .i64 (Nat.min n' n : Nat)) w' :=
    fun hw => ⟨rfl, hw.sub, hw.old, hw.out, hw.cov, hw.hr, hw.stp⟩
  cases nl with
  | true =>
    obtain ⟨rfl, rfl⟩ := hvs.1 rfl
    have hnil : flat new = [] := List.eq_nil_of_length_eq_zero (by rw [hfl]; simp)
    have hrun := run_copy (P := P) (w := w) (w' := w) (base := none) (dLen := 0) (dCap := 0) (ty := ty) hat0 htu hsz hlenx hfirst rfl
    cases hl : ι a with
    | some l =>
      obtain ⟨h', w', s1, s2⟩ := hkey hl hc hr
      rw [hnil] at s1
      have : w' = w := by simp [storeCells] at s1; exact s1.symm
      subst this
      exact ⟨h', _, _, hrun, hfin s2⟩
    | none =>
      obtain ⟨t', cols', e1, e2, e3, e4⟩ := hr.nil a (by rw [hc.get hH]; rfl) hl
      rw [hc.get hH] at e1
      cases e1
      refine ⟨upd h a (.dyn true tt cs), _, _, hrun, ⟨rfl, Sub.refl ι, fun _ _ => rfl, fun x hx => ⟨rfl, by simp at hx; exact upd_ne (by omega)⟩, hc.set a _, hr.phan ⟨tt, cs, rfl, k1, by omega, by omega⟩ hl, Nat.le_refl _, fun _ _ _ => rfl, fun b hb ⟨x, lx, q1, q2, q3⟩ => ?_, fun b hb ⟨x, lx, q1, q2, q3⟩ => ?_, Outer.refl w⟩⟩
      · by_cases e : x = a
        · subst e; rw [hl] at q2; cases q2
        · rw [upd_ne e] at q1; exact ⟨x, lx, q1, q2, q3⟩
      · by_cases e : x = a
        · subst e; rw [hl] at q2; cases q2
        · rw [upd_ne e] at q1; exact ⟨x, lx, q1, q2, q3⟩
  | false =>
    obtain ⟨l, ad, cap, hl, rfl, g1, g2, g3⟩ := hvs.2 rfl
    obtain ⟨h', w', s1, s2⟩ := hkey hl hc hr
    have hst1 : (storeCells ad (flat new)).run P w = .ok () w' := by
      by_cases hn0 : 0 < n
      · rw [g2 hn0, Nat.zero_add]; exact s1
      · have hnil : flat new = [] := List.eq_nil_of_length_eq_zero (by rw [hfl, show n = 0 by omega]; simp)
        rw [hnil] at s1 ⊢
        exact s1
    have hrun := run_copy (P := P) (w := w) (w' := w') (base := some ad) (dLen := n) (dCap := cap) (ty := ty) hat0 htu hsz hlenx hfirst hst1
    exact ⟨h', _, _, hrun, hfin s2⟩
end
end Go.Abs
