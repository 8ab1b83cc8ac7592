/-
'append' and 'copy', on.
-/
import Derived.Test.YtnkjpkfijafkgaaA14
set_option linter.unusedVariables false
set_option linter.unusedSimpArgs false
namespace Go.Abs
section
variable {β : Type} {P : Program} {T : TT} {ι : Emb} {w : World} {h : HF} {r : β}

theorem flat_app {cs ds es : List Col} (hs : colsApp cs ds = some es) (h0 : 0 < cs.length) (hc : colsOk cs) (hd : colsOk ds) : flat es = flat cs ++ flat ds ∧ colsOk es ∧ colsLen es = colsLen cs + colsLen ds ∧ es.length = cs.length ∧ ds.length = cs.length := by
  obtain ⟨a1, a2, a3, a4⟩ := colsApp_some hs hc hd
  obtain ⟨o1, o2⟩ := colsOk_of a3 (by omega)
  refine ⟨?_, o1, o2, a1, a2⟩
  apply List.ext_getElem?
  intro p
  have hmul : (colsLen cs + colsLen ds) * cs.length = colsLen cs * cs.length + colsLen ds * cs.length := Nat.add_mul _ _ _
  by_cases hp : p < colsLen es * es.length
  · rw [flat_at hp]
    rw [o2, a1, hmul] at hp
    have hst : p % cs.length < cs.length := Nat.mod_lt _ h0
    have hda := Nat.div_add_mod p cs.length
    by_cases hq : p < colsLen cs * cs.length
    · rw [List.getElem?_append_left (by rw [flat_len]; exact hq), flat_at hq]
      have : p / cs.length < colsLen cs := Nat.div_lt_of_lt_mul (by rw [Nat.mul_comm]; exact hq)
      simp only [flatAt, a1]
      rw [a4 _ _ hst, if_pos this]
    · rw [List.getElem?_append_right (by rw [flat_len]; omega), flat_len, flat_at (by rw [a2]; omega)]
      have hge : ¬ p / cs.length < colsLen cs := by
        have := (Nat.le_div_iff_mul_le h0).2 (Nat.le_of_not_lt hq)
        omega
      simp only [flatAt, a1, a2]
      rw [a4 _ _ hst, if_neg hge]
      have e1 : (p - colsLen cs * cs.length) % cs.length = p % cs.length := by
        rw [Nat.mul_comm, Nat.sub_mul_mod (by rw [Nat.mul_comm]; omega)]
      have e2 : (p - colsLen cs * cs.length) / cs.length = p / cs.length - colsLen cs := by
        rw [Nat.mul_comm, Nat.sub_mul_div]
      rw [e1, e2]
  · rw [List.getElem?_eq_none (by rw [flat_len]; omega), List.getElem?_eq_none (by rw [List.length_append, flat_len, flat_len, a2]; rw [o2, a1, hmul] at hp; omega)]
theorem BR.newFlat {ι' : Emb} {w' : World} {b : Nat} {c : Array Value} {t t' : TypeId} {cols : List Col} {cap : Nat} (hb : w'.heap[b]? = some (.cells c t (0, 0))) (hok : colsOk cols) (h0 : 0 < cols.length)
    (hcap : colsLen cols ≤ cap) (hsz : cap * cols.length ≤ c.size) (hc : ∀ (p : Nat) v, (flat cols)[p]? = some v → c[p]? = some v) : BR ι' w' ⟨b, 0, cap⟩ (.dyn true t' cols) :=
  BR.newDyn hb hok h0 hcap hsz (.inr rfl) fun i j v hi hv hj => by
    obtain ⟨u, h1, h2⟩ := colGet1_val (cs := cols) (j := j) (i := i) hj
    rw [hv] at h1
    cases h1
    obtain ⟨r1, r2⟩ := rowPos (i := i) hj
    have e : flatAt cols (i * cols.length + j) = colVal cols j i := by simp only [flatAt, r1, r2]
    refine ⟨_, hc _ _ (flat_at (rowLt hj hi)), ?_, ?_⟩
    · rw [e]; exact (h2 ι' _).mpr rfl
    · rw [e]; exact colVal_one hj

theorem isEmpty_cols {l : List Col} (hok : colsOk l) (h0 : 0 < l.length) : isEmptyCols l = decide (colsLen l = 0) := by
  cases l with
  | nil => simp at h0
  | cons c r => cases c with
    | ints k z => cases z <;> simp [isEmptyCols, colsLen, Col.len]
    | bools z => cases z <;> simp [isEmptyCols, colsLen, Col.len]

/-- the new row of an 'append' that finds no room -/
theorem append_new {H H1 : Heap} {h1 : HF} {t e : TypeId} {cs : List Col} {st : Nat} {c : Array Value} {cap : Nat} (hc1 : Cov H1 h1) (hr1 : HR ι h1 w) (hn : ι H1.length = none)
    (hsub : ∀ (f : Blk → Bool) x, f .dead = false → f (h1 x) = true → f (h x) = true) (hout : ∀ x, H1.length ≤ x → h1 x = h x) (hok : colsOk cs) (h0 : 0 < cs.length) (hst : cs.length = st)
    (hcap : colsLen cs ≤ cap) (hsz : cap * cs.length ≤ c.size) (hcells : ∀ (p : Nat) v, (flat cs)[p]? = some v → c[p]? = some v) :
    ∃ ι' h', Wr ι h w H1.length (H1 ++ [.dyn true t cs]) (.slice H1.length 0 0 (colsLen cs) st false true) ι' h' (.slice (some ⟨w.heap.size, 0, none⟩) (colsLen cs) cap) (w.drew.alloc (.cells c e)) := by
  have hk : Keep w (w.drew.alloc (.cells c e)) := ⟨by simp, fun b hb => heap_alloc_old w.drew _ hb, ⟨rfl, rfl, rfl⟩⟩
  have hput : ∀ a l, (ι.put H1.length ⟨w.heap.size, 0, cap⟩) a = some l → a ≠ H1.length → ι a = some l := fun a l h1 h2 => by rwa [Emb.put_ne h2] at h1
  refine ⟨ι.put H1.length ⟨w.heap.size, 0, cap⟩, upd h1 H1.length (.dyn true t cs), ⟨slice_new hcap, Emb.sub_put hn, fun x hx => Emb.put_ne (by omega), fun x hx => ?_, hc1.add [_], hr1.push hk hn (Nat.le_refl _) (by simp) (BR.newFlat (heap_alloc_last' w.drew _) hok h0 hcap hsz hcells), ?_⟩⟩
  · simp at hx
    exact ⟨Emb.put_ne (by omega), by rw [upd_ne (by omega)]; exact hout x (by omega)⟩
  · refine ⟨hk.size, fun b hb _ => hk.same b hb, fun b hb ⟨a, l, g1, g2, g3⟩ => ?_, fun b hb ⟨a, l, g1, g2, g3⟩ => ?_, hk.outer⟩
    · by_cases e : a = H1.length
      · subst e; rw [Emb.put_same] at g2; cases g2; simp only at g3; omega
      · rw [upd_ne e] at g1
        exact ⟨a, l, hsub Blk.rw a rfl g1, hput a l g2 e, g3⟩
    · by_cases e : a = H1.length
      · subst e; rw [Emb.put_same] at g2; cases g2; simp only at g3; omega
      · rw [upd_ne e] at g1
        exact ⟨a, l, hsub Blk.live a rfl g1, hput a l g2 e, g3⟩
/-- an empty one that stays nil -/
theorem append_nil {H H1 : Heap} {h1 : HF} {t : TypeId} {cs : List Col} {st : Nat} (hc1 : Cov H1 h1) (hr1 : HR ι h1 w) (hn : ι H1.length = none)
    (hsub : ∀ (f : Blk → Bool) x, f .dead = false → f (h1 x) = true → f (h x) = true) (hout : ∀ x, H1.length ≤ x → h1 x = h x) (hok : colsOk cs) (h0 : 0 < cs.length) (hl : colsLen cs = 0) :
    ∃ h', Wr ι h w H1.length (H1 ++ [.dyn true t cs]) (.slice H1.length 0 0 (colsLen cs) st true true) ι h' (.slice none 0 0) w := by
  refine ⟨upd h1 H1.length (.dyn true t cs), ⟨by rw [hl]; exact VR.nilslice, Sub.refl ι, fun _ _ => rfl, fun x hx => ?_, hc1.add [_], hr1.phan ⟨t, cs, rfl, hok, h0, hl⟩ hn, ?_⟩⟩
  · simp at hx
    exact ⟨rfl, by rw [upd_ne (by omega)]; exact hout x (by omega)⟩
  · refine ⟨Nat.le_refl _, fun b hb _ => rfl, fun b hb ⟨a, l, g1, g2, g3⟩ => ?_, fun b hb ⟨a, l, g1, g2, g3⟩ => ?_, Outer.refl w⟩
    · by_cases e : a = H1.length
      · subst e; rw [hn] at g2; cases g2
      · rw [upd_ne e] at g1
        exact ⟨a, l, hsub Blk.rw a rfl g1, g2, g3⟩
    · by_cases e : a = H1.length
      · subst e; rw [hn] at g2; cases g2
      · rw [upd_ne e] at g1
        exact ⟨a, l, hsub Blk.live a rfl g1, g2, g3⟩

theorem appendV_ok (hT : TyOK P T) {c : Call} {H : Heap} {s x : AV} {q : AV → Heap → Option β} (he : appendV T c H s x q = some r) :
    ∃ v H', q v H' = some r ∧ H.length ≤ H'.length ∧ ∀ {ι : Emb} {h : HF} {w : World} {vs vx : Value} (ty : TypeId), VR ι s vs → VR ι x vx → Cov H h → HR ι h w → (∀ a, H.length ≤ a → a < H'.length → ι a = none) →
      ∃ ι' h' y w', (Builtin.append_ c.argTypes ty #[vs, vx]).run P w = .ok y w' ∧ Wr ι h w H.length H' v ι' h' y w' := by
  unfold appendV at he
  split at he <;> try (cases he; done)
  rename_i e ht0
  split at he <;> try (cases he; done)
  rename_i ks hks
  obtain ⟨hb, he0⟩ := bif_some he
  simp only [Bool.and_eq_true, decide_eq_true_eq] at hb
  obtain ⟨h0, ie, hie, hcols⟩ := colsT_some hks
  obtain ⟨new, he1, hsrc⟩ := srcOf_some (P := P) he0 h0
  clear he he0
  obtain ⟨t, hat0, hsk0⟩ := typ_some ht0 (by simp)
  obtain ⟨u, hat1, hsk1⟩ := typ_some (T := T) (c := c) (i := 1) rfl (by intro e; rw [e] at hb; cases hb.1)
  rw [← hsk1] at hb
  obtain ⟨d, hu, hd⟩ := rowK_some hT hb.1
  have htu := skT_slice hT hsk0
  obtain ⟨inf, dd, i1, i2, i3, i4, i5, i6, i7, i8⟩ := hT.dig hie
  obtain ⟨k1, ⟨z, kz1, kz2⟩, k3⟩ := i8 _ hcols
  have hzl := kz_len kz2
  rw [Array.length_toList] at hzl
  have hisz : inf.size = ks.length := by rw [i5, k1]
  have hbt : inf.bytes ≤ 64 := by have : bytesT T e = inf.bytes := by simp [bytesT, hie, i6]
                                  omega
  -- the row that finds no room
  have grow : ∀ {ι : Emb} {h h1 : HF} {w : World} {H1 : Heap} {vx : Value} {base : Option Addr} {sLen sCap : Nat} {olds : List Value} {cs : List Col} {tt ty : TypeId}, H1.length = H.length → Cov H1 h1 → HR ι h1 w → ι H.length = none →
      (∀ (f : Blk → Bool) x, f .dead = false → f (h1 x) = true → f (h x) = true) → (∀ x, H.length ≤ x → h1 x = h x) → Src P w vx ks.length (colsLen new) (flat new) → ¬ sLen + colsLen new ≤ sCap →
      (∀ w' : World, (∀ a, w'.cell? a = w.cell? a) → (Builtin.firstCells ks.length sLen (.slice base sLen sCap)).run P w' = .ok olds.toArray w') → olds.length = sLen * ks.length → sLen + colsLen new ≤ 1099511627776 →
      colsOk cs → cs.length = ks.length → colsLen cs = sLen + colsLen new → flat cs = olds ++ flat new →
      ∃ ι' h' y w', (Builtin.append_ c.argTypes ty #[.slice base sLen sCap, vx]).run P w = .ok y w' ∧ Wr ι h w H.length (H1 ++ [.dyn true tt cs]) (.slice H.length 0 0 (colsLen cs) ks.length false true) ι' h' y w' := by
    intro ι h h1 w H1 vx base sLen sCap olds cs tt ty hH1 hc1 hr1 hn hsub hout hs hroom hold holen hlim hok hlen hcl hfl
    have hrun := run_append_new (P := P) (w := w) (ty := ty) hat0 hat1 htu hu hd i1 kz1 (by rw [hisz]; exact hs) hroom (by rw [hisz]; exact hold) hlim hbt
    have hge := grownCap_ge w (sLen + colsLen new) sCap e
    have hzs : ∀ k, (Builtin.zeroCells z.cells k).size = k * ks.length := fun k => by simp [Builtin.zeroCells, hzl]
    obtain ⟨ι', h', hw⟩ := append_new (H := H) (e := e) (t := tt) (cs := cs) (st := ks.length) (c := olds.toArray ++ (flat new).toArray ++ Builtin.zeroCells z.cells (grownCap w (sLen + colsLen new) sCap e - (sLen + colsLen new)))
      (cap := grownCap w (sLen + colsLen new) sCap e) hc1 hr1 (by rw [hH1]; exact hn) hsub (by rw [hH1]; exact hout) hok (by omega) hlen (by omega) (by
        rw [Array.size_append, Array.size_append, hzs, hlen]
        simp only [List.size_toArray]
        rw [holen, hs.size, ← Nat.add_mul, ← Nat.add_mul]
        refine Nat.mul_le_mul_right _ (by omega)) (fun p v hp => by
        rw [Array.getElem?_append_left (by
          have := (List.getElem?_eq_some_iff.1 hp).1
          rw [hfl] at this
          simpa using this)]
        rw [hfl] at hp
        simpa using hp)
    rw [hcl] at hw ⊢
    rw [hH1] at hw
    exact ⟨ι', h', _, _, hrun, hw⟩
  split at he1
  · rename_i a n st nl
    split at he1 <;> try (cases he1; done)
    rename_i tt cols hH
    obtain ⟨hst, he2⟩ := bif_some he1
    simp only [decide_eq_true_eq] at hst
    obtain ⟨rfl, hst2⟩ := hst
    have he3 := lenK_some (lenK_some he2)
    split at he3 <;> try (cases he3; done)
    rename_i hnm
    split at he3 <;> try (cases he3; done)
    rename_i cs hcs
    have he4 := lenK_some he3
    have haL : a < H.length := by
      rcases Nat.lt_or_ge a H.length with g | g
      · exact g
      · rw [List.getElem?_eq_none g] at hH; cases hH
    refine ⟨_, _, he4, by simp, fun {ι h w vs vx} ty hvs hvx hc hr hfresh => ?_⟩
    have hn : ι H.length = none := hfresh _ (Nat.le_refl _) (by simp)
    obtain ⟨d1, d2⟩ := hr.dyn_ok (hc.get hH)
    have hnl : new.length = ks.length := by
      have := (colsApp_some (m := colsLen cols) (m' := colsLen new) hcs d1 (by
        intro c hc
        have hlen : ∀ {cs ds es : List Col}, colsApp cs ds = some es → ds.length = cs.length := by
          intro cs
          induction cs with
          | nil => intro ds es h; cases ds with
            | nil => rfl
            | cons _ _ => cases h
          | cons c cs ih => intro ds es h; cases ds with
            | nil => cases h
            | cons d ds =>
              unfold colsApp at h
              cases h1 : c.app d with
              | none => rw [h1] at h; cases h
              | some _ => cases h2 : colsApp cs ds with
                | none => rw [h1, h2] at h; cases h
                | some _ => simp [ih h2]
        exact (hsrc (by rw [hlen hcs, hst2]) hvx ‹_› hr).1 c hc)).2.1
      omega
    obtain ⟨n1, hs⟩ := hsrc hnl hvx hc hr
    obtain ⟨f1, f2, f3, f4, f5⟩ := flat_app hcs d2 d1 n1
    have hemp := isEmpty_cols n1 (by omega)
    have hc1 := hc.set a .dead
    have hr1 := hr.kill a
    have hsub : ∀ (f : Blk → Bool) x, f .dead = false → f (upd h a .dead x) = true → f (h x) = true := fun f x hf hx => by
      by_cases e : x = a
      · subst e; rw [upd_same, hf] at hx; cases hx
      · rwa [upd_ne e] at hx
    have hout : ∀ x, H.length ≤ x → upd h a .dead x = h x := fun x hx => upd_ne (by omega)
    have hlenH : (H.set a .dead).length = H.length := by simp
    cases nl with
    | true =>
      obtain ⟨rfl, rfl⟩ := hvs.1 rfl
      by_cases hm0 : colsLen new = 0
      · have hs0 := hs
        rw [hm0] at hs0
        have hrun := run_append_none (P := P) (w := w) (ty := ty) hat0 hat1 htu hu hd i1 (by rw [hisz]; exact hs0)
        obtain ⟨h', hw⟩ := append_nil (H := H) (t := tt) (st := ks.length) hc1 hr1 (by rw [hlenH]; exact hn) hsub (by rw [hlenH]; exact hout) f2 (by omega) (by omega)
        rw [hlenH] at hw
        refine ⟨ι, h', _, w, hrun, ?_⟩
        rw [hemp]
        simp only [hm0, decide_true, Bool.true_and]
        exact hw
      · have := grow (vx := vx) (base := none) (sLen := 0) (sCap := 0) (olds := []) (cs := cs) (tt := tt) (ty := ty) hlenH hc1 hr1 hn hsub hout hs (by omega) (fun w' _ => by simp [Builtin.firstCells]) (by simp) (by omega) f2 (by omega) (by omega) (by
          rw [f1]
          congr 1
          have : colsLen cols = 0 := by omega
          simp [flat, this])
        rw [hemp]
        simp only [hm0, decide_false, Bool.false_and]
        exact this
    | false =>
      obtain ⟨l, ad, cap, hl, rfl, g1, g2, g3⟩ := hvs.2 rfl
      obtain ⟨rfl, rfl⟩ := g3 rfl
      simp only [Bool.and_false]
      have hb0 := (hr.blk a l (by rw [hc.get hH]; rfl) hl).1
      rw [hc.get hH] at hb0
      by_cases hroom : n + colsLen new ≤ l.cap
      · have hw := hb0.write' (P := P) (k' := .dyn true tt cs) (o := n * ks.length) (vs := flat new) rfl ⟨f2, by omega⟩ (by simp only [Blk.capOk]; omega) (by simp [Blk.room, f4]) (by
          simp only [Blk.room, if_true]
          rw [flat_len, hnl, hst2, ← Nat.add_mul]
          exact Nat.mul_le_mul_right _ hroom) (flat_one (by omega)) (fun i v hv => by
          obtain ⟨p1, p2⟩ := dyn_at (by omega) hv
          rw [flat_len, hnl]
          have hfa : (flat cs)[i]? = some (flatAt cs i) := flat_at p1
          rw [f1] at hfa
          by_cases hi : n * ks.length ≤ i ∧ i < n * ks.length + colsLen new * ks.length
          · rw [if_pos hi]
            rw [List.getElem?_append_right (by rw [flat_len, hst2, ← hnm.1]; exact hi.1), flat_len, hst2, ← hnm.1] at hfa
            exact ⟨_, hfa, (p2 ι _).mpr rfl⟩
          · rw [if_neg hi]
            rw [f3, f4, hst2, Nat.add_mul, ← hnm.1] at p1
            have hlt : i < colsLen cols * cols.length := by rw [hst2, ← hnm.1]; omega
            rw [List.getElem?_append_left (by rw [flat_len]; exact hlt), flat_at hlt] at hfa
            obtain ⟨v', e1, e2⟩ := colGet1_val (cs := cols) (j := i % cols.length) (i := i / cols.length) (Nat.mod_lt _ d2)
            refine ⟨v', by simp only [Blk.at]; rw [if_pos hlt, e1], fun x hx => (p2 ι x).mpr ?_⟩
            rw [(e2 ι x).mp hx]
            exact Option.some.inj hfa)
        obtain ⟨w1, w2⟩ := hw
        have hrun := run_append_in (P := P) (w := w) (ty := ty) hat0 hat1 htu hu hd i1 (by rw [hisz]; exact hs) hroom (by rw [hisz, Loc.at_add, Nat.zero_add]; exact w2)
        obtain ⟨s1, s2⟩ := heap_setCells (b := l.b) (flat new) (l.o + n * ks.length) w
        have hrw : (h a).rw = true := by rw [hc.get hH]; rfl
        have hr2 := hr.write hrw hl s1 s2 w1
        have hr3 := hr2.move (n := H.length) hl (by rw [upd_same]; rfl) hn (by omega)
        rw [upd_same] at hr3
        have hfe : upd (upd (upd h a (.dyn true tt cs)) a .dead) H.length (.dyn true tt cs) = upd (upd h a .dead) H.length (.dyn true tt cs) := by
          funext x
          unfold upd
          by_cases e1 : x = H.length
          · simp [e1]
          · by_cases e2 : x = a <;> simp [e1, e2]
        rw [hfe] at hr3
        have hcl : colsLen cs = n + colsLen new := by omega
        refine ⟨_, _, _, _, hrun, ⟨?_, Emb.sub_put hn, fun x hx => Emb.put_ne (by omega), fun x hx => ?_, ?_, hr3, ?_⟩⟩
        · rw [hcl]
          exact VR.slice (Emb.put_same _ _ _) hroom (fun _ => by simp [Loc.at]) (fun _ => ⟨rfl, rfl⟩)
        · simp at hx
          exact ⟨Emb.put_ne (by omega), by rw [upd_ne (by omega), upd_ne (by omega)]⟩
        · have := hc1.add [Blk.dyn true tt cs]
          rwa [hlenH] at this
        · refine ⟨by omega, fun b hb hno => s2 b fun e => hno ⟨a, l, hrw, hl, e.symm⟩, fun b hb ⟨x, lx, q1, q2, q3⟩ => ?_, fun b hb ⟨x, lx, q1, q2, q3⟩ => ?_, outer_setCells _ _ _⟩
          · by_cases e1 : x = H.length
            · subst e1
              rw [Emb.put_same] at q2
              cases q2
              exact ⟨a, l, hrw, hl, q3⟩
            · rw [upd_ne e1] at q1
              rw [Emb.put_ne e1] at q2
              exact ⟨x, lx, hsub Blk.rw x rfl q1, q2, q3⟩
          · by_cases e1 : x = H.length
            · subst e1
              rw [Emb.put_same] at q2
              cases q2
              exact ⟨a, l, Blk.live_of_rw hrw, hl, q3⟩
            · rw [upd_ne e1] at q1
              rw [Emb.put_ne e1] at q2
              exact ⟨x, lx, hsub Blk.live x rfl q1, q2, q3⟩
      · refine grow (vx := vx) (base := some (l.at 0)) (sLen := n) (sCap := l.cap) (olds := flat cols) (cs := cs) (tt := tt) (ty := ty) hlenH hc1 hr1 hn hsub hout hs hroom (fun w' hw' => ?_) (by rw [flat_len, hst2, hnm.1]) (by omega) f2 (by omega) (by omega) f1
        refine run_firstCells_some (P := P) w' ks.length n (l.at 0) _ _ (flat cols) (by rw [flat_len, hst2, hnm.1]) fun j v hj => ?_
        have hp : j < colsLen cols * cols.length := by
          have := (List.getElem?_eq_some_iff.1 hj).1
          rwa [flat_len] at this
        rw [flat_at hp] at hj
        cases hj
        rw [hw', Loc.at_add, Nat.zero_add]
        exact hb0.dynAt hp
  · have he2 := lenK_some he1
    split at he2 <;> try (cases he2; done)
    rename_i hlim
    split at he2 <;> try (cases he2; done)
    rename_i cs hcs
    have he4 := lenK_some he2
    refine ⟨_, _, he4, by simp, fun {ι h w vs vx} ty hvs hvx hc hr hfresh => ?_⟩
    have hn : ι H.length = none := hfresh _ (Nat.le_refl _) (by simp)
    obtain ⟨d1, hd0⟩ := nils_ok ks
    have hnl : new.length = ks.length := by
      have hlen : ∀ {cs ds es : List Col}, colsApp cs ds = some es → ds.length = cs.length := by
        intro cs
        induction cs with
        | nil => intro ds es h; cases ds with
          | nil => rfl
          | cons _ _ => cases h
        | cons c cs ih => intro ds es h; cases ds with
          | nil => cases h
          | cons d ds =>
            unfold colsApp at h
            cases h1 : c.app d with
            | none => rw [h1] at h; cases h
            | some _ => cases h2 : colsApp cs ds with
              | none => rw [h1, h2] at h; cases h
              | some _ => simp [ih h2]
      have := hlen hcs
      simpa using this
    obtain ⟨n1, hs⟩ := hsrc hnl hvx hc hr
    obtain ⟨f1, f2, f3, f4, f5⟩ := flat_app hcs (by simpa using h0) d1 n1
    have hemp := isEmpty_cols n1 (by omega)
    rw [List.length_map] at f4
    cases hvs
    by_cases hm0 : colsLen new = 0
    · have hs0 := hs
      rw [hm0] at hs0
      have hrun := run_append_none (P := P) (w := w) (ty := ty) hat0 hat1 htu hu hd i1 (by rw [hisz]; exact hs0)
      obtain ⟨h', hw⟩ := append_nil (H := H) (t := e) (st := ks.length) hc hr hn (fun _ _ _ hx => hx) (fun _ _ => rfl) f2 (by omega) (by omega)
      refine ⟨ι, h', _, w, hrun, ?_⟩
      rw [hemp]
      simp only [hm0, decide_true]
      exact hw
    · have := grow (vx := vx) (base := none) (sLen := 0) (sCap := 0) (olds := []) (cs := cs) (tt := e) (ty := ty) rfl hc hr hn (fun _ _ _ hx => hx) (fun _ _ => rfl) hs (by omega) (fun w' _ => by simp [Builtin.firstCells]) (by simp) (by omega) f2 (by omega) (by omega) (by
        rw [f1]
        congr 1
        simp [flat, hd0])
      rw [hemp]
      simp only [hm0, decide_false]
      exact this
  · cases he1
end
end Go.Abs
