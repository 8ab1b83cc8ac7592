/-
'evAlloc' against 'execOp'.
-/
import Derived.Test.YtnkjpkfijafkgaaA9
import Derived.Laws.RangeString
set_option linter.unusedVariables false
set_option linter.unusedSimpArgs false
namespace Go.Abs
section alloc
variable {β : Type} {P : Program} {T : TT} {ι : Emb} {w : World} {h : HF} {r : β}

theorem sliceT_ok (hT : TyOK P T) {t e : TypeId} (hs : sliceT T t = some e) : P.underlying t = some (.slice e) := by
  unfold sliceT at hs
  split at hs
  · rename_i hi; cases hs; exact hT.slice hi rfl
  · cases hs
theorem kz_len : ∀ {ks : List ColK} {l : List Value}, kzOk ks l = true → l.length = ks.length
  | [], [], _ => rfl
  | [], _ :: _, h => by simp [kzOk] at h
  | _ :: _, [], h => by simp [kzOk] at h
  | k :: r, c :: l, h => by simp only [kzOk, Bool.and_eq_true] at h; simp [kz_len h.2]
theorem kz_get {m : Nat} : ∀ {ks : List ColK} {l : List Value} {j i : Nat} {v : AV}, kzOk ks l = true → colGet1 (ks.map (ColK.zeros m)) j i = some v → ∃ x, l[j]? = some x ∧ (∀ ι, VR ι v x) ∧ x.oneCell' = true
  | [], _, j, i, v, _, hv => by simp [colGet1] at hv
  | _ :: _, [], _, _, _, h, _ => by simp [kzOk] at h
  | k :: r, c :: l, j, i, v, h, hv => by
    simp only [kzOk, Bool.and_eq_true] at h
    simp only [List.map_cons, colGet1] at hv
    by_cases hj : j = 0
    · rw [if_pos hj] at hv
      subst hj
      cases hv
      refine ⟨c, rfl, ?_⟩
      cases k with
      | int k =>
        have := h.1
        cases c <;> simp [kOk] at this
        obtain ⟨rfl, rfl⟩ := this
        refine ⟨fun ι => ?_, rfl⟩
        show Value.int _ 0 = Value.int _ _
        congr 1
        by_cases him : i < m <;> simp [List.getD, him]
      | bool =>
        have := h.1
        cases c <;> simp [kOk] at this
        subst this
        refine ⟨fun ι => ?_, rfl⟩
        show Value.bool false = Value.bool _
        congr 1
        by_cases him : i < m <;> simp [List.getD, him]
    · rw [if_neg hj] at hv
      obtain ⟨x, hx, hr⟩ := kz_get h.2 hv
      obtain ⟨j, rfl⟩ : ∃ q, j = q + 1 := ⟨j - 1, by omega⟩
      exact ⟨x, by simpa using hx, hr⟩
theorem zeros_ok (ks : List ColK) (m : Nat) (h0 : 0 < ks.length) : colsOk (ks.map (ColK.zeros m)) ∧ colsLen (ks.map (ColK.zeros m)) = m :=
  colsOk_of (fun c hc => by obtain ⟨k, _, rfl⟩ := List.mem_map.mp hc; cases k <;> simp [ColK.zeros, Col.len]) (by simpa using h0)

theorem makeS_ok (hT : TyOK P T) {n : Nat} {t : TypeId} {len cap : AV} {vl vc : Value} {q : AV → List Blk → Option β} (hm : makeS T n t len cap q = some r) (hl : VR ι len vl) (hc : VR ι cap vc) (hr : HR ι h w) (hn : ι n = none) :
    ∃ v bs, q v bs = some r ∧ bs.length = 1 ∧ ∃ ι' x w', Al P ι h w n v bs (Instr.makeSlice t vl vc) ι' x w' := by
  unfold makeS at hm
  split at hm
  · rename_i e kl l kc c hs
    cases hl; cases hc
    split at hm
    · rename_i ks hk
      obtain ⟨hb, hm⟩ := bif_some hm
      simp only [decide_eq_true_eq] at hb
      split at hm
      · rename_i hlc
        obtain ⟨h0, ie, hie, hcols⟩ := colsT_some hk
        obtain ⟨inf, dd, i1, i2, i3, i4, i5, i6, i7, i8⟩ := hT.dig hie
        obtain ⟨k1, ⟨z, kz1, kz2⟩, k3⟩ := i8 _ hcols
        have hbt : bytesT T e = inf.bytes := by simp [bytesT, hie, i6]
        have hzl := kz_len kz2
        rw [Array.length_toList] at hzl
        have hb2 : (inf.bytes : Int) * c ≤ 281474976710656 := by
          have : (inf.bytes : Int) ≤ 64 := by omega
          have h1 : (inf.bytes : Int) * c ≤ 64 * c := Int.mul_le_mul_of_nonneg_right this (by omega)
          omega
        have hrun := run_make (P := P) w t e inf z (sliceT_ok hT hs) i1 kz1 kl kc l c hlc.1 hlc.2.1 hb2 (by omega)
        obtain ⟨z1, z2⟩ := zeros_ok ks l.toNat h0
        refine ⟨_, _, hm, rfl, _, _, _, Al.new (l := ⟨w.heap.size, 0, c.toNat⟩) hr hn (keep_alloc w _) (Nat.le_refl _) (by simp) (BR.newDyn (heap_alloc_last' w _) z1 (by simpa using h0) (by omega) ?_ (.inr rfl) ?_) (slice_new (by omega)) hrun⟩
        · rw [size_madeCells, i5, k1]; simp
        · intro i j v hi hv hj
          rw [z2] at hi
          obtain ⟨x, hx, hxr, hx1⟩ := kz_get kz2 hv
          refine ⟨x, ?_, hxr _, hx1⟩
          simp only [List.length_map] at hj ⊢
          unfold madeCells
          rw [i5, k1]
          have hlt : i * ks.length + j < c.toNat * ks.length := by
            have : (i + 1) * ks.length ≤ c.toNat * ks.length := Nat.mul_le_mul_right _ (by omega)
            rw [Nat.add_mul] at this
            omega
          rw [Array.getElem?_map, Array.getElem?_range, if_pos hlt]
          simp only [Option.map_some, Option.some.injEq]
          rw [hzl, Nat.add_comm, Nat.add_mul_mod_self_right, Nat.mod_eq_of_lt hj]
          have : z.cells[j]? = some x := by simpa using hx
          rw [getElem!_def, this]
      · cases hm
    · cases hm
  · cases hm

theorem strT_ok (hT : TyOK P T) {t : TypeId} (h : strT T t = true) : P.underlying t = some .string := by
  unfold strT at h
  split at h
  · rename_i hi; exact hT.str hi rfl
  · cases h
theorem byteT_ok (hT : TyOK P T) {t : TypeId} (h : byteT T t = true) : P.underlying t = some (.int .u8) ∧ ∀ w, (sizeOf t).run P w = .ok 1 w := by
  unfold byteT at h
  split at h
  · rename_i hi
    refine ⟨hT.int hi rfl, fun w => ?_⟩
    rw [hT.size hi w]
    simp [sizeT, hi]
  · cases h
theorem size_bytesRow (s : ByteArray) (cap : Nat) (h : s.size ≤ cap) : (bytesRow s cap).size = cap := by
  have : s.data.size = s.size := rfl
  simp [bytesRow, this]; omega
theorem bytes_ok (hT : TyOK P T) {n : Nat} {src dst e : TypeId} {s : ByteArray} (hsrc : strT T src = true) (hs : sliceT T dst = some e) (hk : byteT T e = true) (hr : HR ι h w) (hn : ι n = none) :
    ∃ ι' x w', Al P ι h w n (.slice n 0 0 s.size 1 false true) [.dyn true e [.ints .u8 (strInts s)]] (convert src dst (.string s)) ι' x w' := by
  have hrun := run_bytes_of_string (P := P) w src dst e s (strT_ok hT hsrc) (sliceT_ok hT hs) (byteT_ok hT hk).1
  have hge := grownCap_ge w s.size 0 e
  have hsz := size_bytesRow s _ hge
  have hlen : (strInts s).length = s.size := by simp [strInts]
  refine ⟨_, _, _, Al.new (l := ⟨w.heap.size, 0, grownCap w s.size 0 e⟩) hr hn ⟨by simp, fun b hb => heap_alloc_old w.drew _ hb, ⟨rfl, rfl, rfl⟩⟩ (Nat.le_refl _) (by simp)
    (BR.newDyn (heap_alloc_last' w.drew _) (fun c hc => by simp at hc; subst hc; rfl) (by simp) (by simp [colsLen, Col.len, hlen]; exact hge) (by simp [hsz]) (.inl (Nat.le_refl _)) ?_) (slice_new hge) hrun⟩
  intro i j v hi hv hj
  simp only [List.length_cons, List.length_nil] at hj
  have hj0 : j = 0 := by omega
  subst hj0
  simp only [colGet1, if_true, Option.some.injEq] at hv
  subst hv
  simp only [colsLen, Col.len] at hi
  have hi' : i < s.data.size := by rw [hlen] at hi; exact hi
  refine ⟨.int .u8 (s.data[i].toNat : Int), ?_, ?_, rfl⟩
  · simp only [List.length_cons, List.length_nil, Nat.mul_one, Nat.add_zero, Nat.zero_add]
    exact bytesRow_at s _ i hi'
  · show Value.int _ _ = Value.int _ _
    congr 1
    have e1 : s.data[i]? = some s.data[i] := by simp [hi']
    simp [strInts, List.getD, e1]

theorem box_ok {n : Nat} {e : TypeId} {ss : List Seg} {bs : List Blk} {x : Value} {s : Sem Value} (hp : ∀ b ∈ bs, Phan b) (hs : SR ι ss x.cells.toList) (hr : HR ι h w) (hn : ∀ i, i < bs.length + 1 → ι (n + i) = none)
    (hrun : s.run P w = .ok (.pointer (some ⟨w.heap.size, 0, none⟩)) (w.alloc (.cells x.cells e))) : ∃ ι' x w', Al P ι h w n (.ptr (n + bs.length) 0 0 1) (bs ++ [.segs true e ss]) s ι' x w' :=
  ⟨_, _, _, Al.phansNew (l := ⟨w.heap.size, 0, 0⟩) hr hp hn (keep_alloc w _) (Nat.le_refl _) (by simp) (BR.newSegs (heap_alloc_last' w _) (hs.mono (Emb.sub_put (hn _ (by omega))))) ptr_new hrun⟩

theorem partsV_ok {t : Tm} {a : Act} {xs : List Operand} (hr : TRel ι t a.tmps xs) : ∀ {ps : List (Nat × Operand)}, (∀ p ∈ ps, p.2 ∈ xs) →
    (partsV t ps).map (·.1) = (ps.map fun (i, x) => (i, a.eval x)).map (·.1) ∧ VRL ι ((partsV t ps).map (·.2)) ((ps.map fun (i, x) => (i, a.eval x)).map (·.2))
  | [], _ => ⟨rfl, rfl⟩
  | (i, x) :: r, h => by
    obtain ⟨h1, h2⟩ := partsV_ok hr (ps := r) fun p hp => h p (List.mem_cons_of_mem _ hp)
    exact ⟨by simp [partsV, h1], _, _, rfl, opv_ok hr (h (i, x) (List.mem_cons_self ..)), h2⟩

/-- an operation that lays new blocks: what the continuation takes, and what it comes to once the names are free -/
theorem evAlloc_ok (hT : TyOK P T) {t : Tm} {n : Nat} {o : Oper} {q : AV → List Blk → Option β} (he : evAlloc T t n o.type o.op q = some r) :
    ∃ v bs, q v bs = some r ∧ ∀ {ι : Emb} {h : HF} {w : World} {a : Act}, TRel ι t a.tmps o.op.operands.toList → HR ι h w → (∀ i, i < bs.length → ι (n + i) = none) →
      ∃ s ι' x w', Al P ι h w n v bs s ι' x w' ∧ execOp a.eval o = (do pure (.value (← s))) := by
  obtain ⟨dst, op, ty, pos, af, gd⟩ := o
  simp only at he ⊢
  have onNew_some : ∀ {x : Option (AV × List Blk)}, onNew x q = some r → ∃ v bs, x = some (v, bs) ∧ q v bs = some r := fun {x} hx => by
    cases x with
    | none => cases hx
    | some p => exact ⟨p.1, p.2, rfl, hx⟩
  have hmat : ∀ x, onNew (mat T n ty (opv t x)) q = some r → (∀ (a : Act), execOp a.eval ⟨dst, op, ty, pos, af, gd⟩ = pure (.value (a.eval x))) → x ∈ op.operands.toList →
      ∃ v bs, q v bs = some r ∧ ∀ {ι : Emb} {h : HF} {w : World} {a : Act}, TRel ι t a.tmps op.operands.toList → HR ι h w → (∀ i, i < bs.length → ι (n + i) = none) →
        ∃ s ι' x w', Al P ι h w n v bs s ι' x w' ∧ execOp a.eval ⟨dst, op, ty, pos, af, gd⟩ = (do pure (.value (← s))) := fun x hx hex hm => by
    obtain ⟨v, bs, h1, h2⟩ := onNew_some hx
    refine ⟨v, bs, h2, fun {ι h w a} ht hr hn => ?_⟩
    obtain ⟨p1, p2⟩ := mat_ok h1 (opv_ok (a := a) ht hm)
    exact ⟨pure (a.eval x), ι, _, w, Al.phans hr p1 hn p2 rfl, by rw [hex]; simp⟩
  cases op <;> simp only [evAlloc] at he <;> try (cases he; done)
  case move x => exact hmat x he (fun a => rfl) (by simp [Op.operands])
  case assign x => exact hmat x he (fun a => rfl) (by simp [Op.operands])
  case alloc e =>
    cases hz : zeroSegs T n e with
    | none => rw [hz] at he; cases he
    | some p =>
      obtain ⟨ss, bs⟩ := p
      rw [hz] at he
      obtain ⟨z1, z, z2, z3⟩ := zeroSegs_ok (P := P) hT hz
      refine ⟨_, _, he, fun {ι h w a} ht hr hn => ?_⟩
      obtain ⟨ι', x, w', hal⟩ := box_ok (P := P) (s := Instr.alloc e true (.tuple #[])) (e := e) z1 (z3 ι) hr (by simpa using hn) (by simp [Instr.alloc, z2, newVar, newRow])
      exact ⟨_, ι', x, w', hal, rfl⟩
  case box e x =>
    cases hz : segsAs T n e (opv t x) with
    | none => rw [hz] at he; cases he
    | some p =>
      obtain ⟨ss, bs⟩ := p
      rw [hz] at he
      simp only at he
      by_cases hsz : segSize ss = sizeT T e
      · rw [if_pos hsz] at he
        refine ⟨_, _, he, fun {ι h w a} ht hr hn => ?_⟩
        obtain ⟨z1, z3⟩ := segsAs_ok hz (opv_ok (a := a) ht (x := x) (by simp [Op.operands]))
        obtain ⟨ι', y, w', hal⟩ := box_ok (P := P) (s := Instr.box e (a.eval x)) (e := e) z1 z3 hr (by simpa using hn) (by simp [Instr.box, newVar, newRow])
        exact ⟨_, ι', y, w', hal, rfl⟩
      · rw [if_neg hsz] at he; cases he
  case build e parts =>
    obtain ⟨v, bs, h1, h2⟩ := onNew_some he
    refine ⟨v, bs, h2, fun {ι h w a} ht hr hn => ?_⟩
    obtain ⟨p1, p2⟩ := partsV_ok ht (ps := parts.toList) fun p hp => by simp [Op.operands]; exact ⟨_, by simpa using hp⟩
    obtain ⟨q1, y, q2, q3⟩ := buildS_ok (P := P) (ι := ι) (w := w) hT (xs := parts.map fun (i, x) => (i, a.eval x)) h1 (by simpa using p1) (by simpa using p2)
    exact ⟨_, ι, y, w, Al.phans hr q1 hn q2 q3, rfl⟩
  case buildSlice e len parts =>
    obtain ⟨v, bs, h1, h2⟩ := onNew_some he
    refine ⟨v, bs, h2, fun {ι h w a} ht hr hn => ?_⟩
    obtain ⟨p1, p2⟩ := partsV_ok ht (ps := parts.toList) fun p hp => by simp [Op.operands]; exact ⟨_, by simpa using hp⟩
    have hl : 0 < bs.length := by
      unfold buildSliceS at h1
      split at h1 <;> try (cases h1; done)
      split at h1 <;> try (cases h1; done)
      split at h1 <;> try (cases h1; done)
      split at h1 <;> try (cases h1; done)
      cases h1; simp
    obtain ⟨ι', y, w', hal⟩ := buildSliceS_ok (P := P) (ι := ι) (w := w) hT (xs := parts.map fun (i, x) => (i, a.eval x)) h1 (by simpa using p1) (by simpa using p2) hr (by simpa using hn 0 hl)
    exact ⟨_, ι', y, w', hal, rfl⟩
  case makeSlice e l c =>
    have : ∃ v bs, q v bs = some r ∧ 0 < bs.length ∧ makeS T n e (opv t l) (opv t c) (fun v bs => some (v, bs)) = some (v, bs) := by
      unfold makeS at he ⊢
      split at he <;> try (cases he; done)
      split at he <;> try (cases he; done)
      rename_i hk
      obtain ⟨hb, he⟩ := bif_some he
      split at he <;> try (cases he; done)
      rename_i hc
      exact ⟨_, _, he, by simp, by simp [hk, hb, hc]⟩
    obtain ⟨v, bs, h1, hl, h2⟩ := this
    refine ⟨v, bs, h1, fun {ι h w a} ht hr hn => ?_⟩
    obtain ⟨v', bs', e1, e2, ι', y, w', hal⟩ := makeS_ok (P := P) hT h2 (opv_ok (a := a) ht (x := l) (by simp [Op.operands])) (opv_ok (a := a) ht (x := c) (by simp [Op.operands])) hr (by simpa using hn 0 hl)
    simp only [Option.some.injEq, Prod.mk.injEq] at e1
    obtain ⟨rfl, rfl⟩ := e1
    exact ⟨_, ι', y, w', hal, rfl⟩
  case convert src ds x =>
    split at he
    · rename_i e s hs hx
      obtain ⟨hb, he⟩ := bif_some he
      simp only [Bool.and_eq_true] at hb
      refine ⟨_, _, he, fun {ι h w a} ht hr hn => ?_⟩
      obtain ⟨ι', y, w', hal⟩ := bytes_ok (P := P) (s := s) hT hb.1 hs hb.2 hr (by simpa using hn 0 (by simp))
      have hv := opv_ok (a := a) ht (x := x) (by simp [Op.operands])
      rw [hx] at hv
      rw [VR] at hv
      exact ⟨_, ι', y, w', hal, by simp only [execOp, hv]⟩
    · cases he
  case range rt x =>
    split at he
    · rename_i s hx
      obtain ⟨hb, he⟩ := bif_some he
      refine ⟨_, _, he, fun {ι h w a} ht hr hn => ?_⟩
      have hv := opv_ok (a := a) ht (x := x) (by simp [Op.operands])
      rw [hx] at hv
      rw [VR] at hv
      have hn0 : ι n = none := by simpa using hn 0 (by simp)
      have hbr : BR (ι.put n ⟨w.heap.size, 0, 0⟩) (w.alloc (.stringIter s 0)) ⟨w.heap.size, 0, 0⟩ (.iter s 0) :=
        ⟨fun i v hq => (by cases hq), trivial, fun _ i hi => absurd hi (Nat.not_lt_zero _), trivial, fun _ => rfl, fun s' p' e => (by cases e; exact heap_alloc_last' w _), fun _ => (by simp only [fzOf, heap_alloc_last' w]; exact Nat.le_refl _)⟩
      exact ⟨Instr.range rt (a.eval x), _, _, _, Al.new hr hn0 (keep_alloc w (.stringIter s 0)) (Nat.le_refl _) (by simp) hbr ptr_new (by rw [hv]; exact run_range_string w rt s (strT_ok hT hb)), rfl⟩
    · cases he
end alloc
end Go.Abs
