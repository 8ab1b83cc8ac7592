/-
The operations that touch no memory, all: '==' of structs, builtins, and 'evPure' against 'execOp'.
-/
import Derived.Test.YtnkjpkfijafkgaaA5
import Derived.Laws.StructEq
set_option linter.unusedVariables false
set_option linter.unusedSimpArgs false
namespace Go.Abs

section eqs
variable {P : Program} {T : TT} {ι : Emb} {w : World}

theorem SR.cut : ∀ (n : Nat) {a : List Seg} {l : List Value}, SR ι a l → allCells a = true → SR ι (a.take n) (l.take n) ∧ SR ι (a.drop n) (l.drop n)
  | 0, a, l, h, _ => ⟨by simp [SR], by simpa using h⟩
  | n + 1, [], _, h, _ => by cases h; exact ⟨rfl, rfl⟩
  | n + 1, .cell v :: r, _, h, ha => by
    obtain ⟨x, l', rfl, h1, h2, h3⟩ := h
    obtain ⟨c1, c2⟩ := SR.cut n h3 ha
    exact ⟨⟨x, _, rfl, h1, h2, c1⟩, c2⟩
  | n + 1, .run k m z :: r, _, h, ha => by simp [allCells] at ha
theorem allCells_cut : ∀ (n : Nat) {a : List Seg}, allCells a = true → allCells (a.take n) = true ∧ allCells (a.drop n) = true
  | 0, a, h => ⟨by simp [allCells], by simpa using h⟩
  | n + 1, [], h => ⟨rfl, rfl⟩
  | n + 1, .cell v :: r, h => allCells_cut n (a := r) h
  | n + 1, .run k m z :: r, h => by simp [allCells] at h
theorem part_leaf (hT : TyOK P T) {t : TypeId} {i : TI} (hi : T t = some i) (ha : aggT T t = false) {cs : Array Value} {off : Nat} {x : Value} (hx : cs.toList[off]? = some x) :
    (Go.part t cs off).run P w = .ok x w := by
  simp only [Go.part, Sem.run_bind, hT.agg hi, ha, Result.andThen_ok, Bool.false_eq_true, if_false, Sem.run_ite]
  rw [show cs[off]? = some x by simpa using hx]
  rfl
theorem part_agg (hT : TyOK P T) {t : TypeId} {i : TI} (hi : T t = some i) (ha : aggT T t = true) {cs : Array Value} {off : Nat} :
    (Go.part t cs off).run P w = .ok (.agg (cs.extract off (off + sizeT T t))) w := by
  simp [Go.part, hT.agg hi, ha, hT.size hi]
theorem aggT_shape (hT : TyOK P T) {t : TypeId} {i : TI} (hi : T t = some i) (ho : i.shape ≠ .other) : aggT T t = (match i.shape with | .struct _ | .arr _ _ => true | _ => false) := by
  obtain ⟨inf, d, h1, h2, h3, h4, _⟩ := hT.dig hi
  simp only [aggT, hi, h4]
  cases hs : i.shape <;> rw [hs] at h3 ho <;> cases d <;> simp [shOk] at h3 <;> first | rfl | exact absurd rfl ho
theorem sizeT_leaf (hT : TyOK P T) {t : TypeId} {i : TI} (hi : T t = some i) : sizeT T t = i.size := by simp [sizeT, hi]

/-- what 'eqT' says, said of cells -/
def EqOk (P : Program) (T : TT) (ι : Emb) (w : World) (D : Nat) (t : TypeId) (a b a' b' : List Seg) (r : Bool) : Prop :=
  ∀ {cs cs' : Array Value} {off : Nat}, SR ι a (cs.toList.drop off) → SR ι b (cs'.toList.drop off) →
    SR ι a' (cs.toList.drop (off + sizeT T t)) ∧ SR ι b' (cs'.toList.drop (off + sizeT T t)) ∧
    ∃ vx vy, (Go.part t cs off).run P w = .ok vx w ∧ (Go.part t cs' off).run P w = .ok vy w ∧ (Op.equalIn D t vx vy).run P w = .ok r w

theorem drop_cons {l : List Value} {n : Nat} {x : Value} {r : List Value} (h : l.drop n = x :: r) : l[n]? = some x ∧ l.drop (n + 1) = r := by
  have hlt : n < l.length := by
    rcases Nat.lt_or_ge n l.length with h' | h'
    · exact h'
    · rw [List.drop_eq_nil_of_le h'] at h; cases h
  rw [List.drop_eq_getElem_cons hlt] at h
  injection h with h1 h2
  exact ⟨by simp [hlt, h1], h2⟩
theorem eq_leaf (hT : TyOK P T) {t : TypeId} {i : TI} (hi : T t = some i) (hs : i.size = 1) (ha : aggT T t = false) {x y : AV} {a' b' : List Seg} {D : Nat} {r : Bool}
    (he : ∀ vx vy, VR ι x vx → VR ι y vy → (Op.equalIn D t vx vy).run P w = .ok r w) : EqOk P T ι w D t (.cell x :: a') (.cell y :: b') a' b' r := by
  intro cs cs' off h1 h2
  obtain ⟨vx, l, e1, hv, _, h1⟩ := h1
  obtain ⟨vy, l', e2, hv', _, h2⟩ := h2
  obtain ⟨g1, d1⟩ := drop_cons e1
  obtain ⟨g2, d2⟩ := drop_cons e2
  rw [sizeT_leaf hT hi, hs, d1, d2]
  exact ⟨h1, h2, vx, vy, part_leaf hT hi ha g1, part_leaf hT hi ha g2, he vx vy hv hv'⟩

theorem leafK_some {t : TypeId} {l : LK} (h : leafK T t = some l) : ∃ i, T t = some i ∧ match l with
    | .int => (∃ k, i.shape = .int k) ∧ i.size = 1
    | .bool => i.shape = .bool ∧ i.size = 1
    | .str => i.shape = .str ∧ i.size = 1
    | .struct sz fs => i.size = sz ∧ i.shape = .struct fs ∧ ∃ ks, i.cols = some ks := by
  unfold leafK at h
  split at h
  · rename_i i hi
    refine ⟨i, hi, ?_⟩
    split at h
    · rename_i k hs
      split at h
      · cases h; exact ⟨⟨k, hs⟩, by assumption⟩
      · cases h
    · rename_i hs
      split at h
      · cases h; exact ⟨hs, by assumption⟩
      · cases h
    · rename_i hs
      split at h
      · cases h; exact ⟨hs, by assumption⟩
      · cases h
    · rename_i fs hs
      split at h
      · rename_i ks hk
        cases h
        exact ⟨rfl, hs, ks, hk⟩
      · cases h
    · cases h
  · cases h
mutual
theorem eqT_ok (hT : TyOK P T) : ∀ (d : Nat) {t : TypeId} {a b a' b' : List Seg} {r : Bool}, eqT T d t a b = some (r, a', b') → allCells a = true → allCells b = true →
    ∀ {D : Nat}, d ≤ D → allCells a' = true ∧ allCells b' = true ∧ EqOk P T ι w D t a b a' b' r
  | 0, _, _, _, _, _, _, h => by simp [eqT] at h
  | d + 1, t, a, b, a', b', r, h => by
    intro ca cb D hD
    obtain ⟨D, rfl⟩ : ∃ m, D = m + 1 := ⟨D - 1, by omega⟩
    unfold eqT at h
    split at h
    · rename_i sz fs hl
      obtain ⟨i, hi, hsz, hsh, ks, hks⟩ := leafK_some hl
      split at h
      · rename_i r' he
        cases h
        obtain ⟨t1, t2⟩ := allCells_cut sz ca
        obtain ⟨t3, t4⟩ := allCells_cut sz cb
        refine ⟨t2, t4, ?_⟩
        intro cs cs' off h1 h2
        obtain ⟨s1, s2⟩ := h1.cut sz ca
        obtain ⟨s3, s4⟩ := h2.cut sz cb
        have hszT : sizeT T t = sz := by simp [sizeT, hi, hsz]
        have hag : aggT T t = true := by rw [aggT_shape hT hi (by rw [hsh]; simp), hsh]
        rw [hszT]
        rw [List.drop_drop] at s2 s4
        refine ⟨s2, s4, _, _, part_agg hT hi hag, part_agg hT hi hag, ?_⟩
        obtain ⟨inf, dd, i1, i2, i3, i4, i5, i6, i7, i8⟩ := hT.dig hi
        obtain ⟨fields, hu, hf⟩ := hT.struct hi hsh
        rw [hu] at i2
        cases i2
        obtain ⟨k1, k2, k3⟩ := i8 _ hks
        obtain ⟨hnames, hst⟩ := k3 fields rfl
        rw [run_equalIn_struct w D t _ _ (by rw [Program.fieldsOf, hu]) hst]
        rw [show P.fieldsOf t = fields by rw [Program.fieldsOf, hu]]
        refine (eqF_ok hT d he t1 t3 (by omega) hf hnames ?_ ?_).2.2.2.2
        · rw [hszT, extract_toList, show off + sz - off = sz by omega]; simpa using s1
        · rw [hszT, extract_toList, show off + sz - off = sz by omega]; simpa using s3
      · cases h
    · rename_i hl
      obtain ⟨i, hi, ⟨k, hsh⟩, hsz⟩ := leafK_some hl
      have hu := hT.int hi hsh
      have hag : aggT T t = false := by rw [aggT_shape hT hi (by rw [hsh]; simp), hsh]
      split at h
      · rename_i k1 x a1 k2 y b1
        by_cases hk : k1 = k2
        · rw [if_pos hk] at h
          cases h
          refine ⟨ca, cb, eq_leaf hT hi hsz hag fun vx vy h1 h2 => ?_⟩
          cases h1; cases h2; subst hk
          exact run_equalIn_int w D t k1 k x y hu
        · rw [if_neg hk] at h; cases h
      · cases h
    · rename_i hl
      obtain ⟨i, hi, hsh, hsz⟩ := leafK_some hl
      have hag : aggT T t = false := by rw [aggT_shape hT hi (by rw [hsh]; simp), hsh]
      obtain ⟨inf, dd, i1, i2, i3, i4, i5, i6, i7, i8⟩ := hT.dig hi
      split at h
      · rename_i x a1 y b1
        cases h
        refine ⟨ca, cb, eq_leaf hT hi hsz hag fun vx vy h1 h2 => ?_⟩
        cases h1; cases h2
        rw [hsh] at i3
        cases dd <;> simp [shOk] at i3
        exact run_equalIn_bool' w D t x y i2
      · cases h
    · rename_i hl
      obtain ⟨i, hi, hsh, hsz⟩ := leafK_some hl
      have hag : aggT T t = false := by rw [aggT_shape hT hi (by rw [hsh]; simp), hsh]
      split at h
      · rename_i x a1 y b1
        cases h
        refine ⟨ca, cb, eq_leaf hT hi hsz hag fun vx vy h1 h2 => ?_⟩
        cases h1; cases h2
        exact run_equalIn_string w D t x y (hT.str hi hsh)
      · cases h
    · cases h
theorem eqF_ok (hT : TyOK P T) : ∀ (d : Nat) {n : Nat} {fs : List (Nat × TypeId)} {a b a' b' : List Seg} {r : Bool}, eqF T d n fs a b = some (r, a', b') → allCells a = true → allCells b = true →
    ∀ {D : Nat} {fields : List Field}, d ≤ D → fields.map (fun f => (f.offset, f.type)) = fs → (∀ f ∈ fields, f.name ≠ "_") →
    ∀ {cs cs' : Array Value}, SR ι a (cs.toList.drop n) → SR ι b (cs'.toList.drop n) → allCells a' = true ∧ allCells b' = true ∧ True ∧ True ∧ (Op.eqFields D cs cs' fields).run P w = .ok r w
  | d, n, [], a, b, a', b', r, h => by
    intro ca cb D fields hD hf hn cs cs' h1 h2
    have : fields = [] := by simpa using hf
    subst this
    cases d <;> (unfold eqF at h; cases h; exact ⟨ca, cb, trivial, trivial, by simp [Op.eqFields]⟩)
  | 0, n, _ :: _, a, b, a', b', r, h => by simp [eqF] at h
  | d + 1, n, (off, u) :: rest, a, b, a', b', r, h => by
    intro ca cb D fields hD hf hn cs cs' h1 h2
    unfold eqF at h
    by_cases ho : off = n
    · rw [if_pos ho] at h
      subst ho
      cases he : eqT T d u a b with
      | none => rw [he] at h; cases h
      | some p =>
        obtain ⟨x, a1, b1⟩ := p
        rw [he] at h
        simp only at h
        cases hr : eqF T d (off + sizeT T u) rest a1 b1 with
        | none => rw [hr] at h; cases h
        | some p2 =>
          obtain ⟨y, a2, b2⟩ := p2
          rw [hr] at h
          cases h
          cases fields with
          | nil => simp at hf
          | cons f fields =>
            simp only [List.map_cons, List.cons.injEq, Prod.mk.injEq] at hf
            obtain ⟨⟨e1, e2⟩, hf⟩ := hf
            obtain ⟨c1, c2, hE⟩ := eqT_ok hT d he ca cb (by omega : d ≤ D)
            obtain ⟨s1, s2, vx, vy, p1, p2, p3⟩ := hE h1 h2
            obtain ⟨q1, q2, _, _, q3⟩ := eqF_ok hT d hr c1 c2 (by omega : d ≤ D) hf (fun g hg => hn g (by simp [hg])) s1 s2
            refine ⟨q1, q2, trivial, trivial, ?_⟩
            unfold Op.eqFields
            rw [if_pos (hn f (by simp)), e1, e2]
            simp only [Sem.run_bind, p1, p2, p3, Result.andThen_ok, Sem.run_ite]
            cases x
            · simp
            · simpa using q3
    · rw [if_neg ho] at h; cases h
end

mutual
theorem eqT_guard (hT : TyOK P T) : ∀ (d : Nat) {t : TypeId} {a b a' b' : List Seg} {r : Bool}, eqT T d t a b = some (r, a', b') → ∀ (D : Nat), d ≤ D → P.eqGuardType D t = false
  | 0, _, _, _, _, _, _, h => by simp [eqT] at h
  | d + 1, t, a, b, a', b', r, h => by
    intro D hD
    obtain ⟨D, rfl⟩ : ∃ m, D = m + 1 := ⟨D - 1, by omega⟩
    unfold eqT at h
    unfold Program.eqGuardType
    split at h
    · rename_i sz fs hl
      obtain ⟨i, hi, hsz, hsh, ks, hks⟩ := leafK_some hl
      split at h
      · rename_i r' he
        obtain ⟨fields, hu, hf⟩ := hT.struct hi hsh
        rw [hu]
        simp only
        rw [← Array.any_toList]
        exact eqF_guard hT d he D _ (by omega) hf
      · cases h
    · rename_i hl
      obtain ⟨i, hi, ⟨k, hsh⟩, hsz⟩ := leafK_some hl
      rw [hT.int hi hsh]
    · rename_i hl
      obtain ⟨i, hi, hsh, hsz⟩ := leafK_some hl
      obtain ⟨inf, dd, i1, i2, i3, i4, i5, i6, i7, i8⟩ := hT.dig hi
      rw [hsh] at i3
      cases dd <;> simp [shOk] at i3
      rw [i2]
    · rename_i hl
      obtain ⟨i, hi, hsh, hsz⟩ := leafK_some hl
      rw [hT.str hi hsh]
    · cases h
theorem eqF_guard (hT : TyOK P T) : ∀ (d : Nat) {n : Nat} {fs : List (Nat × TypeId)} {a b a' b' : List Seg} {r : Bool}, eqF T d n fs a b = some (r, a', b') →
    ∀ (D : Nat) (fields : List Field), d ≤ D → fields.map (fun f => (f.offset, f.type)) = fs → fields.any (fun f => f.name != "_" && P.eqGuardType D f.type) = false
  | d, n, [], a, b, a', b', r, h => by
    intro D fields hD hf
    have : fields = [] := by simpa using hf
    subst this; rfl
  | 0, n, _ :: _, a, b, a', b', r, h => by simp [eqF] at h
  | d + 1, n, (off, u) :: rest, a, b, a', b', r, h => by
    intro D fields hD hf
    unfold eqF at h
    by_cases ho : off = n
    · rw [if_pos ho] at h
      cases he : eqT T d u a b with
      | none => rw [he] at h; cases h
      | some p =>
        obtain ⟨x, a1, b1⟩ := p
        rw [he] at h
        simp only at h
        cases hr : eqF T d (n + sizeT T u) rest a1 b1 with
        | none => rw [hr] at h; cases h
        | some p2 =>
          cases fields with
          | nil => simp at hf
          | cons f fields =>
            simp only [List.map_cons, List.cons.injEq, Prod.mk.injEq] at hf
            obtain ⟨⟨e1, e2⟩, hf⟩ := hf
            simp only [List.any_cons, e2, eqT_guard hT d he D (by omega), Bool.and_false, Bool.false_or]
            exact eqF_guard hT d hr D _ (by omega) hf
    · rw [if_neg ho] at h; cases h
end

theorem equal_eq (t : TypeId) (x y : Value) : Op.equal t x y = Op.equalIn (9999 + 1) t x y := rfl
theorem run_eq_pp {t e : TypeId} (h : P.underlying t = some (.pointer e)) (d : Nat) (y : Option Addr) : (Op.equalIn (d + 1) t (.pointer none) (.pointer y)).run P w = .ok y.isNone w := by
  simp [Op.equalIn, run_underlying h]
theorem run_eq_pp' {t e : TypeId} (h : P.underlying t = some (.pointer e)) (d : Nat) (y : Addr) : (Op.equalIn (d + 1) t (.pointer (some y)) (.pointer none)).run P w = .ok false w := by
  simp [Op.equalIn, run_underlying h]
theorem run_eq_ss {t e : TypeId} (h : P.underlying t = some (.slice e)) (d : Nat) (y : Option Addr) (n c m k : Nat) : (Op.equalIn (d + 1) t (.slice none n c) (.slice y m k)).run P w = .ok y.isNone w := by
  simp [Op.equalIn, run_underlying h]
theorem run_eq_ss' {t e : TypeId} (h : P.underlying t = some (.slice e)) (d : Nat) (y : Addr) (n c m k : Nat) : (Op.equalIn (d + 1) t (.slice (some y) n c) (.slice none m k)).run P w = .ok false w := by
  simp [Op.equalIn, run_underlying h]
theorem run_eq_ff {t : TypeId} {ps rs : Array TypeId} {v : Bool} (h : P.underlying t = some (.func ps rs v)) (d : Nat) : (Op.equalIn (d + 1) t .nilFunc .nilFunc).run P w = .ok true w := by
  simp [Op.equalIn, run_underlying h]
theorem run_eq_ff1 {t : TypeId} {ps rs : Array TypeId} {v : Bool} (h : P.underlying t = some (.func ps rs v)) (d : Nat) (f : Fn) (x y : Array Value) : (Op.equalIn (d + 1) t .nilFunc (.func f x y)).run P w = .ok false w := by
  simp [Op.equalIn, run_underlying h]
theorem run_eq_ff2 {t : TypeId} {ps rs : Array TypeId} {v : Bool} (h : P.underlying t = some (.func ps rs v)) (d : Nat) (f : Fn) (x y : Array Value) : (Op.equalIn (d + 1) t (.func f x y) .nilFunc).run P w = .ok false w := by
  simp [Op.equalIn, run_underlying h]
theorem run_binEq {t : TypeId} {x y : Value} {b : Bool} (h : (Op.equal t x y).run P w = .ok b w) (h1 : ∀ k n, x ≠ .int k n) (h2 : ∀ s, x ≠ .string s) (h3 : ∀ k n, x ≠ .float k n) (h4 : ∀ k m n, x ≠ .complex k m n) :
    (binOp .eql t x y).run P w = .ok (.bool b) w ∧ (binOp .neq t x y).run P w = .ok (.bool (!b)) w := by
  constructor <;> (cases x <;> first
    | exact absurd rfl (h1 _ _)
    | exact absurd rfl (h2 _)
    | exact absurd rfl (h3 _ _)
    | exact absurd rfl (h4 _ _ _)
    | (cases y <;> simp [binOp, h]))

theorem eqV_ok (hT : TyOK P T) (hd : 40 ≤ P.depth) {t : TypeId} {x y : AV} {vx vy : Value} {b : Bool} (h : eqV T t x y = some b) (hx : VR ι x vx) (hy : VR ι y vy) (op : BinOp) (ox oy : Operand) :
    (eqGuard op t ox oy vx vy).run P w = .ok () w ∧ (Op.equal t vx vy).run P w = .ok b w ∧
      (binOp .eql t vx vy).run P w = .ok (.bool b) w ∧ (binOp .neq t vx vy).run P w = .ok (.bool (!b)) w := by
  have key : (eqGuard op t ox oy vx vy).run P w = .ok () w ∧ (Op.equal t vx vy).run P w = .ok b w ∧ (∀ k n, vx ≠ .int k n) ∧ (∀ s, vx ≠ .string s) ∧ (∀ k n, vx ≠ .float k n) ∧ (∀ k m n, vx ≠ .complex k m n) := by
    unfold eqV at h
    split at h
    · rename_i hi
      cases hx; cases hy; cases h
      obtain ⟨inf, dd, i1, i2, i3, _⟩ := hT.dig hi
      cases dd <;> simp [shOk] at i3
      exact ⟨by cases op <;> simp [eqGuard], run_equalIn_bool' w 9999 t _ _ i2, by simp⟩
    · rename_i hi
      cases hx; cases hy; cases h
      obtain ⟨inf, dd, i1, i2, i3, _⟩ := hT.dig hi
      cases dd <;> simp [shOk] at i3
      exact ⟨by cases op <;> simp [eqGuard], run_eq_pp i2 9999 none, by simp⟩
    · rename_i hi
      cases hx; cases h
      obtain ⟨L, hL, rfl⟩ := hy
      obtain ⟨inf, dd, i1, i2, i3, _⟩ := hT.dig hi
      cases dd <;> simp [shOk] at i3
      exact ⟨by cases op <;> simp [eqGuard], run_eq_pp i2 9999 _, by simp⟩
    · rename_i hi
      cases hy; cases h
      obtain ⟨L, hL, rfl⟩ := hx
      obtain ⟨inf, dd, i1, i2, i3, _⟩ := hT.dig hi
      cases dd <;> simp [shOk] at i3
      exact ⟨by cases op <;> simp [eqGuard], run_eq_pp' i2 9999 _, by simp⟩
    · rename_i hi
      cases hx; cases hy; cases h
      obtain ⟨inf, dd, i1, i2, i3, _⟩ := hT.dig hi
      cases dd <;> simp [shOk] at i3
      exact ⟨by cases op <;> simp [eqGuard], run_eq_ss i2 9999 none _ _ _ _, by simp⟩
    · rename_i nl wh hi
      cases hx; cases h
      obtain ⟨inf, dd, i1, i2, i3, _⟩ := hT.dig hi
      cases dd <;> simp [shOk] at i3
      cases b with
      | true => obtain ⟨rfl, _⟩ := hy.1 rfl; exact ⟨by cases op <;> simp [eqGuard], run_eq_ss i2 9999 none _ _ _ _, by simp⟩
      | false => obtain ⟨L, ad, cap, _, rfl, _⟩ := hy.2 rfl; exact ⟨by cases op <;> simp [eqGuard], run_eq_ss i2 9999 _ _ _ _ _, by simp⟩
    · rename_i nl wh hi
      cases hy; cases h
      obtain ⟨inf, dd, i1, i2, i3, _⟩ := hT.dig hi
      cases dd <;> simp [shOk] at i3
      cases b with
      | true => obtain ⟨rfl, _⟩ := hx.1 rfl; exact ⟨by cases op <;> simp [eqGuard], run_eq_ss i2 9999 none _ _ _ _, by simp⟩
      | false => obtain ⟨L, ad, cap, _, rfl, _⟩ := hx.2 rfl; exact ⟨by cases op <;> simp [eqGuard], run_eq_ss' i2 9999 _ _ _ _ _, by simp⟩
    · rename_i hi
      cases hx; cases hy; cases h
      obtain ⟨inf, dd, i1, i2, i3, _⟩ := hT.dig hi
      cases dd <;> simp [shOk] at i3
      exact ⟨by cases op <;> simp [eqGuard], run_eq_ff i2 9999, by simp⟩
    · rename_i hi
      cases hx; cases h
      obtain ⟨xs, cs, rfl, _⟩ := hy
      obtain ⟨inf, dd, i1, i2, i3, _⟩ := hT.dig hi
      cases dd <;> simp [shOk] at i3
      exact ⟨by cases op <;> simp [eqGuard], run_eq_ff1 i2 9999 _ _ _, by simp⟩
    · rename_i hi
      cases hy; cases h
      obtain ⟨xs, cs, rfl, _⟩ := hx
      obtain ⟨inf, dd, i1, i2, i3, _⟩ := hT.dig hi
      cases dd <;> simp [shOk] at i3
      exact ⟨by cases op <;> simp [eqGuard], run_eq_ff2 i2 9999 _ _ _, by simp⟩
    · rename_i fs a b' hi
      split at h
      · rename_i hc
        simp only [Bool.and_eq_true] at hc
        split at h
        · rename_i r' he
          cases h
          obtain ⟨cs, rfl, h1⟩ := hx
          obtain ⟨cs', rfl, h2⟩ := hy
          have hg := eqT_guard hT 40 he P.depth hd
          refine ⟨run_eqGuard_agg w op t ox oy cs cs' hg, ?_, by simp⟩
          obtain ⟨_, _, hE⟩ := eqT_ok (w := w) (ι := ι) hT 40 he hc.1 hc.2 (by unfold Op.maxDepth; omega : 40 ≤ Op.maxDepth)
          obtain ⟨s1, s2, ux, uy, p1, p2, p3⟩ := hE (cs := cs) (cs' := cs') (off := 0) (by simpa using h1) (by simpa using h2)
          have hag : aggT T t = true := by rw [aggT_shape hT hi (by simp)]
          rw [part_agg hT hi hag] at p1 p2
          cases p1; cases p2
          have z1 : cs.extract 0 (0 + sizeT T t) = cs := by
            have s0 : cs.toList.drop (0 + sizeT T t) = [] := s1
            have := List.drop_eq_nil_iff.mp s0
            apply Array.ext'; rw [extract_toList, List.drop_zero, List.take_of_length_le (by omega)]
          have z2 : cs'.extract 0 (0 + sizeT T t) = cs' := by
            have s0 : cs'.toList.drop (0 + sizeT T t) = [] := s2
            have := List.drop_eq_nil_iff.mp s0
            apply Array.ext'; rw [extract_toList, List.drop_zero, List.take_of_length_le (by omega)]
          rw [z1, z2] at p3
          exact p3
        · cases h
      · cases h
    · cases h
  obtain ⟨k1, k2, k3, k4, k5, k6⟩ := key
  exact ⟨k1, k2, run_binEq k2 k3 k4 k5 k6⟩
end eqs

section pure
variable {β : Type} {P : Program} {T : TT} {ι : Emb} {w : World} {r : β}
theorem cvL_ok (v : Value) : VR ι (cvL v) v := by
  unfold cvL
  split <;> first
    | exact trivial
    | exact rfl
    | (split
       · rename_i vs h; exact ⟨vs, rfl, by have := Array.eq_empty_of_size_eq_zero h; subst this; exact rfl⟩
       · exact trivial)
theorem cv_ok (v : Value) : VR ι (cv v) v := by
  unfold cv
  split
  · rename_i cs
    cases h : cs.toList.all oneC with
    | false => exact trivial
    | true =>
      refine ⟨cs, rfl, ?_⟩
      generalize cs.toList = l at h
      induction l with
      | nil => exact rfl
      | cons x l ih =>
        simp only [List.all_cons, Bool.and_eq_true] at h
        exact ⟨x, l, rfl, cvL_ok x, by have := h.1; cases x <;> simp_all [oneC, Value.oneCell'], ih h.2⟩
  · exact cvL_ok v
/-- the slots that an operation reads are as the model's -/
def TRel (ι : Emb) (t : Tm) (tm : Array Value) (xs : List Operand) : Prop := ∀ s, Operand.tmp s ∈ xs → VR ι (lk t s) (tm.getD s undef)
theorem opv_ok {t : Tm} {a : Act} {xs : List Operand} (h : TRel ι t a.tmps xs) {x : Operand} (hx : x ∈ xs) : VR ι (opv t x) (a.eval x) := by
  cases x with
  | tmp s => exact h s hx
  | const v => exact cv_ok v
  | global g => exact trivial
  | func f => exact ⟨#[], #[], rfl, rfl, rfl⟩
theorem opvs_ok {t : Tm} {a : Act} {xs : List Operand} (h : TRel ι t a.tmps xs) : ∀ {ys : List Operand}, (∀ y ∈ ys, y ∈ xs) → VRL ι (opvs t ys) (ys.map a.eval)
  | [], _ => rfl
  | y :: r, hy => ⟨_, _, rfl, opv_ok h (hy y (by simp)), opvs_ok h fun z hz => hy z (by simp [hz])⟩
theorem mapO_ok {t : Tm} {a : Act} {xs : List Operand} (h : TRel ι t a.tmps xs) {x : Option Operand} (hx : ∀ y, x = some y → y ∈ xs) : OR ι (mapO t x) (x.map a.eval) := by
  cases x with
  | none => exact trivial
  | some y => exact opv_ok h (hx y rfl)

theorem fold_ok {f : AV → AV → Option AV} {g : Value → Value → Sem Value} (hfg : ∀ {a b c : AV} {x y : Value}, f a b = some c → VR ι a x → VR ι b y → ∃ z, VR ι c z ∧ (g x y).run P w = .ok z w) :
    ∀ {l : List AV} {xs : List Value} {a c : AV} {x : Value}, foldV f a l = some c → VR ι a x → VRL ι l xs → ∃ z, VR ι c z ∧ (xs.foldlM g x).run P w = .ok z w
  | [], _, a, c, x, h, ha, hl => by cases hl; cases h; exact ⟨x, ha, by simp⟩
  | b :: l, _, a, c, x, h, ha, hl => by
    obtain ⟨y, ys, rfl, hb, hl⟩ := hl
    unfold foldV at h
    cases hf : f a b with
    | none => rw [hf] at h; cases h
    | some d =>
      rw [hf] at h
      obtain ⟨z, hz, hr⟩ := hfg hf ha hb
      obtain ⟨u, hu, hr'⟩ := fold_ok hfg h hz hl
      exact ⟨u, hu, by simp [List.foldlM_cons, hr, hr']⟩
theorem min2_ok {a b c : AV} {x y : Value} (h : min2 a b = some c) (ha : VR ι a x) (hb : VR ι b y) : ∃ z, VR ι c z ∧ (Builtin.min2 x y).run P w = .ok z w := by
  unfold min2 at h
  split at h
  · rename_i k m k' n
    cases ha; cases hb
    by_cases hk : k = k'
    · rw [if_pos hk] at h; cases h; exact ⟨_, rfl, by simp [Builtin.min2]⟩
    · rw [if_neg hk] at h; cases h
  · cases h
theorem max2_ok {a b c : AV} {x y : Value} (h : max2 a b = some c) (ha : VR ι a x) (hb : VR ι b y) : ∃ z, VR ι c z ∧ (Builtin.max2 x y).run P w = .ok z w := by
  unfold max2 at h
  split at h
  · rename_i k m k' n
    cases ha; cases hb
    by_cases hk : k = k'
    · rw [if_pos hk] at h; cases h; exact ⟨_, rfl, by simp [Builtin.max2]⟩
    · rw [if_neg hk] at h; cases h
  · cases h
theorem lenV_ok (hT : TyOK P T) {c : Call} {args : List AV} {xs : Array Value} {v : AV} (h : lenV (typ T c 0) args = some v) (hx : VRL ι args xs.toList) (ty : TypeId) :
    ∃ z, VR ι v z ∧ (Builtin.len_ c.argTypes ty xs).run P w = .ok z w := by
  unfold typ at h
  cases ht : c.argTypes[0]? with
  | none => rw [ht] at h; simp [lenV] at h
  | some t =>
    rw [ht] at h
    simp only at h
    have h0 : ∀ x l, xs.toList = x :: l → xs[0]? = some x := fun x l e => by
      have : xs.toList[0]? = some x := by rw [e]; rfl
      simpa using this
    unfold lenV at h
    split at h
    · rename_i s hk
      obtain ⟨x, l, e, hv, hl⟩ := hx
      cases hv; cases h
      exact ⟨_, rfl, by simp [Builtin.len_, ht, h0 _ _ e, run_underlying (skT_str hT hk), goInt]⟩
    · rename_i el a b o n st nl wh hk
      obtain ⟨x, l, e, hv, hl⟩ := hx
      cases h
      have : ∃ ad cap, x = .slice ad n cap := by
        cases nl with
        | true => obtain ⟨rfl, rfl⟩ := hv.1 rfl; exact ⟨_, _, rfl⟩
        | false => obtain ⟨L, ad, cap, _, rfl, _⟩ := hv.2 rfl; exact ⟨_, _, rfl⟩
      obtain ⟨ad, cap, rfl⟩ := this
      exact ⟨_, rfl, by simp [Builtin.len_, ht, h0 _ _ e, run_underlying (skT_slice hT hk), goInt]⟩
    · rename_i el hk
      obtain ⟨x, l, e, hv, hl⟩ := hx
      cases hv; cases h
      exact ⟨_, rfl, by simp [Builtin.len_, ht, h0 _ _ e, run_underlying (skT_slice hT hk), goInt]⟩
    · rename_i n el u hk
      obtain ⟨x, l, e, hv, hl⟩ := hx
      cases h
      exact ⟨_, rfl, by simp [Builtin.len_, ht, h0 _ _ e, run_underlying (skT_arr hT hk), goInt]⟩
    · cases h

theorem binV_ok (hT : TyOK P T) (hd : 40 ≤ P.depth) {op : BinOp} {t : TypeId} {x y : AV} {vx vy : Value} {q : AV → Option β} (h : binV T op t x y q = some r) (hx : VR ι x vx) (hy : VR ι y vy) (ox oy : Operand) :
    ∃ v z, q v = some r ∧ VR ι v z ∧ (eqGuard op t ox oy vx vy).run P w = .ok () w ∧ (binOp op t vx vy).run P w = .ok z w := by
  unfold binV at h
  split at h
  · rename_i k a k' b
    cases hx; cases hy
    have hg : (eqGuard op t ox oy (.int k a) (.int k' b)).run P w = .ok () w := by cases op <;> simp [eqGuard]
    split at h
    · obtain ⟨v, z, h1, h2, h3⟩ := shiftOp_ok (P := P) (ι := ι) (w := w) (k' := k') h t (.inl rfl)
      exact ⟨v, z, h1, h2, hg, h3⟩
    · obtain ⟨v, z, h1, h2, h3⟩ := shiftOp_ok (P := P) (ι := ι) (w := w) (k' := k') h t (.inr rfl)
      exact ⟨v, z, h1, h2, hg, h3⟩
    · rename_i hs hs'
      obtain ⟨hk, h'⟩ := bif_some h
      have hk := of_decide_eq_true hk
      subst hk
      obtain ⟨v, z, h1, h2, h3⟩ := intOp_ok (P := P) (ι := ι) (w := w) h' t (fun e => hs (by rw [e])) (fun e => hs' (by rw [e]))
      exact ⟨v, z, h1, h2, hg, h3⟩
  · cases hx; cases hy
    obtain ⟨v, z, h1, h2, h3⟩ := strOp_ok (P := P) (ι := ι) (w := w) h t
    exact ⟨v, z, h1, h2, by cases op <;> simp [eqGuard], h3⟩
  · split at h
    · split at h
      · rename_i b hb
        obtain ⟨k1, k2, k3, k4⟩ := eqV_ok (w := w) hT hd hb hx hy .eql ox oy
        exact ⟨_, _, h, rfl, k1, k3⟩
      · cases h
    · split at h
      · rename_i b hb
        obtain ⟨k1, k2, k3, k4⟩ := eqV_ok (w := w) hT hd hb hx hy .neq ox oy
        exact ⟨_, _, h, rfl, k1, k4⟩
      · cases h
    · cases h
theorem onSome_some {x : Option AV} {q : AV → Option β} (h : onSome x q = some r) : ∃ v, x = some v ∧ q v = some r := by
  cases x with
  | none => cases h
  | some v => exact ⟨v, rfl, h⟩

theorem evPure_ok (hT : TyOK P T) (hd : 40 ≤ P.depth) {t : Tm} {o : Oper} {q : AV → Option β} {a : Act} (h : evPure T t o.op q = some r) (hr : TRel ι t a.tmps o.op.operands.toList) :
    ∃ v x, q v = some r ∧ VR ι v x ∧ (execOp a.eval o).run P w = .ok (.value x) w := by
  obtain ⟨dst, op, ty, pos, af, gd⟩ := o
  simp only at h hr
  cases op <;> simp only [evPure] at h <;> try (cases h; done)
  case move x => exact ⟨_, _, h, opv_ok hr (by simp [Op.operands]), rfl⟩
  case assign x => exact ⟨_, _, h, opv_ok hr (by simp [Op.operands]), rfl⟩
  case pick c x y =>
    obtain ⟨v, hv, hq⟩ := onSome_some h
    obtain ⟨z, hz, he⟩ := pickV_ok (P := P) (w := w) hv (opv_ok (a := a) hr (by simp [Op.operands])) (opv_ok hr (by simp [Op.operands])) (opv_ok hr (by simp [Op.operands]))
    refine ⟨v, z, hq, hz, ?_⟩
    simp only [execOp]
    simp only [Sem.run_bind] at he ⊢
    cases hb : (asBool (a.eval c)).run P w with
    | halt x w' => rw [hb] at he; cases he
    | ok x w' => rw [hb] at he; simp at he ⊢; obtain ⟨e1, e2⟩ := he; rw [e1]; exact ⟨rfl, e2⟩
  case nilCheck x =>
    split at h
    · rename_i b i st hv
      have := opv_ok hr (x := x) (by simp [Op.operands])
      rw [hv] at this
      obtain ⟨L, hL, e⟩ := this
      exact ⟨_, _, h, ⟨L, hL, rfl⟩, by simp [execOp, e]⟩
    · cases h
  case binOp op tx x y yt =>
    obtain ⟨v, z, h1, h2, h3, h4⟩ := binV_ok (w := w) hT hd h (opv_ok (a := a) hr (by simp [Op.operands])) (opv_ok hr (by simp [Op.operands])) x y
    exact ⟨v, z, h1, h2, by simp [execOp, h3, h4]⟩
  case unOp op tx x =>
    obtain ⟨v, hv, hq⟩ := onSome_some h
    obtain ⟨z, hz, he⟩ := unV_ok (P := P) (w := w) hv (opv_ok (a := a) hr (by simp [Op.operands]))
    exact ⟨v, z, hq, hz, by simp [execOp, he]⟩
  case convert src dst x =>
    split at h
    · rename_i his hi hv
      have hx := opv_ok hr (x := x) (by simp [Op.operands])
      rw [hv] at hx
      obtain ⟨inf', dd', j1, j2, _⟩ := hT.dig his
      have hu := hT.int hi rfl
      rw [VR] at hx
      exact ⟨_, _, h, rfl, by simp [execOp, hx, convert, run_underlying j2, run_underlying hu, Conv.intToInt]⟩
    · cases h
  case makeInterface tx x =>
    split at h
    · cases h
    · rename_i i hne hi
      refine ⟨_, _, h, ⟨_, rfl, opv_ok (a := a) hr (by simp [Op.operands])⟩, ?_⟩
      obtain ⟨d, hu, hnd⟩ := hT.noIface hi (fun e => by
        obtain ⟨sz, by_, ag, sh, z, c⟩ := i
        simp only at e
        subst e
        exact hne _ _ _ _ _ rfl)
      simp only [execOp, Instr.makeInterface, Sem.run_bind, run_underlying hu, Result.andThen_ok]
      cases d <;> first
        | exact absurd rfl (hnd _)
        | rfl
    · cases h
  case makeFunc f xs cs =>
    cases f <;> simp only [evPure] at h <;> try (cases h; done)
    refine ⟨_, _, h, ⟨_, _, rfl, ?_, ?_⟩, rfl⟩
    · rw [Array.toList_map]; exact opvs_ok hr fun y hy => by simp [Op.operands]; exact .inl (by simpa using hy)
    · rw [Array.toList_map]; exact opvs_ok hr fun y hy => by simp [Op.operands]; exact .inr (by simpa using hy)
  case slice tx x lo hi mx =>
    obtain ⟨v, z, h1, h2, h3⟩ := sliceV_ok (P := P) (w := w) hT h (opv_ok (a := a) hr (by simp [Op.operands]))
      (mapO_ok hr (by rintro y rfl; simp [Op.operands])) (mapO_ok hr (by rintro y rfl; simp [Op.operands])) (mapO_ok hr (by rintro y rfl; simp [Op.operands]))
    exact ⟨v, z, h1, h2, by simp [execOp, h3]⟩
  case fieldAddr s x f =>
    obtain ⟨v, hv, hq⟩ := onSome_some h
    obtain ⟨z, hz, he⟩ := fieldAddrV_ok (P := P) (w := w) hT hv (opv_ok (a := a) hr (by simp [Op.operands]))
    exact ⟨v, z, hq, hz, by simp [execOp, he]⟩
  case field s x f =>
    obtain ⟨v, hv, hq⟩ := onSome_some h
    obtain ⟨z, hz, he⟩ := fieldV_ok (P := P) (w := w) hT hv (opv_ok (a := a) hr (by simp [Op.operands]))
    exact ⟨v, z, hq, hz, by simp [execOp, he]⟩
  case indexAddr tx x i =>
    obtain ⟨v, z, h1, h2, h3⟩ := indexAddrV_ok (P := P) (w := w) hT h (opv_ok (a := a) hr (by simp [Op.operands])) (opv_ok hr (by simp [Op.operands]))
    exact ⟨v, z, h1, h2, by simp [execOp, h3]⟩
  case index tx x i =>
    obtain ⟨v, z, h1, h2, h3⟩ := indexV_ok (P := P) (w := w) hT h (opv_ok (a := a) hr (by simp [Op.operands])) (opv_ok hr (by simp [Op.operands]))
    exact ⟨v, z, h1, h2, by simp [execOp, h3]⟩
  case extract x i =>
    split at h
    · rename_i vs hv
      obtain ⟨v, hn, hq⟩ := onSome_some h
      have hx := opv_ok hr (x := x) (by simp [Op.operands])
      rw [hv] at hx
      obtain ⟨xs, e, hl⟩ := hx
      obtain ⟨z, hz, hvr⟩ := VRL.nth hl hn
      refine ⟨v, z, hq, hvr, ?_⟩
      simp only [execOp, e, Instr.extract, Sem.run_bind]
      rw [show xs[i]? = some z by simpa using hz]
      rfl
    · cases h
  case call c =>
    obtain ⟨v, hv, hq⟩ := onSome_some h
    obtain ⟨callee, args, ats⟩ := c
    unfold pureCall at hv
    have hargs : VRL ι (opvs t args.toList) (args.map a.eval).toList := by
      rw [Array.toList_map]; exact opvs_ok hr fun y hy => by simp [Op.operands, Call.operands]; exact .inr (by simpa using hy)
    split at hv
    · rename_i e
      simp only at e
      subst e
      obtain ⟨z, hz, he⟩ := lenV_ok (w := w) (c := ⟨.builtin .len, args, ats⟩) hT hv hargs ty
      exact ⟨v, z, hq, hz, by simp [execOp, resolve, invoke, builtin, he]⟩
    · rename_i e
      simp only at e
      subst e
      split at hv
      · rename_i x l hl
        simp only at hl
        rw [hl] at hargs
        obtain ⟨y, ys, e, h1, h2⟩ := hargs
        obtain ⟨z, hz, he⟩ := fold_ok (w := w) (P := P) (fun h a b => min2_ok h a b) hv h1 h2
        exact ⟨v, z, hq, hz, by simp only [execOp, resolve, invoke, builtin, Builtin.min_, Sem.run_bind, Sem.run_pure, Result.andThen_ok]; rw [e]; simp [he]⟩
      · cases hv
    · rename_i e
      simp only at e
      subst e
      split at hv
      · rename_i x l hl
        simp only at hl
        rw [hl] at hargs
        obtain ⟨y, ys, e, h1, h2⟩ := hargs
        obtain ⟨z, hz, he⟩ := fold_ok (w := w) (P := P) (fun h a b => max2_ok h a b) hv h1 h2
        exact ⟨v, z, hq, hz, by simp only [execOp, resolve, invoke, builtin, Builtin.max_, Sem.run_bind, Sem.run_pure, Result.andThen_ok]; rw [e]; simp [he]⟩
      · cases hv
    · cases hv
end pure
end Go.Abs
