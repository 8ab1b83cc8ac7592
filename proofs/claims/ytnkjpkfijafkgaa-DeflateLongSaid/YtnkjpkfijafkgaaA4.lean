/-
The table of types holds of the program; the operations that touch no memory do what the interpreter says.
-/
import Derived.Test.YtnkjpkfijafkgaaA3
set_option linter.unusedVariables false
set_option linter.unusedSimpArgs false
namespace Go.Abs

/-! ### types -/
def aggD : TypeDesc → Bool
  | .struct _ | .array _ _ => true
  | _ => false
def shOk : Shape → TypeDesc → Bool
  | .bool, .bool => true
  | .str, .string => true
  | .ptr e, .pointer e' => e == e'
  | .slice e, .slice e' => e == e'
  | .arr n e, .array n' e' => n == n' && e == e'
  | .struct fs, .struct fields => (fields.toList.map fun f => (f.offset, f.type)) == fs
  | .int k, .int k' => decide (k = k')
  | .func, .func _ _ _ => true
  | .iface, .interface _ => true
  | .other, .interface _ => false
  | .other, _ => true
  | _, _ => false
def vOk : AV → Value → Bool
  | .int k n, .int k' n' => decide (k = k') && n == n'
  | .bool b, .bool b' => b == b'
  | .str s, .string s' => s.data.toList.isEmpty && s'.data.toList.isEmpty
  | .nilptr, .pointer none => true
  | .nilsl, .slice none 0 0 => true
  | .nilfunc, .nilFunc => true
  | .niliface, .nilIface => true
  | _, _ => false
def int0 (k : IntKind) : Value → Bool
  | .int k' n => decide (k' = k) && n == 0
  | _ => false
def zOk : List ZS → List Value → Bool
  | [], [] => true
  | .v x :: r, c :: l => vOk x c && zOk r l
  | .run k n :: r, l => (l.take n).length == n && (l.take n).all (int0 k) && zOk r (l.drop n)
  | .sl _ :: r, .slice none 0 0 :: l => zOk r l
  | _, _ => false
def kOk : ColK → Value → Bool
  | .int k, .int k' n => decide (k' = k) && n == 0
  | .bool, .bool b => b == false
  | _, _ => false
def kzOk : List ColK → List Value → Bool
  | [], [] => true
  | k :: r, c :: l => kOk k c && kzOk r l
  | _, _ => false
def tyChk (P : Program) (t : TypeId) (i : TI) : Bool :=
  match P.info? t, P.underlying t with
  | some inf, some d =>
    shOk i.shape d && (i.agg == aggD d) && inf.size == i.size && inf.bytes == i.bytes &&
    (match i.zero with
     | none => true
     | some zs => match inf.zero with
       | some z => zOk zs z.cells.toList
       | none => false) &&
    (match i.cols with
     | none => true
     | some ks => i.size == ks.length && (match inf.zero with | some z => kzOk ks z.cells.toList | none => false) &&
       (match d with
        | .struct fields => fields.toList.all (fun f => f.name != "_") && !P.stoodInHeld t
        | _ => true))
  | _, _ => false
def TyOK (P : Program) (T : TT) : Prop := ∀ t i, T t = some i → tyChk P t i = true
theorem tyOK_of {P : Program} {rows : List (TypeId × TI)} (h : rows.all (fun r => tyChk P r.1 r.2) = true) : TyOK P (tget rows) := by
  intro t i ht
  induction rows with
  | nil => simp [tget] at ht
  | cons r rs ih =>
    obtain ⟨u, j⟩ := r
    simp only [List.all_cons, Bool.and_eq_true] at h
    unfold tget at ht
    by_cases e : u = t
    · rw [if_pos e] at ht; cases ht; subst e; exact h.1
    · rw [if_neg e] at ht; exact ih h.2 ht

section types
variable {P : Program} {T : TT} (hT : TyOK P T) {t : TypeId} {i : TI}
include hT
theorem TyOK.dig (h : T t = some i) : ∃ inf d, P.info? t = some inf ∧ P.underlying t = some d ∧ shOk i.shape d = true ∧ i.agg = aggD d ∧ inf.size = i.size ∧ inf.bytes = i.bytes ∧
    (∀ zs, i.zero = some zs → ∃ z, inf.zero = some z ∧ zOk zs z.cells.toList = true) ∧
    (∀ ks, i.cols = some ks → i.size = ks.length ∧ (∃ z, inf.zero = some z ∧ kzOk ks z.cells.toList = true) ∧ (∀ fields, d = .struct fields → (∀ f ∈ fields.toList, f.name ≠ "_") ∧ P.stoodInHeld t = false)) := by
  have := hT t i h
  unfold tyChk at this
  split at this
  · rename_i inf d hi hd
    simp only [Bool.and_eq_true, beq_iff_eq] at this
    obtain ⟨⟨⟨⟨⟨h1, h2⟩, h3⟩, h4⟩, h5⟩, h6⟩ := this
    refine ⟨inf, d, hi, hd, h1, h2, h3, h4, fun zs hz => ?_, fun ks hk => ?_⟩
    · rw [hz] at h5
      simp only at h5
      split at h5
      · exact ⟨_, by assumption, h5⟩
      · cases h5
    · rw [hk] at h6
      simp only [Bool.and_eq_true, beq_iff_eq] at h6
      obtain ⟨⟨a, b⟩, c⟩ := h6
      refine ⟨a, ?_, ?_⟩
      · split at b
        · exact ⟨_, by assumption, b⟩
        · cases b
      · intro fields hf
        subst hf
        simp only [Bool.and_eq_true, List.all_eq_true, bne_iff_ne, ne_eq, Bool.not_eq_true'] at c
        exact c
  · cases this
theorem TyOK.size (h : T t = some i) : ∀ w, (sizeOf t).run P w = .ok (sizeT T t) w := by
  obtain ⟨inf, d, h1, h2, h3, h4, h5, _⟩ := hT.dig h
  intro w
  simp [sizeOf, typeInfo, h1, sizeT, h, h5]
theorem TyOK.agg (h : T t = some i) : ∀ w, (isAgg t).run P w = .ok (aggT T t) w := by
  obtain ⟨inf, d, h1, h2, h3, h4, h5, _⟩ := hT.dig h
  intro w
  simp only [isAgg, Sem.run_bind, run_underlying h2, Result.andThen_ok, aggT, h, h4]
  cases d <;> rfl
theorem TyOK.slice (h : T t = some i) {e : TypeId} (hs : i.shape = .slice e) : P.underlying t = some (.slice e) := by
  obtain ⟨inf, d, h1, h2, h3, _⟩ := hT.dig h
  rw [hs] at h3
  cases d <;> simp [shOk] at h3
  rw [h2, h3]
theorem TyOK.arr (h : T t = some i) {n : Nat} {e : TypeId} (hs : i.shape = .arr n e) : P.underlying t = some (.array n e) := by
  obtain ⟨inf, d, h1, h2, h3, _⟩ := hT.dig h
  rw [hs] at h3
  cases d <;> simp [shOk] at h3
  rw [h2, h3.1, h3.2]
theorem TyOK.str (h : T t = some i) (hs : i.shape = .str) : P.underlying t = some .string := by
  obtain ⟨inf, d, h1, h2, h3, _⟩ := hT.dig h
  rw [hs] at h3
  cases d <;> simp [shOk] at h3
  exact h2
theorem TyOK.int (h : T t = some i) {k : IntKind} (hs : i.shape = .int k) : P.underlying t = some (.int k) := by
  obtain ⟨inf, d, h1, h2, h3, _⟩ := hT.dig h
  rw [hs] at h3
  cases d <;> simp [shOk] at h3
  rw [h2, h3]
theorem TyOK.struct (h : T t = some i) {fs : List (Nat × TypeId)} (hs : i.shape = .struct fs) : ∃ fields : Array Field, P.underlying t = some (.struct fields) ∧ fields.toList.map (fun f => (f.offset, f.type)) = fs := by
  obtain ⟨inf, d, h1, h2, h3, _⟩ := hT.dig h
  rw [hs] at h3
  cases d <;> simp [shOk] at h3
  exact ⟨_, h2, h3⟩
theorem TyOK.noIface (h : T t = some i) (hs : i.shape ≠ .iface) : ∃ d, P.underlying t = some d ∧ ∀ m, d ≠ .interface m := by
  obtain ⟨inf, d, h1, h2, h3, _⟩ := hT.dig h
  refine ⟨d, h2, fun m hm => ?_⟩
  subst hm
  cases hsh : i.shape <;> rw [hsh] at h3 <;> simp [shOk] at h3
  exact hs hsh
end types

/-! ### operations that touch no memory -/
section pure
variable {β : Type} {P : Program} {T : TT} {ι : Emb} {w : World} {r : β}

/-- it comes to a value, which the continuation takes, and the world stands -/
def Pu (P : Program) (ι : Emb) (w : World) (s : Sem Value) (q : AV → Option β) (r : β) : Prop :=
  ∃ v x, q v = some r ∧ VR ι v x ∧ s.run P w = .ok x w
theorem Pu.mk {s : Sem Value} {q : AV → Option β} {v : AV} {x : Value} (h : q v = some r) (hv : VR ι v x) (hs : s.run P w = .ok x w) : Pu P ι w s q r := ⟨v, x, h, hv, hs⟩

theorem pickV_ok {c a b v : AV} {vc va vb : Value} (h : pickV c a b = some v) (hc : VR ι c vc) (ha : VR ι a va) (hb : VR ι b vb) :
    ∃ x, VR ι v x ∧ (do pure (if ← asBool vc then va else vb) : Sem Value).run P w = .ok x w := by
  unfold pickV at h
  split at h
  · rename_i c
    cases hc
    refine ⟨if c then va else vb, ?_, by simp [asBool]⟩
    split at h
    · rename_i x y
      cases ha; cases hb; cases h
      cases c <;> rfl
    · cases h
      cases c
      · exact hb
      · exact ha
  · cases h
theorem intOp_ok {op : BinOp} {k : IntKind} {x y : Int} {q : AV → Option β} (h : intOp op k x y q = some r) (t : TypeId) (hs : op ≠ .shl) (hs' : op ≠ .shr) :
    Pu P ι w (binOp op t (.int k x) (.int k y)) q r := by
  cases op <;> simp only [intOp] at h <;> first
    | (cases h; done)
    | (exact absurd rfl hs)
    | (exact absurd rfl hs')
    | (split at h
       · cases h
       · rename_i hy; exact ⟨_, _, h, rfl, by simp [binOp, Op.intDiv, hy]⟩)
    | (exact ⟨_, _, h, rfl, by simp [binOp, Op.intArith, Op.intBits, Op.intCmp, bits]⟩)
theorem shiftOp_ok {op : BinOp} {k k' : IntKind} {x y : Int} {q : AV → Option β} (h : shiftOp op k x y q = some r) (t : TypeId) (hs : op = .shl ∨ op = .shr) :
    Pu P ι w (binOp op t (.int k x) (.int k' y)) q r := by
  unfold shiftOp at h
  split at h
  · cases h
  · rename_i hy
    rcases hs with rfl | rfl
    · exact ⟨_, _, h, rfl, by simp [binOp, Op.shift, hy]⟩
    · exact ⟨_, _, h, rfl, by simp [binOp, Op.shift, hy]⟩
theorem strOp_ok {op : BinOp} {x y : ByteArray} {q : AV → Option β} (h : strOp op x y q = some r) (t : TypeId) : Pu P ι w (binOp op t (.string x) (.string y)) q r := by
  cases op <;> simp only [strOp] at h <;> first
    | (cases h; done)
    | (split at h
       · rename_i hy
         refine ⟨_, _, h, rfl, ?_⟩
         simp only [binOp, Op.stringOp]
         rw [if_neg (by simp only [IntKind.max, IntKind.signed, IntKind.bits]; simp; omega)]
         rfl
       · cases h)
    | (exact ⟨_, _, h, rfl, by simp [binOp, Op.stringOp]⟩)
theorem unV_ok {op : UnOp} {x v : AV} {vx : Value} (h : unV op x = some v) (hx : VR ι x vx) : ∃ y, VR ι v y ∧ (Op.unary op vx).run P w = .ok y w := by
  unfold unV at h
  split at h
  · cases h; cases hx; exact ⟨_, rfl, by simp [Op.unary, Op.intArith]⟩
  · cases h; cases hx; exact ⟨_, rfl, by simp [Op.unary]⟩
  · cases h
end pure
end Go.Abs
