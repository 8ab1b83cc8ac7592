/-
The abstract interpreter: operations, regions, code, calls. Definitions only. All that may hang on an unknown goes on to its continuation, so that a test stands at the head.
-/
import Derived.Test.YtnkjpkfijafkgaaA1
set_option linter.unusedVariables false
set_option linter.unusedSimpArgs false
namespace Go.Abs

section
variable {α : Type} {a b : α}
theorem ifT {p : Prop} [Decidable p] (h : p) : (bif decide p then a else b) = a := by rw [decide_eq_true h]; rfl
theorem ifF {p : Prop} [Decidable p] (h : ¬p) : (bif decide p then a else b) = b := by rw [decide_eq_false h]; rfl
theorem ifE {x y : Int} (h : x = y) : (bif (x == y) then a else b) = a := by rw [beq_iff_eq.mpr h]; rfl
theorem ifNE {x y : Int} (h : x ≠ y) : (bif (x == y) then a else b) = b := by rw [beq_eq_false_iff_ne.mpr h]; rfl
theorem ifX {x y : Int} (h : x ≠ y) : (bif (x != y) then a else b) = a := by rw [bne_iff_ne.mpr h]; rfl
theorem ifNX {x y : Int} (h : x = y) : (bif (x != y) then a else b) = b := by subst h; simp
theorem ifB {x : Bool} (h : x = true) : (bif x then a else b) = a := by rw [h]; rfl
theorem ifNB {x : Bool} (h : x = false) : (bif x then a else b) = b := by rw [h]; rfl
end

/-- the slots -/
abbrev Tm := List (Nat × AV)
def lk : Tm → Nat → AV
  | [], _ => .undef
  | (k, v) :: r, s => if k = s then v else lk r s

structure St where
  t : Tm
  H : Heap

/-- What a function does on its own part of the heap: its arguments' blocks, and what these lead to, stand first. -/
abbrev Fsem := List AV → Heap → Option (AV × Heap)

/-- what is known of a loop: the slots that are kept at its head, and behind it -/
structure Lk where
  key : Nat
  pre : List Nat
  post : List Nat
  ret : List Nat

/-- a region without an order of its own: per operation those that surely stand before it; the reads that may see other heaps than the text's: operation, last writer, blocks that are surely there -/
structure Draw where
  id : Nat
  anc : List (List Nat)
  ents : List (Nat × Option Nat × List Nat)
structure Ctx where
  T : TT
  C : FuncId → Option Fsem
  M : TypeId → String → Option FuncId
  fuel : Nat
  A : List Lk
  D : List Draw

def cvL : Value → AV
  | .bool b => .bool b
  | .int k n => .int k n
  | .string s => .str s
  | .pointer none => .nilptr
  | .slice none 0 0 => .nilsl
  | .nilFunc => .nilfunc
  | .nilIface => .niliface
  | .tuple vs => if vs.size = 0 then .tuple [] else .undef
  | _ => .undef
def oneC : Value → Bool
  | .agg _ | .tuple _ => false
  | _ => true
def cv : Value → AV
  | .agg cs => bif cs.toList.all oneC then .agg (cs.toList.map fun c => .cell (cvL c)) else .undef
  | v => cvL v

def opv (t : Tm) : Operand → AV
  | .tmp s => lk t s
  | .const v => cv v
  | .func f => .func f [] []
  | .global _ => .undef

def AV.one : AV → Bool
  | .undef | .agg _ | .tuple _ => false
  | _ => true
def Seg.val : Seg → AV
  | .cell v => v
  | _ => .undef
/-- the pieces of a value in memory -/
def AV.segs : AV → List Seg
  | .agg ss => ss
  | v => [.cell v]

def fieldOf (T : TT) (s : TypeId) (f : Nat) : Option (Nat × TypeId) :=
  match T s with
  | some { shape := .struct fs, .. } => fs[f]?
  | _ => none
def sizeT (T : TT) (t : TypeId) : Nat := match T t with | some i => i.size | none => 0
def aggT (T : TT) (t : TypeId) : Bool := match T t with | some i => i.agg | none => false
def bytesT (T : TT) (t : TypeId) : Nat := match T t with | some i => i.bytes | none => 0
def runT (T : TT) (t : TypeId) : Bool :=
  match T t with
  | some { zero := some (.run ..  :: _), .. } => true
  | _ => false
def colsT (T : TT) (t : TypeId) : Option (List ColK) := match T t with | some { cols := some (k :: ks), .. } => some (k :: ks) | _ => none
/-- a type's make, as far as it is sliced, indexed, counted -/
inductive SK where
  | str | slice (e : TypeId) | arr (n : Nat) (e : TypeId) | other
def skT (T : TT) (t : TypeId) : SK :=
  match T t with
  | some { shape := .str, .. } => .str
  | some { shape := .slice e, .. } => .slice e
  | some { shape := .arr n e, .. } => .arr n e
  | _ => .other
def structT (T : TT) (t : TypeId) : Option (List (Nat × TypeId)) := match T t with | some { shape := .struct fs, .. } => some fs | _ => none
/-- the elements' type of a slice's type -/
def sliceT (T : TT) (t : TypeId) : Option TypeId := match T t with | some { shape := .slice e, .. } => some e | _ => none

def strT (T : TT) (t : TypeId) : Bool := match T t with | some { shape := .str, .. } => true | _ => false
/-- it is a byte's type -/
def byteT (T : TT) (t : TypeId) : Bool := match T t with | some { shape := .int .u8, size := 1, .. } => true | _ => false

/-! ### new blocks: each function tells the value, and the blocks that are laid behind a heap of n blocks -/
def nilOf (T : TT) (n : Nat) (e : TypeId) : Option (AV × List Blk) :=
  match colsT T e with
  | some ks => some (.slice n 0 0 0 ks.length true true, [.dyn true e (ks.map ColK.nils)])
  | none => none
def mat (T : TT) (n : Nat) (t : TypeId) : AV → Option (AV × List Blk)
  | .nilsl => match sliceT T t with
    | some e => nilOf T n e
    | none => none
  | v => some (v, [])
def zsegs (T : TT) (n : Nat) : List ZS → Option (List Seg × List Blk)
  | [] => some ([], [])
  | .v x :: r => match zsegs T n r with
    | some (ss, bs) => some (.cell x :: ss, bs)
    | none => none
  | .run k m :: r => match zsegs T n r with
    | some (ss, bs) => some (.run k m (List.replicate m 0) :: ss, bs)
    | none => none
  | .sl e :: r => match nilOf T n e with
    | some (v, b) => match zsegs T (n + 1) r with
      | some (ss, bs) => some (.cell v :: ss, b ++ bs)
      | none => none
    | none => none
def zeroSegs (T : TT) (n : Nat) (t : TypeId) : Option (List Seg × List Blk) :=
  match T t with
  | some { zero := some z, .. } => zsegs T n z
  | _ => none
/-- a value as it lies in a variable of a type -/
def segsAs (T : TT) (n : Nat) (t : TypeId) (v : AV) : Option (List Seg × List Blk) :=
  match v with
  | .agg ss => some (ss, [])
  | v => bif v.one then (match mat T n t v with
    | some (v', bs) => some ([.cell v'], bs)
    | none => none) else none

def fillS (T : TT) (place : Nat → Option (Nat × TypeId)) : List Seg → Nat → List (Nat × AV) → Option (List Seg × List Blk)
  | ss, _, [] => some (ss, [])
  | ss, n, (i, v) :: r =>
    match place i with
    | none => none
    | some (off, t) => match segsAs T n t v with
      | none => none
      | some (vs, b) =>
        if segSize vs = sizeT T t then
          match segPut ss off vs with
          | none => none
          | some ss' => match fillS T place ss' (n + b.length) r with
            | some (ss'', bs) => some (ss'', b ++ bs)
            | none => none
        else none
def buildS (T : TT) (n : Nat) (t : TypeId) (parts : List (Nat × AV)) : Option (AV × List Blk) :=
  match zeroSegs T n t with
  | none => none
  | some (z, b) =>
    match structT T t with
    | some fs => if fs.all (fun f => (T f.2).isSome) then match fillS T (fun i => fs[i]?) z (n + b.length) parts with
      | some (ss, bs) => some (.agg ss, b ++ bs)
      | none => none else none
    | none => match skT T t with
      | .arr _ e => if sizeT T e = 0 then none else match fillS T (fun i => some (i * sizeT T e, e)) z (n + b.length) parts with
        | some (ss, bs) => some (.agg ss, b ++ bs)
        | none => none
      | _ => none
/-- rows as columns -/
def consRow : List Seg → List Col → Option (List Col)
  | [], [] => some []
  | .cell (.int k n) :: r, .ints k' l :: cs => if k = k' then (match consRow r cs with | some x => some (.ints k' (n :: l) :: x) | none => none) else none
  | .cell (.bool b) :: r, .bools l :: cs => match consRow r cs with | some x => some (.bools (b :: l) :: x) | none => none
  | _, _ => none
def mkCols (ks : List ColK) : Nat → List (Nat × AV) → Option (List Col)
  | _, [] => some (ks.map ColK.nils)
  | i, (j, v) :: r => if j = i then (match mkCols ks (i + 1) r with | some cs => consRow v.segs cs | none => none) else none
def buildSliceS (T : TT) (n : Nat) (t : TypeId) (len : Nat) (parts : List (Nat × AV)) : Option (AV × List Blk) :=
  match sliceT T t with
  | some e => match colsT T e with
    | some ks =>
      if parts.length = len ∧ len * ks.length ≤ 1000000 then
        match mkCols ks 0 parts with
        | some cs => some (.slice n 0 0 len ks.length false true, [.dyn true e cs])
        | none => none
      else none
    | none => none
  | none => none
def strInts (s : ByteArray) : List Int := s.data.toList.map fun b => (b.toNat : Int)

inductive K where
  | pure | alloc | read | write
  deriving DecidableEq

def isNilSl : Operand → Bool
  | .const (.slice none 0 0) => true
  | _ => false
def kindOf (T : TT) : Op → K
  | .move x | .assign x => if isNilSl x then .alloc else .pure
  | .alloc _ | .box .. | .build .. | .buildSlice .. | .makeSlice .. => .alloc
  | .convert src dst _ => match T dst with
    | some { shape := .slice _, .. } => if src = dst then .write else .alloc
    | some { shape := .str, .. } => .read
    | _ => .pure
  | .load .. => .read
  | .store .. => .write
  | .range .. => .alloc
  | .next .. => .write
  | .call { callee := .builtin b, .. } => match b with
    | .append | .copy => .write
    | _ => .pure
  | .call _ => .write
  | _ => .pure

mutual
def eqAV : AV → AV → Bool
  | .undef, .undef => true
  | .bool a, .bool b => decide (a = b)
  | .int k n, .int k' n' => decide (k = k') && decide (n = n')
  | .str a, .str b => decide (a.data.toList = b.data.toList)
  | .nilptr, .nilptr => true
  | .ptr a b i s, .ptr a' b' i' s' => decide (a = a') && decide (b = b') && decide (i = i') && decide (s = s')
  | .slice a b o l s n w, .slice a' b' o' l' s' n' w' => decide (a = a') && decide (b = b') && decide (o = o') && decide (l = l') && decide (s = s') && decide (n = n') && decide (w = w')
  | .nilsl, .nilsl => true
  | .func f x c, .func f' x' c' => decide (f = f') && eqAVL x x' && eqAVL c c'
  | .nilfunc, .nilfunc => true
  | .yield a, .yield b => decide (a = b)
  | .iface t v, .iface t' v' => decide (t = t') && eqAV v v'
  | .niliface, .niliface => true
  | .agg x, .agg y => eqAVS x y
  | .tuple x, .tuple y => eqAVL x y
  | _, _ => false
def eqAVL : List AV → List AV → Bool
  | [], [] => true
  | x :: r, y :: s => eqAV x y && eqAVL r s
  | _, _ => false
def eqAVS : List Seg → List Seg → Bool
  | [], [] => true
  | .cell x :: r, .cell y :: s => eqAV x y && eqAVS r s
  | .run k n l :: r, .run k' n' l' :: s => decide (k = k') && decide (n = n') && decide (l = l') && eqAVS r s
  | _, _ => false
end
def eqO : Option AV → AV → Bool
  | some x, v => eqAV x v
  | none, _ => false

section cps
variable {β : Type}

/-- how many rows; by sight, so that the number is a list's length -/
def lenK (cols : List Col) (q : Nat → Option β) : Option β :=
  match cols with
  | .ints _ l :: _ => q l.length
  | .bools l :: _ => q l.length
  | [] => q 0
theorem lenK_eq (cols : List Col) (q : Nat → Option β) : lenK cols q = q (colsLen cols) := by
  cases cols with
  | nil => rfl
  | cons c r => cases c <;> rfl

/-! ### operations that touch no memory -/
def pickV (c a b : AV) : Option AV :=
  match c with
  | .bool c => match a, b with
    | .bool x, .bool y => some (.bool (if c then x else y))
    | _, _ => some (if c then a else b)
  | _ => none
def bits (k : IntKind) (f : BitVec k.bits → BitVec k.bits → BitVec k.bits) (x y : Int) : Int :=
  k.wrap (f (BitVec.ofInt k.bits x) (BitVec.ofInt k.bits y)).toNat
def intOp (op : BinOp) (k : IntKind) (x y : Int) (q : AV → Option β) : Option β :=
  match op with
  | .add => q (.int k (k.wrap (x + y)))
  | .sub => q (.int k (k.wrap (x - y)))
  | .mul => q (.int k (k.wrap (x * y)))
  | .quo => if y = 0 then none else q (.int k (k.wrap (x.tdiv y)))
  | .rem => if y = 0 then none else q (.int k (x.tmod y))
  | .and => q (.int k (bits k (· &&& ·) x y))
  | .or => q (.int k (bits k (· ||| ·) x y))
  | .xor => q (.int k (bits k (· ^^^ ·) x y))
  | .andNot => q (.int k (bits k (fun a b => a &&& ~~~b) x y))
  | .eql => q (.bool (x == y))
  | .neq => q (.bool (x != y))
  | .lss => q (.bool (decide (x < y)))
  | .leq => q (.bool (decide (x ≤ y)))
  | .gtr => q (.bool (decide (x > y)))
  | .geq => q (.bool (decide (x ≥ y)))
  | _ => none
def shiftOp (op : BinOp) (k : IntKind) (x y : Int) (q : AV → Option β) : Option β :=
  if y < 0 then none else
  match op with
  | .shl => q (.int k (k.wrap (x * 2 ^ (min y.toNat k.bits))))
  | .shr => q (.int k (x.fdiv (2 ^ (min y.toNat k.bits))))
  | _ => none
def strOp (op : BinOp) (x y : ByteArray) (q : AV → Option β) : Option β :=
  match op with
  | .add => if x.size + y.size ≤ 4611686018427387904 then q (.str (x ++ y)) else none
  | .eql => q (.bool (x.toList == y.toList))
  | .neq => q (.bool (!(x.toList == y.toList)))
  | _ => none
def allCells : List Seg → Bool
  | [] => true
  | .cell _ :: r => allCells r
  | _ => false
inductive LK where
  | int | bool | str | struct (sz : Nat) (fs : List (Nat × TypeId))
def leafK (T : TT) (t : TypeId) : Option LK :=
  match T t with
  | some i => match i.shape with
    | .int _ => if i.size = 1 then some .int else none
    | .bool => if i.size = 1 then some .bool else none
    | .str => if i.size = 1 then some .str else none
    | .struct fs => match i.cols with | some _ => some (.struct i.size fs) | none => none
    | _ => none
  | none => none
mutual
/-- values of a type, a cell each, at the heads of two rows: are they alike? and what stands behind them -/
def eqT (T : TT) : Nat → TypeId → List Seg → List Seg → Option (Bool × List Seg × List Seg)
  | 0, _, _, _ => none
  | d + 1, t, a, b => match leafK T t with
    | some (.struct sz fs) => match eqF T d 0 fs (a.take sz) (b.take sz) with
      | some (r, [], []) => some (r, a.drop sz, b.drop sz)
      | _ => none
    | some .int => match a, b with
      | .cell (.int k x) :: a', .cell (.int k' y) :: b' => if k = k' then some (x == y, a', b') else none
      | _, _ => none
    | some .bool => match a, b with
      | .cell (.bool x) :: a', .cell (.bool y) :: b' => some (x == y, a', b')
      | _, _ => none
    | some .str => match a, b with
      | .cell (.str x) :: a', .cell (.str y) :: b' => some (x.toList == y.toList, a', b')
      | _, _ => none
    | none => none
def eqF (T : TT) : Nat → Nat → List (Nat × TypeId) → List Seg → List Seg → Option (Bool × List Seg × List Seg)
  | _, _, [], a, b => some (true, a, b)
  | 0, _, _ :: _, _, _ => none
  | d + 1, n, (off, u) :: r, a, b => if off = n then
      (match eqT T d u a b with
       | some (x, a', b') => match eqF T d (n + sizeT T u) r a' b' with
         | some (y, a'', b'') => some (x && y, a'', b'')
         | none => none
       | none => none) else none
end
def eqV (T : TT) (t : TypeId) (x y : AV) : Option Bool :=
  match T t, x, y with
  | some { shape := .bool, .. }, .bool a, .bool b => some (a == b)
  | some { shape := .ptr _, .. }, .nilptr, .nilptr => some true
  | some { shape := .ptr _, .. }, .nilptr, .ptr .. => some false
  | some { shape := .ptr _, .. }, .ptr .., .nilptr => some false
  | some { shape := .slice _, .. }, .nilsl, .nilsl => some true
  | some { shape := .slice _, .. }, .nilsl, .slice _ _ _ _ _ nl _ => some nl
  | some { shape := .slice _, .. }, .slice _ _ _ _ _ nl _, .nilsl => some nl
  | some { shape := .func, .. }, .nilfunc, .nilfunc => some true
  | some { shape := .func, .. }, .nilfunc, .func .. => some false
  | some { shape := .func, .. }, .func .., .nilfunc => some false
  | some { shape := .struct _, .. }, .agg a, .agg b => if allCells a && allCells b then (match eqT T 40 t a b with
    | some (r, [], []) => some r
    | _ => none) else none
  | _, _, _ => none
def binV (T : TT) (op : BinOp) (t : TypeId) (x y : AV) (q : AV → Option β) : Option β :=
  match x, y with
  | .int k a, .int k' b =>
    match op with
    | .shl => shiftOp .shl k a b q
    | .shr => shiftOp .shr k a b q
    | op => bif decide (k = k') then intOp op k a b q else none
  | .str a, .str b => strOp op a b q
  | x, y => match op with
    | .eql => match eqV T t x y with
      | some b => q (.bool b)
      | none => none
    | .neq => match eqV T t x y with
      | some b => q (.bool (!b))
      | none => none
    | _ => none
def unV (op : UnOp) (x : AV) : Option AV :=
  match op, x with
  | .neg, .int k n => some (.int k (k.wrap (0 - n)))
  | .not, .bool b => some (.bool (!b))
  | _, _ => none
def bounds (len : Nat) (lo hi mx : Option AV) (q : Nat → Nat → Option β) : Option β :=
  match lo, hi, mx with
  | none, none, none => q 0 len
  | some (.int _ l), none, none => if 0 ≤ l ∧ l.toNat ≤ len then q l.toNat len else none
  | none, some (.int _ h), none => if 0 ≤ h ∧ h.toNat ≤ len then q 0 h.toNat else none
  | some (.int _ l), some (.int _ h), none => if 0 ≤ l ∧ 0 ≤ h ∧ l.toNat ≤ h.toNat ∧ h.toNat ≤ len then q l.toNat h.toNat else none
  | some (.int _ l), some (.int _ h), some (.int _ m) => if 0 ≤ l ∧ 0 ≤ h ∧ 0 ≤ m ∧ l.toNat ≤ h.toNat ∧ h.toNat ≤ m.toNat ∧ m.toNat ≤ len then q l.toNat h.toNat else none
  | _, _, _ => none
def isAll : Option AV → Option AV → Option AV → Bool
  | none, none, none => true
  | _, _, _ => false
def sliceV (T : TT) (t : TypeId) (x : AV) (lo hi mx : Option AV) (q : AV → Option β) : Option β :=
  match skT T t, x with
  | .str, .str s => bif mx.isSome then none else bounds s.size lo hi none fun l h => q (.str (s.extract l h))
  | .slice e, .slice a b o n st nl w => bif decide (sizeT T e = st ∧ 0 < st) then (bif w && isAll lo hi mx then q (.slice a b o n st nl w) else bounds n lo hi mx fun l h => q (.slice a b (o + l) (h - l) st nl false)) else none
  | .arr n e, .ptr a b 0 1 => bif mx.isSome || decide (sizeT T e = 0) then none else bounds n lo hi none fun l h => q (.slice a b l (h - l) (sizeT T e) false false)
  | _, _ => none
def fieldAddrV (T : TT) (s : TypeId) (x : AV) (f : Nat) : Option AV :=
  match x with
  | .ptr a b i st => match fieldOf T s f with
    | some (off, t) => if sizeT T t = 0 then none else some (.ptr a (b + off) i st)
    | none => none
  | _ => none
/-- of pieces: a variable of a type -/
def cellsV (T : TT) (t : TypeId) (ss : List Seg) (b : Nat) : Option AV :=
  if sizeT T t = 0 then none else if aggT T t then (match segCut ss b (sizeT T t) with | some x => some (.agg x) | none => none) else segGet ss b 0
def fieldV (T : TT) (s : TypeId) (x : AV) (f : Nat) : Option AV :=
  match x with
  | .agg ss => match fieldOf T s f with
    | some (off, t) => cellsV T t ss off
    | none => none
  | _ => none
def indexAddrV (T : TT) (t : TypeId) (x i : AV) (q : AV → Option β) : Option β :=
  match skT T t, x, i with
  | .slice e, .slice a b o n st nl _, .int _ i => bif decide (sizeT T e = st ∧ 0 < st) then (if 0 ≤ i ∧ i.toNat < n then q (.ptr a b (o + i.toNat) st) else none) else none
  | .arr n e, .ptr a b 0 1, .int _ i =>
    bif decide (sizeT T e = 0) then none else
    if 0 ≤ i ∧ i.toNat < n then (bif runT T t then (bif decide (sizeT T e = 1) then q (.ptr a b i.toNat 1) else none) else q (.ptr a (b + i.toNat * sizeT T e) 0 1)) else none
  | _, _, _ => none
def bt (s : ByteArray) (i : Nat) : Int := ((s.data.toList.getD i 0).toNat : Int)
def segAt (ss : List Seg) (b i : Nat) (q : AV → Option β) : Option β :=
  match segDrop ss b with
  | some (.run k n l :: _) => if i < n then q (.int k (l.getD i 0)) else none
  | some (.cell v :: _) => bif decide (i = 0) then q v else none
  | _ => none
def indexV (T : TT) (t : TypeId) (x i : AV) (q : AV → Option β) : Option β :=
  match skT T t, x, i with
  | .str, .str s, .int _ i => if 0 ≤ i ∧ i.toNat < s.size then q (.int .u8 (bt s i.toNat)) else none
  | .arr n e, .agg ss, .int _ i =>
    bif decide (sizeT T e = 0) then none else
    if 0 ≤ i ∧ i.toNat < n then
      (bif runT T t then (bif decide (sizeT T e = 1) && !aggT T e then segAt ss 0 i.toNat q else none) else match cellsV T e ss (i.toNat * sizeT T e) with | some v => q v | none => none)
    else none
  | _, _, _ => none
def nth : List AV → Nat → Option AV
  | [], _ => none
  | v :: r, i => if i = 0 then some v else nth r (i - 1)
def min2 : AV → AV → Option AV
  | .int k x, .int k' y => if k = k' then some (.int k (if y < x then y else x)) else none
  | _, _ => none
def max2 : AV → AV → Option AV
  | .int k x, .int k' y => if k = k' then some (.int k (if y > x then y else x)) else none
  | _, _ => none
def foldV (f : AV → AV → Option AV) : AV → List AV → Option AV
  | x, [] => some x
  | x, y :: r => match f x y with
    | some z => foldV f z r
    | none => none
def typ (T : TT) (c : Call) (i : Nat) : SK := match c.argTypes[i]? with | some t => skT T t | none => .other
def lenV (k : SK) (args : List AV) : Option AV :=
  match k, args with
  | .str, [.str s] => some (.int .i64 s.size)
  | .slice _, [.slice _ _ _ n _ _ _] => some (.int .i64 n)
  | .slice _, [.nilsl] => some (.int .i64 0)
  | .arr n _, [_] => some (.int .i64 n)
  | _, _ => none
def pureCall (T : TT) (c : Call) (args : List AV) : Option AV :=
  match c.callee with
  | .builtin .len => lenV (typ T c 0) args
  | .builtin .min => match args with | x :: r => foldV min2 x r | _ => none
  | .builtin .max => match args with | x :: r => foldV max2 x r | _ => none
  | _ => none
def onSome (x : Option AV) (q : AV → Option β) : Option β := match x with | some v => q v | none => none
def mapO (t : Tm) : Option Operand → Option AV
  | some x => some (opv t x)
  | none => none
def opvs (t : Tm) : List Operand → List AV
  | [] => []
  | x :: r => opv t x :: opvs t r
def evPure (T : TT) (t : Tm) (op : Op) (q : AV → Option β) : Option β :=
  match op with
  | .move x | .assign x => q (opv t x)
  | .pick c a b => onSome (pickV (opv t c) (opv t a) (opv t b)) q
  | .nilCheck x => match opv t x with
    | .ptr a b i st => q (.ptr a b i st)
    | _ => none
  | .binOp op ty x y _ => binV T op ty (opv t x) (opv t y) q
  | .unOp op _ x => onSome (unV op (opv t x)) q
  | .convert src dst x => match T src, T dst, opv t x with
    | some _, some { shape := .int k, .. }, .int _ n => q (.int k (k.wrap n))
    | _, _, _ => none
  | .makeInterface ty x => match T ty with
    | some { shape := .iface, .. } => none
    | some _ => q (.iface ty (opv t x))
    | none => none
  | .makeFunc (.func f) first caps => q (.func f (opvs t first.toList) (opvs t caps.toList))
  | .slice ty x lo hi mx => sliceV T ty (opv t x) (mapO t lo) (mapO t hi) (mapO t mx) q
  | .fieldAddr s x f => onSome (fieldAddrV T s (opv t x) f) q
  | .field s x f => onSome (fieldV T s (opv t x) f) q
  | .indexAddr ty x i => indexAddrV T ty (opv t x) (opv t i) q
  | .index ty x i => indexV T ty (opv t x) (opv t i) q
  | .extract x i => match opv t x with
    | .tuple vs => onSome (nth vs i) q
    | _ => none
  | .call c => onSome (pureCall T c (opvs t c.args.toList)) q
  | _ => none

/-! ### operations that lay new blocks -/
def makeS (T : TT) (n : Nat) (t : TypeId) (len cap : AV) (q : AV → List Blk → Option β) : Option β :=
  match sliceT T t, len, cap with
  | some e, .int _ l, .int _ c =>
    match colsT T e with
    | some ks =>
      bif decide (ks.length ≤ 64 ∧ bytesT T e ≤ 64) then
        if 0 ≤ l ∧ l ≤ c ∧ c ≤ 1099511627776 then q (.slice n 0 0 l.toNat ks.length false true) [.dyn true e (ks.map (ColK.zeros l.toNat))] else none
      else none
    | _ => none
  | _, _, _ => none
def onNew (x : Option (AV × List Blk)) (q : AV → List Blk → Option β) : Option β := match x with | some (v, bs) => q v bs | none => none
def boxAs (n : Nat) (e : TypeId) (x : Option (List Seg × List Blk)) (q : AV → List Blk → Option β) : Option β :=
  match x with
  | some (ss, bs) => q (.ptr (n + bs.length) 0 0 1) (bs ++ [.segs true e ss])
  | none => none
def partsV (t : Tm) : List (Nat × Operand) → List (Nat × AV)
  | [] => []
  | (i, x) :: r => (i, opv t x) :: partsV t r
def evAlloc (T : TT) (t : Tm) (n : Nat) (ty : TypeId) (op : Op) (q : AV → List Blk → Option β) : Option β :=
  match op with
  | .move x | .assign x => onNew (mat T n ty (opv t x)) q
  | .alloc e => boxAs n e (zeroSegs T n e) q
  | .box e x => boxAs n e (match segsAs T n e (opv t x) with | some (ss, bs) => if segSize ss = sizeT T e then some (ss, bs) else none | none => none) q
  | .build e parts => onNew (buildS T n e (partsV t parts.toList)) q
  | .buildSlice e len parts => onNew (buildSliceS T n e len (partsV t parts.toList)) q
  | .makeSlice e l c => makeS T n e (opv t l) (opv t c) q
  | .convert src dst x => match sliceT T dst, opv t x with
    | some e, .str s => bif strT T src && byteT T e then q (.slice n 0 0 s.size 1 false true) [.dyn true e [.ints .u8 (strInts s)]] else none
    | _, _ => none
  | .range ty x => match opv t x with
    | .str s => bif strT T ty then q (.ptr n 0 0 1) [.iter s 0] else none
    | _ => none
  | _ => none

/-! ### operations that read memory -/
def mkStr (l : List Int) : ByteArray := ⟨(l.map fun n => UInt8.ofNat n.toNat).toArray⟩
def loadV (T : TT) (t : TypeId) (H : Heap) (x : AV) (q : AV → Option β) : Option β :=
  match x with
  | .ptr a b i st => match T t with
    | none => none
    | some ti => match H[a]? with
      | some (.segs _ _ ss) =>
        bif ti.agg then (bif decide (i = 0) then (match segCut ss b ti.size with | some x => q (.agg x) | none => none) else none)
        else bif decide (st = 1) then segAt ss b i q
        else segAt ss (b + i * st) 0 q
      | some (.dyn _ _ cols) =>
        bif decide (st = cols.length) then
          lenK cols fun m => (if i < m then
            (bif ti.agg then (match segCut (colsRow i cols) b ti.size with | some x => q (.agg x) | none => none) else onSome (colGet1 cols b i) q)
          else none)
        else none
      | _ => none
  | _ => none
/-- the elements of a slice as columns -/
def elems (H : Heap) (x : AV) (q : List Col → Option β) : Option β :=
  match x with
  | .slice a b o n st _ _ => match H[a]? with
    | some (.dyn _ _ cols) => bif decide (b = 0 ∧ st = cols.length) then lenK cols fun m => (if o + n ≤ m then q (cols.map fun c => c.cut o n) else none) else none
    | some (.segs _ _ ss) => match segDrop ss b with
      | some (.run k m l :: _) => bif decide (st = 1) then (if o + n ≤ m then q [.ints k ((l.drop o).take n)] else none) else none
      | _ => none
    | _ => none
  | _ => none
/-- a slice's elements: all of them -/
def elemsW (H : Heap) (x : AV) (q : List Col → Option β) : Option β :=
  match x with
  | .slice a 0 0 n st nl true => match H[a]? with
    | some (.dyn _ _ cols) => bif decide (st = cols.length) then lenK cols fun m => (if n = m then q cols else none) else none
    | _ => none
  | x => elems H x q
def evRead (T : TT) (t : Tm) (H : Heap) (op : Op) (q : AV → Option β) : Option β :=
  match op with
  | .load ty x => loadV T ty H (opv t x) q
  | .convert src dst x => bif strT T dst then (match opv t x with
    | .str s => bif strT T src then q (.str s) else none
    | v => match sliceT T src with
      | some e => bif byteT T e then (elemsW H v fun cs => match cs with
        | [.ints .u8 l] => q (.str (mkStr l))
        | _ => none) else none
      | none => none) else none
  | _ => none

/-! ### operations that write memory -/
def segUpd (ss : List Seg) (b i : Nat) (x : AV) (q : List Seg → Option β) : Option β :=
  match segTake ss b, segDrop ss b with
  | some l, some (.run k n z :: r) => match x with
    | .int k' m => bif decide (k' = k) then (if i < n then q (l ++ .run k n (z.set i m) :: r) else none) else none
    | _ => none
  | some l, some (.cell _ :: r) => bif decide (i = 0) then (bif x.one then q (l ++ .cell x :: r) else none) else none
  | _, _ => none
def storeV (T : TT) (t : TypeId) (H : Heap) (x v : AV) (q : Heap → Option β) : Option β :=
  match x with
  | .ptr a b i st =>
    match segsAs T H.length t v with
    | none => none
    | some (vs, bs) =>
      bif (T t).isSome && decide (segSize vs = sizeT T t) then
        match H[a]? with
        | some (.segs true ty ss) =>
          match vs with
          | [.cell v'] => bif decide (st = 1) then segUpd ss b i v' (fun ss' => q ((H ++ bs).set a (.segs true ty ss'))) else segUpd ss (b + i * st) 0 v' (fun ss' => q ((H ++ bs).set a (.segs true ty ss')))
          | vs => bif decide (i = 0) then (match segPut ss b vs with | some ss' => q ((H ++ bs).set a (.segs true ty ss')) | none => none) else none
        | some (.dyn true ty cols) =>
          bif decide (st = cols.length) then
            lenK cols fun m => (if i < m then
              (match vs with
               | [.cell v'] => match colSet1 cols b i v' with | some cs => q ((H ++ bs).set a (.dyn true ty cs)) | none => none
               | vs => bif decide (b = 0 ∧ vs.length = st) then (match colsSet cols i (vs.map Seg.val) with | some cs => q ((H ++ bs).set a (.dyn true ty cs)) | none => none) else none)
            else none)
          else none
        | _ => none
      else none
  | _ => none
def isEmptyCols (l : List Col) : Bool := match l with
  | .ints _ [] :: _ => true
  | .bools [] :: _ => true
  | _ => false
def srcOf (H : Heap) (ks : List ColK) (x : AV) (q : List Col → Option β) : Option β :=
  match x with
  | .str z => match ks with
    | [.int .u8] => q [.ints .u8 (strInts z)]
    | _ => none
  | .nilsl => q (ks.map ColK.nils)
  | x => elemsW H x q
/-- a slice's type, a string's -/
def rowK : SK → Bool
  | .slice _ | .str => true
  | _ => false
def appendV (T : TT) (c : Call) (H : Heap) (s x : AV) (q : AV → Heap → Option β) : Option β :=
  match typ T c 0 with
  | .slice e =>
    match colsT T e with
    | some ks =>
      bif rowK (typ T c 1) && decide (ks.length ≤ 64 ∧ bytesT T e ≤ 64) then
        srcOf H ks x fun new =>
        match s with
        | .slice a 0 0 n st nl true => match H[a]? with
          | some (.dyn true ty cols) =>
            bif decide (st = ks.length ∧ cols.length = ks.length) then
              lenK cols fun m => lenK new fun m' => (if n = m ∧ m + m' ≤ 1099511627776 then
                match colsApp cols new with
                | some cs => lenK cs fun m'' => q (.slice H.length 0 0 m'' st (isEmptyCols new && nl) true) (H.set a .dead ++ [.dyn true ty cs])
                | none => none
              else none)
            else none
          | _ => none
        | .nilsl =>
          lenK new fun m' => if m' ≤ 1099511627776 then
            match colsApp (ks.map ColK.nils) new with
            | some cs => lenK cs fun m'' => q (.slice H.length 0 0 m'' ks.length (isEmptyCols new) true) (H ++ [.dyn true e cs])
            | none => none
          else none
        | _ => none
      else none
    | _ => none
  | _ => none
def copyV (T : TT) (c : Call) (H : Heap) (d s : AV) (q : AV → Heap → Option β) : Option β :=
  match typ T c 0, d, s with
  | .slice e, .slice a 0 o n st _ _, .slice a' b' o' n' st' nl' w' =>
    elems H (.slice a' b' o' (min n' n) st' nl' false) fun new =>
    match H[a]? with
    | some (.dyn true ty cols) =>
      bif decide (st = cols.length ∧ st' = st ∧ sizeT T e = st) then
        lenK cols fun m => lenK new fun m' => (if o + n ≤ m ∧ m' = min n' n then
          match colsOver cols o new with
          | some cs => q (.int .i64 (min n' n : Nat)) (H.set a (.dyn true ty cs))
          | none => none
        else none)
      else none
    | _ => none
  | _, _, _ => none

/-! ### calls: on a part of the heap -/
@[irreducible] def onCall (r : Option (AV × Heap)) (q : AV → Heap → Option β) : Option β :=
  match r with
  | some (v, H) => q v H
  | none => none
theorem onCall_some {v : AV} {H : Heap} {q : AV → Heap → Option β} : onCall (some (v, H)) q = q v H := by unfold onCall; rfl
theorem onCall_none {q : AV → Heap → Option β} : onCall none q = none := by unfold onCall; rfl
theorem onCall_eq {r : Option (AV × Heap)} {v : AV} {H : Heap} (h : r = some (v, H)) {q : AV → Heap → Option β} : onCall r q = q v H := by subst h; exact onCall_some
def unpos (ids : List Nat) (n i : Nat) : Option Nat :=
  match ids[i]? with
  | some a => some a
  | none => some (n + (i - ids.length))
def putAll : Heap → List Nat → Heap → Heap
  | H, a :: r, b :: bs => putAll (H.set a b) r bs
  | H, _, _ => H
def onPart (f : Fsem) (args : List AV) (H : Heap) (q : AV → Heap → Option β) : Option β :=
  let p := hpart H (AV.idsL args)
  onCall (f (AV.renL (posOf p.1 0) args) p.2) fun v Hl =>
    bif decide (p.1.length ≤ Hl.length) then
      let g := unpos p.1 H.length
      let Hg := renH g Hl
      q (v.ren g) (putAll H p.1 (Hg.take p.1.length) ++ Hg.drop p.1.length)
    else none
def callV (G : Ctx) (f : FuncId) (args : List AV) (H : Heap) (q : AV → Heap → Option β) : Option β :=
  match G.C f with
  | some sem => onPart sem args H q
  | none => none
/-- the next sign of a string that is gone through: only those of one byte -/
def nextV (H : Heap) (isStr : Bool) (x : AV) (q : AV → Heap → Option β) : Option β :=
  match x with
  | .ptr a 0 0 1 => match H[a]? with
    | some (.iter s pos) => bif isStr then
        (if pos < s.size then (if bt s pos < 128 then q (.tuple [.bool true, .int .i64 pos, .int .i32 (bt s pos)]) (H.set a (.iter s (pos + 1))) else none)
         else q (.tuple [.bool false]) H) else none
    | _ => none
  | _ => none
/-- bytes turned into their own type -/
def convW (T : TT) (src dst : TypeId) (H : Heap) (x : AV) (q : AV → Heap → Option β) : Option β :=
  match x with
  | .slice a b o n st false true => match sliceT T dst with
    | some e => bif decide (src = dst) && byteT T e then
        (match H[a]? with
         | some (.dyn true ty cols) => q (.slice a b o n st false true) H
         | _ => none) else none
    | none => none
  | _ => none
def evWrite (G : Ctx) (t : Tm) (H : Heap) (op : Op) (q : AV → Heap → Option β) : Option β :=
  match op with
  | .store ty x v => storeV G.T ty H (opv t x) (opv t v) fun H' => q (.tuple []) H'
  | .next x isStr => nextV H isStr (opv t x) q
  | .convert src dst x => convW G.T src dst H (opv t x) q
  | .call c => match c.callee with
    | .builtin .append => match opvs t c.args.toList with
      | [s, x] => appendV G.T c H s x q
      | _ => none
    | .builtin .copy => match opvs t c.args.toList with
      | [d, s] => copyV G.T c H d s q
      | _ => none
    | .builtin _ => none
    | .value f => match opv t f with
      | .func f first caps => callV G f (first ++ opvs t c.args.toList ++ caps) H q
      | _ => none
    | .invoke r name => match opv t r with
      | .iface ty (.ptr a b i st) => match G.M ty name with
        | some f => callV G f (.ptr a b i st :: opvs t c.args.toList) H q
        | none => none
      | _ => none
  | _ => none

def evOp (G : Ctx) (s : St) (o : Oper) (q : AV → Heap → Option β) : Option β :=
  match kindOf G.T o.op with
  | .pure => evPure G.T s.t o.op fun v => q v s.H
  | .alloc => evAlloc G.T s.t s.H.length o.type o.op fun v bs => q v (s.H ++ bs)
  | .read => evRead G.T s.t s.H o.op fun v => q v s.H
  | .write => evWrite G s.t s.H o.op q
def St.put (s : St) (d : Option Tmp) (v : AV) : St :=
  match d with
  | some d => { s with t := (d, v) :: s.t }
  | none => s
def nthO : List Oper → Nat → Option Oper
  | [], _ => none
  | o :: r, i => if i = 0 then some o else nthO r (i - 1)
/-- must it be carried out? What is then known of its guard is laid into the guard's slot. -/
def wants (all : List Oper) (s : St) (o : Oper) (yes no : St → Option β) : Option β :=
  match o.guard with
  | none => yes s
  | some (j, want) => match nthO all j with
    | none => none
    | some g => match g.dst with
      | none => none
      | some d => match lk s.t d with
        | .bool b => match want with
          | true => bif b then yes (s.put (some d) (.bool true)) else no (s.put (some d) (.bool false))
          | false => bif b then no (s.put (some d) (.bool true)) else yes (s.put (some d) (.bool false))
        | .tuple [] => no s
        | _ => none
def evList (G : Ctx) (all : List Oper) : List Oper → St → (St → Option β) → Option β
  | [], s, q => q s
  | o :: r, s, q => wants all s o
      (fun s => evOp G s o fun v H => evList G all r (St.put ⟨s.t, H⟩ o.dst v) q)
      (fun s => evList G all r (s.put o.dst (.tuple [])) q)
/-- an operation's record: the state before it, was it carried out, its value, the heap behind it -/
structure Rec where
  t : Tm
  H0 : Heap
  done : Bool
  v : AV
  H : Heap
def evRec (G : Ctx) (all : List Oper) : List Oper → St → (List Rec → St → Option β) → Option β
  | [], s, q => q [] s
  | o :: r, s, q => wants all s o
      (fun s1 => evOp G s1 o fun v H => evRec G all r (St.put ⟨s1.t, H⟩ o.dst v) fun rs s' => q (⟨s1.t, s1.H, true, v, H⟩ :: rs) s')
      (fun s1 => evRec G all r (s1.put o.dst (.tuple [])) fun rs s' => q (⟨s1.t, s1.H, false, .tuple [], s1.H⟩ :: rs) s')
/-- the blocks that operations from 'i' on laid, as far as they are among 'keep' -/
def newB (keep : List Nat) : Nat → List Rec → Heap
  | _, [] => []
  | i, r :: rs => (bif memN keep i then r.H.drop r.H0.length else List.replicate (r.H.length - r.H0.length) .dead) ++ newB keep (i + 1) rs
def nthR : List Rec → Nat → Option Rec
  | [], _ => none
  | o :: r, i => if i = 0 then some o else nthR r (i - 1)
def heapAt (rs : List Rec) (H0 : Heap) (c : Option Nat) (keep : List Nat) : Heap :=
  match c with
  | none => H0 ++ newB keep 0 rs
  | some w => match nthR rs w with
    | some r => r.H ++ newB keep (w + 1) (rs.drop (w + 1))
    | none => []
open Classical in
/-- the Bool first, so that values without unknowns are told alike by reckoning -/
@[irreducible] noncomputable def sameV (x : Option AV) (v : AV) (b : Option β) : Option β := bif eqO x v then b else if x = some v then b else none
noncomputable def runEnts (G : Ctx) (ops : List Oper) (rs : List Rec) (H0 : Heap) (b : Option β) : List (Nat × Option Nat × List Nat) → Option β
  | [] => b
  | (i, c, keep) :: l => match nthR rs i, nthO ops i with
    | some r, some o => bif r.done then sameV (evRead G.T r.t (heapAt rs H0 c keep) o.op some) r.v (runEnts G ops rs H0 b l) else runEnts G ops rs H0 b l
    | _, _ => none
def drawOf : List Draw → Nat → Option Draw
  | [], _ => none
  | d :: r, i => if i = d.id then some d else drawOf r i
end cps

/-! ### code -/
inductive XT where
  | normal | exit (id : Nat) | ret
abbrev Out := Option (XT × St)
/-- the slots that are kept -/
def keepT (t : Tm) : List Nat → Tm
  | [] => []
  | k :: r => (k, lk t k) :: keepT t r
def idsT : Tm → List Nat
  | [] => []
  | (_, v) :: r => v.ids ++ idsT r
def renT (f : Nat → Option Nat) : Tm → Tm
  | [] => []
  | (k, v) :: r => (k, v.ren f) :: renT f r
def upto : Nat → List Nat
  | 0 => []
  | n + 1 => upto n ++ [n]
/-- the least part: the first m blocks, and what is reached from them and the kept slots -/
def clean (m : Nat) (keep : List Nat) (s : St) : St :=
  let t := keepT s.t keep
  let ids := reach s.H 64 0 (addIds (upto m) (liveIds s.H (idsT t)))
  ⟨renT (posOf ids 0) t, renH (posOf ids 0) (pick s.H ids)⟩
def loopEnd (go : St → Out) (m : Nat) (l : Lk) : XT → St → Out
  | .normal, s => go (clean m l.pre s)
  | .exit id, s => some (.exit id, clean m l.post s)
  | .ret, s => some (.ret, clean m l.ret s)
def iter (f : St → (XT → St → Out) → Out) (m : Nat) (l : Lk) : Nat → St → Out
  | 0, _ => none
  | n + 1, s => f s (loopEnd (iter f m l n) m l)
def firstRegion : Code → Option Nat
  | .region id _ _ => some id
  | .seq a b => match firstRegion a with | some x => some x | none => firstRegion b
  | .cond _ a b => match firstRegion a with | some x => some x | none => firstRegion b
  | .block _ c | .loop c => firstRegion c
  | _ => none
def lkey : List Lk → Nat → Option Lk
  | [], _ => none
  | a :: r, k => if k = a.key then some a else lkey r k
/-- the body of the loop of a key -/
def findLoop (key : Nat) : Code → Option Code
  | .seq a b => match findLoop key a with | some x => some x | none => findLoop key b
  | .cond _ a b => match findLoop key a with | some x => some x | none => findLoop key b
  | .block _ c => findLoop key c
  | .loop c => if firstRegion c = some key then some c else findLoop key c
  | _ => none
def bodyOf (fn : Func) : Code := match fn.body with | some c => c | none => .skip
def loopOf (fn : Func) (key : Nat) : Code := match findLoop key (bodyOf fn) with | some c => c | none => .skip
@[irreducible] def onOut {β : Type} (r : Out) (q : XT → St → Option β) : Option β :=
  match r with
  | some (e, s) => q e s
  | none => none
theorem onOut_some {β : Type} {e : XT} {s : St} {q : XT → St → Option β} : onOut (some (e, s)) q = q e s := by unfold onOut; rfl
theorem onOut_none {β : Type} {q : XT → St → Option β} : onOut none q = none := by unfold onOut; rfl
theorem onOut_eq {β : Type} {r : Out} {e : XT} {s : St} (h : r = some (e, s)) {q : XT → St → Option β} : onOut r q = q e s := by subst h; exact onOut_some
def seqK {β : Type} (k : XT → St → Option β) (f : St → Option β) : XT → St → Option β
  | .normal, s => f s
  | e, s => k e s
def blockK {β : Type} (id : Nat) (k : XT → St → Option β) : XT → St → Option β
  | .exit j, s => bif decide (j = id) then k .normal s else k (.exit j) s
  | e, s => k e s
def condK {β : Type} (c : AV) (a b : Option β) : Option β :=
  match c with
  | .bool t => bif t then a else b
  | _ => none
noncomputable def ev (G : Ctx) (m : Nat) : Code → {β : Type} → St → (XT → St → Option β) → Option β
  | .skip, _, s, k => k .normal s
  | .region id ops draw, _, s, k => bif draw then (match drawOf G.D id with
      | some d => evRec G ops.toList ops.toList s fun rs s' => runEnts G ops.toList rs s.H (k .normal s') d.ents
      | none => none) else evList G ops.toList ops.toList s (k .normal)
  | .seq a b, _, s, k => ev G m a s (seqK k fun s' => ev G m b s' k)
  | .cond c a b, _, s, k => condK (opv s.t c) (ev G m a s k) (ev G m b s k)
  | .block id c, _, s, k => ev G m c s (blockK id k)
  | .loop c, _, s, k => match firstRegion c with
    | none => none
    | some key => match lkey G.A key with
      | none => none
      | some l => onOut (iter (fun s k => ev G m c s k) m l G.fuel (clean m l.pre s)) k
  | .exit id, _, s, k => k (.exit id) s
  | .ret, _, s, k => k .ret s
  | _, _, _, _ => none

/-- the loop of a key, as 'ev' has it -/
noncomputable def lp (G : Ctx) (m : Nat) (fn : Func) (key : Nat) (n : Nat) (s : St) : Out :=
  match lkey G.A key with
  | some l => iter (fun s k => ev G m (loopOf fn key) s k) m l n s
  | none => none

/-! ### functions -/
def argsT : Nat → List AV → Tm
  | _, [] => []
  | i, v :: r => (i, v) :: argsT (i + 1) r
def resL {β : Type} (T : TT) (s : St) : List ResultVar → (List AV → Option β) → Option β
  | [], q => q []
  | .tmp t :: rs, q => resL T s rs fun vs => q (lk s.t t :: vs)
  | .cell a ty :: rs, q => loadV T ty s.H (lk s.t a) fun v => resL T s rs fun vs => q (v :: vs)
def pack : List AV → AV
  | [v] => v
  | vs => .tuple vs
/-- the end of a call: its results, and the least part of the heap -/
def least (m : Nat) (v : AV) (H : Heap) : AV × Heap :=
  let ids := reach H 64 0 (addIds (upto m) (liveIds H v.ids))
  (v.ren (posOf ids 0), renH (posOf ids 0) (pick H ids))
def atEnd (T : TT) (m : Nat) (rs : List ResultVar) : XT → St → Option (AV × Heap)
  | .exit _, _ => none
  | _, s => resL T s rs fun vs => some (least m (pack vs) s.H)
noncomputable def semF (G : Ctx) (fn : Func) : Fsem := fun args H =>
  match fn.body with
  | some c => ev G H.length c ⟨argsT 0 args, H⟩ (atEnd G.T H.length fn.results.toList)
  | none => none

end Go.Abs
