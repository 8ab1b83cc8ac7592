/-
An abstract interpreter for the translated code: its values, its heap, its operations. Definitions only.
-/
import Derived.OrdersIn
import Derived.RangeFuncIn
set_option linter.unusedVariables false
set_option linter.unusedSimpArgs false
namespace Go.Abs

mutual
/-- An abstract value. Blocks are named by their place in an abstract heap. -/
inductive AV where
  | undef
  | bool (b : Bool)
  | int (k : IntKind) (n : Int)
  | str (s : ByteArray)
  | nilptr
  /-- the cell 'base + idx * st' of a block -/
  | ptr (a base idx st : Nat)
  /-- 'len' elements of 'st' cells each, from the cell 'base + off * st' of a block on; 'nl': it is nil; 'whole': it is all that its block holds -/
  | slice (a base off len st : Nat) (nl whole : Bool)
  /-- the constant nil of a slice's type -/
  | nilsl
  | func (f : FuncId) (first caps : List AV)
  | nilfunc
  | yield (l : Nat)
  | iface (t : TypeId) (v : AV)
  | niliface
  | agg (segs : List Seg)
  | tuple (vs : List AV)
/-- A piece of a row of cells: one cell, or n whole numbers of one kind. -/
inductive Seg where
  | cell (v : AV)
  | run (k : IntKind) (n : Nat) (l : List Int)
end
instance : Inhabited AV := ⟨.undef⟩
instance : Inhabited Seg := ⟨.cell .undef⟩

/-- A column of a row of elements. -/
inductive Col where
  | ints (k : IntKind) (l : List Int)
  | bools (l : List Bool)
  deriving Inhabited

inductive ColK where
  | int (k : IntKind)
  | bool
  deriving DecidableEq, Inhabited

inductive Blk where
  | dead
  | segs (rw : Bool) (t : TypeId) (ss : List Seg)
  /-- elements of type t, a column a cell of theirs -/
  | dyn (rw : Bool) (t : TypeId) (cols : List Col)
  /-- a string that is gone through, and how far -/
  | iter (s : ByteArray) (pos : Nat)
  deriving Inhabited

abbrev Heap := List Blk

def Blk.live : Blk → Bool
  | .dead => false
  | _ => true
def Blk.rw : Blk → Bool
  | .dead => false
  | .segs rw _ _ | .dyn rw _ _ => rw
  | .iter _ _ => true

namespace Col
def len : Col → Nat
  | .ints _ l => l.length
  | .bools l => l.length
def kind : Col → ColK
  | .ints k _ => .int k
  | .bools _ => .bool
def get : Col → Nat → AV
  | .ints k l, i => .int k (l.getD i 0)
  | .bools l, i => .bool (l.getD i false)
def set : Col → Nat → AV → Option Col
  | .ints k l, i, .int k' n => if k' = k then some (.ints k (l.set i n)) else none
  | .bools l, i, .bool b => some (.bools (l.set i b))
  | _, _, _ => none
def app : Col → Col → Option Col
  | .ints k l, .ints k' l' => if k' = k then some (.ints k (l ++ l')) else none
  | .bools l, .bools l' => some (.bools (l ++ l'))
  | _, _ => none
/-- n of its elements, from i on -/
def cut : Col → Nat → Nat → Col
  | .ints k l, i, n => .ints k ((l.drop i).take n)
  | .bools l, i, n => .bools ((l.drop i).take n)
/-- from i on as another one has it -/
def over : Col → Nat → Col → Option Col
  | .ints k l, i, .ints k' l' => if k' = k then some (.ints k (l.take i ++ l' ++ l.drop (i + l'.length))) else none
  | .bools l, i, .bools l' => some (.bools (l.take i ++ l' ++ l.drop (i + l'.length)))
  | _, _, _ => none
end Col

def ColK.nils : ColK → Col
  | .int k => .ints k []
  | .bool => .bools []
def ColK.zeros (n : Nat) : ColK → Col
  | .int k => .ints k (List.replicate n 0)
  | .bool => .bools (List.replicate n false)

def colsLen : List Col → Nat
  | [] => 0
  | c :: _ => c.len
def colsSet : List Col → Nat → List AV → Option (List Col)
  | [], _, [] => some []
  | c :: cs, i, v :: vs => (c.set i v).bind fun c' => (colsSet cs i vs).map (c' :: ·)
  | _, _, _ => none
def colsApp : List Col → List Col → Option (List Col)
  | [], [] => some []
  | c :: cs, d :: ds => (c.app d).bind fun c' => (colsApp cs ds).map (c' :: ·)
  | _, _ => none
def colsOver : List Col → Nat → List Col → Option (List Col)
  | [], _, [] => some []
  | c :: cs, i, d :: ds => (c.over i d).bind fun c' => (colsOver cs i ds).map (c' :: ·)
  | _, _, _ => none
def colSet1 : List Col → Nat → Nat → AV → Option (List Col)
  | [], _, _, _ => none
  | c :: cs, j, i, v => if j = 0 then (c.set i v).map (· :: cs) else (colSet1 cs (j - 1) i v).map (c :: ·)
def colGet1 : List Col → Nat → Nat → Option AV
  | [], _, _ => none
  | c :: cs, j, i => if j = 0 then some (c.get i) else colGet1 cs (j - 1) i
def colsRow (i : Nat) : List Col → List Seg
  | [] => []
  | c :: cs => .cell (c.get i) :: colsRow i cs

/-! ### pieces -/
def segSize : List Seg → Nat
  | [] => 0
  | .cell _ :: r => segSize r + 1
  | .run _ n _ :: r => segSize r + n
def segGet : List Seg → Nat → Nat → Option AV
  | [], _, _ => none
  | .cell v :: r, b, i => if b = 0 then (if i = 0 then some v else none) else segGet r (b - 1) i
  | .run k n l :: r, b, i => if b < n then (if b + i < n then some (.int k (l.getD (b + i) 0)) else none) else segGet r (b - n) i
def segSet : List Seg → Nat → Nat → AV → Option (List Seg)
  | [], _, _, _ => none
  | .cell v :: r, b, i, x => if b = 0 then (if i = 0 then some (.cell x :: r) else none) else (segSet r (b - 1) i x).map (.cell v :: ·)
  | .run k n l :: r, b, i, x =>
    if b < n then
      match x with
      | .int k' m => if k' = k then (if b + i < n then some (.run k n (l.set (b + i) m) :: r) else none) else none
      | _ => none
    else (segSet r (b - n) i x).map (.run k n l :: ·)
def segDrop : List Seg → Nat → Option (List Seg)
  | [], b => if b = 0 then some [] else none
  | .cell v :: r, b => if b = 0 then some (.cell v :: r) else segDrop r (b - 1)
  | .run k n l :: r, b => if b = 0 then some (.run k n l :: r) else if n ≤ b then segDrop r (b - n) else none
def segTake : List Seg → Nat → Option (List Seg)
  | [], b => if b = 0 then some [] else none
  | .cell v :: r, b => if b = 0 then some [] else (segTake r (b - 1)).map (.cell v :: ·)
  | .run k n l :: r, b => if b = 0 then some [] else if n ≤ b then (segTake r (b - n)).map (.run k n l :: ·) else none
def segCut (ss : List Seg) (b n : Nat) : Option (List Seg) := (segDrop ss b).bind fun r => segTake r n
def segPut (ss : List Seg) (b : Nat) (new : List Seg) : Option (List Seg) :=
  (segTake ss b).bind fun x => (segDrop ss (b + segSize new)).map fun y => x ++ new ++ y

/-! ### types -/
inductive Shape where
  | bool | str | ptr (e : TypeId) | slice (e : TypeId) | arr (n : Nat) (e : TypeId) | struct (fs : List (Nat × TypeId))
  | int (k : IntKind) | func | iface | other
  deriving Inhabited
/-- a cell of a zero value, or some: a whole number's row, a nil slice -/
inductive ZS where
  | v (x : AV)
  | run (k : IntKind) (n : Nat)
  | sl (e : TypeId)
  deriving Inhabited
structure TI where
  size : Nat
  bytes : Nat
  agg : Bool
  shape : Shape
  zero : Option (List ZS)
  cols : Option (List ColK)
  deriving Inhabited

/-- what is known of types -/
abbrev TT := TypeId → Option TI
def tget : List (TypeId × TI) → TypeId → Option TI
  | [], _ => none
  | (u, i) :: r, t => if u = t then some i else tget r t

/-! ### renaming -/
mutual
def AV.ren (f : Nat → Option Nat) : AV → AV
  | .ptr a b i s => match f a with | some a' => .ptr a' b i s | none => .undef
  | .slice a b o l s nl w => match f a with | some a' => .slice a' b o l s nl w | none => .undef
  | .func g xs cs => .func g (AV.renL f xs) (AV.renL f cs)
  | .iface t v => .iface t (v.ren f)
  | .agg ss => .agg (AV.renS f ss)
  | .tuple vs => .tuple (AV.renL f vs)
  | v => v
def AV.renL (f : Nat → Option Nat) : List AV → List AV
  | [] => []
  | v :: r => v.ren f :: AV.renL f r
def AV.renS (f : Nat → Option Nat) : List Seg → List Seg
  | [] => []
  | .cell v :: r => .cell (v.ren f) :: AV.renS f r
  | .run k n l :: r => .run k n l :: AV.renS f r
end
def Blk.ren (f : Nat → Option Nat) : Blk → Blk
  | .segs rw t ss => .segs rw t (AV.renS f ss)
  | b => b

/-! ### the blocks that a value names, in order -/
mutual
def AV.ids : AV → List Nat
  | .ptr a _ _ _ => [a]
  | .slice a _ _ _ _ _ _ => [a]
  | .func _ xs cs => AV.idsL xs ++ AV.idsL cs
  | .iface _ v => v.ids
  | .agg ss => AV.idsS ss
  | .tuple vs => AV.idsL vs
  | _ => []
def AV.idsL : List AV → List Nat
  | [] => []
  | v :: r => v.ids ++ AV.idsL r
def AV.idsS : List Seg → List Nat
  | [] => []
  | .cell v :: r => v.ids ++ AV.idsS r
  | .run _ _ _ :: r => AV.idsS r
end
def Blk.ids : Blk → List Nat
  | .segs _ _ ss => AV.idsS ss
  | _ => []

def memN : List Nat → Nat → Bool
  | [], _ => false
  | x :: r, a => if x = a then true else memN r a
def addIds : List Nat → List Nat → List Nat   -- ids, and those of more that are not among them
  | acc, [] => acc
  | acc, x :: r => if memN acc x then addIds acc r else addIds (acc ++ [x]) r
def liveIds (H : Heap) : List Nat → List Nat
  | [] => []
  | a :: r => match H[a]? with
    | some .dead => liveIds H r
    | none => liveIds H r
    | some _ => a :: liveIds H r
/-- breadth first: 'done' are those that were looked into -/
def reach (H : Heap) : Nat → Nat → List Nat → List Nat
  | 0, _, ids => ids
  | fuel + 1, i, ids =>
    match ids[i]? with
    | none => ids
    | some a => match H[a]? with
      | some b => reach H fuel (i + 1) (addIds ids (liveIds H b.ids))
      | none => reach H fuel (i + 1) ids

def posOf : List Nat → Nat → Nat → Option Nat
  | [], _, _ => none
  | x :: r, i, a => if x = a then some i else posOf r (i + 1) a
def pick (H : Heap) : List Nat → Heap
  | [] => []
  | a :: r => (H[a]?).getD .dead :: pick H r
def renH (f : Nat → Option Nat) : Heap → Heap
  | [] => []
  | b :: r => b.ren f :: renH f r

/-- the part of a heap that is reached from some blocks, and these blocks' names -/
def hpart (H : Heap) (roots : List Nat) : List Nat × Heap :=
  let ids := reach H 64 0 (addIds [] (liveIds H roots))
  (ids, renH (posOf ids 0) (pick H ids))

end Go.Abs
