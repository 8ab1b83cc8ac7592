/-
The evaluator along one way: a tape tells how each test goes, and what calls and loops answer; what it asks is gathered. Nothing in it is stuck, so the kernel runs it.
-/
import Derived.Test.YtnkjpkfijafkgaaA21
set_option linter.unusedVariables false
set_option linter.unusedSimpArgs false
namespace Go.Abs
inductive Dec where
  | b (x : Bool)
  | call (g : Option (AV × Heap))
  | out (g : Out)
def TA (β : Type) := List Dec → Option β × Prop
namespace TA
variable {β : Type}
def none : TA β := fun _ => (Option.none, True)
def and (c : Prop) (x : Option β × Prop) : Option β × Prop := match x with | (r, C) => (r, c ∧ C)
def br (c : Bool) (a b : TA β) : TA β := fun t => match t with
  | .b true :: t => and (c = true) (a t)
  | .b false :: t => and (c = false) (b t)
  | _ => (Option.none, False)
def ck (p : Prop) [Decidable p] (a b : TA β) : TA β := br (decide p) a b
def call (r : Option (AV × Heap)) (q : AV → Heap → TA β) : TA β := fun t => match t with
  | .call (some (v, H)) :: t => and (r = some (v, H)) (q v H t)
  | .call Option.none :: t => (Option.none, r = Option.none ∧ True)
  | _ => (Option.none, False)
def out (r : Out) (q : XT → St → TA β) : TA β := fun t => match t with
  | .out (some (e, s)) :: t => and (r = some (e, s)) (q e s t)
  | .out Option.none :: t => (Option.none, r = Option.none ∧ True)
  | _ => (Option.none, False)
def eqv (u v : AV) (b : TA β) : TA β := fun t => and (u = v) (b t)
end TA
section
variable {β : Type}
def lenKT (cols : List Col) (q : Nat → TA β) : TA β :=
  match cols with
  | .ints _ l :: _ => q l.length
  | .bools l :: _ => q l.length
  | [] => q 0
def intOpT (op : BinOp) (k : IntKind) (x y : Int) (q : AV → TA β) : TA β :=
  match op with
  | .add => q (.int k (k.wrap (x + y)))
  | .sub => q (.int k (k.wrap (x - y)))
  | .mul => q (.int k (k.wrap (x * y)))
  | .quo => TA.ck (y = 0) TA.none (q (.int k (k.wrap (x.tdiv y))))
  | .rem => TA.ck (y = 0) TA.none (q (.int k (x.tmod y)))
  | .and => q (.int k (bits k (· &&& ·) x y))
  | .or => q (.int k (bits k (· ||| ·) x y))
  | .xor => q (.int k (bits k (· ^^^ ·) x y))
  | .andNot => q (.int k (bits k (fun a b => a &&& ~~~b) x y))
  | .eql => q (.bool (x == y))
  | .neq => q (.bool (x != y))
  | .lss => q (.bool (decide (x < y)))
  | .leq => q (.bool (decide (x ≤ y)))
  | .gtr => q (.bool (decide (x > y)))
  | .geq => q (.bool (decide (x ≥ y)))
  | _ => TA.none
def shiftOpT (op : BinOp) (k : IntKind) (x y : Int) (q : AV → TA β) : TA β :=
  TA.ck (y < 0) TA.none <|
  match op with
  | .shl => q (.int k (k.wrap (x * 2 ^ (min y.toNat k.bits))))
  | .shr => q (.int k (x.fdiv (2 ^ (min y.toNat k.bits))))
  | _ => TA.none
def strOpT (op : BinOp) (x y : ByteArray) (q : AV → TA β) : TA β :=
  match op with
  | .add => TA.ck (x.size + y.size ≤ 4611686018427387904) (q (.str (x ++ y))) TA.none
  | .eql => q (.bool (x.toList == y.toList))
  | .neq => q (.bool (!(x.toList == y.toList)))
  | _ => TA.none
def binVT (T : TT) (op : BinOp) (t : TypeId) (x y : AV) (q : AV → TA β) : TA β :=
  match x, y with
  | .int k a, .int k' b =>
    match op with
    | .shl => shiftOpT .shl k a b q
    | .shr => shiftOpT .shr k a b q
    | op => bif decide (k = k') then intOpT op k a b q else TA.none
  | .str a, .str b => strOpT op a b q
  | x, y => match op with
    | .eql => match eqV T t x y with
      | some b => q (.bool b)
      | none => TA.none
    | .neq => match eqV T t x y with
      | some b => q (.bool (!b))
      | none => TA.none
    | _ => TA.none
def boundsT (len : Nat) (lo hi mx : Option AV) (q : Nat → Nat → TA β) : TA β :=
  match lo, hi, mx with
  | none, none, none => q 0 len
  | some (.int _ l), none, none => TA.ck (0 ≤ l ∧ l.toNat ≤ len) (q l.toNat len) TA.none
  | none, some (.int _ h), none => TA.ck (0 ≤ h ∧ h.toNat ≤ len) (q 0 h.toNat) TA.none
  | some (.int _ l), some (.int _ h), none => TA.ck (0 ≤ l ∧ 0 ≤ h ∧ l.toNat ≤ h.toNat ∧ h.toNat ≤ len) (q l.toNat h.toNat) TA.none
  | some (.int _ l), some (.int _ h), some (.int _ m) => TA.ck (0 ≤ l ∧ 0 ≤ h ∧ 0 ≤ m ∧ l.toNat ≤ h.toNat ∧ h.toNat ≤ m.toNat ∧ m.toNat ≤ len) (q l.toNat h.toNat) TA.none
  | _, _, _ => TA.none
def sliceVT (T : TT) (t : TypeId) (x : AV) (lo hi mx : Option AV) (q : AV → TA β) : TA β :=
  match skT T t, x with
  | .str, .str s => bif mx.isSome then TA.none else boundsT s.size lo hi none fun l h => q (.str (s.extract l h))
  | .slice e, .slice a b o n st nl w => bif decide (sizeT T e = st ∧ 0 < st) then (bif w && isAll lo hi mx then q (.slice a b o n st nl w) else boundsT n lo hi mx fun l h => q (.slice a b (o + l) (h - l) st nl false)) else TA.none
  | .arr n e, .ptr a b 0 1 => bif mx.isSome || decide (sizeT T e = 0) then TA.none else boundsT n lo hi none fun l h => q (.slice a b l (h - l) (sizeT T e) false false)
  | _, _ => TA.none
def indexAddrVT (T : TT) (t : TypeId) (x i : AV) (q : AV → TA β) : TA β :=
  match skT T t, x, i with
  | .slice e, .slice a b o n st nl _, .int _ i => bif decide (sizeT T e = st ∧ 0 < st) then (TA.ck (0 ≤ i ∧ i.toNat < n) (q (.ptr a b (o + i.toNat) st)) TA.none) else TA.none
  | .arr n e, .ptr a b 0 1, .int _ i =>
    bif decide (sizeT T e = 0) then TA.none else
    TA.ck (0 ≤ i ∧ i.toNat < n) (bif runT T t then (bif decide (sizeT T e = 1) then q (.ptr a b i.toNat 1) else TA.none) else q (.ptr a (b + i.toNat * sizeT T e) 0 1)) TA.none
  | _, _, _ => TA.none
def segAtT (ss : List Seg) (b i : Nat) (q : AV → TA β) : TA β :=
  match segDrop ss b with
  | some (.run k n l :: _) => TA.ck (i < n) (q (.int k (l.getD i 0))) TA.none
  | some (.cell v :: _) => bif decide (i = 0) then q v else TA.none
  | _ => TA.none
def indexVT (T : TT) (t : TypeId) (x i : AV) (q : AV → TA β) : TA β :=
  match skT T t, x, i with
  | .str, .str s, .int _ i => TA.ck (0 ≤ i ∧ i.toNat < s.size) (q (.int .u8 (bt s i.toNat))) TA.none
  | .arr n e, .agg ss, .int _ i =>
    bif decide (sizeT T e = 0) then TA.none else
    TA.ck (0 ≤ i ∧ i.toNat < n)
      (bif runT T t then (bif decide (sizeT T e = 1) && !aggT T e then segAtT ss 0 i.toNat q else TA.none) else match cellsV T e ss (i.toNat * sizeT T e) with | some v => q v | none => TA.none)
      TA.none
  | _, _, _ => TA.none
def onSomeT (x : Option AV) (q : AV → TA β) : TA β := match x with | some v => q v | none => TA.none
def evPureT (T : TT) (t : Tm) (op : Op) (q : AV → TA β) : TA β :=
  match op with
  | .move x | .assign x => q (opv t x)
  | .pick c a b => onSomeT (pickV (opv t c) (opv t a) (opv t b)) q
  | .nilCheck x => match opv t x with
    | .ptr a b i st => q (.ptr a b i st)
    | _ => TA.none
  | .binOp op ty x y _ => binVT T op ty (opv t x) (opv t y) q
  | .unOp op _ x => onSomeT (unV op (opv t x)) q
  | .convert src dst x => match T src, T dst, opv t x with
    | some _, some { shape := .int k, .. }, .int _ n => q (.int k (k.wrap n))
    | _, _, _ => TA.none
  | .makeInterface ty x => match T ty with
    | some { shape := .iface, .. } => TA.none
    | some _ => q (.iface ty (opv t x))
    | none => TA.none
  | .makeFunc (.func f) first caps => q (.func f (opvs t first.toList) (opvs t caps.toList))
  | .slice ty x lo hi mx => sliceVT T ty (opv t x) (mapO t lo) (mapO t hi) (mapO t mx) q
  | .fieldAddr s x f => onSomeT (fieldAddrV T s (opv t x) f) q
  | .field s x f => onSomeT (fieldV T s (opv t x) f) q
  | .indexAddr ty x i => indexAddrVT T ty (opv t x) (opv t i) q
  | .index ty x i => indexVT T ty (opv t x) (opv t i) q
  | .extract x i => match opv t x with
    | .tuple vs => onSomeT (nth vs i) q
    | _ => TA.none
  | .call c => onSomeT (pureCall T c (opvs t c.args.toList)) q
  | _ => TA.none

def makeST (T : TT) (n : Nat) (t : TypeId) (len cap : AV) (q : AV → List Blk → TA β) : TA β :=
  match sliceT T t, len, cap with
  | some e, .int _ l, .int _ c =>
    match colsT T e with
    | some ks =>
      bif decide (ks.length ≤ 64 ∧ bytesT T e ≤ 64) then
        TA.ck (0 ≤ l ∧ l ≤ c ∧ c ≤ 1099511627776) (q (.slice n 0 0 l.toNat ks.length false true) [.dyn true e (ks.map (ColK.zeros l.toNat))]) TA.none
      else TA.none
    | _ => TA.none
  | _, _, _ => TA.none
def onNewT (x : Option (AV × List Blk)) (q : AV → List Blk → TA β) : TA β := match x with | some (v, bs) => q v bs | none => TA.none
def boxAsT (n : Nat) (e : TypeId) (x : Option (List Seg × List Blk)) (q : AV → List Blk → TA β) : TA β :=
  match x with
  | some (ss, bs) => q (.ptr (n + bs.length) 0 0 1) (bs ++ [.segs true e ss])
  | none => TA.none
def evAllocT (T : TT) (t : Tm) (n : Nat) (ty : TypeId) (op : Op) (q : AV → List Blk → TA β) : TA β :=
  match op with
  | .move x | .assign x => onNewT (mat T n ty (opv t x)) q
  | .alloc e => boxAsT n e (zeroSegs T n e) q
  | .box e x => boxAsT n e (match segsAs T n e (opv t x) with | some (ss, bs) => if segSize ss = sizeT T e then some (ss, bs) else none | none => none) q
  | .build e parts => onNewT (buildS T n e (partsV t parts.toList)) q
  | .buildSlice e len parts => onNewT (buildSliceS T n e len (partsV t parts.toList)) q
  | .makeSlice e l c => makeST T n e (opv t l) (opv t c) q
  | .convert src dst x => match sliceT T dst, opv t x with
    | some e, .str s => bif strT T src && byteT T e then q (.slice n 0 0 s.size 1 false true) [.dyn true e [.ints .u8 (strInts s)]] else TA.none
    | _, _ => TA.none
  | .range ty x => match opv t x with
    | .str s => bif strT T ty then q (.ptr n 0 0 1) [.iter s 0] else TA.none
    | _ => TA.none
  | _ => TA.none

def loadVT (T : TT) (t : TypeId) (H : Heap) (x : AV) (q : AV → TA β) : TA β :=
  match x with
  | .ptr a b i st => match T t with
    | none => TA.none
    | some ti => match H[a]? with
      | some (.segs _ _ ss) =>
        bif ti.agg then (bif decide (i = 0) then (match segCut ss b ti.size with | some x => q (.agg x) | none => TA.none) else TA.none)
        else bif decide (st = 1) then segAtT ss b i q
        else segAtT ss (b + i * st) 0 q
      | some (.dyn _ _ cols) =>
        bif decide (st = cols.length) then
          lenKT cols fun m => TA.ck (i < m)
            (bif ti.agg then (match segCut (colsRow i cols) b ti.size with | some x => q (.agg x) | none => TA.none) else onSomeT (colGet1 cols b i) q)
            TA.none
        else TA.none
      | _ => TA.none
  | _ => TA.none
def elemsT (H : Heap) (x : AV) (q : List Col → TA β) : TA β :=
  match x with
  | .slice a b o n st _ _ => match H[a]? with
    | some (.dyn _ _ cols) => bif decide (b = 0 ∧ st = cols.length) then lenKT cols fun m => TA.ck (o + n ≤ m) (q (cols.map fun c => c.cut o n)) TA.none else TA.none
    | some (.segs _ _ ss) => match segDrop ss b with
      | some (.run k m l :: _) => bif decide (st = 1) then (TA.ck (o + n ≤ m) (q [.ints k ((l.drop o).take n)]) TA.none) else TA.none
      | _ => TA.none
    | _ => TA.none
  | _ => TA.none
def elemsWT (H : Heap) (x : AV) (q : List Col → TA β) : TA β :=
  match x with
  | .slice a 0 0 n st nl true => match H[a]? with
    | some (.dyn _ _ cols) => bif decide (st = cols.length) then lenKT cols fun m => TA.ck (n = m) (q cols) TA.none else TA.none
    | _ => TA.none
  | x => elemsT H x q
def evReadT (T : TT) (t : Tm) (H : Heap) (op : Op) (q : AV → TA β) : TA β :=
  match op with
  | .load ty x => loadVT T ty H (opv t x) q
  | .convert src dst x => bif strT T dst then (match opv t x with
    | .str s => bif strT T src then q (.str s) else TA.none
    | v => match sliceT T src with
      | some e => bif byteT T e then (elemsWT H v fun cs => match cs with
        | [.ints .u8 l] => q (.str (mkStr l))
        | _ => TA.none) else TA.none
      | none => TA.none) else TA.none
  | _ => TA.none

def segUpdT (ss : List Seg) (b i : Nat) (x : AV) (q : List Seg → TA β) : TA β :=
  match segTake ss b, segDrop ss b with
  | some l, some (.run k n z :: r) => match x with
    | .int k' m => bif decide (k' = k) then (TA.ck (i < n) (q (l ++ .run k n (z.set i m) :: r)) TA.none) else TA.none
    | _ => TA.none
  | some l, some (.cell _ :: r) => bif decide (i = 0) then (bif x.one then q (l ++ .cell x :: r) else TA.none) else TA.none
  | _, _ => TA.none
def storeVT (T : TT) (t : TypeId) (H : Heap) (x v : AV) (q : Heap → TA β) : TA β :=
  match x with
  | .ptr a b i st =>
    match segsAs T H.length t v with
    | none => TA.none
    | some (vs, bs) =>
      bif (T t).isSome && decide (segSize vs = sizeT T t) then
        match H[a]? with
        | some (.segs true ty ss) =>
          match vs with
          | [.cell v'] => bif decide (st = 1) then segUpdT ss b i v' (fun ss' => q ((H ++ bs).set a (.segs true ty ss'))) else segUpdT ss (b + i * st) 0 v' (fun ss' => q ((H ++ bs).set a (.segs true ty ss')))
          | vs => bif decide (i = 0) then (match segPut ss b vs with | some ss' => q ((H ++ bs).set a (.segs true ty ss')) | none => TA.none) else TA.none
        | some (.dyn true ty cols) =>
          bif decide (st = cols.length) then
            lenKT cols fun m => TA.ck (i < m)
              (match vs with
               | [.cell v'] => match colSet1 cols b i v' with | some cs => q ((H ++ bs).set a (.dyn true ty cs)) | none => TA.none
               | vs => bif decide (b = 0 ∧ vs.length = st) then (match colsSet cols i (vs.map Seg.val) with | some cs => q ((H ++ bs).set a (.dyn true ty cs)) | none => TA.none) else TA.none)
              TA.none
          else TA.none
        | _ => TA.none
      else TA.none
  | _ => TA.none
def srcOfT (H : Heap) (ks : List ColK) (x : AV) (q : List Col → TA β) : TA β :=
  match x with
  | .str z => match ks with
    | [.int .u8] => q [.ints .u8 (strInts z)]
    | _ => TA.none
  | .nilsl => q (ks.map ColK.nils)
  | x => elemsWT H x q
def appendVT (T : TT) (c : Call) (H : Heap) (s x : AV) (q : AV → Heap → TA β) : TA β :=
  match typ T c 0 with
  | .slice e =>
    match colsT T e with
    | some ks =>
      bif rowK (typ T c 1) && decide (ks.length ≤ 64 ∧ bytesT T e ≤ 64) then
        srcOfT H ks x fun new =>
        match s with
        | .slice a 0 0 n st nl true => match H[a]? with
          | some (.dyn true ty cols) =>
            bif decide (st = ks.length ∧ cols.length = ks.length) then
              lenKT cols fun m => lenKT new fun m' => TA.ck (n = m ∧ m + m' ≤ 1099511627776)
                (match colsApp cols new with
                | some cs => lenKT cs fun m'' => q (.slice H.length 0 0 m'' st (isEmptyCols new && nl) true) (H.set a .dead ++ [.dyn true ty cs])
                | none => TA.none)
                TA.none
            else TA.none
          | _ => TA.none
        | .nilsl =>
          lenKT new fun m' => TA.ck (m' ≤ 1099511627776)
            (match colsApp (ks.map ColK.nils) new with
            | some cs => lenKT cs fun m'' => q (.slice H.length 0 0 m'' ks.length (isEmptyCols new) true) (H ++ [.dyn true e cs])
            | none => TA.none)
            TA.none
        | _ => TA.none
      else TA.none
    | _ => TA.none
  | _ => TA.none
def copyVT (T : TT) (c : Call) (H : Heap) (d s : AV) (q : AV → Heap → TA β) : TA β :=
  match typ T c 0, d, s with
  | .slice e, .slice a 0 o n st _ _, .slice a' b' o' n' st' nl' w' =>
    elemsT H (.slice a' b' o' (min n' n) st' nl' false) fun new =>
    match H[a]? with
    | some (.dyn true ty cols) =>
      bif decide (st = cols.length ∧ st' = st ∧ sizeT T e = st) then
        lenKT cols fun m => lenKT new fun m' => TA.ck (o + n ≤ m ∧ m' = min n' n)
          (match colsOver cols o new with
          | some cs => q (.int .i64 (min n' n : Nat)) (H.set a (.dyn true ty cs))
          | none => TA.none)
          TA.none
      else TA.none
    | _ => TA.none
  | _, _, _ => TA.none

def onPartT (f : Fsem) (args : List AV) (H : Heap) (q : AV → Heap → TA β) : TA β :=
  let p := hpart H (AV.idsL args)
  TA.call (f (AV.renL (posOf p.1 0) args) p.2) fun v Hl =>
    bif decide (p.1.length ≤ Hl.length) then
      let g := unpos p.1 H.length
      let Hg := renH g Hl
      q (v.ren g) (putAll H p.1 (Hg.take p.1.length) ++ Hg.drop p.1.length)
    else TA.none
def callVT (G : Ctx) (f : FuncId) (args : List AV) (H : Heap) (q : AV → Heap → TA β) : TA β :=
  match G.C f with
  | some sem => onPartT sem args H q
  | none => TA.none
def nextVT (H : Heap) (isStr : Bool) (x : AV) (q : AV → Heap → TA β) : TA β :=
  match x with
  | .ptr a 0 0 1 => match H[a]? with
    | some (.iter s pos) => bif isStr then
        TA.ck (pos < s.size) (TA.ck (bt s pos < 128) (q (.tuple [.bool true, .int .i64 pos, .int .i32 (bt s pos)]) (H.set a (.iter s (pos + 1)))) TA.none)
         (q (.tuple [.bool false]) H) else TA.none
    | _ => TA.none
  | _ => TA.none
def convWT (T : TT) (src dst : TypeId) (H : Heap) (x : AV) (q : AV → Heap → TA β) : TA β :=
  match x with
  | .slice a b o n st false true => match sliceT T dst with
    | some e => bif decide (src = dst) && byteT T e then
        (match H[a]? with
         | some (.dyn true ty cols) => q (.slice a b o n st false true) H
         | _ => TA.none) else TA.none
    | none => TA.none
  | _ => TA.none
def evWriteT (G : Ctx) (t : Tm) (H : Heap) (op : Op) (q : AV → Heap → TA β) : TA β :=
  match op with
  | .store ty x v => storeVT G.T ty H (opv t x) (opv t v) fun H' => q (.tuple []) H'
  | .next x isStr => nextVT H isStr (opv t x) q
  | .convert src dst x => convWT G.T src dst H (opv t x) q
  | .call c => match c.callee with
    | .builtin .append => match opvs t c.args.toList with
      | [s, x] => appendVT G.T c H s x q
      | _ => TA.none
    | .builtin .copy => match opvs t c.args.toList with
      | [d, s] => copyVT G.T c H d s q
      | _ => TA.none
    | .builtin _ => TA.none
    | .value f => match opv t f with
      | .func f first caps => callVT G f (first ++ opvs t c.args.toList ++ caps) H q
      | _ => TA.none
    | .invoke r name => match opv t r with
      | .iface ty (.ptr a b i st) => match G.M ty name with
        | some f => callVT G f (.ptr a b i st :: opvs t c.args.toList) H q
        | none => TA.none
      | _ => TA.none
  | _ => TA.none

def evOpT (G : Ctx) (s : St) (o : Oper) (q : AV → Heap → TA β) : TA β :=
  match kindOf G.T o.op with
  | .pure => evPureT G.T s.t o.op fun v => q v s.H
  | .alloc => evAllocT G.T s.t s.H.length o.type o.op fun v bs => q v (s.H ++ bs)
  | .read => evReadT G.T s.t s.H o.op fun v => q v s.H
  | .write => evWriteT G s.t s.H o.op q
def wantsT (all : List Oper) (s : St) (o : Oper) (yes no : St → TA β) : TA β :=
  match o.guard with
  | none => yes s
  | some (j, want) => match nthO all j with
    | none => TA.none
    | some g => match g.dst with
      | none => TA.none
      | some d => match lk s.t d with
        | .bool b => match want with
          | true => TA.br b (yes (s.put (some d) (.bool true))) (no (s.put (some d) (.bool false)))
          | false => TA.br b (no (s.put (some d) (.bool true))) (yes (s.put (some d) (.bool false)))
        | .tuple [] => no s
        | _ => TA.none
def evListT (G : Ctx) (all : List Oper) : List Oper → St → (St → TA β) → TA β
  | [], s, q => q s
  | o :: r, s, q => wantsT all s o
      (fun s => evOpT G s o fun v H => evListT G all r (St.put ⟨s.t, H⟩ o.dst v) q)
      (fun s => evListT G all r (s.put o.dst (.tuple [])) q)
def evRecT (G : Ctx) (all : List Oper) : List Oper → St → (List Rec → St → TA β) → TA β
  | [], s, q => q [] s
  | o :: r, s, q => wantsT all s o
      (fun s1 => evOpT G s1 o fun v H => evRecT G all r (St.put ⟨s1.t, H⟩ o.dst v) fun rs s' => q (⟨s1.t, s1.H, true, v, H⟩ :: rs) s')
      (fun s1 => evRecT G all r (s1.put o.dst (.tuple [])) fun rs s' => q (⟨s1.t, s1.H, false, .tuple [], s1.H⟩ :: rs) s')
noncomputable def runEntsT (G : Ctx) (ops : List Oper) (rs : List Rec) (H0 : Heap) (b : TA β) : List (Nat × Option Nat × List Nat) → TA β
  | [] => b
  | (i, c, keep) :: l => match nthR rs i, nthO ops i with
    | some r, some o => bif r.done then evReadT G.T r.t (heapAt rs H0 c keep) o.op (fun u => TA.eqv u r.v (runEntsT G ops rs H0 b l)) else runEntsT G ops rs H0 b l
    | _, _ => TA.none

end
def seqKT {β : Type} (k : XT → St → TA β) (f : St → TA β) : XT → St → TA β
  | .normal, s => f s
  | e, s => k e s
def blockKT {β : Type} (id : Nat) (k : XT → St → TA β) : XT → St → TA β
  | .exit j, s => bif decide (j = id) then k .normal s else k (.exit j) s
  | e, s => k e s
def condKT {β : Type} (c : AV) (a b : TA β) : TA β :=
  match c with
  | .bool t => TA.br t a b
  | _ => TA.none
noncomputable def evT (G : Ctx) (m : Nat) : Code → {β : Type} → St → (XT → St → TA β) → TA β
  | .skip, _, s, k => k .normal s
  | .region id ops draw, _, s, k => bif draw then (match drawOf G.D id with
      | some d => evRecT G ops.toList ops.toList s fun rs s' => runEntsT G ops.toList rs s.H (k .normal s') d.ents
      | none => TA.none) else evListT G ops.toList ops.toList s (k .normal)
  | .seq a b, _, s, k => evT G m a s (seqKT k fun s' => evT G m b s' k)
  | .cond c a b, _, s, k => condKT (opv s.t c) (evT G m a s k) (evT G m b s k)
  | .block id c, _, s, k => evT G m c s (blockKT id k)
  | .loop c, _, s, k => match firstRegion c with
    | none => TA.none
    | some key => match lkey G.A key with
      | none => TA.none
      | some l => TA.out (iter (fun s k => ev G m c s k) m l G.fuel (clean m l.pre s)) k
  | .exit id, _, s, k => k (.exit id) s
  | .ret, _, s, k => k .ret s
  | _, _, _, _ => TA.none

def resLT {β : Type} (T : TT) (s : St) : List ResultVar → (List AV → TA β) → TA β
  | [], q => q []
  | .tmp t :: rs, q => resLT T s rs fun vs => q (lk s.t t :: vs)
  | .cell a ty :: rs, q => loadVT T ty s.H (lk s.t a) fun v => resLT T s rs fun vs => q (v :: vs)
def atEndT (T : TT) (m : Nat) (rs : List ResultVar) : XT → St → TA (AV × Heap)
  | .exit _, _ => TA.none
  | _, s => resLT T s rs fun vs _ => (some (least m (pack vs) s.H), True)
noncomputable def semFT (G : Ctx) (fn : Func) (args : List AV) (H : Heap) : TA (AV × Heap) :=
  match fn.body with
  | some c => evT G H.length c ⟨argsT 0 args, H⟩ (atEndT G.T H.length fn.results.toList)
  | none => TA.none
noncomputable def lpT (G : Ctx) (m : Nat) (fn : Func) (key : Nat) (n : Nat) (s : St) : TA (XT × St) :=
  match lkey G.A key with
  | some l => evT G m (loopOf fn key) s fun e s _ => (loopEnd (iter (fun s k => ev G m (loopOf fn key) s k) m l n) m l e s, True)
  | none => TA.none
end Go.Abs
