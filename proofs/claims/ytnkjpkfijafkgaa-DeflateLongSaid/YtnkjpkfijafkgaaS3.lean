/-
What a tape tells is so, where what it asks holds.
-/
import Derived.Test.YtnkjpkfijafkgaaS2
set_option linter.unusedVariables false
set_option linter.unusedSimpArgs false
namespace Go.Abs
section
variable {β : Type}
def Imp (x : Option β) (y : TA β) : Prop := ∀ t, (y t).2 → x = (y t).1
theorem Imp.none : Imp (none : Option β) TA.none := fun _ _ => rfl
theorem Imp.br {c : Bool} {a b : Option β} {a' b' : TA β} (h1 : Imp a a') (h2 : Imp b b') : Imp (bif c then a else b) (TA.br c a' b') := by
  intro t ht
  match t, ht with
  | .b true :: t, ht =>
    have h : c = true ∧ (a' t).2 := ht
    rw [h.1]; exact h1 t h.2
  | .b false :: t, ht =>
    have h : c = false ∧ (b' t).2 := ht
    rw [h.1]; exact h2 t h.2
theorem Imp.ck {p : Prop} {i : Decidable p} {a b : Option β} {a' b' : TA β} (h1 : Imp a a') (h2 : Imp b b') : Imp (@ite _ p i a b) (@TA.ck _ p i a' b') := by
  have e : (@ite _ p i a b) = (bif decide p then a else b) := by by_cases h : p <;> simp [h]
  rw [e]; exact Imp.br h1 h2
theorem Imp.call {r : Option (AV × Heap)} {q : AV → Heap → Option β} {q' : AV → Heap → TA β} (h : ∀ v H, Imp (q v H) (q' v H)) : Imp (onCall r q) (TA.call r q') := by
  intro t ht
  match t, ht with
  | .call (some (v, H)) :: t, ht =>
    have k : r = some (v, H) ∧ (q' v H t).2 := ht
    rw [k.1, onCall_some]; exact h v H t k.2
  | .call Option.none :: t, ht =>
    have k : r = Option.none ∧ True := ht
    rw [k.1, onCall_none]; rfl
theorem Imp.out {r : Out} {q : XT → St → Option β} {q' : XT → St → TA β} (h : ∀ v H, Imp (q v H) (q' v H)) : Imp (onOut r q) (TA.out r q') := by
  intro t ht
  match t, ht with
  | .out (some (v, H)) :: t, ht =>
    have k : r = some (v, H) ∧ (q' v H t).2 := ht
    rw [k.1, onOut_some]; exact h v H t k.2
  | .out Option.none :: t, ht =>
    have k : r = Option.none ∧ True := ht
    rw [k.1, onOut_none]; rfl
theorem Imp.bif {c : Bool} {a b : Option β} {a' b' : TA β} (h1 : Imp a a') (h2 : Imp b b') : Imp (bif c then a else b) (bif c then a' else b') := by cases c <;> assumption

theorem lenK_imp (cols : List Col) {q : Nat → Option β} {q' : Nat → TA β} (h : ∀ n, Imp (q n) (q' n)) : Imp (lenK cols q) (lenKT cols q') := by
  unfold lenK lenKT; split <;> exact h _
theorem intOp_imp (op : BinOp) (k : IntKind) (x y : Int) {q : AV → Option β} {q' : AV → TA β} (h : ∀ v, Imp (q v) (q' v)) : Imp (intOp op k x y q) (intOpT op k x y q') := by
  unfold intOp intOpT; cases op <;> first | exact h _ | exact Imp.none | exact Imp.ck Imp.none (h _)
theorem shiftOp_imp (op : BinOp) (k : IntKind) (x y : Int) {q : AV → Option β} {q' : AV → TA β} (h : ∀ v, Imp (q v) (q' v)) : Imp (shiftOp op k x y q) (shiftOpT op k x y q') := by
  unfold shiftOp shiftOpT; refine Imp.ck Imp.none ?_; cases op <;> first | exact h _ | exact Imp.none
theorem strOp_imp (op : BinOp) (x y : ByteArray) {q : AV → Option β} {q' : AV → TA β} (h : ∀ v, Imp (q v) (q' v)) : Imp (strOp op x y q) (strOpT op x y q') := by
  unfold strOp strOpT; cases op <;> first | exact h _ | exact Imp.none | exact Imp.ck (h _) Imp.none
theorem eqPart_imp (r : Option Bool) {f : Bool → Bool} {q : AV → Option β} {q' : AV → TA β} (h : ∀ v, Imp (q v) (q' v)) : Imp (match r with | some b => q (.bool (f b)) | none => none) (match r with | some b => q' (.bool (f b)) | none => TA.none) := by
  cases r <;> first | exact h _ | exact Imp.none
theorem eqOp_imp (op : BinOp) (r : Option Bool) {q : AV → Option β} {q' : AV → TA β} (h : ∀ v, Imp (q v) (q' v)) :
    Imp (match op with
      | .eql => match r with | some b => q (.bool b) | none => none
      | .neq => match r with | some b => q (.bool (!b)) | none => none
      | _ => none)
     (match op with
      | .eql => match r with | some b => q' (.bool b) | none => TA.none
      | .neq => match r with | some b => q' (.bool (!b)) | none => TA.none
      | _ => TA.none) := by
  cases op <;> first | exact Imp.none | (cases r <;> first | exact h _ | exact Imp.none)
theorem binV_imp (T : TT) (op : BinOp) (t : TypeId) (x y : AV) {q : AV → Option β} {q' : AV → TA β} (h : ∀ v, Imp (q v) (q' v)) : Imp (binV T op t x y q) (binVT T op t x y q') := by
  cases x with
  | int k a =>
    cases y with
    | int k' b => cases op <;> first | exact shiftOp_imp _ _ _ _ h | exact Imp.bif (intOp_imp _ _ _ _ h) Imp.none
    | _ => exact eqOp_imp op (eqV T t _ _) h
  | str a =>
    cases y with
    | str b => exact strOp_imp _ _ _ h
    | _ => exact eqOp_imp op (eqV T t _ _) h
  | _ => cases y <;> exact eqOp_imp op (eqV T t _ _) h
theorem bounds_imp (len : Nat) (lo hi mx : Option AV) {q : Nat → Nat → Option β} {q' : Nat → Nat → TA β} (h : ∀ a b, Imp (q a b) (q' a b)) : Imp (bounds len lo hi mx q) (boundsT len lo hi mx q') := by
  cases lo with
  | none =>
    cases hi with
    | none => cases mx <;> first | exact h _ _ | exact Imp.none
    | some y => cases mx <;> cases y <;> first | exact Imp.ck (h _ _) Imp.none | exact Imp.none
  | some x =>
    cases hi with
    | none => cases mx <;> cases x <;> first | exact Imp.ck (h _ _) Imp.none | exact Imp.none
    | some y =>
      cases mx with
      | none => cases x <;> first | exact Imp.none | (cases y <;> first | exact Imp.ck (h _ _) Imp.none | exact Imp.none)
      | some z => cases x <;> first | exact Imp.none | (cases y <;> first | exact Imp.none | (cases z <;> first | exact Imp.ck (h _ _) Imp.none | exact Imp.none))
theorem sliceV_imp (T : TT) (t : TypeId) (x : AV) (lo hi mx : Option AV) {q : AV → Option β} {q' : AV → TA β} (h : ∀ v, Imp (q v) (q' v)) : Imp (sliceV T t x lo hi mx q) (sliceVT T t x lo hi mx q') := by
  unfold sliceV sliceVT
  generalize skT T t = k
  cases k with
  | str => cases x <;> first | exact Imp.none | exact Imp.bif Imp.none (bounds_imp _ _ _ _ fun _ _ => h _)
  | slice e => cases x <;> first | exact Imp.none | exact Imp.bif (Imp.bif (h _) (bounds_imp _ _ _ _ fun _ _ => h _)) Imp.none
  | arr n e =>
    cases x with
    | ptr a b i st =>
      cases i with
      | succ i => exact Imp.none
      | zero => rcases st with _ | _ | st <;> first | exact Imp.none | exact Imp.bif Imp.none (bounds_imp _ _ _ _ fun _ _ => h _)
    | _ => exact Imp.none
  | other => cases x <;> exact Imp.none
theorem indexAddrV_imp (T : TT) (t : TypeId) (x i : AV) {q : AV → Option β} {q' : AV → TA β} (h : ∀ v, Imp (q v) (q' v)) : Imp (indexAddrV T t x i q) (indexAddrVT T t x i q') := by
  unfold indexAddrV indexAddrVT
  generalize skT T t = k
  cases k with
  | slice e => cases x <;> first | exact Imp.none | (cases i <;> first | exact Imp.none | exact Imp.bif (Imp.ck (h _) Imp.none) Imp.none)
  | arr n e =>
    cases x with
    | ptr a b j st =>
      cases j with
      | succ j => exact Imp.none
      | zero => rcases st with _ | _ | st <;> first | exact Imp.none | (cases i <;> first | exact Imp.none | exact Imp.bif Imp.none (Imp.ck (Imp.bif (Imp.bif (h _) Imp.none) (h _)) Imp.none))
    | _ => exact Imp.none
  | _ => cases x <;> exact Imp.none
theorem segAt_imp (ss : List Seg) (b i : Nat) {q : AV → Option β} {q' : AV → TA β} (h : ∀ v, Imp (q v) (q' v)) : Imp (segAt ss b i q) (segAtT ss b i q') := by
  unfold segAt segAtT
  generalize segDrop ss b = r
  rcases r with _ | _ | ⟨_ | _, r⟩
  · exact Imp.none
  · exact Imp.none
  · exact Imp.bif (h _) Imp.none
  · exact Imp.ck (h _) Imp.none
theorem onSome_imp (x : Option AV) {q : AV → Option β} {q' : AV → TA β} (h : ∀ v, Imp (q v) (q' v)) : Imp (onSome x q) (onSomeT x q') := by
  cases x <;> first | exact h _ | exact Imp.none
theorem indexV_imp (T : TT) (t : TypeId) (x i : AV) {q : AV → Option β} {q' : AV → TA β} (h : ∀ v, Imp (q v) (q' v)) : Imp (indexV T t x i q) (indexVT T t x i q') := by
  unfold indexV indexVT
  generalize skT T t = k
  cases k with
  | str => cases x <;> first | exact Imp.none | (cases i <;> first | exact Imp.none | exact Imp.ck (h _) Imp.none)
  | arr n e =>
    cases x with
    | agg ss =>
      cases i with
      | int k i =>
        refine Imp.bif Imp.none (Imp.ck (Imp.bif (Imp.bif (segAt_imp _ _ _ h) Imp.none) ?_) Imp.none)
        generalize cellsV T e ss (i.toNat * sizeT T e) = r
        cases r <;> first | exact h _ | exact Imp.none
      | _ => exact Imp.none
    | _ => exact Imp.none
  | _ => cases x <;> exact Imp.none
theorem convP_imp (T : TT) (src dst : TypeId) (x : AV) {q : AV → Option β} {q' : AV → TA β} (h : ∀ v, Imp (q v) (q' v)) (t : Tm) (o : Operand) (e : opv t o = x) : Imp (evPure T t (.convert src dst o) q) (evPureT T t (.convert src dst o) q') := by
  unfold evPure evPureT
  simp only [e]
  generalize T src = a
  generalize T dst = b
  rcases a with _ | a
  · exact Imp.none
  · rcases b with _ | ⟨_, _, _, sh, _, _⟩
    · exact Imp.none
    · cases sh <;> first | exact Imp.none | (cases x <;> first | exact h _ | exact Imp.none)
theorem evPure_imp (T : TT) (t : Tm) (op : Op) {q : AV → Option β} {q' : AV → TA β} (h : ∀ v, Imp (q v) (q' v)) : Imp (evPure T t op q) (evPureT T t op q') := by
  cases op with
  | convert src dst x => exact convP_imp T src dst _ h t x rfl
  | nilCheck x =>
    unfold evPure evPureT
    simp only
    generalize opv t x = v
    cases v <;> first | exact h _ | exact Imp.none
  | makeInterface ty x =>
    unfold evPure evPureT
    simp only
    generalize T ty = r
    rcases r with _ | ⟨_, _, _, sh, _, _⟩
    · exact Imp.none
    · cases sh <;> first | exact h _ | exact Imp.none
  | makeFunc f a b => cases f <;> first | exact h _ | exact Imp.none
  | extract x i =>
    unfold evPure evPureT
    simp only
    generalize opv t x = v
    cases v <;> first | exact onSome_imp _ h | exact Imp.none
  | binOp => exact binV_imp _ _ _ _ _ h
  | slice => exact sliceV_imp _ _ _ _ _ _ h
  | indexAddr => exact indexAddrV_imp _ _ _ _ h
  | index => exact indexV_imp _ _ _ _ h
  | _ => first | exact h _ | exact onSome_imp _ h | exact Imp.none

theorem makeS_imp (T : TT) (n : Nat) (t : TypeId) (len cap : AV) {q : AV → List Blk → Option β} {q' : AV → List Blk → TA β} (h : ∀ v b, Imp (q v b) (q' v b)) : Imp (makeS T n t len cap q) (makeST T n t len cap q') := by
  unfold makeS makeST
  generalize sliceT T t = k
  rcases k with _ | e
  · exact Imp.none
  cases len <;> first | exact Imp.none | (cases cap <;> first | exact Imp.none | skip)
  simp only
  generalize colsT T e = r
  cases r
  · exact Imp.none
  · exact Imp.bif (Imp.ck (h _ _) Imp.none) Imp.none
theorem onNew_imp (x : Option (AV × List Blk)) {q : AV → List Blk → Option β} {q' : AV → List Blk → TA β} (h : ∀ v b, Imp (q v b) (q' v b)) : Imp (onNew x q) (onNewT x q') := by
  rcases x with _ | ⟨v, b⟩ <;> first | exact h _ _ | exact Imp.none
theorem boxAs_imp (n : Nat) (e : TypeId) (x : Option (List Seg × List Blk)) {q : AV → List Blk → Option β} {q' : AV → List Blk → TA β} (h : ∀ v b, Imp (q v b) (q' v b)) : Imp (boxAs n e x q) (boxAsT n e x q') := by
  rcases x with _ | ⟨v, b⟩ <;> first | exact h _ _ | exact Imp.none
theorem evAlloc_imp (T : TT) (t : Tm) (n : Nat) (ty : TypeId) (op : Op) {q : AV → List Blk → Option β} {q' : AV → List Blk → TA β} (h : ∀ v b, Imp (q v b) (q' v b)) : Imp (evAlloc T t n ty op q) (evAllocT T t n ty op q') := by
  cases op with
  | convert src dst x =>
    unfold evAlloc evAllocT
    simp only
    generalize sliceT T dst = k
    generalize opv t x = v
    cases k <;> cases v <;> first | exact Imp.none | exact Imp.bif (h _ _) Imp.none
  | makeSlice => exact makeS_imp _ _ _ _ _ h
  | range ty x =>
    unfold evAlloc evAllocT
    simp only
    generalize opv t x = v
    cases v <;> first | exact Imp.bif (h _ _) Imp.none | exact Imp.none
  | box e x =>
    unfold evAlloc evAllocT
    simp only
    generalize segsAs T n e (opv t x) = r
    rcases r with _ | ⟨ss, bs⟩
    · exact Imp.none
    · exact boxAs_imp _ _ _ h
  | _ => first | exact onNew_imp _ h | exact boxAs_imp _ _ _ h | exact Imp.none

theorem optA_imp (x : Option (List Seg)) {q : AV → Option β} {q' : AV → TA β} (h : ∀ v, Imp (q v) (q' v)) : Imp (match x with | some x => q (.agg x) | none => none) (match x with | some x => q' (.agg x) | none => TA.none) := by
  cases x <;> first | exact h _ | exact Imp.none
theorem loadV_imp (T : TT) (t : TypeId) (H : Heap) (x : AV) {q : AV → Option β} {q' : AV → TA β} (h : ∀ v, Imp (q v) (q' v)) : Imp (loadV T t H x q) (loadVT T t H x q') := by
  cases x with
  | ptr a b i st =>
    unfold loadV loadVT
    simp only
    generalize T t = r
    rcases r with _ | ti
    · exact Imp.none
    simp only
    generalize H[a]? = k
    rcases k with _ | k
    · exact Imp.none
    cases k with
    | dead => exact Imp.none
    | iter => exact Imp.none
    | segs rw ty ss =>
      refine Imp.bif (Imp.bif ?_ Imp.none) (Imp.bif (segAt_imp _ _ _ h) (segAt_imp _ _ _ h))
      exact optA_imp _ h
    | dyn rw ty cols =>
      refine Imp.bif (lenK_imp _ fun m => Imp.ck (Imp.bif ?_ (onSome_imp _ h)) Imp.none) Imp.none
      exact optA_imp _ h
  | _ => exact Imp.none
theorem elems_imp (H : Heap) (x : AV) {q : List Col → Option β} {q' : List Col → TA β} (h : ∀ v, Imp (q v) (q' v)) : Imp (elems H x q) (elemsT H x q') := by
  cases x with
  | slice a b o n st nl w =>
    unfold elems elemsT
    simp only
    generalize H[a]? = k
    rcases k with _ | k
    · exact Imp.none
    cases k with
    | dead => exact Imp.none
    | iter => exact Imp.none
    | segs rw ty ss =>
      simp only
      generalize segDrop ss b = r
      rcases r with _ | _ | ⟨_ | _, r⟩
      · exact Imp.none
      · exact Imp.none
      · exact Imp.none
      · exact Imp.bif (Imp.ck (h _) Imp.none) Imp.none
    | dyn rw ty cols => exact Imp.bif (lenK_imp _ fun m => Imp.ck (h _) Imp.none) Imp.none
  | _ => exact Imp.none
theorem elemsW_imp (H : Heap) (x : AV) {q : List Col → Option β} {q' : List Col → TA β} (h : ∀ v, Imp (q v) (q' v)) : Imp (elemsW H x q) (elemsWT H x q') := by
  cases x with
  | slice a b o n st nl w =>
    rcases b with _ | b
    · rcases o with _ | o
      · cases w
        · exact elems_imp _ _ h
        · unfold elemsW elemsWT
          simp only
          generalize H[a]? = k
          rcases k with _ | k
          · exact Imp.none
          cases k <;> first | exact Imp.none | exact Imp.bif (lenK_imp _ fun m => Imp.ck (h _) Imp.none) Imp.none
      · exact elems_imp _ _ h
    · exact elems_imp _ _ h
  | _ => exact elems_imp _ _ h
theorem strOf_imp (l : List Col) {q : AV → Option β} {q' : AV → TA β} (h : ∀ v, Imp (q v) (q' v)) : Imp (match l with | [.ints .u8 l] => q (.str (mkStr l)) | _ => none) (match l with | [.ints .u8 l] => q' (.str (mkStr l)) | _ => TA.none) := by
  rcases l with _ | ⟨c, _ | ⟨d, l⟩⟩
  · exact Imp.none
  · cases c with
    | ints k l => cases k <;> first | exact h _ | exact Imp.none
    | bools l => exact Imp.none
  · cases c with
    | ints k l => cases k <;> exact Imp.none
    | bools l => exact Imp.none
theorem convS_imp (T : TT) (src : TypeId) (H : Heap) (v : AV) {q : AV → Option β} {q' : AV → TA β} (h : ∀ v, Imp (q v) (q' v)) :
    Imp (match sliceT T src with | some e => bif byteT T e then (elemsW H v fun cs => match cs with | [.ints .u8 l] => q (.str (mkStr l)) | _ => none) else none | none => none)
     (match sliceT T src with | some e => bif byteT T e then (elemsWT H v fun cs => match cs with | [.ints .u8 l] => q' (.str (mkStr l)) | _ => TA.none) else TA.none | none => TA.none) := by
  generalize sliceT T src = k
  cases k
  · exact Imp.none
  · exact Imp.bif (elemsW_imp _ _ fun l => strOf_imp l h) Imp.none
theorem evRead_imp (T : TT) (t : Tm) (H : Heap) (op : Op) {q : AV → Option β} {q' : AV → TA β} (h : ∀ v, Imp (q v) (q' v)) : Imp (evRead T t H op q) (evReadT T t H op q') := by
  cases op with
  | load ty x => exact loadV_imp _ _ _ _ h
  | convert src dst x =>
    unfold evRead evReadT
    simp only
    refine Imp.bif ?_ Imp.none
    generalize opv t x = v
    cases v with
    | str s => exact Imp.bif (h _) Imp.none
    | _ => exact convS_imp T src H _ h
  | _ => exact Imp.none

theorem segUpd_imp (ss : List Seg) (b i : Nat) (x : AV) {q : List Seg → Option β} {q' : List Seg → TA β} (h : ∀ v, Imp (q v) (q' v)) : Imp (segUpd ss b i x q) (segUpdT ss b i x q') := by
  unfold segUpd segUpdT
  generalize segTake ss b = l
  generalize segDrop ss b = r
  rcases l with _ | l
  · exact Imp.none
  rcases r with _ | _ | ⟨_ | _, r⟩
  · exact Imp.none
  · exact Imp.none
  · exact Imp.bif (Imp.bif (h _) Imp.none) Imp.none
  · cases x <;> first | exact Imp.none | exact Imp.bif (Imp.ck (h _) Imp.none) Imp.none
theorem putS_imp (r : Option (List Seg)) (H bs : Heap) (a : Nat) (ty : TypeId) {q : Heap → Option β} {q' : Heap → TA β} (h : ∀ v, Imp (q v) (q' v)) :
    Imp (match r with | some ss' => q ((H ++ bs).set a (.segs true ty ss')) | none => none) (match r with | some ss' => q' ((H ++ bs).set a (.segs true ty ss')) | none => TA.none) := by
  cases r <;> first | exact h _ | exact Imp.none
theorem putC_imp (r : Option (List Col)) (H bs : Heap) (a : Nat) (ty : TypeId) {q : Heap → Option β} {q' : Heap → TA β} (h : ∀ v, Imp (q v) (q' v)) :
    Imp (match r with | some cs => q ((H ++ bs).set a (.dyn true ty cs)) | none => none) (match r with | some cs => q' ((H ++ bs).set a (.dyn true ty cs)) | none => TA.none) := by
  cases r <;> first | exact h _ | exact Imp.none
theorem storeV_imp (T : TT) (t : TypeId) (H : Heap) (x v : AV) {q : Heap → Option β} {q' : Heap → TA β} (h : ∀ v, Imp (q v) (q' v)) : Imp (storeV T t H x v q) (storeVT T t H x v q') := by
  cases x with
  | ptr a b i st =>
    unfold storeV storeVT
    simp only
    generalize segsAs T H.length t v = r
    rcases r with _ | ⟨vs, bs⟩
    · exact Imp.none
    refine Imp.bif ?_ Imp.none
    generalize H[a]? = k
    rcases k with _ | k
    · exact Imp.none
    cases k with
    | dead => exact Imp.none
    | iter => exact Imp.none
    | segs rw ty ss =>
      cases rw
      · exact Imp.none
      · rcases vs with _ | ⟨_ | _, _ | ⟨d, vs⟩⟩
        · exact Imp.bif (putS_imp _ _ _ _ _ h) Imp.none
        · exact Imp.bif (segUpd_imp _ _ _ _ fun _ => h _) (segUpd_imp _ _ _ _ fun _ => h _)
        · exact Imp.bif (putS_imp _ _ _ _ _ h) Imp.none
        · exact Imp.bif (putS_imp _ _ _ _ _ h) Imp.none
        · exact Imp.bif (putS_imp _ _ _ _ _ h) Imp.none
    | dyn rw ty cols =>
      cases rw
      · exact Imp.none
      · refine Imp.bif (lenK_imp _ fun m => Imp.ck ?_ Imp.none) Imp.none
        rcases vs with _ | ⟨_ | _, _ | ⟨d, vs⟩⟩
        · exact Imp.bif (putC_imp _ _ _ _ _ h) Imp.none
        · exact putC_imp _ _ _ _ _ h
        · exact Imp.bif (putC_imp _ _ _ _ _ h) Imp.none
        · exact Imp.bif (putC_imp _ _ _ _ _ h) Imp.none
        · exact Imp.bif (putC_imp _ _ _ _ _ h) Imp.none
  | _ => exact Imp.none
end
end Go.Abs
