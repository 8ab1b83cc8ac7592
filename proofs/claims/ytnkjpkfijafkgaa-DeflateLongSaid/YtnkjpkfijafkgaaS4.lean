/-
What a tape tells is so, where what it asks holds: code, functions, loops.
-/
import Derived.Test.YtnkjpkfijafkgaaS3
set_option linter.unusedVariables false
set_option linter.unusedSimpArgs false
namespace Go.Abs
section
variable {β : Type}
theorem srcOf_imp (H : Heap) (ks : List ColK) (x : AV) {q : List Col → Option β} {q' : List Col → TA β} (h : ∀ v, Imp (q v) (q' v)) : Imp (srcOf H ks x q) (srcOfT H ks x q') := by
  cases x with
  | str z =>
    rcases ks with _ | ⟨c, _ | ⟨d, ks⟩⟩
    · exact Imp.none
    · cases c with
      | int k => cases k <;> first | exact h _ | exact Imp.none
      | bool => exact Imp.none
    · cases c with
      | int k => cases k <;> exact Imp.none
      | bool => exact Imp.none
  | nilsl => exact h _
  | _ => exact elemsW_imp _ _ h
theorem appC_imp (r : Option (List Col)) (st : Nat) (nl : List Col → Bool) (n : Nat) (H : Heap) (ty : TypeId) (new : List Col) (b : Bool) {q : AV → Heap → Option β} {q' : AV → Heap → TA β} (h : ∀ v b, Imp (q v b) (q' v b)) :
    Imp (match r with | some cs => lenK cs fun m'' => q (.slice n 0 0 m'' st b true) (H ++ [.dyn true ty cs]) | none => none)
     (match r with | some cs => lenKT cs fun m'' => q' (.slice n 0 0 m'' st b true) (H ++ [.dyn true ty cs]) | none => TA.none) := by
  cases r
  · exact Imp.none
  · exact lenK_imp _ fun _ => h _ _
theorem appendV_imp (T : TT) (c : Call) (H : Heap) (s x : AV) {q : AV → Heap → Option β} {q' : AV → Heap → TA β} (h : ∀ v b, Imp (q v b) (q' v b)) : Imp (appendV T c H s x q) (appendVT T c H s x q') := by
  unfold appendV appendVT
  generalize typ T c 0 = k
  cases k with
  | slice e =>
    simp only
    generalize colsT T e = r
    rcases r with _ | ks
    · exact Imp.none
    refine Imp.bif (srcOf_imp _ _ _ fun new => ?_) Imp.none
    cases s with
    | slice a b o n st nl w =>
      rcases b with _ | b
      · rcases o with _ | o
        · cases w
          · exact Imp.none
          · simp only
            generalize H[a]? = k
            rcases k with _ | k
            · exact Imp.none
            cases k with
            | dyn rw ty cols =>
              cases rw
              · exact Imp.none
              · refine Imp.bif (lenK_imp _ fun m => lenK_imp _ fun m' => Imp.ck ?_ Imp.none) Imp.none
                exact appC_imp _ _ (fun _ => true) _ _ _ [] _ h
            | _ => exact Imp.none
        · exact Imp.none
      · exact Imp.none
    | nilsl =>
      refine lenK_imp _ fun m' => Imp.ck ?_ Imp.none
      exact appC_imp _ _ (fun _ => true) _ _ _ [] _ h
    | _ => exact Imp.none
  | _ => exact Imp.none
theorem cpyC_imp (r : Option (List Col)) (v : AV) (H : Heap) (a : Nat) (ty : TypeId) {q : AV → Heap → Option β} {q' : AV → Heap → TA β} (h : ∀ v b, Imp (q v b) (q' v b)) :
    Imp (match r with | some cs => q v (H.set a (.dyn true ty cs)) | none => none) (match r with | some cs => q' v (H.set a (.dyn true ty cs)) | none => TA.none) := by
  cases r <;> first | exact h _ _ | exact Imp.none
theorem copyV_imp (T : TT) (c : Call) (H : Heap) (d s : AV) {q : AV → Heap → Option β} {q' : AV → Heap → TA β} (h : ∀ v b, Imp (q v b) (q' v b)) : Imp (copyV T c H d s q) (copyVT T c H d s q') := by
  unfold copyV copyVT
  generalize typ T c 0 = k
  cases k with
  | slice e =>
    cases d with
    | slice a o0 o n st x y =>
      cases s with
      | slice a' b' o' n' st' nl' w' =>
        rcases o0 with _ | o0
        · refine elems_imp _ _ fun new => ?_
          generalize H[a]? = k
          rcases k with _ | k
          · exact Imp.none
          cases k with
          | dyn rw ty cols =>
            cases rw
            · exact Imp.none
            · refine Imp.bif (lenK_imp _ fun m => lenK_imp _ fun m' => Imp.ck ?_ Imp.none) Imp.none
              exact cpyC_imp _ _ _ _ _ h
          | _ => exact Imp.none
        · exact Imp.none
      | _ => cases o0 <;> exact Imp.none
    | _ => exact Imp.none
  | _ => exact Imp.none
theorem onPart_imp (f : Fsem) (args : List AV) (H : Heap) {q : AV → Heap → Option β} {q' : AV → Heap → TA β} (h : ∀ v b, Imp (q v b) (q' v b)) : Imp (onPart f args H q) (onPartT f args H q') :=
  Imp.call fun v Hl => Imp.bif (h _ _) Imp.none
theorem callV_imp (G : Ctx) (f : FuncId) (args : List AV) (H : Heap) {q : AV → Heap → Option β} {q' : AV → Heap → TA β} (h : ∀ v b, Imp (q v b) (q' v b)) : Imp (callV G f args H q) (callVT G f args H q') := by
  unfold callV callVT
  generalize G.C f = r
  cases r
  · exact Imp.none
  · exact onPart_imp _ _ _ h
theorem nextV_imp (H : Heap) (isStr : Bool) (x : AV) {q : AV → Heap → Option β} {q' : AV → Heap → TA β} (h : ∀ v b, Imp (q v b) (q' v b)) : Imp (nextV H isStr x q) (nextVT H isStr x q') := by
  cases x with
  | ptr a b i st =>
    rcases b with _ | b
    · rcases i with _ | i
      · rcases st with _ | _ | st
        · exact Imp.none
        · unfold nextV nextVT
          simp only
          generalize H[a]? = k
          rcases k with _ | k
          · exact Imp.none
          cases k <;> first | exact Imp.none | exact Imp.bif (Imp.ck (Imp.ck (h _ _) Imp.none) (h _ _)) Imp.none
        · exact Imp.none
      · exact Imp.none
    · exact Imp.none
  | _ => exact Imp.none
theorem convW_imp (T : TT) (src dst : TypeId) (H : Heap) (x : AV) {q : AV → Heap → Option β} {q' : AV → Heap → TA β} (h : ∀ v b, Imp (q v b) (q' v b)) : Imp (convW T src dst H x q) (convWT T src dst H x q') := by
  cases x with
  | slice a b o n st nl w =>
    cases nl
    · cases w
      · exact Imp.none
      · unfold convW convWT
        simp only
        generalize sliceT T dst = k
        rcases k with _ | e
        · exact Imp.none
        refine Imp.bif ?_ Imp.none
        generalize H[a]? = k
        rcases k with _ | k
        · exact Imp.none
        cases k with
        | dyn rw ty cols => cases rw <;> first | exact Imp.none | exact h _ _
        | _ => exact Imp.none
    · exact Imp.none
  | _ => exact Imp.none
theorem evWrite_imp (G : Ctx) (t : Tm) (H : Heap) (op : Op) {q : AV → Heap → Option β} {q' : AV → Heap → TA β} (h : ∀ v b, Imp (q v b) (q' v b)) : Imp (evWrite G t H op q) (evWriteT G t H op q') := by
  cases op with
  | store ty x v => exact storeV_imp _ _ _ _ _ fun _ => h _ _
  | next x isStr => exact nextV_imp _ _ _ h
  | convert src dst x => exact convW_imp _ _ _ _ _ h
  | call c =>
    rcases c with ⟨cal, args, tys⟩
    cases cal with
    | builtin b =>
      cases b with
      | append =>
        unfold evWrite evWriteT
        simp only
        generalize opvs t args.toList = l
        rcases l with _ | ⟨x, _ | ⟨y, _ | ⟨z, l⟩⟩⟩ <;> first | exact appendV_imp _ _ _ _ _ h | exact Imp.none
      | copy =>
        unfold evWrite evWriteT
        simp only
        generalize opvs t args.toList = l
        rcases l with _ | ⟨x, _ | ⟨y, _ | ⟨z, l⟩⟩⟩ <;> first | exact copyV_imp _ _ _ _ _ h | exact Imp.none
      | _ => exact Imp.none
    | value f =>
      unfold evWrite evWriteT
      simp only
      generalize opv t f = v
      cases v <;> first | exact callV_imp _ _ _ _ h | exact Imp.none
    | invoke r name =>
      unfold evWrite evWriteT
      simp only
      generalize opv t r = v
      cases v with
      | iface ty v =>
        cases v with
        | ptr a b i st =>
          simp only
          generalize G.M ty name = k
          cases k
          · exact Imp.none
          · exact callV_imp _ _ _ _ h
        | _ => exact Imp.none
      | _ => exact Imp.none
  | _ => exact Imp.none
theorem evOp_imp (G : Ctx) (s : St) (o : Oper) {q : AV → Heap → Option β} {q' : AV → Heap → TA β} (h : ∀ v b, Imp (q v b) (q' v b)) : Imp (evOp G s o q) (evOpT G s o q') := by
  unfold evOp evOpT
  generalize kindOf G.T o.op = k
  cases k
  · exact evPure_imp _ _ _ fun _ => h _ _
  · exact evAlloc_imp _ _ _ _ _ fun _ _ => h _ _
  · exact evRead_imp _ _ _ _ fun _ => h _ _
  · exact evWrite_imp _ _ _ _ h
theorem wants_imp (all : List Oper) (s : St) (o : Oper) {yes no : St → Option β} {yes' no' : St → TA β} (h1 : ∀ s, Imp (yes s) (yes' s)) (h2 : ∀ s, Imp (no s) (no' s)) : Imp (wants all s o yes no) (wantsT all s o yes' no') := by
  unfold wants wantsT
  generalize o.guard = g
  rcases g with _ | ⟨j, w⟩
  · exact h1 _
  simp only
  generalize nthO all j = k
  rcases k with _ | k
  · exact Imp.none
  simp only
  generalize k.dst = d
  rcases d with _ | d
  · exact Imp.none
  simp only
  generalize lk s.t d = v
  cases v with
  | bool b => cases w <;> first | exact Imp.br (h1 _) (h2 _) | exact Imp.br (h2 _) (h1 _)
  | tuple l => cases l <;> first | exact h2 _ | exact Imp.none
  | _ => exact Imp.none
theorem evList_imp (G : Ctx) (all : List Oper) : ∀ (l : List Oper) (s : St) {q : St → Option β} {q' : St → TA β}, (∀ s, Imp (q s) (q' s)) → Imp (evList G all l s q) (evListT G all l s q')
  | [], s, q, q', h => h s
  | o :: r, s, q, q', h => wants_imp _ _ _ (fun s => evOp_imp _ _ _ fun v H => evList_imp G all r _ h) (fun s => evList_imp G all r _ h)
theorem evRec_imp (G : Ctx) (all : List Oper) : ∀ (l : List Oper) (s : St) {q : List Rec → St → Option β} {q' : List Rec → St → TA β}, (∀ r s, Imp (q r s) (q' r s)) → Imp (evRec G all l s q) (evRecT G all l s q')
  | [], s, q, q', h => h [] s
  | o :: r, s, q, q', h => wants_imp _ _ _ (fun s => evOp_imp _ _ _ fun v H => evRec_imp G all r _ fun rs s' => h _ _) (fun s => evRec_imp G all r _ fun rs s' => h _ _)
theorem segAt_nat (ss : List Seg) (b i : Nat) (q : AV → Option β) : segAt ss b i q = (segAt ss b i some).bind q := by
  unfold segAt
  generalize segDrop ss b = r
  rcases r with _ | _ | ⟨_ | _, r⟩
  · rfl
  · rfl
  · simp only; cases decide (i = 0) <;> rfl
  · simp only; split <;> rfl
theorem lenK_nat {α : Type} (cols : List Col) (f : Nat → Option α) (q : α → Option β) : lenK cols (fun n => (f n).bind q) = (lenK cols f).bind q := by
  rw [lenK_eq, lenK_eq]
theorem bif_nat {α : Type} (c : Bool) (x y : Option α) (q : α → Option β) : (bif c then x else y).bind q = bif c then x.bind q else y.bind q := by cases c <;> rfl
theorem if_nat {α : Type} (p : Prop) [Decidable p] (x y : Option α) (q : α → Option β) : (if p then x else y).bind q = if p then x.bind q else y.bind q := by split <;> rfl
theorem loadV_nat (T : TT) (t : TypeId) (H : Heap) (x : AV) (q : AV → Option β) : loadV T t H x q = (loadV T t H x some).bind q := by
  cases x with
  | ptr a b i st =>
    unfold loadV
    simp only
    generalize T t = r
    rcases r with _ | ti
    · rfl
    simp only
    generalize H[a]? = k
    rcases k with _ | k
    · rfl
    cases k with
    | dead => rfl
    | iter => rfl
    | segs rw ty ss =>
      simp only [bif_nat, ← segAt_nat]
      cases segCut ss b ti.size <;> rfl
    | dyn rw ty cols =>
      simp only [bif_nat, ← lenK_nat, if_nat, onSome]
      cases colGet1 cols b i <;> cases segCut (colsRow i cols) b ti.size <;> rfl
  | _ => rfl
theorem elems_nat (H : Heap) (x : AV) (f : List Col → Option AV) (q : AV → Option β) : elems H x (fun l => (f l).bind q) = (elems H x f).bind q := by
  cases x with
  | slice a b o n st nl w =>
    unfold elems
    simp only
    generalize H[a]? = k
    rcases k with _ | k
    · rfl
    cases k with
    | dead => rfl
    | iter => rfl
    | segs rw ty ss =>
      simp only
      generalize segDrop ss b = r
      rcases r with _ | _ | ⟨_ | _, r⟩
      · rfl
      · rfl
      · rfl
      · simp only [bif_nat, if_nat]; rfl
    | dyn rw ty cols => simp only [bif_nat, ← lenK_nat, if_nat]; rfl
  | _ => rfl
theorem elemsW_nat (H : Heap) (x : AV) (f : List Col → Option AV) (q : AV → Option β) : elemsW H x (fun l => (f l).bind q) = (elemsW H x f).bind q := by
  cases x with
  | slice a b o n st nl w =>
    rcases b with _ | b
    · rcases o with _ | o
      · cases w
        · (simp only [elemsW]; exact elems_nat _ _ _ _)
        · unfold elemsW
          simp only
          generalize H[a]? = k
          rcases k with _ | k
          · rfl
          cases k with
          | dyn => simp only [bif_nat, ← lenK_nat, if_nat]; rfl
          | _ => rfl
      · (simp only [elemsW]; exact elems_nat _ _ _ _)
    · (simp only [elemsW]; exact elems_nat _ _ _ _)
  | _ => (simp only [elemsW]; exact elems_nat _ _ _ _)
theorem strOf_nat (l : List Col) (q : AV → Option β) : (match l with | [.ints .u8 l] => q (.str (mkStr l)) | _ => none) = (match l with | [.ints .u8 l] => some (.str (mkStr l)) | _ => none : Option AV).bind q := by
  rcases l with _ | ⟨c, _ | ⟨d, l⟩⟩
  · rfl
  · cases c with
    | ints k l => cases k <;> rfl
    | bools l => rfl
  · cases c with
    | ints k l => cases k <;> rfl
    | bools l => rfl
theorem convS_nat (T : TT) (src : TypeId) (H : Heap) (v : AV) (q : AV → Option β) :
    (match sliceT T src with | some e => bif byteT T e then (elemsW H v fun cs => match cs with | [.ints .u8 l] => q (.str (mkStr l)) | _ => none) else none | none => none) =
    (match sliceT T src with | some e => bif byteT T e then (elemsW H v fun cs => match cs with | [.ints .u8 l] => some (.str (mkStr l)) | _ => none) else none | none => none : Option AV).bind q := by
  generalize sliceT T src = k
  cases k
  · rfl
  · simp only [bif_nat]
    rw [← elemsW_nat]
    simp only [← strOf_nat]
    rfl
theorem evRead_nat (T : TT) (t : Tm) (H : Heap) (op : Op) (q : AV → Option β) : evRead T t H op q = (evRead T t H op some).bind q := by
  cases op with
  | load ty x => exact loadV_nat _ _ _ _ _
  | convert src dst x =>
    unfold evRead
    simp only [bif_nat]
    congr 1
    generalize opv t x = v
    cases v with
    | str s => simp only [bif_nat]; rfl
    | _ => exact convS_nat T src H _ q
  | _ => rfl
theorem same_imp (T : TT) (t : Tm) (H : Heap) (op : Op) (v : AV) {a : Option β} {a' : TA β} (h : Imp a a') : Imp (sameV (evRead T t H op some) v a) (evReadT T t H op fun u => TA.eqv u v a') := by
  classical
  have e : sameV (evRead T t H op some) v a = evRead T t H op fun u => if u = v then a else none := by
    rw [evRead_nat T t H op (fun u => if u = v then a else none)]
    cases hx : evRead T t H op some with
    | none =>
      unfold sameV
      simp [eqO]
    | some u =>
      by_cases hu : u = v
      · subst hu
        rw [sameV_eq rfl]
        simp
      · have : sameV (some u) v a = none := by
          unfold sameV
          cases hq : eqO (some u) v with
          | true => exact absurd (eqAV_ok hq) hu
          | false => simp [hu]
        rw [this]
        simp [hu]
  rw [e]
  refine evRead_imp T t H op fun u tp ht => ?_
  have k : u = v ∧ (a' tp).2 := ht
  rw [if_pos k.1]
  exact h tp k.2
theorem runEnts_imp (G : Ctx) (ops : List Oper) (rs : List Rec) (H0 : Heap) {b : Option β} {b' : TA β} (h : Imp b b') : ∀ l, Imp (runEnts G ops rs H0 b l) (runEntsT G ops rs H0 b' l)
  | [] => h
  | (i, c, keep) :: l => by
    unfold runEnts runEntsT
    generalize nthR rs i = r
    generalize nthO ops i = o
    rcases r with _ | r
    · exact Imp.none
    rcases o with _ | o
    · exact Imp.none
    exact Imp.bif (same_imp _ _ _ _ _ (runEnts_imp G ops rs H0 h l)) (runEnts_imp G ops rs H0 h l)
theorem seqK_imp {k : XT → St → Option β} {k' : XT → St → TA β} {f : St → Option β} {f' : St → TA β} (h : ∀ e s, Imp (k e s) (k' e s)) (hf : ∀ s, Imp (f s) (f' s)) (e : XT) (s : St) : Imp (seqK k f e s) (seqKT k' f' e s) := by
  cases e <;> first | exact hf _ | exact h _ _
theorem blockK_imp {id : Nat} {k : XT → St → Option β} {k' : XT → St → TA β} (h : ∀ e s, Imp (k e s) (k' e s)) (e : XT) (s : St) : Imp (blockK id k e s) (blockKT id k' e s) := by
  cases e <;> first | exact h _ _ | exact Imp.bif (h _ _) (h _ _)
theorem condK_imp (c : AV) {a b : Option β} {a' b' : TA β} (h1 : Imp a a') (h2 : Imp b b') : Imp (condK c a b) (condKT c a' b') := by
  cases c <;> first | exact Imp.br h1 h2 | exact Imp.none
end
theorem ev_imp (G : Ctx) (m : Nat) : ∀ (c : Code) {β : Type} (s : St) {k : XT → St → Option β} {k' : XT → St → TA β}, (∀ e s, Imp (k e s) (k' e s)) → Imp (ev G m c s k) (evT G m c s k') := by
  intro c
  induction c with
  | skip => intro β s k k' h; exact h _ _
  | region id ops draw =>
    intro β s k k' h
    refine Imp.bif ?_ (evList_imp _ _ _ _ fun s => h _ _)
    generalize drawOf G.D id = d
    cases d
    · exact Imp.none
    · exact evRec_imp _ _ _ _ fun rs s' => runEnts_imp _ _ _ _ (h _ _) _
  | seq a b iha ihb => intro β s k k' h; exact iha _ (seqK_imp h fun s => ihb _ h)
  | cond c a b iha ihb => intro β s k k' h; exact condK_imp _ (iha _ h) (ihb _ h)
  | block id c ih => intro β s k k' h; exact ih _ (blockK_imp h)
  | loop c ih =>
    intro β s k k' h
    unfold ev evT
    generalize firstRegion c = r
    rcases r with _ | key
    · exact Imp.none
    simp only
    generalize lkey G.A key = l
    rcases l with _ | l
    · exact Imp.none
    exact Imp.out h
  | exit id => intro β s k k' h; exact h _ _
  | ret => intro β s k k' h; exact h _ _
  | _ => intro β s k k' h; exact Imp.none
theorem resL_imp {β : Type} (T : TT) (s : St) : ∀ (l : List ResultVar) {q : List AV → Option β} {q' : List AV → TA β}, (∀ v, Imp (q v) (q' v)) → Imp (resL T s l q) (resLT T s l q')
  | [], q, q', h => h _
  | .tmp t :: rs, q, q', h => resL_imp T s rs fun vs => h _
  | .cell a ty :: rs, q, q', h => loadV_imp _ _ _ _ fun v => resL_imp T s rs fun vs => h _
theorem atEnd_imp (T : TT) (m : Nat) (rs : List ResultVar) (e : XT) (s : St) : Imp (atEnd T m rs e s) (atEndT T m rs e s) := by
  have : Imp (resL T s rs fun vs => some (least m (pack vs) s.H)) (resLT T s rs fun vs _ => (some (least m (pack vs) s.H), True)) := resL_imp T s rs fun vs t _ => rfl
  cases e
  · exact this
  · exact Imp.none
  · exact this
theorem semF_imp (G : Ctx) (fn : Func) (args : List AV) (H : Heap) : Imp (semF G fn args H) (semFT G fn args H) := by
  unfold semF semFT
  generalize fn.body = b
  cases b
  · exact Imp.none
  · exact ev_imp _ _ _ _ fun e s => atEnd_imp _ _ _ _ _
theorem lp_imp (G : Ctx) (m : Nat) (fn : Func) (key n : Nat) (s : St) : Imp (lp G m fn key (n + 1) s) (lpT G m fn key n s) := by
  unfold lp lpT
  generalize lkey G.A key = l
  rcases l with _ | l
  · exact Imp.none
  · exact ev_imp _ _ _ _ fun e s t _ => rfl
theorem finF (G : Ctx) (fn : Func) {args : List AV} {H : Heap} (t : List Dec) {r : Option (AV × Heap)} {C : Prop} (e : semFT G fn args H t = (r, C)) (c : C) : r = semF G fn args H := by
  have := semF_imp G fn args H t (by rw [e]; exact c)
  rw [this, e]
theorem finL (G : Ctx) (m : Nat) (fn : Func) (key n : Nat) {s : St} (t : List Dec) {r : Out} {C : Prop} (e : lpT G m fn key n s t = (r, C)) (c : C) : r = lp G m fn key (n + 1) s := by
  have := lp_imp G m fn key n s t (by rw [e]; exact c)
  rw [this, e]
section
variable {ρ γ : Type} {res : Option ρ → Option γ} {x y : Option ρ} {z : Option γ}
theorem br {p : Prop} {i : Decidable p} (h1 : p → res x = z) (h2 : ¬p → res y = z) : res (@ite _ p i x y) = z := by
  by_cases h : p
  · rw [if_pos h]; exact h1 h
  · rw [if_neg h]; exact h2 h
end
theorem ya {a b : Prop} (x : a) (y : b) : a ∧ b := ⟨x, y⟩
theorem yt {b : Prop} (y : b) : true = true ∧ b := ⟨rfl, y⟩
theorem yf {b : Prop} (y : b) : false = false ∧ b := ⟨rfl, y⟩
theorem yz : True := trivial
theorem ys {α β : Type} {f : α → β} {x y : α} {z : β} (e : f x = z) (h : x = y) : z = f y := by rw [← e, h]
theorem pE {x y : Int} (h : x = y) : (x == y) = true := by simp [h]
theorem pNE {x y : Int} (h : ¬x = y) : (x == y) = false := by simp [h]
theorem pX {x y : Int} (h : x = y) : (x != y) = false := by simp [h]
theorem pNX {x y : Int} (h : ¬x = y) : (x != y) = true := by simp [h]
theorem pNB {c : Bool} (h : ¬c = true) : c = false := by simpa using h
theorem pT {p : Prop} [Decidable p] (h : p) : decide p = true := decide_eq_true h
theorem pF {p : Prop} [Decidable p] (h : ¬p) : decide p = false := decide_eq_false h
end Go.Abs
