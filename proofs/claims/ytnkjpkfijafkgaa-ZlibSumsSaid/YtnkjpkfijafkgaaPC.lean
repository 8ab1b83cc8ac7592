/-
Printed by a program of this session: plain functions, and that the evaluator answers as they do.
-/
import Derived.Test.YtnkjpkfijafkgaaS4
import Derived.Test.YtnkjpkfijafkgaaFns
import Derived.Test.YtnkjpkfijafkgaaPBC1
set_option linter.unusedVariables false
set_option maxRecDepth 100000
namespace Go.Proofs.Ytnkjpkfijafkgaa
open Go.Abs
noncomputable section
/-! 34, loop 3 -/
inductive Qlf34_3 where
  | e0 (h1_0 : Int) (h1_1 : Int)
def slf34_3 (N : Nat) (a0n : Nat) (h0 : List Int) (n : Nat) (go : Int → Int → Int → Option Qlf34_3) (s9k3 : Int) (h1_0k3 : Int) (h1_1k3 : Int) : Option Qlf34_3 :=
 if (s9k3 < ((a0n : Nat) : Int)) then
  if (((0 : Int) ≤ s9k3) ∧ ((Int.toNat s9k3) < a0n)) then
   if ((0 + (Int.toNat s9k3)) < (List.length h0)) then
    go (IntKind.wrap IntKind.i64 (s9k3 + (1 : Int))) (Int.tmod (IntKind.wrap IntKind.i64 (h1_0k3 + (IntKind.wrap IntKind.i64 (List.getD h0 (0 + (Int.toNat s9k3)) (0 : Int))))) (65521 : Int)) (Int.tmod (IntKind.wrap IntKind.i64 (h1_1k3 + (Int.tmod (IntKind.wrap IntKind.i64 (h1_0k3 + (IntKind.wrap IntKind.i64 (List.getD h0 (0 + (Int.toNat s9k3)) (0 : Int))))) (65521 : Int)))) (65521 : Int))
   else
    none
  else
   none
 else
  some (.e0 h1_0k3 h1_1k3)
def lf34_3 (N : Nat) (a0n : Nat) (h0 : List Int) : Nat → Int → Int → Int → Option Qlf34_3
  | 0, _, _, _ => none
  | n + 1, s9k3, h1_0k3, h1_1k3 => slf34_3 N a0n h0 n (lf34_3 N a0n h0 n) s9k3 h1_0k3 h1_1k3
def qlf34_3 (a0n : Nat) (a0nl : Bool) (h0rw : Bool) (h0 : List Int) : Option Qlf34_3 → Out
  | none => none
  | some (.e0 h1_0 h1_1) => some ((XT.exit 0), (St.mk [(3, (AV.ptr 1 0 0 1))] [(Blk.dyn h0rw 5 [(Col.ints IntKind.u8 h0)]), (Blk.segs true 96 [(Seg.cell (AV.int IntKind.i64 h1_0)), (Seg.cell (AV.int IntKind.i64 h1_1))])]))
theorem elf34_3 (N : Nat) (a0n : Nat) (a0nl : Bool) (h0rw : Bool) (h0 : List Int) : ∀ (n : Nat) (s9k3 : Int) (h1_0k3 : Int) (h1_1k3 : Int), qlf34_3 a0n a0nl h0rw h0 (lf34_3 N a0n h0 n s9k3 h1_0k3 h1_1k3) = lp (ctx34 N) 1 Try.f34 3 n (St.mk [(3, (AV.ptr 1 0 0 1)), (7, (AV.slice 0 0 0 a0n 1 a0nl true)), (8, (AV.int IntKind.i64 ((a0n : Nat) : Int))), (9, (AV.int IntKind.i64 s9k3))] [(Blk.dyn h0rw 5 [(Col.ints IntKind.u8 h0)]), (Blk.segs true 96 [(Seg.cell (AV.int IntKind.i64 h1_0k3)), (Seg.cell (AV.int IntKind.i64 h1_1k3))])]) := by
  intro n
  induction n with
  | zero => intros; kernel_rfl
  | succ n ih =>
    intro s9k3 h1_0k3 h1_1k3
    rw [lf34_3]
    unfold slf34_3
    refine br (p := (s9k3 < ((a0n : Nat) : Int))) (fun h2x => ?_) (fun h2x => finL (ctx34 N) 1 Try.f34 3 n [.b false] (by kernel_rfl) (ya (pF h2x) yz))
    refine br (p := (((0 : Int) ≤ s9k3) ∧ ((Int.toNat s9k3) < a0n))) (fun h3x => ?_) (fun h3x => finL (ctx34 N) 1 Try.f34 3 n [.b true, .b false] (by kernel_rfl) (ya (pT h2x) (ya (pF h3x) yz)))
    refine br (p := ((0 + (Int.toNat s9k3)) < (List.length h0))) (fun h4x => (ih (IntKind.wrap IntKind.i64 (s9k3 + (1 : Int))) (Int.tmod (IntKind.wrap IntKind.i64 (h1_0k3 + (IntKind.wrap IntKind.i64 (List.getD h0 (0 + (Int.toNat s9k3)) (0 : Int))))) (65521 : Int)) (Int.tmod (IntKind.wrap IntKind.i64 (h1_1k3 + (Int.tmod (IntKind.wrap IntKind.i64 (h1_0k3 + (IntKind.wrap IntKind.i64 (List.getD h0 (0 + (Int.toNat s9k3)) (0 : Int))))) (65521 : Int)))) (65521 : Int))).trans (finL (ctx34 N) 1 Try.f34 3 n [.b true, .b true, .b true, .b false, .b false] (by kernel_rfl) (ya (pT h2x) (ya (pT h3x) (ya (pT h4x) (yf (yf yz))))))) (fun h4x => ?_)
    exact finL (ctx34 N) 1 Try.f34 3 n [.b true, .b true, .b false] (by kernel_rfl) (ya (pT h2x) (ya (pT h3x) (ya (pF h4x) yz)))
/-! 34 -/
inductive Rf34 where
  | r0 (res : Int)
def f34 (N : Nat) (a0n : Nat) (h0 : List Int) : Option Rf34 :=
 (match lf34_3 N a0n h0 N (0 : Int) (1 : Int) (0 : Int) with
 | none => none
 | some (.e0 h1_0l5 h1_1l5) =>
  some (.r0 (Go.Abs.bits IntKind.i64 (fun z9_0 z9_1 => (z9_0 ||| z9_1)) (IntKind.wrap IntKind.i64 (h1_1l5 * (65536 : Int))) h1_0l5)))
def rf34 (a0n : Nat) (a0nl : Bool) (h0rw : Bool) (h0 : List Int) : Option Rf34 → Option (AV × Heap)
  | none => none
  | some (.r0 res) => some ((AV.int IntKind.i64 res), [(Blk.dyn h0rw 5 [(Col.ints IntKind.u8 h0)])])
theorem ef34 (N : Nat) (a0n : Nat) (a0nl : Bool) (h0rw : Bool) (h0 : List Int) : rf34 a0n a0nl h0rw h0 (f34 N a0n h0) = sem34 N [(AV.slice 0 0 0 a0n 1 a0nl true)] [(Blk.dyn h0rw 5 [(Col.ints IntKind.u8 h0)])] := by
  unfold f34
  cases ho5 : lf34_3 N a0n h0 N (0 : Int) (1 : Int) (0 : Int) with
  | none => exact finF (ctx34 N) Try.f34 [.out (qlf34_3 a0n a0nl h0rw h0 none)] (by kernel_rfl) (ya (ys (elf34_3 N a0n a0nl h0rw h0 N (0 : Int) (1 : Int) (0 : Int)) ho5) yz)
  | some o =>
    cases o with
    | e0 h1_0l5 h1_1l5 =>
      dsimp only
      exact finF (ctx34 N) Try.f34 [.out (qlf34_3 a0n a0nl h0rw h0 (some (.e0 h1_0l5 h1_1l5))), .b false] (by kernel_rfl) (ya (ys (elf34_3 N a0n a0nl h0rw h0 N (0 : Int) (1 : Int) (0 : Int)) ho5) (yf yz))
/-! 10 -/
inductive Rf10 where
  | r0 (res : Bool)
def f10 (N : Nat) (h0 : List Int) (h1 : List Int) : Option Rf10 :=
 if ((((List.length h0) : Nat) : Int) > (2000 : Int)) then
  some (.r0 true)
 else
  if ((((List.length h1) : Nat) : Int) > (2000 : Int)) then
   some (.r0 true)
  else
  (match f34 N (List.length h0) h0 with
  | none => none
  | some (.r0 resc2) =>
   (match f34 N (List.length h1) h1 with
   | none => none
   | some (.r0 resc3) =>
    if (((List.length (([] : List Int) ++ h0)) = (List.length (([] : List Int) ++ h0))) ∧ (((List.length (([] : List Int) ++ h0)) + (List.length h1)) ≤ 1099511627776)) then
     (match f34 N (List.length ((([] : List Int) ++ h0) ++ h1)) ((([] : List Int) ++ h0) ++ h1) with
     | none => none
     | some (.r0 resc5) =>
      some (.r0 (resc5 == (IntKind.wrap IntKind.i64 ((IntKind.wrap IntKind.i64 ((65536 : Int) * (Int.tmod (IntKind.wrap IntKind.i64 ((IntKind.wrap IntKind.i64 ((IntKind.wrap IntKind.i64 (Int.tdiv resc2 (65536 : Int))) + (IntKind.wrap IntKind.i64 (Int.tdiv resc3 (65536 : Int))))) + (IntKind.wrap IntKind.i64 ((((List.length h1) : Nat) : Int) * (IntKind.wrap IntKind.i64 ((Int.tmod resc2 (65536 : Int)) + (65520 : Int))))))) (65521 : Int)))) + (Int.tmod (IntKind.wrap IntKind.i64 ((IntKind.wrap IntKind.i64 ((Int.tmod resc2 (65536 : Int)) + (Int.tmod resc3 (65536 : Int)))) + (65520 : Int))) (65521 : Int)))))))
    else
     none))
def rf10 (a0nl : Bool) (a1nl : Bool) (h0rw : Bool) (h0 : List Int) (h1rw : Bool) (h1 : List Int) : Option Rf10 → Option (AV × Heap)
  | none => none
  | some (.r0 res) => some ((AV.bool res), [(Blk.dyn h0rw 5 [(Col.ints IntKind.u8 h0)]), (Blk.dyn h1rw 5 [(Col.ints IntKind.u8 h1)])])
theorem ef10 (N : Nat) (a0nl : Bool) (a1nl : Bool) (h0rw : Bool) (h0 : List Int) (h1rw : Bool) (h1 : List Int) (hk35 : sem35 N [] [] = some (.bool true, [])) : rf10 a0nl a1nl h0rw h0 h1rw h1 (f10 N h0 h1) = sem10 N [(AV.slice 0 0 0 (List.length h0) 1 a0nl true), (AV.slice 1 0 0 (List.length h1) 1 a1nl true)] [(Blk.dyn h0rw 5 [(Col.ints IntKind.u8 h0)]), (Blk.dyn h1rw 5 [(Col.ints IntKind.u8 h1)])] := by
  unfold f10
  refine br (p := ((((List.length h0) : Nat) : Int) > (2000 : Int))) (fun h0x => finF (ctx10 N) Try.f10 [.b true, .b true, .b true, .b true] (by kernel_rfl) (ya (pT h0x) (yt (yt (yt yz))))) (fun h0x => ?_)
  refine br (p := ((((List.length h1) : Nat) : Int) > (2000 : Int))) (fun h1x => finF (ctx10 N) Try.f10 [.b false, .b false, .b false, .b true] (by kernel_rfl) (ya (pF h0x) (yf (yf (ya (pT h1x) yz))))) (fun h1x => ?_)
  cases hc2 : f34 N (List.length h0) h0 with
  | none => exact finF (ctx10 N) Try.f10 [.b false, .b false, .b false, .b false, .call (rf34 (List.length h0) a0nl h0rw h0 none)] (by kernel_rfl) (ya (pF h0x) (yf (yf (ya (pF h1x) (ya (ys (ef34 N (List.length h0) a0nl h0rw h0) hc2) yz)))))
  | some o =>
    cases o with
    | r0 resc2 =>
      dsimp only
      cases hc3 : f34 N (List.length h1) h1 with
      | none => exact finF (ctx10 N) Try.f10 [.b false, .b false, .b false, .b false, .call (rf34 (List.length h0) a0nl h0rw h0 (some (.r0 resc2))), .call (rf34 (List.length h1) a1nl h1rw h1 none)] (by kernel_rfl) (ya (pF h0x) (yf (yf (ya (pF h1x) (ya (ys (ef34 N (List.length h0) a0nl h0rw h0) hc2) (ya (ys (ef34 N (List.length h1) a1nl h1rw h1) hc3) yz))))))
      | some o =>
        cases o with
        | r0 resc3 =>
          dsimp only
          refine br (p := (((List.length (([] : List Int) ++ h0)) = (List.length (([] : List Int) ++ h0))) ∧ (((List.length (([] : List Int) ++ h0)) + (List.length h1)) ≤ 1099511627776))) (fun h4x => ?_) (fun h4x => finF (ctx10 N) Try.f10 [.b false, .b false, .b false, .b false, .call (rf34 (List.length h0) a0nl h0rw h0 (some (.r0 resc2))), .call (rf34 (List.length h1) a1nl h1rw h1 (some (.r0 resc3))), .b true, .b true, .b true, .b false] (by kernel_rfl) (ya (pF h0x) (yf (yf (ya (pF h1x) (ya (ys (ef34 N (List.length h0) a0nl h0rw h0) hc2) (ya (ys (ef34 N (List.length h1) a1nl h1rw h1) hc3) (ya (pT (show ((List.length h0) = (List.length h0)) by omega)) (ya (pT (show ((0 = 0) ∧ ((0 + (List.length h0)) ≤ 1099511627776)) by omega)) (ya (pT (show ((List.length h1) = (List.length h1)) by omega)) (ya (pF h4x) yz)))))))))))
          cases hc5 : f34 N (List.length ((([] : List Int) ++ h0) ++ h1)) ((([] : List Int) ++ h0) ++ h1) with
          | none => exact finF (ctx10 N) Try.f10 [.b false, .b false, .b false, .b false, .call (rf34 (List.length h0) a0nl h0rw h0 (some (.r0 resc2))), .call (rf34 (List.length h1) a1nl h1rw h1 (some (.r0 resc3))), .b true, .b true, .b true, .b true, .call (rf34 (List.length ((([] : List Int) ++ h0) ++ h1)) ((Go.Abs.isEmptyCols [(Col.ints IntKind.u8 h1)]) && ((Go.Abs.isEmptyCols [(Col.ints IntKind.u8 h0)]) && false)) true ((([] : List Int) ++ h0) ++ h1) none)] (by kernel_rfl) (ya (pF h0x) (yf (yf (ya (pF h1x) (ya (ys (ef34 N (List.length h0) a0nl h0rw h0) hc2) (ya (ys (ef34 N (List.length h1) a1nl h1rw h1) hc3) (ya (pT (show ((List.length h0) = (List.length h0)) by omega)) (ya (pT (show ((0 = 0) ∧ ((0 + (List.length h0)) ≤ 1099511627776)) by omega)) (ya (pT (show ((List.length h1) = (List.length h1)) by omega)) (ya (pT h4x) (ya (ys (ef34 N (List.length ((([] : List Int) ++ h0) ++ h1)) ((Go.Abs.isEmptyCols [(Col.ints IntKind.u8 h1)]) && ((Go.Abs.isEmptyCols [(Col.ints IntKind.u8 h0)]) && false)) true ((([] : List Int) ++ h0) ++ h1)) hc5) yz)))))))))))
          | some o =>
            cases o with
            | r0 resc5 =>
              dsimp only
              exact finF (ctx10 N) Try.f10 [.b false, .b false, .b false, .b false, .call (rf34 (List.length h0) a0nl h0rw h0 (some (.r0 resc2))), .call (rf34 (List.length h1) a1nl h1rw h1 (some (.r0 resc3))), .b true, .b true, .b true, .b true, .call (rf34 (List.length ((([] : List Int) ++ h0) ++ h1)) ((Go.Abs.isEmptyCols [(Col.ints IntKind.u8 h1)]) && ((Go.Abs.isEmptyCols [(Col.ints IntKind.u8 h0)]) && false)) true ((([] : List Int) ++ h0) ++ h1) (some (.r0 resc5))), .b false, .b false, .b false, .b false, .b false, .b false, .b false, .call (some (.bool true, [])), .b true, .b true, .b true, .b true, .b true, .b true] (by kernel_rfl) (ya (pF h0x) (yf (yf (ya (pF h1x) (ya (ys (ef34 N (List.length h0) a0nl h0rw h0) hc2) (ya (ys (ef34 N (List.length h1) a1nl h1rw h1) hc3) (ya (pT (show ((List.length h0) = (List.length h0)) by omega)) (ya (pT (show ((0 = 0) ∧ ((0 + (List.length h0)) ≤ 1099511627776)) by omega)) (ya (pT (show ((List.length h1) = (List.length h1)) by omega)) (ya (pT h4x) (ya (ys (ef34 N (List.length ((([] : List Int) ++ h0) ++ h1)) ((Go.Abs.isEmptyCols [(Col.ints IntKind.u8 h1)]) && ((Go.Abs.isEmptyCols [(Col.ints IntKind.u8 h0)]) && false)) true ((([] : List Int) ++ h0) ++ h1)) hc5) (yf (yf (yf (yf (yf (yf (yf (ya hk35 (yt (yt (yt (yt (yt (yt yz)))))))))))))))))))))))))
/-! 61, loop 6 -/
inductive Qlf61_6 where
  | e0 (s6nl : Bool) (h2 : List Int)
def slf61_6 (N : Nat) (n : Nat) (go : Bool → List Int → Nat → Option Qlf61_6) (s6nlk6 : Bool) (h2k6 : List Int) (h3pk6 : Nat) : Option Qlf61_6 :=
 if (h3pk6 < 2) then
  if ((Go.Abs.bt (ByteArray.mk (List.toArray [(120 : UInt8), (1 : UInt8)])) h3pk6) < (128 : Int)) then
   if (((List.length h2k6) = (List.length h2k6)) ∧ (((List.length h2k6) + (List.length [(IntKind.wrap IntKind.u8 (Go.Abs.bt (ByteArray.mk (List.toArray [(120 : UInt8), (1 : UInt8)])) h3pk6))])) ≤ 1099511627776)) then
    go false (h2k6 ++ [(IntKind.wrap IntKind.u8 (Go.Abs.bt (ByteArray.mk (List.toArray [(120 : UInt8), (1 : UInt8)])) h3pk6))]) (h3pk6 + 1)
   else
   none
  else
   none
 else
  some (.e0 s6nlk6 h2k6)
def lf61_6 (N : Nat) : Nat → Bool → List Int → Nat → Option Qlf61_6
  | 0, _, _, _ => none
  | n + 1, s6nlk6, h2k6, h3pk6 => slf61_6 N n (lf61_6 N n) s6nlk6 h2k6 h3pk6
def qlf61_6 (a0n : Nat) (a0nl : Bool) (h0rw : Bool) (h0 : List Int) (res_0nlc0 : Bool) (h1c0 : List Int) : Option Qlf61_6 → Out
  | none => none
  | some (.e0 s6nl h2) => some ((XT.exit 0), (St.mk [(0, (AV.slice 0 0 0 a0n 1 a0nl true)), (4, (AV.slice 1 0 0 (List.length h1c0) 1 res_0nlc0 true)), (6, (AV.slice 2 0 0 (List.length h2) 1 s6nl true))] [(Blk.dyn h0rw 5 [(Col.ints IntKind.u8 h0)]), (Blk.dyn true 5 [(Col.ints IntKind.u8 h1c0)]), (Blk.dyn true 5 [(Col.ints IntKind.u8 h2)])]))
theorem elf61_6 (N : Nat) (a0n : Nat) (a0nl : Bool) (h0rw : Bool) (h0 : List Int) (res_0nlc0 : Bool) (h1c0 : List Int) : ∀ (n : Nat) (s6nlk6 : Bool) (h2k6 : List Int) (h3pk6 : Nat), qlf61_6 a0n a0nl h0rw h0 res_0nlc0 h1c0 (lf61_6 N n s6nlk6 h2k6 h3pk6) = lp (ctx61 N) 1 Try.f61 6 n (St.mk [(0, (AV.slice 0 0 0 a0n 1 a0nl true)), (4, (AV.slice 1 0 0 (List.length h1c0) 1 res_0nlc0 true)), (6, (AV.slice 2 0 0 (List.length h2k6) 1 s6nlk6 true)), (18, (AV.ptr 3 0 0 1))] [(Blk.dyn h0rw 5 [(Col.ints IntKind.u8 h0)]), (Blk.dyn true 5 [(Col.ints IntKind.u8 h1c0)]), (Blk.dyn true 5 [(Col.ints IntKind.u8 h2k6)]), (Blk.iter (ByteArray.mk (List.toArray [(120 : UInt8), (1 : UInt8)])) h3pk6)]) := by
  intro n
  induction n with
  | zero => intros; kernel_rfl
  | succ n ih =>
    intro s6nlk6 h2k6 h3pk6
    rw [lf61_6]
    unfold slf61_6
    refine br (p := (h3pk6 < 2)) (fun h2x => ?_) (fun h2x => finL (ctx61 N) 1 Try.f61 6 n [.b false, .b false] (by kernel_rfl) (ya (pF h2x) (yf yz)))
    refine br (p := ((Go.Abs.bt (ByteArray.mk (List.toArray [(120 : UInt8), (1 : UInt8)])) h3pk6) < (128 : Int))) (fun h3x => ?_) (fun h3x => finL (ctx61 N) 1 Try.f61 6 n [.b true, .b false] (by kernel_rfl) (ya (pT h2x) (ya (pF h3x) yz)))
    refine br (p := (((List.length h2k6) = (List.length h2k6)) ∧ (((List.length h2k6) + (List.length [(IntKind.wrap IntKind.u8 (Go.Abs.bt (ByteArray.mk (List.toArray [(120 : UInt8), (1 : UInt8)])) h3pk6))])) ≤ 1099511627776))) (fun h4x => (ih false (h2k6 ++ [(IntKind.wrap IntKind.u8 (Go.Abs.bt (ByteArray.mk (List.toArray [(120 : UInt8), (1 : UInt8)])) h3pk6))]) (h3pk6 + 1)).trans (finL (ctx61 N) 1 Try.f61 6 n [.b true, .b true, .b true, .b true, .b true] (by kernel_rfl) (ya (pT h2x) (ya (pT h3x) (yt (yt (ya (pT h4x) yz))))))) (fun h4x => ?_)
    exact finL (ctx61 N) 1 Try.f61 6 n [.b true, .b true, .b true, .b true, .b false] (by kernel_rfl) (ya (pT h2x) (ya (pT h3x) (yt (yt (ya (pF h4x) yz)))))
/-! 61 -/
inductive Rf61 where
  | r0 (res_0nl : Bool) (res_1 : Int) (h1 : List Int)
def f61 (N : Nat) (a0n : Nat) (h0 : List Int) : Option Rf61 :=
 (match f30 N a0n h0 with
 | none => none
 | some (.r0 res_0nlc0 res_1c0 h1c0) =>
  if (res_1c0 = (0 : Int)) then
   (match lf61_6 N N true ([] : List Int) 0 with
   | none => none
   | some (.e0 s6nll5 h2l5) =>
    if (((List.length h2l5) = (List.length h2l5)) ∧ (((List.length h2l5) + (List.length h1c0)) ≤ 1099511627776)) then
     (match f34 N a0n h0 with
     | none => none
     | some (.r0 resc7) =>
      if (((List.length (h2l5 ++ h1c0)) = (List.length (h2l5 ++ h1c0))) ∧ (((List.length (h2l5 ++ h1c0)) + (List.length [(IntKind.wrap IntKind.u8 (Int.fdiv resc7 (16777216 : Int))), (IntKind.wrap IntKind.u8 (Int.fdiv resc7 (65536 : Int))), (IntKind.wrap IntKind.u8 (Int.fdiv resc7 (256 : Int))), (IntKind.wrap IntKind.u8 resc7)])) ≤ 1099511627776)) then
       some (.r0 false (0 : Int) ((h2l5 ++ h1c0) ++ [(IntKind.wrap IntKind.u8 (Int.fdiv resc7 (16777216 : Int))), (IntKind.wrap IntKind.u8 (Int.fdiv resc7 (65536 : Int))), (IntKind.wrap IntKind.u8 (Int.fdiv resc7 (256 : Int))), (IntKind.wrap IntKind.u8 resc7)]))
      else
      none)
    else
     none)
  else
   some (.r0 true res_1c0 ([] : List Int)))
def rf61 (a0n : Nat) (a0nl : Bool) (h0rw : Bool) (h0 : List Int) : Option Rf61 → Option (AV × Heap)
  | none => none
  | some (.r0 res_0nl res_1 h1) => some ((AV.tuple [(AV.slice 1 0 0 (List.length h1) 1 res_0nl true), (AV.int IntKind.i64 res_1)]), [(Blk.dyn h0rw 5 [(Col.ints IntKind.u8 h0)]), (Blk.dyn true 5 [(Col.ints IntKind.u8 h1)])])
theorem ef61 (N : Nat) (a0n : Nat) (a0nl : Bool) (h0rw : Bool) (h0 : List Int) : rf61 a0n a0nl h0rw h0 (f61 N a0n h0) = sem61 N [(AV.slice 0 0 0 a0n 1 a0nl true)] [(Blk.dyn h0rw 5 [(Col.ints IntKind.u8 h0)])] := by
  unfold f61
  cases hc0 : f30 N a0n h0 with
  | none => exact finF (ctx61 N) Try.f61 [.call (rf30 a0n a0nl h0rw h0 none)] (by kernel_rfl) (ya (ys (ef30 N a0n a0nl h0rw h0) hc0) yz)
  | some o =>
    cases o with
    | r0 res_0nlc0 res_1c0 h1c0 =>
      dsimp only
      refine br (p := (res_1c0 = (0 : Int))) (fun h1x => ?_) (fun h1x => finF (ctx61 N) Try.f61 [.call (rf30 a0n a0nl h0rw h0 (some (.r0 res_0nlc0 res_1c0 h1c0))), .b true] (by kernel_rfl) (ya (ys (ef30 N a0n a0nl h0rw h0) hc0) (ya (pNX h1x) yz)))
      cases ho5 : lf61_6 N N true ([] : List Int) 0 with
      | none => exact finF (ctx61 N) Try.f61 [.call (rf30 a0n a0nl h0rw h0 (some (.r0 res_0nlc0 res_1c0 h1c0))), .b false, .out (qlf61_6 a0n a0nl h0rw h0 res_0nlc0 h1c0 none)] (by kernel_rfl) (ya (ys (ef30 N a0n a0nl h0rw h0) hc0) (ya (pX h1x) (ya (ys (elf61_6 N a0n a0nl h0rw h0 res_0nlc0 h1c0 N true ([] : List Int) 0) ho5) yz)))
      | some o =>
        cases o with
        | e0 s6nll5 h2l5 =>
          dsimp only
          refine br (p := (((List.length h2l5) = (List.length h2l5)) ∧ (((List.length h2l5) + (List.length h1c0)) ≤ 1099511627776))) (fun h6x => ?_) (fun h6x => finF (ctx61 N) Try.f61 [.call (rf30 a0n a0nl h0rw h0 (some (.r0 res_0nlc0 res_1c0 h1c0))), .b false, .out (qlf61_6 a0n a0nl h0rw h0 res_0nlc0 h1c0 (some (.e0 s6nll5 h2l5))), .b true, .b false] (by kernel_rfl) (ya (ys (ef30 N a0n a0nl h0rw h0) hc0) (ya (pX h1x) (ya (ys (elf61_6 N a0n a0nl h0rw h0 res_0nlc0 h1c0 N true ([] : List Int) 0) ho5) (ya (pT (show ((List.length h1c0) = (List.length h1c0)) by omega)) (ya (pF h6x) yz))))))
          cases hc7 : f34 N a0n h0 with
          | none => exact finF (ctx61 N) Try.f61 [.call (rf30 a0n a0nl h0rw h0 (some (.r0 res_0nlc0 res_1c0 h1c0))), .b false, .out (qlf61_6 a0n a0nl h0rw h0 res_0nlc0 h1c0 (some (.e0 s6nll5 h2l5))), .b true, .b true, .call (rf34 a0n a0nl h0rw h0 none)] (by kernel_rfl) (ya (ys (ef30 N a0n a0nl h0rw h0) hc0) (ya (pX h1x) (ya (ys (elf61_6 N a0n a0nl h0rw h0 res_0nlc0 h1c0 N true ([] : List Int) 0) ho5) (ya (pT (show ((List.length h1c0) = (List.length h1c0)) by omega)) (ya (pT h6x) (ya (ys (ef34 N a0n a0nl h0rw h0) hc7) yz))))))
          | some o =>
            cases o with
            | r0 resc7 =>
              dsimp only
              refine br (p := (((List.length (h2l5 ++ h1c0)) = (List.length (h2l5 ++ h1c0))) ∧ (((List.length (h2l5 ++ h1c0)) + (List.length [(IntKind.wrap IntKind.u8 (Int.fdiv resc7 (16777216 : Int))), (IntKind.wrap IntKind.u8 (Int.fdiv resc7 (65536 : Int))), (IntKind.wrap IntKind.u8 (Int.fdiv resc7 (256 : Int))), (IntKind.wrap IntKind.u8 resc7)])) ≤ 1099511627776))) (fun h8x => finF (ctx61 N) Try.f61 [.call (rf30 a0n a0nl h0rw h0 (some (.r0 res_0nlc0 res_1c0 h1c0))), .b false, .out (qlf61_6 a0n a0nl h0rw h0 res_0nlc0 h1c0 (some (.e0 s6nll5 h2l5))), .b true, .b true, .call (rf34 a0n a0nl h0rw h0 (some (.r0 resc7))), .b false, .b false, .b false, .b true, .b true] (by kernel_rfl) (ya (ys (ef30 N a0n a0nl h0rw h0) hc0) (ya (pX h1x) (ya (ys (elf61_6 N a0n a0nl h0rw h0 res_0nlc0 h1c0 N true ([] : List Int) 0) ho5) (ya (pT (show ((List.length h1c0) = (List.length h1c0)) by omega)) (ya (pT h6x) (ya (ys (ef34 N a0n a0nl h0rw h0) hc7) (yf (yf (yf (yt (ya (pT h8x) yz)))))))))))) (fun h8x => ?_)
              exact finF (ctx61 N) Try.f61 [.call (rf30 a0n a0nl h0rw h0 (some (.r0 res_0nlc0 res_1c0 h1c0))), .b false, .out (qlf61_6 a0n a0nl h0rw h0 res_0nlc0 h1c0 (some (.e0 s6nll5 h2l5))), .b true, .b true, .call (rf34 a0n a0nl h0rw h0 (some (.r0 resc7))), .b false, .b false, .b false, .b true, .b false] (by kernel_rfl) (ya (ys (ef30 N a0n a0nl h0rw h0) hc0) (ya (pX h1x) (ya (ys (elf61_6 N a0n a0nl h0rw h0 res_0nlc0 h1c0 N true ([] : List Int) 0) ho5) (ya (pT (show ((List.length h1c0) = (List.length h1c0)) by omega)) (ya (pT h6x) (ya (ys (ef34 N a0n a0nl h0rw h0) hc7) (yf (yf (yf (yt (ya (pF h8x) yz)))))))))))
/-! 34, loop 3 -/
inductive Qlf34v1_3 where
  | e0
def slf34v1_3 (N : Nat) (n : Nat) (go : Option Qlf34v1_3) : Option Qlf34v1_3 :=
 some .e0
def lf34v1_3 (N : Nat) : Nat → Option Qlf34v1_3
  | 0 => none
  | n + 1 => slf34v1_3 N n (lf34v1_3 N n)
def qlf34v1_3 : Option Qlf34v1_3 → Out
  | none => none
  | some .e0 => some ((XT.exit 0), (St.mk [(3, (AV.ptr 0 0 0 1))] [(Blk.segs true 96 [(Seg.cell (AV.int IntKind.i64 (1 : Int))), (Seg.cell (AV.int IntKind.i64 (0 : Int)))])]))
theorem elf34v1_3 (N : Nat) : ∀ (n : Nat), qlf34v1_3 (lf34v1_3 N n) = lp (ctx34 N) 0 Try.f34 3 n (St.mk [(3, (AV.ptr 0 0 0 1)), (7, AV.nilsl), (8, (AV.int IntKind.i64 (0 : Int))), (9, (AV.int IntKind.i64 (0 : Int)))] [(Blk.segs true 96 [(Seg.cell (AV.int IntKind.i64 (1 : Int))), (Seg.cell (AV.int IntKind.i64 (0 : Int)))])]) := by
  intro n
  induction n with
  | zero => intros; kernel_rfl
  | succ n ih =>
    intros
    rw [lf34v1_3]
    unfold slf34v1_3
    exact finL (ctx34 N) 0 Try.f34 3 n [.b false] (by kernel_rfl) (yf yz)
/-! 34 -/
inductive Rf34v1 where
  | r0
def f34v1 (N : Nat) : Option Rf34v1 :=
 (match lf34v1_3 N N with
 | none => none
 | some .e0 =>
  some .r0)
def rf34v1 : Option Rf34v1 → Option (AV × Heap)
  | none => none
  | some .r0 => some ((AV.int IntKind.i64 (1 : Int)), ([] : List Blk))
theorem ef34v1 (N : Nat) : rf34v1 (f34v1 N) = sem34 N [AV.nilsl] ([] : List Blk) := by
  unfold f34v1
  cases ho0 : lf34v1_3 N N with
  | none => exact finF (ctx34 N) Try.f34 [.out (qlf34v1_3 none)] (by kernel_rfl) (ya (ys (elf34v1_3 N N) ho0) yz)
  | some o =>
    cases o with
    | e0 =>
      dsimp only
      exact finF (ctx34 N) Try.f34 [.out (qlf34v1_3 (some .e0)), .b false] (by kernel_rfl) (ya (ys (elf34v1_3 N N) ho0) (yf yz))
/-! 35 -/
inductive Rf35 where
  | r0 (res : Bool)
def f35 (N : Nat) : Option Rf35 :=
 (match f61 N 3 [(97 : Int), (98 : Int), (99 : Int)] with
 | none => none
 | some (.r0 res_0nlc0 res_1c0 h1c0) =>
  (match f34v1 N with
  | none => none
  | some .r0 =>
   (match f34 N 3 [(97 : Int), (98 : Int), (99 : Int)] with
   | none => none
   | some (.r0 resc2) =>
    if (resc2 = (38600999 : Int)) then
     if (((ByteArray.toList (Go.Abs.mkStr h1c0)) == (ByteArray.toList (ByteArray.mk (List.toArray [(120 : UInt8), (1 : UInt8), (75 : UInt8), (76 : UInt8), (74 : UInt8), (6 : UInt8), (0 : UInt8), (2 : UInt8), (77 : UInt8), (1 : UInt8), (39 : UInt8)])))) = true) then
      some (.r0 (res_1c0 == (0 : Int)))
     else
      some (.r0 false)
    else
     some (.r0 false))))
def rf35 : Option Rf35 → Option (AV × Heap)
  | none => none
  | some (.r0 res) => some ((AV.bool res), ([] : List Blk))
theorem ef35 (N : Nat) : rf35 (f35 N) = sem35 N ([] : List AV) ([] : List Blk) := by
  unfold f35
  cases hc0 : f61 N 3 [(97 : Int), (98 : Int), (99 : Int)] with
  | none => exact finF (ctx35 N) Try.f35 [.call (rf61 3 false true [(97 : Int), (98 : Int), (99 : Int)] none)] (by kernel_rfl) (ya (ys (ef61 N 3 false true [(97 : Int), (98 : Int), (99 : Int)]) hc0) yz)
  | some o =>
    cases o with
    | r0 res_0nlc0 res_1c0 h1c0 =>
      dsimp only
      cases hc1 : f34v1 N with
      | none => exact finF (ctx35 N) Try.f35 [.call (rf61 3 false true [(97 : Int), (98 : Int), (99 : Int)] (some (.r0 res_0nlc0 res_1c0 h1c0))), .call (rf34v1 none)] (by kernel_rfl) (ya (ys (ef61 N 3 false true [(97 : Int), (98 : Int), (99 : Int)]) hc0) (ya (ys (ef34v1 N) hc1) yz))
      | some o =>
        cases o with
        | r0 =>
          dsimp only
          cases hc2 : f34 N 3 [(97 : Int), (98 : Int), (99 : Int)] with
          | none => exact finF (ctx35 N) Try.f35 [.call (rf61 3 false true [(97 : Int), (98 : Int), (99 : Int)] (some (.r0 res_0nlc0 res_1c0 h1c0))), .call (rf34v1 (some .r0)), .b true, .b true, .b true, .call (rf34 3 false true [(97 : Int), (98 : Int), (99 : Int)] none)] (by kernel_rfl) (ya (ys (ef61 N 3 false true [(97 : Int), (98 : Int), (99 : Int)]) hc0) (ya (ys (ef34v1 N) hc1) (yt (yt (yt (ya (ys (ef34 N 3 false true [(97 : Int), (98 : Int), (99 : Int)]) hc2) yz))))))
          | some o =>
            cases o with
            | r0 resc2 =>
              dsimp only
              refine br (p := (resc2 = (38600999 : Int))) (fun h3x => ?_) (fun h3x => finF (ctx35 N) Try.f35 [.call (rf61 3 false true [(97 : Int), (98 : Int), (99 : Int)] (some (.r0 res_0nlc0 res_1c0 h1c0))), .call (rf34v1 (some .r0)), .b true, .b true, .b true, .call (rf34 3 false true [(97 : Int), (98 : Int), (99 : Int)] (some (.r0 resc2))), .b true, .b false, .b false, .b false, .b false, .b false] (by kernel_rfl) (ya (ys (ef61 N 3 false true [(97 : Int), (98 : Int), (99 : Int)]) hc0) (ya (ys (ef34v1 N) hc1) (yt (yt (yt (ya (ys (ef34 N 3 false true [(97 : Int), (98 : Int), (99 : Int)]) hc2) (yt (ya (pNE h3x) (yf (yf (yf (yf yz)))))))))))))
              refine br (p := (((ByteArray.toList (Go.Abs.mkStr h1c0)) == (ByteArray.toList (ByteArray.mk (List.toArray [(120 : UInt8), (1 : UInt8), (75 : UInt8), (76 : UInt8), (74 : UInt8), (6 : UInt8), (0 : UInt8), (2 : UInt8), (77 : UInt8), (1 : UInt8), (39 : UInt8)])))) = true)) (fun h4x => finF (ctx35 N) Try.f35 [.call (rf61 3 false true [(97 : Int), (98 : Int), (99 : Int)] (some (.r0 res_0nlc0 res_1c0 h1c0))), .call (rf34v1 (some .r0)), .b true, .b true, .b true, .call (rf34 3 false true [(97 : Int), (98 : Int), (99 : Int)] (some (.r0 resc2))), .b true, .b true, .b true, .b true, .b true, .b true, .b true] (by kernel_rfl) (ya (ys (ef61 N 3 false true [(97 : Int), (98 : Int), (99 : Int)]) hc0) (ya (ys (ef34v1 N) hc1) (yt (yt (yt (ya (ys (ef34 N 3 false true [(97 : Int), (98 : Int), (99 : Int)]) hc2) (yt (ya (pE h3x) (yt (ya (pT (show ((List.length h1c0) = (List.length h1c0)) by omega)) (yt (ya h4x (yt yz)))))))))))))) (fun h4x => ?_)
              exact finF (ctx35 N) Try.f35 [.call (rf61 3 false true [(97 : Int), (98 : Int), (99 : Int)] (some (.r0 res_0nlc0 res_1c0 h1c0))), .call (rf34v1 (some .r0)), .b true, .b true, .b true, .call (rf34 3 false true [(97 : Int), (98 : Int), (99 : Int)] (some (.r0 resc2))), .b true, .b true, .b true, .b true, .b true, .b false, .b false] (by kernel_rfl) (ya (ys (ef61 N 3 false true [(97 : Int), (98 : Int), (99 : Int)]) hc0) (ya (ys (ef34v1 N) hc1) (yt (yt (yt (ya (ys (ef34 N 3 false true [(97 : Int), (98 : Int), (99 : Int)]) hc2) (yt (ya (pE h3x) (yt (ya (pT (show ((List.length h1c0) = (List.length h1c0)) by omega)) (yt (ya (pNB h4x) (yf yz)))))))))))))
end
end Go.Proofs.Ytnkjpkfijafkgaa
