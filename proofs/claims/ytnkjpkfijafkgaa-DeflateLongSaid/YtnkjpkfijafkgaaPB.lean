/-
Printed by a program of this session: plain functions, and that the evaluator answers as they do.
-/
import Derived.Test.YtnkjpkfijafkgaaS4
import Derived.Test.YtnkjpkfijafkgaaFns
import Derived.Test.YtnkjpkfijafkgaaPAB
import Derived.Test.YtnkjpkfijafkgaaPBC0
import Derived.Test.YtnkjpkfijafkgaaPBC1
set_option linter.unusedVariables false
set_option maxRecDepth 100000
namespace Go.Proofs.Ytnkjpkfijafkgaa
open Go.Abs
noncomputable section
/-! 25 -/
inductive Rf25 where
  | r0
def f25 (N : Nat) (a0n : Nat) (h0 : List Int) : Option Rf25 :=
 if (a0n = (List.length h0)) then
  if ((0 = 0) ∧ ((0 + (List.length h0)) ≤ 1099511627776)) then
   some .r0
  else
  none
 else
  none
def rf25 (a0n : Nat) (a0nl : Bool) (h0rw : Bool) (h0 : List Int) : Option Rf25 → Option (AV × Heap)
  | none => none
  | some .r0 => some ((AV.slice 1 0 0 (List.length (([] : List Int) ++ h0)) 1 ((Go.Abs.isEmptyCols [(Col.ints IntKind.u8 h0)]) && true) true), [(Blk.dyn h0rw 5 [(Col.ints IntKind.u8 h0)]), (Blk.dyn true 5 [(Col.ints IntKind.u8 (([] : List Int) ++ h0))])])
theorem ef25 (N : Nat) (a0n : Nat) (a0nl : Bool) (h0rw : Bool) (h0 : List Int) : rf25 a0n a0nl h0rw h0 (f25 N a0n h0) = sem25 N [(AV.slice 0 0 0 a0n 1 a0nl true)] [(Blk.dyn h0rw 5 [(Col.ints IntKind.u8 h0)])] := by
  unfold f25
  refine br (p := (a0n = (List.length h0))) (fun h0x => ?_) (fun h0x => finF (ctx25 N) Try.f25 [.b false] (by kernel_rfl) (ya (pF h0x) yz))
  refine br (p := ((0 = 0) ∧ ((0 + (List.length h0)) ≤ 1099511627776))) (fun h1x => finF (ctx25 N) Try.f25 [.b true, .b true] (by kernel_rfl) (ya (pT h0x) (ya (pT h1x) yz))) (fun h1x => ?_)
  exact finF (ctx25 N) Try.f25 [.b true, .b false] (by kernel_rfl) (ya (pT h0x) (ya (pF h1x) yz))
/-! 48, loop 2 -/
inductive Qlf48_2 where
  | e0 (s7 : Int)
def slf48_2 (N : Nat) (a0n : Nat) (a1 : Int) (a2 : Int) (h0 : List Int) (n : Nat) (go : Int → Option Qlf48_2) (s7k2 : Int) : Option Qlf48_2 :=
 if (s7k2 < (258 : Int)) then
  if ((IntKind.wrap IntKind.i64 (a1 + s7k2)) < ((a0n : Nat) : Int)) then
   if (((0 : Int) ≤ (IntKind.wrap IntKind.i64 (a1 + s7k2))) ∧ ((Int.toNat (IntKind.wrap IntKind.i64 (a1 + s7k2))) < a0n)) then
    if ((0 + (Int.toNat (IntKind.wrap IntKind.i64 (a1 + s7k2)))) < (List.length h0)) then
     if (((0 : Int) ≤ (IntKind.wrap IntKind.i64 ((IntKind.wrap IntKind.i64 (a1 + s7k2)) - a2))) ∧ ((Int.toNat (IntKind.wrap IntKind.i64 ((IntKind.wrap IntKind.i64 (a1 + s7k2)) - a2))) < a0n)) then
      if ((0 + (Int.toNat (IntKind.wrap IntKind.i64 ((IntKind.wrap IntKind.i64 (a1 + s7k2)) - a2)))) < (List.length h0)) then
       if ((List.getD h0 (0 + (Int.toNat (IntKind.wrap IntKind.i64 (a1 + s7k2)))) (0 : Int)) = (List.getD h0 (0 + (Int.toNat (IntKind.wrap IntKind.i64 ((IntKind.wrap IntKind.i64 (a1 + s7k2)) - a2)))) (0 : Int))) then
        go (IntKind.wrap IntKind.i64 (s7k2 + (1 : Int)))
       else
       some (.e0 s7k2)
      else
       none
     else
      none
    else
     none
   else
    none
  else
   some (.e0 s7k2)
 else
  some (.e0 s7k2)
def lf48_2 (N : Nat) (a0n : Nat) (a1 : Int) (a2 : Int) (h0 : List Int) : Nat → Int → Option Qlf48_2
  | 0, _ => none
  | n + 1, s7k2 => slf48_2 N a0n a1 a2 h0 n (lf48_2 N a0n a1 a2 h0 n) s7k2
def qlf48_2 (a0n : Nat) (a0nl : Bool) (a1 : Int) (a2 : Int) (h0rw : Bool) (h0 : List Int) : Option Qlf48_2 → Out
  | none => none
  | some (.e0 s7) => some ((XT.exit 0), (St.mk [(7, (AV.int IntKind.i64 s7))] [(Blk.dyn h0rw 5 [(Col.ints IntKind.u8 h0)])]))
theorem elf48_2 (N : Nat) (a0n : Nat) (a0nl : Bool) (a1 : Int) (a2 : Int) (h0rw : Bool) (h0 : List Int) : ∀ (n : Nat) (s7k2 : Int), qlf48_2 a0n a0nl a1 a2 h0rw h0 (lf48_2 N a0n a1 a2 h0 n s7k2) = lp (ctx48 N) 1 Try.f48 2 n (St.mk [(0, (AV.slice 0 0 0 a0n 1 a0nl true)), (1, (AV.int IntKind.i64 a1)), (2, (AV.int IntKind.i64 a2)), (7, (AV.int IntKind.i64 s7k2))] [(Blk.dyn h0rw 5 [(Col.ints IntKind.u8 h0)])]) := by
  intro n
  induction n with
  | zero => intros; kernel_rfl
  | succ n ih =>
    intro s7k2
    rw [lf48_2]
    unfold slf48_2
    refine br (p := (s7k2 < (258 : Int))) (fun h6x => ?_) (fun h6x => finL (ctx48 N) 1 Try.f48 2 n [.b false, .b false, .b false, .b false, .b false, .b false, .b false, .b false, .b false, .b false, .b false, .b false, .b false, .b false, .b false, .b false, .b false, .b false, .b false, .b false, .b false, .b false] (by kernel_rfl) (ya (pF h6x) (yf (yf (yf (yf (yf (yf (yf (yf (yf (yf (yf (yf (yf (yf (yf (yf (yf (yf (yf (yf (yf yz)))))))))))))))))))))))
    refine br (p := ((IntKind.wrap IntKind.i64 (a1 + s7k2)) < ((a0n : Nat) : Int))) (fun h7x => ?_) (fun h7x => finL (ctx48 N) 1 Try.f48 2 n [.b true, .b true, .b true, .b true, .b true, .b true, .b false, .b false, .b false, .b false, .b false, .b false, .b false, .b false, .b false, .b false, .b false, .b false, .b false, .b false, .b false, .b false] (by kernel_rfl) (ya (pT h6x) (yt (yt (yt (yt (yt (ya (pF h7x) (yf (yf (yf (yf (yf (yf (yf (yf (yf (yf (yf (yf (yf (yf (yf yz)))))))))))))))))))))))
    refine br (p := (((0 : Int) ≤ (IntKind.wrap IntKind.i64 (a1 + s7k2))) ∧ ((Int.toNat (IntKind.wrap IntKind.i64 (a1 + s7k2))) < a0n))) (fun h8x => ?_) (fun h8x => finL (ctx48 N) 1 Try.f48 2 n [.b true, .b true, .b true, .b true, .b true, .b true, .b true, .b true, .b true, .b true, .b true, .b false] (by kernel_rfl) (ya (pT h6x) (yt (yt (yt (yt (yt (ya (pT h7x) (yt (yt (yt (yt (ya (pF h8x) yz)))))))))))))
    refine br (p := ((0 + (Int.toNat (IntKind.wrap IntKind.i64 (a1 + s7k2)))) < (List.length h0))) (fun h9x => ?_) (fun h9x => finL (ctx48 N) 1 Try.f48 2 n [.b true, .b true, .b true, .b true, .b true, .b true, .b true, .b true, .b true, .b true, .b true, .b true, .b true, .b false] (by kernel_rfl) (ya (pT h6x) (yt (yt (yt (yt (yt (ya (pT h7x) (yt (yt (yt (yt (ya (pT h8x) (yt (ya (pF h9x) yz)))))))))))))))
    refine br (p := (((0 : Int) ≤ (IntKind.wrap IntKind.i64 ((IntKind.wrap IntKind.i64 (a1 + s7k2)) - a2))) ∧ ((Int.toNat (IntKind.wrap IntKind.i64 ((IntKind.wrap IntKind.i64 (a1 + s7k2)) - a2))) < a0n))) (fun h10x => ?_) (fun h10x => finL (ctx48 N) 1 Try.f48 2 n [.b true, .b true, .b true, .b true, .b true, .b true, .b true, .b true, .b true, .b true, .b true, .b true, .b true, .b true, .b true, .b true, .b true, .b true, .b true, .b true, .b true, .b false] (by kernel_rfl) (ya (pT h6x) (yt (yt (yt (yt (yt (ya (pT h7x) (yt (yt (yt (yt (ya (pT h8x) (yt (ya (pT h9x) (yt (yt (yt (yt (yt (yt (yt (ya (pF h10x) yz)))))))))))))))))))))))
    refine br (p := ((0 + (Int.toNat (IntKind.wrap IntKind.i64 ((IntKind.wrap IntKind.i64 (a1 + s7k2)) - a2)))) < (List.length h0))) (fun h11x => ?_) (fun h11x => finL (ctx48 N) 1 Try.f48 2 n [.b true, .b true, .b true, .b true, .b true, .b true, .b true, .b true, .b true, .b true, .b true, .b true, .b true, .b true, .b true, .b true, .b true, .b true, .b true, .b true, .b true, .b true, .b true, .b false] (by kernel_rfl) (ya (pT h6x) (yt (yt (yt (yt (yt (ya (pT h7x) (yt (yt (yt (yt (ya (pT h8x) (yt (ya (pT h9x) (yt (yt (yt (yt (yt (yt (yt (ya (pT h10x) (yt (ya (pF h11x) yz)))))))))))))))))))))))))
    refine br (p := ((List.getD h0 (0 + (Int.toNat (IntKind.wrap IntKind.i64 (a1 + s7k2)))) (0 : Int)) = (List.getD h0 (0 + (Int.toNat (IntKind.wrap IntKind.i64 ((IntKind.wrap IntKind.i64 (a1 + s7k2)) - a2)))) (0 : Int)))) (fun h12x => (ih (IntKind.wrap IntKind.i64 (s7k2 + (1 : Int)))).trans (finL (ctx48 N) 1 Try.f48 2 n [.b true, .b true, .b true, .b true, .b true, .b true, .b true, .b true, .b true, .b true, .b true, .b true, .b true, .b true, .b true, .b true, .b true, .b true, .b true, .b true, .b true, .b true, .b true, .b true, .b true, .b true] (by kernel_rfl) (ya (pT h6x) (yt (yt (yt (yt (yt (ya (pT h7x) (yt (yt (yt (yt (ya (pT h8x) (yt (ya (pT h9x) (yt (yt (yt (yt (yt (yt (yt (ya (pT h10x) (yt (ya (pT h11x) (yt (ya (pE h12x) yz)))))))))))))))))))))))))))) (fun h12x => ?_)
    exact finL (ctx48 N) 1 Try.f48 2 n [.b true, .b true, .b true, .b true, .b true, .b true, .b true, .b true, .b true, .b true, .b true, .b true, .b true, .b true, .b true, .b true, .b true, .b true, .b true, .b true, .b true, .b true, .b true, .b true, .b true, .b false] (by kernel_rfl) (ya (pT h6x) (yt (yt (yt (yt (yt (ya (pT h7x) (yt (yt (yt (yt (ya (pT h8x) (yt (ya (pT h9x) (yt (yt (yt (yt (yt (yt (yt (ya (pT h10x) (yt (ya (pT h11x) (yt (ya (pNE h12x) yz))))))))))))))))))))))))))
/-! 48 -/
inductive Rf48 where
  | r0 (res : Int)
def f48 (N : Nat) (a0n : Nat) (a1 : Int) (a2 : Int) (h0 : List Int) : Option Rf48 :=
 (match lf48_2 N a0n a1 a2 h0 N (0 : Int) with
 | none => none
 | some (.e0 s7l13) =>
  some (.r0 s7l13))
def rf48 (a0n : Nat) (a0nl : Bool) (a1 : Int) (a2 : Int) (h0rw : Bool) (h0 : List Int) : Option Rf48 → Option (AV × Heap)
  | none => none
  | some (.r0 res) => some ((AV.int IntKind.i64 res), [(Blk.dyn h0rw 5 [(Col.ints IntKind.u8 h0)])])
theorem ef48 (N : Nat) (a0n : Nat) (a0nl : Bool) (a1 : Int) (a2 : Int) (h0rw : Bool) (h0 : List Int) : rf48 a0n a0nl a1 a2 h0rw h0 (f48 N a0n a1 a2 h0) = sem48 N [(AV.slice 0 0 0 a0n 1 a0nl true), (AV.int IntKind.i64 a1), (AV.int IntKind.i64 a2)] [(Blk.dyn h0rw 5 [(Col.ints IntKind.u8 h0)])] := by
  unfold f48
  cases ho13 : lf48_2 N a0n a1 a2 h0 N (0 : Int) with
  | none => exact finF (ctx48 N) Try.f48 [.out (qlf48_2 a0n a0nl a1 a2 h0rw h0 none)] (by kernel_rfl) (ya (ys (elf48_2 N a0n a0nl a1 a2 h0rw h0 N (0 : Int)) ho13) yz)
  | some o =>
    cases o with
    | e0 s7l13 =>
      dsimp only
      exact finF (ctx48 N) Try.f48 [.out (qlf48_2 a0n a0nl a1 a2 h0rw h0 (some (.e0 s7l13)))] (by kernel_rfl) (ya (ys (elf48_2 N a0n a0nl a1 a2 h0rw h0 N (0 : Int)) ho13) yz)
/-! 27, loop 9 -/
inductive Qlf27_9 where
  | e0 (s6 : Int) (s7 : Int)
def slf27_9 (N : Nat) (a0n : Nat) (h0 : List Int) (s5k5 : Int) (n : Nat) (go : Int → Int → Int → Option Qlf27_9) (s6k9 : Int) (s7k9 : Int) (s8k9 : Int) : Option Qlf27_9 :=
 if (s8k9 ≤ (1024 : Int)) then
  if (s8k9 ≤ s5k5) then
   (match f48 N a0n s5k5 s8k9 h0 with
   | none => none
   | some (.r0 resc10) =>
    if (resc10 > s6k9) then
     go resc10 s8k9 (IntKind.wrap IntKind.i64 (s8k9 + (1 : Int)))
    else
    go s6k9 s7k9 (IntKind.wrap IntKind.i64 (s8k9 + (1 : Int))))
  else
   some (.e0 s6k9 s7k9)
 else
  some (.e0 s6k9 s7k9)
def lf27_9 (N : Nat) (a0n : Nat) (h0 : List Int) (s5k5 : Int) : Nat → Int → Int → Int → Option Qlf27_9
  | 0, _, _, _ => none
  | n + 1, s6k9, s7k9, s8k9 => slf27_9 N a0n h0 s5k5 n (lf27_9 N a0n h0 s5k5 n) s6k9 s7k9 s8k9
def qlf27_9 (a0n : Nat) (a0nl : Bool) (h0rw : Bool) (h0 : List Int) (s4nlk5 : Bool) (s5k5 : Int) (h1_0k5 : List Int) (h1_1k5 : List Int) (h1_2k5 : List Int) : Option Qlf27_9 → Out
  | none => none
  | some (.e0 s6 s7) => some ((XT.exit 2), (St.mk [(0, (AV.slice 0 0 0 a0n 1 a0nl true)), (4, (AV.slice 1 0 0 (List.length h1_0k5) 3 s4nlk5 true)), (5, (AV.int IntKind.i64 s5k5)), (6, (AV.int IntKind.i64 s6)), (7, (AV.int IntKind.i64 s7))] [(Blk.dyn h0rw 5 [(Col.ints IntKind.u8 h0)]), (Blk.dyn true 62 [(Col.ints IntKind.i64 h1_0k5), (Col.ints IntKind.i64 h1_1k5), (Col.ints IntKind.i64 h1_2k5)])]))
theorem elf27_9 (N : Nat) (a0n : Nat) (a0nl : Bool) (h0rw : Bool) (h0 : List Int) (s4nlk5 : Bool) (s5k5 : Int) (h1_0k5 : List Int) (h1_1k5 : List Int) (h1_2k5 : List Int) : ∀ (n : Nat) (s6k9 : Int) (s7k9 : Int) (s8k9 : Int), qlf27_9 a0n a0nl h0rw h0 s4nlk5 s5k5 h1_0k5 h1_1k5 h1_2k5 (lf27_9 N a0n h0 s5k5 n s6k9 s7k9 s8k9) = lp (ctx27 N) 1 Try.f27 9 n (St.mk [(0, (AV.slice 0 0 0 a0n 1 a0nl true)), (4, (AV.slice 1 0 0 (List.length h1_0k5) 3 s4nlk5 true)), (5, (AV.int IntKind.i64 s5k5)), (6, (AV.int IntKind.i64 s6k9)), (7, (AV.int IntKind.i64 s7k9)), (8, (AV.int IntKind.i64 s8k9))] [(Blk.dyn h0rw 5 [(Col.ints IntKind.u8 h0)]), (Blk.dyn true 62 [(Col.ints IntKind.i64 h1_0k5), (Col.ints IntKind.i64 h1_1k5), (Col.ints IntKind.i64 h1_2k5)])]) := by
  intro n
  induction n with
  | zero => intros; kernel_rfl
  | succ n ih =>
    intro s6k9 s7k9 s8k9
    rw [lf27_9]
    unfold slf27_9
    refine br (p := (s8k9 ≤ (1024 : Int))) (fun h8x => ?_) (fun h8x => finL (ctx27 N) 1 Try.f27 9 n [.b false, .b false, .b false, .b false] (by kernel_rfl) (ya (pF h8x) (yf (yf (yf yz)))))
    refine br (p := (s8k9 ≤ s5k5)) (fun h9x => ?_) (fun h9x => finL (ctx27 N) 1 Try.f27 9 n [.b true, .b true, .b true, .b false] (by kernel_rfl) (ya (pT h8x) (yt (yt (ya (pF h9x) yz)))))
    cases hc10 : f48 N a0n s5k5 s8k9 h0 with
    | none => exact finL (ctx27 N) 1 Try.f27 9 n [.b true, .b true, .b true, .b true, .call (rf48 a0n a0nl s5k5 s8k9 h0rw h0 none)] (by kernel_rfl) (ya (pT h8x) (yt (yt (ya (pT h9x) (ya (ys (ef48 N a0n a0nl s5k5 s8k9 h0rw h0) hc10) yz)))))
    | some o =>
      cases o with
      | r0 resc10 =>
        dsimp only
        refine br (p := (resc10 > s6k9)) (fun h11x => (ih resc10 s8k9 (IntKind.wrap IntKind.i64 (s8k9 + (1 : Int)))).trans (finL (ctx27 N) 1 Try.f27 9 n [.b true, .b true, .b true, .b true, .call (rf48 a0n a0nl s5k5 s8k9 h0rw h0 (some (.r0 resc10))), .b true] (by kernel_rfl) (ya (pT h8x) (yt (yt (ya (pT h9x) (ya (ys (ef48 N a0n a0nl s5k5 s8k9 h0rw h0) hc10) (ya (pT h11x) yz)))))))) (fun h11x => ?_)
        exact (ih s6k9 s7k9 (IntKind.wrap IntKind.i64 (s8k9 + (1 : Int)))).trans (finL (ctx27 N) 1 Try.f27 9 n [.b true, .b true, .b true, .b true, .call (rf48 a0n a0nl s5k5 s8k9 h0rw h0 (some (.r0 resc10))), .b false] (by kernel_rfl) (ya (pT h8x) (yt (yt (ya (pT h9x) (ya (ys (ef48 N a0n a0nl s5k5 s8k9 h0rw h0) hc10) (ya (pF h11x) yz)))))))
/-! 27, loop 5 -/
inductive Qlf27_5 where
  | e0 (s4nl : Bool) (h1_0 : List Int) (h1_1 : List Int) (h1_2 : List Int)
def slf27_5 (N : Nat) (a0n : Nat) (h0 : List Int) (n : Nat) (go : Bool → Int → List Int → List Int → List Int → Option Qlf27_5) (s4nlk5 : Bool) (s5k5 : Int) (h1_0k5 : List Int) (h1_1k5 : List Int) (h1_2k5 : List Int) : Option Qlf27_5 :=
 if (s5k5 < ((a0n : Nat) : Int)) then
  (match lf27_9 N a0n h0 s5k5 N (0 : Int) (0 : Int) (1 : Int) with
  | none => none
  | some (.e0 s6l12 s7l12) =>
   if (s6l12 ≥ (3 : Int)) then
    if (((List.length h1_0k5) = (List.length h1_0k5)) ∧ (((List.length h1_0k5) + 1) ≤ 1099511627776)) then
     go false (IntKind.wrap IntKind.i64 (s5k5 + s6l12)) (h1_0k5 ++ [(0 : Int)]) (h1_1k5 ++ [s6l12]) (h1_2k5 ++ [s7l12])
    else
    none
   else
    if (((0 : Int) ≤ s5k5) ∧ ((Int.toNat s5k5) < a0n)) then
     if ((0 + (Int.toNat s5k5)) < (List.length h0)) then
      if (((List.length h1_0k5) = (List.length h1_0k5)) ∧ (((List.length h1_0k5) + (List.length [(IntKind.wrap IntKind.i64 (List.getD h0 (0 + (Int.toNat s5k5)) (0 : Int)))])) ≤ 1099511627776)) then
       go false (IntKind.wrap IntKind.i64 (s5k5 + (1 : Int))) (h1_0k5 ++ [(IntKind.wrap IntKind.i64 (List.getD h0 (0 + (Int.toNat s5k5)) (0 : Int)))]) (h1_1k5 ++ [(0 : Int)]) (h1_2k5 ++ [(0 : Int)])
      else
      none
     else
      none
    else
     none)
 else
  some (.e0 s4nlk5 h1_0k5 h1_1k5 h1_2k5)
def lf27_5 (N : Nat) (a0n : Nat) (h0 : List Int) : Nat → Bool → Int → List Int → List Int → List Int → Option Qlf27_5
  | 0, _, _, _, _, _ => none
  | n + 1, s4nlk5, s5k5, h1_0k5, h1_1k5, h1_2k5 => slf27_5 N a0n h0 n (lf27_5 N a0n h0 n) s4nlk5 s5k5 h1_0k5 h1_1k5 h1_2k5
def qlf27_5 (a0n : Nat) (a0nl : Bool) (h0rw : Bool) (h0 : List Int) : Option Qlf27_5 → Out
  | none => none
  | some (.e0 s4nl h1_0 h1_1 h1_2) => some ((XT.exit 0), (St.mk [(4, (AV.slice 1 0 0 (List.length h1_0) 3 s4nl true))] [(Blk.dyn h0rw 5 [(Col.ints IntKind.u8 h0)]), (Blk.dyn true 62 [(Col.ints IntKind.i64 h1_0), (Col.ints IntKind.i64 h1_1), (Col.ints IntKind.i64 h1_2)])]))
theorem elf27_5 (N : Nat) (a0n : Nat) (a0nl : Bool) (h0rw : Bool) (h0 : List Int) : ∀ (n : Nat) (s4nlk5 : Bool) (s5k5 : Int) (h1_0k5 : List Int) (h1_1k5 : List Int) (h1_2k5 : List Int), qlf27_5 a0n a0nl h0rw h0 (lf27_5 N a0n h0 n s4nlk5 s5k5 h1_0k5 h1_1k5 h1_2k5) = lp (ctx27 N) 1 Try.f27 5 n (St.mk [(0, (AV.slice 0 0 0 a0n 1 a0nl true)), (4, (AV.slice 1 0 0 (List.length h1_0k5) 3 s4nlk5 true)), (5, (AV.int IntKind.i64 s5k5))] [(Blk.dyn h0rw 5 [(Col.ints IntKind.u8 h0)]), (Blk.dyn true 62 [(Col.ints IntKind.i64 h1_0k5), (Col.ints IntKind.i64 h1_1k5), (Col.ints IntKind.i64 h1_2k5)])]) := by
  intro n
  induction n with
  | zero => intros; kernel_rfl
  | succ n ih =>
    intro s4nlk5 s5k5 h1_0k5 h1_1k5 h1_2k5
    rw [lf27_5]
    unfold slf27_5
    refine br (p := (s5k5 < ((a0n : Nat) : Int))) (fun h4x => ?_) (fun h4x => finL (ctx27 N) 1 Try.f27 5 n [.b false] (by kernel_rfl) (ya (pF h4x) yz))
    cases ho12 : lf27_9 N a0n h0 s5k5 N (0 : Int) (0 : Int) (1 : Int) with
    | none => exact finL (ctx27 N) 1 Try.f27 5 n [.b true, .out (qlf27_9 a0n a0nl h0rw h0 s4nlk5 s5k5 h1_0k5 h1_1k5 h1_2k5 none)] (by kernel_rfl) (ya (pT h4x) (ya (ys (elf27_9 N a0n a0nl h0rw h0 s4nlk5 s5k5 h1_0k5 h1_1k5 h1_2k5 N (0 : Int) (0 : Int) (1 : Int)) ho12) yz))
    | some o =>
      cases o with
      | e0 s6l12 s7l12 =>
        dsimp only
        refine br (p := (s6l12 ≥ (3 : Int))) (fun h13x => ?_) (fun h13x => ?_)
        · skip
          refine br (p := (((List.length h1_0k5) = (List.length h1_0k5)) ∧ (((List.length h1_0k5) + 1) ≤ 1099511627776))) (fun h14x => (ih false (IntKind.wrap IntKind.i64 (s5k5 + s6l12)) (h1_0k5 ++ [(0 : Int)]) (h1_1k5 ++ [s6l12]) (h1_2k5 ++ [s7l12])).trans (finL (ctx27 N) 1 Try.f27 5 n [.b true, .out (qlf27_9 a0n a0nl h0rw h0 s4nlk5 s5k5 h1_0k5 h1_1k5 h1_2k5 (some (.e0 s6l12 s7l12))), .b true, .b true, .b true] (by kernel_rfl) (ya (pT h4x) (ya (ys (elf27_9 N a0n a0nl h0rw h0 s4nlk5 s5k5 h1_0k5 h1_1k5 h1_2k5 N (0 : Int) (0 : Int) (1 : Int)) ho12) (ya (pT h13x) (yt (ya (pT h14x) yz))))))) (fun h14x => ?_)
          exact finL (ctx27 N) 1 Try.f27 5 n [.b true, .out (qlf27_9 a0n a0nl h0rw h0 s4nlk5 s5k5 h1_0k5 h1_1k5 h1_2k5 (some (.e0 s6l12 s7l12))), .b true, .b true, .b false] (by kernel_rfl) (ya (pT h4x) (ya (ys (elf27_9 N a0n a0nl h0rw h0 s4nlk5 s5k5 h1_0k5 h1_1k5 h1_2k5 N (0 : Int) (0 : Int) (1 : Int)) ho12) (ya (pT h13x) (yt (ya (pF h14x) yz)))))
        · skip
          refine br (p := (((0 : Int) ≤ s5k5) ∧ ((Int.toNat s5k5) < a0n))) (fun h15x => ?_) (fun h15x => finL (ctx27 N) 1 Try.f27 5 n [.b true, .out (qlf27_9 a0n a0nl h0rw h0 s4nlk5 s5k5 h1_0k5 h1_1k5 h1_2k5 (some (.e0 s6l12 s7l12))), .b false, .b false] (by kernel_rfl) (ya (pT h4x) (ya (ys (elf27_9 N a0n a0nl h0rw h0 s4nlk5 s5k5 h1_0k5 h1_1k5 h1_2k5 N (0 : Int) (0 : Int) (1 : Int)) ho12) (ya (pF h13x) (ya (pF h15x) yz)))))
          refine br (p := ((0 + (Int.toNat s5k5)) < (List.length h0))) (fun h16x => ?_) (fun h16x => finL (ctx27 N) 1 Try.f27 5 n [.b true, .out (qlf27_9 a0n a0nl h0rw h0 s4nlk5 s5k5 h1_0k5 h1_1k5 h1_2k5 (some (.e0 s6l12 s7l12))), .b false, .b true, .b false] (by kernel_rfl) (ya (pT h4x) (ya (ys (elf27_9 N a0n a0nl h0rw h0 s4nlk5 s5k5 h1_0k5 h1_1k5 h1_2k5 N (0 : Int) (0 : Int) (1 : Int)) ho12) (ya (pF h13x) (ya (pT h15x) (ya (pF h16x) yz))))))
          refine br (p := (((List.length h1_0k5) = (List.length h1_0k5)) ∧ (((List.length h1_0k5) + (List.length [(IntKind.wrap IntKind.i64 (List.getD h0 (0 + (Int.toNat s5k5)) (0 : Int)))])) ≤ 1099511627776))) (fun h17x => (ih false (IntKind.wrap IntKind.i64 (s5k5 + (1 : Int))) (h1_0k5 ++ [(IntKind.wrap IntKind.i64 (List.getD h0 (0 + (Int.toNat s5k5)) (0 : Int)))]) (h1_1k5 ++ [(0 : Int)]) (h1_2k5 ++ [(0 : Int)])).trans (finL (ctx27 N) 1 Try.f27 5 n [.b true, .out (qlf27_9 a0n a0nl h0rw h0 s4nlk5 s5k5 h1_0k5 h1_1k5 h1_2k5 (some (.e0 s6l12 s7l12))), .b false, .b true, .b true, .b true, .b true] (by kernel_rfl) (ya (pT h4x) (ya (ys (elf27_9 N a0n a0nl h0rw h0 s4nlk5 s5k5 h1_0k5 h1_1k5 h1_2k5 N (0 : Int) (0 : Int) (1 : Int)) ho12) (ya (pF h13x) (ya (pT h15x) (ya (pT h16x) (yt (ya (pT h17x) yz))))))))) (fun h17x => ?_)
          exact finL (ctx27 N) 1 Try.f27 5 n [.b true, .out (qlf27_9 a0n a0nl h0rw h0 s4nlk5 s5k5 h1_0k5 h1_1k5 h1_2k5 (some (.e0 s6l12 s7l12))), .b false, .b true, .b true, .b true, .b false] (by kernel_rfl) (ya (pT h4x) (ya (ys (elf27_9 N a0n a0nl h0rw h0 s4nlk5 s5k5 h1_0k5 h1_1k5 h1_2k5 N (0 : Int) (0 : Int) (1 : Int)) ho12) (ya (pF h13x) (ya (pT h15x) (ya (pT h16x) (yt (ya (pF h17x) yz)))))))
/-! 27 -/
inductive Rf27 where
  | r0 (res_0nl : Bool) (res_1 : Int) (h1_0 : List Int) (h1_1 : List Int) (h1_2 : List Int)
def f27 (N : Nat) (a0n : Nat) (h0 : List Int) : Option Rf27 :=
 if (((a0n : Nat) : Int) > (1048576 : Int)) then
  some (.r0 true (2 : Int) ([] : List Int) ([] : List Int) ([] : List Int))
 else
 (match lf27_5 N a0n h0 N true (0 : Int) ([] : List Int) ([] : List Int) ([] : List Int) with
 | none => none
 | some (.e0 s4nll18 h1_0l18 h1_1l18 h1_2l18) =>
  some (.r0 s4nll18 (0 : Int) h1_0l18 h1_1l18 h1_2l18))
def rf27 (a0n : Nat) (a0nl : Bool) (h0rw : Bool) (h0 : List Int) : Option Rf27 → Option (AV × Heap)
  | none => none
  | some (.r0 res_0nl res_1 h1_0 h1_1 h1_2) => some ((AV.tuple [(AV.slice 1 0 0 (List.length h1_0) 3 res_0nl true), (AV.int IntKind.i64 res_1)]), [(Blk.dyn h0rw 5 [(Col.ints IntKind.u8 h0)]), (Blk.dyn true 62 [(Col.ints IntKind.i64 h1_0), (Col.ints IntKind.i64 h1_1), (Col.ints IntKind.i64 h1_2)])])
theorem ef27 (N : Nat) (a0n : Nat) (a0nl : Bool) (h0rw : Bool) (h0 : List Int) : rf27 a0n a0nl h0rw h0 (f27 N a0n h0) = sem27 N [(AV.slice 0 0 0 a0n 1 a0nl true)] [(Blk.dyn h0rw 5 [(Col.ints IntKind.u8 h0)])] := by
  unfold f27
  refine br (p := (((a0n : Nat) : Int) > (1048576 : Int))) (fun h0x => finF (ctx27 N) Try.f27 [.b true] (by kernel_rfl) (ya (pT h0x) yz)) (fun h0x => ?_)
  cases ho18 : lf27_5 N a0n h0 N true (0 : Int) ([] : List Int) ([] : List Int) ([] : List Int) with
  | none => exact finF (ctx27 N) Try.f27 [.b false, .out (qlf27_5 a0n a0nl h0rw h0 none)] (by kernel_rfl) (ya (pF h0x) (ya (ys (elf27_5 N a0n a0nl h0rw h0 N true (0 : Int) ([] : List Int) ([] : List Int) ([] : List Int)) ho18) yz))
  | some o =>
    cases o with
    | e0 s4nll18 h1_0l18 h1_1l18 h1_2l18 =>
      dsimp only
      exact finF (ctx27 N) Try.f27 [.b false, .out (qlf27_5 a0n a0nl h0rw h0 (some (.e0 s4nll18 h1_0l18 h1_1l18 h1_2l18)))] (by kernel_rfl) (ya (pF h0x) (ya (ys (elf27_5 N a0n a0nl h0rw h0 N true (0 : Int) ([] : List Int) ([] : List Int) ([] : List Int)) ho18) yz))
/-! 56, loop 3 -/
inductive Qlf56_3 where
  | e0 (s1nl : Bool) (h0 : List Int)
def slf56_3 (N : Nat) (n : Nat) (go : Bool → Int → List Int → Option Qlf56_3) (s1nlk3 : Bool) (s2k3 : Int) (h0k3 : List Int) : Option Qlf56_3 :=
 if (s2k3 < (288 : Int)) then
  if (s2k3 > (143 : Int)) then
   if (s2k3 < (256 : Int)) then
    if (s2k3 > (255 : Int)) then
     if (s2k3 < (280 : Int)) then
      go false (IntKind.wrap IntKind.i64 (s2k3 + (1 : Int))) (h0k3 ++ [(7 : Int)])
     else
      go false (IntKind.wrap IntKind.i64 (s2k3 + (1 : Int))) (h0k3 ++ [(9 : Int)])
    else
     if (((List.length h0k3) = (List.length h0k3)) ∧ (((List.length h0k3) + 1) ≤ 1099511627776)) then
      go false (IntKind.wrap IntKind.i64 (s2k3 + (1 : Int))) (h0k3 ++ [(9 : Int)])
     else
     none
   else
    if (s2k3 > (255 : Int)) then
     if (s2k3 < (280 : Int)) then
      if (((List.length h0k3) = (List.length h0k3)) ∧ (((List.length h0k3) + 1) ≤ 1099511627776)) then
       go false (IntKind.wrap IntKind.i64 (s2k3 + (1 : Int))) (h0k3 ++ [(7 : Int)])
      else
      none
     else
      if (((List.length h0k3) = (List.length h0k3)) ∧ (((List.length h0k3) + 1) ≤ 1099511627776)) then
       go false (IntKind.wrap IntKind.i64 (s2k3 + (1 : Int))) (h0k3 ++ [(8 : Int)])
      else
      none
    else
     go false (IntKind.wrap IntKind.i64 (s2k3 + (1 : Int))) (h0k3 ++ [(8 : Int)])
  else
   if (s2k3 > (255 : Int)) then
    if (s2k3 < (280 : Int)) then
     go false (IntKind.wrap IntKind.i64 (s2k3 + (1 : Int))) (h0k3 ++ [(7 : Int)])
    else
     go false (IntKind.wrap IntKind.i64 (s2k3 + (1 : Int))) (h0k3 ++ [(8 : Int)])
   else
    if (((List.length h0k3) = (List.length h0k3)) ∧ (((List.length h0k3) + 1) ≤ 1099511627776)) then
     go false (IntKind.wrap IntKind.i64 (s2k3 + (1 : Int))) (h0k3 ++ [(8 : Int)])
    else
    none
 else
  some (.e0 s1nlk3 h0k3)
def lf56_3 (N : Nat) : Nat → Bool → Int → List Int → Option Qlf56_3
  | 0, _, _, _ => none
  | n + 1, s1nlk3, s2k3, h0k3 => slf56_3 N n (lf56_3 N n) s1nlk3 s2k3 h0k3
def qlf56_3 : Option Qlf56_3 → Out
  | none => none
  | some (.e0 s1nl h0) => some ((XT.exit 0), (St.mk [(1, (AV.slice 0 0 0 (List.length h0) 1 s1nl true))] [(Blk.dyn true 3 [(Col.ints IntKind.i64 h0)])]))
theorem elf56_3 (N : Nat) : ∀ (n : Nat) (s1nlk3 : Bool) (s2k3 : Int) (h0k3 : List Int), qlf56_3 (lf56_3 N n s1nlk3 s2k3 h0k3) = lp (ctx56 N) 0 Try.f56 3 n (St.mk [(1, (AV.slice 0 0 0 (List.length h0k3) 1 s1nlk3 true)), (2, (AV.int IntKind.i64 s2k3))] [(Blk.dyn true 3 [(Col.ints IntKind.i64 h0k3)])]) := by
  intro n
  induction n with
  | zero => intros; kernel_rfl
  | succ n ih =>
    intro s1nlk3 s2k3 h0k3
    rw [lf56_3]
    unfold slf56_3
    refine br (p := (s2k3 < (288 : Int))) (fun h0x => ?_) (fun h0x => finL (ctx56 N) 0 Try.f56 3 n [.b false] (by kernel_rfl) (ya (pF h0x) yz))
    refine br (p := (s2k3 > (143 : Int))) (fun h1x => ?_) (fun h1x => ?_)
    · skip
      refine br (p := (s2k3 < (256 : Int))) (fun h2x => ?_) (fun h2x => ?_)
      · skip
        refine br (p := (s2k3 > (255 : Int))) (fun h3x => ?_) (fun h3x => ?_)
        · skip
          refine br (p := (s2k3 < (280 : Int))) (fun h4x => (ih false (IntKind.wrap IntKind.i64 (s2k3 + (1 : Int))) (h0k3 ++ [(7 : Int)])).trans (finL (ctx56 N) 0 Try.f56 3 n [.b true, .b true, .b true, .b true, .b true, .b true, .b true, .b true, .b true] (by kernel_rfl) (ya (pT h0x) (ya (pT h1x) (yt (ya (pT h2x) (ya (pT h3x) (yt (ya (pT h4x) (yt (ya (pT (show (((List.length h0k3) = (List.length h0k3)) ∧ (((List.length h0k3) + 1) ≤ 1099511627776)) by omega)) yz))))))))))) (fun h4x => ?_)
          exact (ih false (IntKind.wrap IntKind.i64 (s2k3 + (1 : Int))) (h0k3 ++ [(9 : Int)])).trans (finL (ctx56 N) 0 Try.f56 3 n [.b true, .b true, .b true, .b true, .b true, .b true, .b false, .b true, .b true] (by kernel_rfl) (ya (pT h0x) (ya (pT h1x) (yt (ya (pT h2x) (ya (pT h3x) (yt (ya (pF h4x) (yt (ya (pT (show (((List.length h0k3) = (List.length h0k3)) ∧ (((List.length h0k3) + 1) ≤ 1099511627776)) by omega)) yz))))))))))
        · skip
          refine br (p := (((List.length h0k3) = (List.length h0k3)) ∧ (((List.length h0k3) + 1) ≤ 1099511627776))) (fun h5x => (ih false (IntKind.wrap IntKind.i64 (s2k3 + (1 : Int))) (h0k3 ++ [(9 : Int)])).trans (finL (ctx56 N) 0 Try.f56 3 n [.b true, .b true, .b true, .b true, .b false, .b false, .b false, .b true, .b true] (by kernel_rfl) (ya (pT h0x) (ya (pT h1x) (yt (ya (pT h2x) (ya (pF h3x) (yf (yf (yt (ya (pT h5x) yz))))))))))) (fun h5x => ?_)
          exact finL (ctx56 N) 0 Try.f56 3 n [.b true, .b true, .b true, .b true, .b false, .b false, .b false, .b true, .b false] (by kernel_rfl) (ya (pT h0x) (ya (pT h1x) (yt (ya (pT h2x) (ya (pF h3x) (yf (yf (yt (ya (pF h5x) yz)))))))))
      · skip
        refine br (p := (s2k3 > (255 : Int))) (fun h6x => ?_) (fun h6x => (ih false (IntKind.wrap IntKind.i64 (s2k3 + (1 : Int))) (h0k3 ++ [(8 : Int)])).trans (finL (ctx56 N) 0 Try.f56 3 n [.b true, .b true, .b true, .b false, .b false, .b false, .b false, .b true, .b true] (by kernel_rfl) (ya (pT h0x) (ya (pT h1x) (yt (ya (pF h2x) (ya (pF h6x) (yf (yf (yt (ya (pT (show (((List.length h0k3) = (List.length h0k3)) ∧ (((List.length h0k3) + 1) ≤ 1099511627776)) by omega)) yz)))))))))))
        refine br (p := (s2k3 < (280 : Int))) (fun h7x => ?_) (fun h7x => ?_)
        · skip
          refine br (p := (((List.length h0k3) = (List.length h0k3)) ∧ (((List.length h0k3) + 1) ≤ 1099511627776))) (fun h8x => (ih false (IntKind.wrap IntKind.i64 (s2k3 + (1 : Int))) (h0k3 ++ [(7 : Int)])).trans (finL (ctx56 N) 0 Try.f56 3 n [.b true, .b true, .b true, .b false, .b true, .b true, .b true, .b true, .b true] (by kernel_rfl) (ya (pT h0x) (ya (pT h1x) (yt (ya (pF h2x) (ya (pT h6x) (yt (ya (pT h7x) (yt (ya (pT h8x) yz))))))))))) (fun h8x => ?_)
          exact finL (ctx56 N) 0 Try.f56 3 n [.b true, .b true, .b true, .b false, .b true, .b true, .b true, .b true, .b false] (by kernel_rfl) (ya (pT h0x) (ya (pT h1x) (yt (ya (pF h2x) (ya (pT h6x) (yt (ya (pT h7x) (yt (ya (pF h8x) yz)))))))))
        · skip
          refine br (p := (((List.length h0k3) = (List.length h0k3)) ∧ (((List.length h0k3) + 1) ≤ 1099511627776))) (fun h9x => (ih false (IntKind.wrap IntKind.i64 (s2k3 + (1 : Int))) (h0k3 ++ [(8 : Int)])).trans (finL (ctx56 N) 0 Try.f56 3 n [.b true, .b true, .b true, .b false, .b true, .b true, .b false, .b true, .b true] (by kernel_rfl) (ya (pT h0x) (ya (pT h1x) (yt (ya (pF h2x) (ya (pT h6x) (yt (ya (pF h7x) (yt (ya (pT h9x) yz))))))))))) (fun h9x => ?_)
          exact finL (ctx56 N) 0 Try.f56 3 n [.b true, .b true, .b true, .b false, .b true, .b true, .b false, .b true, .b false] (by kernel_rfl) (ya (pT h0x) (ya (pT h1x) (yt (ya (pF h2x) (ya (pT h6x) (yt (ya (pF h7x) (yt (ya (pF h9x) yz)))))))))
    · skip
      refine br (p := (s2k3 > (255 : Int))) (fun h10x => ?_) (fun h10x => ?_)
      · skip
        refine br (p := (s2k3 < (280 : Int))) (fun h11x => (ih false (IntKind.wrap IntKind.i64 (s2k3 + (1 : Int))) (h0k3 ++ [(7 : Int)])).trans (finL (ctx56 N) 0 Try.f56 3 n [.b true, .b false, .b false, .b false, .b true, .b true, .b true, .b true, .b true] (by kernel_rfl) (ya (pT h0x) (ya (pF h1x) (yf (yf (ya (pT h10x) (yt (ya (pT h11x) (yt (ya (pT (show (((List.length h0k3) = (List.length h0k3)) ∧ (((List.length h0k3) + 1) ≤ 1099511627776)) by omega)) yz))))))))))) (fun h11x => ?_)
        exact (ih false (IntKind.wrap IntKind.i64 (s2k3 + (1 : Int))) (h0k3 ++ [(8 : Int)])).trans (finL (ctx56 N) 0 Try.f56 3 n [.b true, .b false, .b false, .b false, .b true, .b true, .b false, .b true, .b true] (by kernel_rfl) (ya (pT h0x) (ya (pF h1x) (yf (yf (ya (pT h10x) (yt (ya (pF h11x) (yt (ya (pT (show (((List.length h0k3) = (List.length h0k3)) ∧ (((List.length h0k3) + 1) ≤ 1099511627776)) by omega)) yz))))))))))
      · skip
        refine br (p := (((List.length h0k3) = (List.length h0k3)) ∧ (((List.length h0k3) + 1) ≤ 1099511627776))) (fun h12x => (ih false (IntKind.wrap IntKind.i64 (s2k3 + (1 : Int))) (h0k3 ++ [(8 : Int)])).trans (finL (ctx56 N) 0 Try.f56 3 n [.b true, .b false, .b false, .b false, .b false, .b false, .b false, .b true, .b true] (by kernel_rfl) (ya (pT h0x) (ya (pF h1x) (yf (yf (ya (pF h10x) (yf (yf (yt (ya (pT h12x) yz))))))))))) (fun h12x => ?_)
        exact finL (ctx56 N) 0 Try.f56 3 n [.b true, .b false, .b false, .b false, .b false, .b false, .b false, .b true, .b false] (by kernel_rfl) (ya (pT h0x) (ya (pF h1x) (yf (yf (ya (pF h10x) (yf (yf (yt (ya (pF h12x) yz)))))))))
/-! 56 -/
inductive Rf56 where
  | r0 (resnl : Bool) (h0 : List Int)
def f56 (N : Nat) : Option Rf56 :=
 (match lf56_3 N N true (0 : Int) ([] : List Int) with
 | none => none
 | some (.e0 s1nll13 h0l13) =>
  some (.r0 s1nll13 h0l13))
def rf56 : Option Rf56 → Option (AV × Heap)
  | none => none
  | some (.r0 resnl h0) => some ((AV.slice 0 0 0 (List.length h0) 1 resnl true), [(Blk.dyn true 3 [(Col.ints IntKind.i64 h0)])])
theorem ef56 (N : Nat) : rf56 (f56 N) = sem56 N ([] : List AV) ([] : List Blk) := by
  unfold f56
  cases ho13 : lf56_3 N N true (0 : Int) ([] : List Int) with
  | none => exact finF (ctx56 N) Try.f56 [.out (qlf56_3 none)] (by kernel_rfl) (ya (ys (elf56_3 N N true (0 : Int) ([] : List Int)) ho13) yz)
  | some o =>
    cases o with
    | e0 s1nll13 h0l13 =>
      dsimp only
      exact finF (ctx56 N) Try.f56 [.out (qlf56_3 (some (.e0 s1nll13 h0l13)))] (by kernel_rfl) (ya (ys (elf56_3 N N true (0 : Int) ([] : List Int)) ho13) yz)
/-! 57 -/
inductive Rf57 where
  | r0 (res : Bool)
def f57 (N : Nat) (a0_0 : Int) (a0_1 : Int) (a0_2 : Int) : Option Rf57 :=
 if (a0_1 = (0 : Int)) then
  if (a0_2 = (0 : Int)) then
   if (a0_0 ≥ (0 : Int)) then
    some (.r0 (Decidable.decide (a0_0 ≤ (255 : Int))))
   else
    some (.r0 false)
  else
   some (.r0 false)
 else
  if (a0_1 ≥ (3 : Int)) then
   if (a0_1 ≤ (258 : Int)) then
    if (a0_2 ≥ (1 : Int)) then
     if (a0_2 ≤ (32768 : Int)) then
      some (.r0 (a0_0 == (0 : Int)))
     else
      some (.r0 false)
    else
     some (.r0 false)
   else
    some (.r0 false)
  else
   some (.r0 false)
def rf57 (a0_0 : Int) (a0_1 : Int) (a0_2 : Int) : Option Rf57 → Option (AV × Heap)
  | none => none
  | some (.r0 res) => some ((AV.bool res), ([] : List Blk))
theorem ef57 (N : Nat) (a0_0 : Int) (a0_1 : Int) (a0_2 : Int) : rf57 a0_0 a0_1 a0_2 (f57 N a0_0 a0_1 a0_2) = sem57 N [(AV.agg [(Seg.cell (AV.int IntKind.i64 a0_0)), (Seg.cell (AV.int IntKind.i64 a0_1)), (Seg.cell (AV.int IntKind.i64 a0_2))])] ([] : List Blk) := by
  unfold f57
  refine br (p := (a0_1 = (0 : Int))) (fun h0x => ?_) (fun h0x => ?_)
  · skip
    refine br (p := (a0_2 = (0 : Int))) (fun h1x => ?_) (fun h1x => finF (ctx57 N) Try.f57 [.b true, .b false, .b false, .b false, .b false, .b false, .b false] (by kernel_rfl) (ya (pE h0x) (ya (pNE h1x) (yf (yf (yf (yf (yf yz))))))))
    refine br (p := (a0_0 ≥ (0 : Int))) (fun h2x => finF (ctx57 N) Try.f57 [.b true, .b true, .b true, .b true, .b true, .b true, .b true] (by kernel_rfl) (ya (pE h0x) (ya (pE h1x) (yt (yt (ya (pT h2x) (yt (yt yz)))))))) (fun h2x => ?_)
    exact finF (ctx57 N) Try.f57 [.b true, .b true, .b true, .b true, .b false, .b false, .b false] (by kernel_rfl) (ya (pE h0x) (ya (pE h1x) (yt (yt (ya (pF h2x) (yf (yf yz)))))))
  · skip
    refine br (p := (a0_1 ≥ (3 : Int))) (fun h3x => ?_) (fun h3x => finF (ctx57 N) Try.f57 [.b false, .b false, .b false, .b false, .b false, .b false, .b false, .b false, .b false, .b false, .b false, .b false, .b false] (by kernel_rfl) (ya (pNE h0x) (ya (pF h3x) (yf (yf (yf (yf (yf (yf (yf (yf (yf (yf (yf yz))))))))))))))
    refine br (p := (a0_1 ≤ (258 : Int))) (fun h4x => ?_) (fun h4x => finF (ctx57 N) Try.f57 [.b false, .b true, .b true, .b true, .b false, .b false, .b false, .b false, .b false, .b false, .b false, .b false, .b false] (by kernel_rfl) (ya (pNE h0x) (ya (pT h3x) (yt (yt (ya (pF h4x) (yf (yf (yf (yf (yf (yf (yf (yf yz))))))))))))))
    refine br (p := (a0_2 ≥ (1 : Int))) (fun h5x => ?_) (fun h5x => finF (ctx57 N) Try.f57 [.b false, .b true, .b true, .b true, .b true, .b true, .b true, .b false, .b false, .b false, .b false, .b false, .b false] (by kernel_rfl) (ya (pNE h0x) (ya (pT h3x) (yt (yt (ya (pT h4x) (yt (yt (ya (pF h5x) (yf (yf (yf (yf (yf yz))))))))))))))
    refine br (p := (a0_2 ≤ (32768 : Int))) (fun h6x => finF (ctx57 N) Try.f57 [.b false, .b true, .b true, .b true, .b true, .b true, .b true, .b true, .b true, .b true, .b true, .b true, .b true] (by kernel_rfl) (ya (pNE h0x) (ya (pT h3x) (yt (yt (ya (pT h4x) (yt (yt (ya (pT h5x) (yt (yt (ya (pT h6x) (yt (yt yz)))))))))))))) (fun h6x => ?_)
    exact finF (ctx57 N) Try.f57 [.b false, .b true, .b true, .b true, .b true, .b true, .b true, .b true, .b true, .b true, .b false, .b false, .b false] (by kernel_rfl) (ya (pNE h0x) (ya (pT h3x) (yt (yt (ya (pT h4x) (yt (yt (ya (pT h5x) (yt (yt (ya (pF h6x) (yf (yf yz)))))))))))))
/-! 67 -/
inductive Rf67 where
  | r0 (res : Int)
def f67 (N : Nat) (a0 : Int) : Option Rf67 :=
 if (a0 < (265 : Int)) then
  some (.r0 (0 : Int))
 else
 some (.r0 (IntKind.wrap IntKind.i64 (Int.tdiv (IntKind.wrap IntKind.i64 (a0 - (261 : Int))) (4 : Int))))
def rf67 (a0 : Int) : Option Rf67 → Option (AV × Heap)
  | none => none
  | some (.r0 res) => some ((AV.int IntKind.i64 res), ([] : List Blk))
theorem ef67 (N : Nat) (a0 : Int) : rf67 a0 (f67 N a0) = sem67 N [(AV.int IntKind.i64 a0)] ([] : List Blk) := by
  unfold f67
  refine br (p := (a0 < (265 : Int))) (fun h0x => finF (ctx67 N) Try.f67 [.b true] (by kernel_rfl) (ya (pT h0x) yz)) (fun h0x => ?_)
  exact finF (ctx67 N) Try.f67 [.b false, .b false] (by kernel_rfl) (ya (pF h0x) (yf yz))
/-! 66, loop 3 -/
inductive Qlf66_3 where
  | e0 (s3 : Int)
def slf66_3 (N : Nat) (a0 : Int) (n : Nat) (go : Int → Int → Option Qlf66_3) (s3k3 : Int) (s4k3 : Int) : Option Qlf66_3 :=
 if (s4k3 < a0) then
  go (IntKind.wrap IntKind.i64 ((2 : Int) * s3k3)) (IntKind.wrap IntKind.i64 (s4k3 + (1 : Int)))
 else
 some (.e0 s3k3)
def lf66_3 (N : Nat) (a0 : Int) : Nat → Int → Int → Option Qlf66_3
  | 0, _, _ => none
  | n + 1, s3k3, s4k3 => slf66_3 N a0 n (lf66_3 N a0 n) s3k3 s4k3
def qlf66_3 (a0 : Int) : Option Qlf66_3 → Out
  | none => none
  | some (.e0 s3) => some ((XT.exit 0), (St.mk [(3, (AV.int IntKind.i64 s3))] ([] : List Blk)))
theorem elf66_3 (N : Nat) (a0 : Int) : ∀ (n : Nat) (s3k3 : Int) (s4k3 : Int), qlf66_3 a0 (lf66_3 N a0 n s3k3 s4k3) = lp (ctx66 N) 0 Try.f66 3 n (St.mk [(0, (AV.int IntKind.i64 a0)), (3, (AV.int IntKind.i64 s3k3)), (4, (AV.int IntKind.i64 s4k3))] ([] : List Blk)) := by
  intro n
  induction n with
  | zero => intros; kernel_rfl
  | succ n ih =>
    intro s3k3 s4k3
    rw [lf66_3]
    unfold slf66_3
    refine br (p := (s4k3 < a0)) (fun h1x => (ih (IntKind.wrap IntKind.i64 ((2 : Int) * s3k3)) (IntKind.wrap IntKind.i64 (s4k3 + (1 : Int)))).trans (finL (ctx66 N) 0 Try.f66 3 n [.b true] (by kernel_rfl) (ya (pT h1x) yz))) (fun h1x => ?_)
    exact finL (ctx66 N) 0 Try.f66 3 n [.b false] (by kernel_rfl) (ya (pF h1x) yz)
/-! 66 -/
inductive Rf66 where
  | r0 (res : Int)
def f66 (N : Nat) (a0 : Int) : Option Rf66 :=
 (match lf66_3 N a0 N (1 : Int) (0 : Int) with
 | none => none
 | some (.e0 s3l2) =>
  some (.r0 s3l2))
def rf66 (a0 : Int) : Option Rf66 → Option (AV × Heap)
  | none => none
  | some (.r0 res) => some ((AV.int IntKind.i64 res), ([] : List Blk))
theorem ef66 (N : Nat) (a0 : Int) : rf66 a0 (f66 N a0) = sem66 N [(AV.int IntKind.i64 a0)] ([] : List Blk) := by
  unfold f66
  cases ho2 : lf66_3 N a0 N (1 : Int) (0 : Int) with
  | none => exact finF (ctx66 N) Try.f66 [.out (qlf66_3 a0 none)] (by kernel_rfl) (ya (ys (elf66_3 N a0 N (1 : Int) (0 : Int)) ho2) yz)
  | some o =>
    cases o with
    | e0 s3l2 =>
      dsimp only
      exact finF (ctx66 N) Try.f66 [.out (qlf66_3 a0 (some (.e0 s3l2)))] (by kernel_rfl) (ya (ys (elf66_3 N a0 N (1 : Int) (0 : Int)) ho2) yz)
/-! 58, loop 5 -/
inductive Qlf58_5 where
  | e0 (s4 : Int)
def slf58_5 (N : Nat) (a0 : Int) (n : Nat) (go : Int → Int → Option Qlf58_5) (s4k5 : Int) (s5k5 : Int) : Option Qlf58_5 :=
 if (s5k5 < a0) then
  (match f67 N s5k5 with
  | none => none
  | some (.r0 resc5) =>
   (match f66 N resc5 with
   | none => none
   | some (.r0 resc6) =>
    go (IntKind.wrap IntKind.i64 (s4k5 + resc6)) (IntKind.wrap IntKind.i64 (s5k5 + (1 : Int)))))
 else
  some (.e0 s4k5)
def lf58_5 (N : Nat) (a0 : Int) : Nat → Int → Int → Option Qlf58_5
  | 0, _, _ => none
  | n + 1, s4k5, s5k5 => slf58_5 N a0 n (lf58_5 N a0 n) s4k5 s5k5
def qlf58_5 (a0 : Int) : Option Qlf58_5 → Out
  | none => none
  | some (.e0 s4) => some ((XT.exit 0), (St.mk [(0, (AV.int IntKind.i64 a0)), (4, (AV.int IntKind.i64 s4))] ([] : List Blk)))
theorem elf58_5 (N : Nat) (a0 : Int) : ∀ (n : Nat) (s4k5 : Int) (s5k5 : Int), qlf58_5 a0 (lf58_5 N a0 n s4k5 s5k5) = lp (ctx58 N) 0 Try.f58 5 n (St.mk [(0, (AV.int IntKind.i64 a0)), (4, (AV.int IntKind.i64 s4k5)), (5, (AV.int IntKind.i64 s5k5))] ([] : List Blk)) := by
  intro n
  induction n with
  | zero => intros; kernel_rfl
  | succ n ih =>
    intro s4k5 s5k5
    rw [lf58_5]
    unfold slf58_5
    refine br (p := (s5k5 < a0)) (fun h4x => ?_) (fun h4x => finL (ctx58 N) 0 Try.f58 5 n [.b false] (by kernel_rfl) (ya (pF h4x) yz))
    cases hc5 : f67 N s5k5 with
    | none => exact finL (ctx58 N) 0 Try.f58 5 n [.b true, .call (rf67 s5k5 none)] (by kernel_rfl) (ya (pT h4x) (ya (ys (ef67 N s5k5) hc5) yz))
    | some o =>
      cases o with
      | r0 resc5 =>
        dsimp only
        cases hc6 : f66 N resc5 with
        | none => exact finL (ctx58 N) 0 Try.f58 5 n [.b true, .call (rf67 s5k5 (some (.r0 resc5))), .call (rf66 resc5 none)] (by kernel_rfl) (ya (pT h4x) (ya (ys (ef67 N s5k5) hc5) (ya (ys (ef66 N resc5) hc6) yz)))
        | some o =>
          cases o with
          | r0 resc6 =>
            dsimp only
            exact (ih (IntKind.wrap IntKind.i64 (s4k5 + resc6)) (IntKind.wrap IntKind.i64 (s5k5 + (1 : Int)))).trans (finL (ctx58 N) 0 Try.f58 5 n [.b true, .call (rf67 s5k5 (some (.r0 resc5))), .call (rf66 resc5 (some (.r0 resc6)))] (by kernel_rfl) (ya (pT h4x) (ya (ys (ef67 N s5k5) hc5) (ya (ys (ef66 N resc5) hc6) yz))))
/-! 58 -/
inductive Rf58 where
  | r0 (res_0 : Int) (res_1 : Int)
def f58 (N : Nat) (a0 : Int) : Option Rf58 :=
 if (a0 = (285 : Int)) then
  some (.r0 (258 : Int) (0 : Int))
 else
 (match lf58_5 N a0 N (3 : Int) (257 : Int) with
 | none => none
 | some (.e0 s4l7) =>
  (match f67 N a0 with
  | none => none
  | some (.r0 resc8) =>
   some (.r0 s4l7 resc8)))
def rf58 (a0 : Int) : Option Rf58 → Option (AV × Heap)
  | none => none
  | some (.r0 res_0 res_1) => some ((AV.tuple [(AV.int IntKind.i64 res_0), (AV.int IntKind.i64 res_1)]), ([] : List Blk))
theorem ef58 (N : Nat) (a0 : Int) : rf58 a0 (f58 N a0) = sem58 N [(AV.int IntKind.i64 a0)] ([] : List Blk) := by
  unfold f58
  refine br (p := (a0 = (285 : Int))) (fun h0x => finF (ctx58 N) Try.f58 [.b true] (by kernel_rfl) (ya (pE h0x) yz)) (fun h0x => ?_)
  cases ho7 : lf58_5 N a0 N (3 : Int) (257 : Int) with
  | none => exact finF (ctx58 N) Try.f58 [.b false, .out (qlf58_5 a0 none)] (by kernel_rfl) (ya (pNE h0x) (ya (ys (elf58_5 N a0 N (3 : Int) (257 : Int)) ho7) yz))
  | some o =>
    cases o with
    | e0 s4l7 =>
      dsimp only
      cases hc8 : f67 N a0 with
      | none => exact finF (ctx58 N) Try.f58 [.b false, .out (qlf58_5 a0 (some (.e0 s4l7))), .call (rf67 a0 none)] (by kernel_rfl) (ya (pNE h0x) (ya (ys (elf58_5 N a0 N (3 : Int) (257 : Int)) ho7) (ya (ys (ef67 N a0) hc8) yz)))
      | some o =>
        cases o with
        | r0 resc8 =>
          dsimp only
          exact finF (ctx58 N) Try.f58 [.b false, .out (qlf58_5 a0 (some (.e0 s4l7))), .call (rf67 a0 (some (.r0 resc8)))] (by kernel_rfl) (ya (pNE h0x) (ya (ys (elf58_5 N a0 N (3 : Int) (257 : Int)) ho7) (ya (ys (ef67 N a0) hc8) yz)))
/-! 68, loop 5 -/
inductive Qlf68_5 where
  | e0 (s1 : Int) (s8nl : Bool) (h1 : List Bool)
def slf68_5 (N : Nat) (a2 : Int) (n : Nat) (go : Int → Bool → Int → List Bool → Option Qlf68_5) (s1k5 : Int) (s8nlk5 : Bool) (s9k5 : Int) (h1k5 : List Bool) : Option Qlf68_5 :=
 if (s9k5 < a2) then
  if (((List.length h1k5) = (List.length h1k5)) ∧ (((List.length h1k5) + (List.length [((Int.tmod s1k5 (2 : Int)) == (1 : Int))])) ≤ 1099511627776)) then
   go (IntKind.wrap IntKind.i64 (Int.tdiv s1k5 (2 : Int))) false (IntKind.wrap IntKind.i64 (s9k5 + (1 : Int))) (h1k5 ++ [((Int.tmod s1k5 (2 : Int)) == (1 : Int))])
  else
   none
 else
  some (.e0 s1k5 s8nlk5 h1k5)
def lf68_5 (N : Nat) (a2 : Int) : Nat → Int → Bool → Int → List Bool → Option Qlf68_5
  | 0, _, _, _, _ => none
  | n + 1, s1k5, s8nlk5, s9k5, h1k5 => slf68_5 N a2 n (lf68_5 N a2 n) s1k5 s8nlk5 s9k5 h1k5
def qlf68_5 (a0n : Nat) (a0nl : Bool) (a2 : Int) (h0 : List Bool) : Option Qlf68_5 → Out
  | none => none
  | some (.e0 s1 s8nl h1) => some ((XT.exit 0), (St.mk [(0, (AV.slice 0 0 0 a0n 1 a0nl true)), (1, (AV.int IntKind.i64 s1)), (8, (AV.slice 1 0 0 (List.length h1) 1 s8nl true))] [(Blk.dyn true 4 [(Col.bools h0)]), (Blk.dyn true 4 [(Col.bools h1)])]))
theorem elf68_5 (N : Nat) (a0n : Nat) (a0nl : Bool) (a2 : Int) (h0 : List Bool) : ∀ (n : Nat) (s1k5 : Int) (s8nlk5 : Bool) (s9k5 : Int) (h1k5 : List Bool), qlf68_5 a0n a0nl a2 h0 (lf68_5 N a2 n s1k5 s8nlk5 s9k5 h1k5) = lp (ctx68 N) 1 Try.f68 5 n (St.mk [(0, (AV.slice 0 0 0 a0n 1 a0nl true)), (1, (AV.int IntKind.i64 s1k5)), (2, (AV.int IntKind.i64 a2)), (8, (AV.slice 1 0 0 (List.length h1k5) 1 s8nlk5 true)), (9, (AV.int IntKind.i64 s9k5))] [(Blk.dyn true 4 [(Col.bools h0)]), (Blk.dyn true 4 [(Col.bools h1k5)])]) := by
  intro n
  induction n with
  | zero => intros; kernel_rfl
  | succ n ih =>
    intro s1k5 s8nlk5 s9k5 h1k5
    rw [lf68_5]
    unfold slf68_5
    refine br (p := (s9k5 < a2)) (fun h4x => ?_) (fun h4x => finL (ctx68 N) 1 Try.f68 5 n [.b false] (by kernel_rfl) (ya (pF h4x) yz))
    refine br (p := (((List.length h1k5) = (List.length h1k5)) ∧ (((List.length h1k5) + (List.length [((Int.tmod s1k5 (2 : Int)) == (1 : Int))])) ≤ 1099511627776))) (fun h5x => (ih (IntKind.wrap IntKind.i64 (Int.tdiv s1k5 (2 : Int))) false (IntKind.wrap IntKind.i64 (s9k5 + (1 : Int))) (h1k5 ++ [((Int.tmod s1k5 (2 : Int)) == (1 : Int))])).trans (finL (ctx68 N) 1 Try.f68 5 n [.b true, .b false, .b true, .b true, .b false] (by kernel_rfl) (ya (pT h4x) (yf (yt (ya (pT h5x) (yf yz))))))) (fun h5x => ?_)
    exact finL (ctx68 N) 1 Try.f68 5 n [.b true, .b false, .b true, .b false] (by kernel_rfl) (ya (pT h4x) (yf (yt (ya (pF h5x) yz))))
/-! 68 -/
inductive Rf68 where
  | r0
  | r1 (res_0nl : Bool) (h1 : List Bool)
def f68 (N : Nat) (a0n : Nat) (a0nl : Bool) (a1 : Int) (a2 : Int) (h0 : List Bool) : Option Rf68 :=
 if (a2 < (0 : Int)) then
  some .r0
 else
  if (a2 > (24 : Int)) then
   some .r0
  else
   if (a1 < (0 : Int)) then
    some .r0
   else
   (match lf68_5 N a2 N a1 true (0 : Int) ([] : List Bool) with
   | none => none
   | some (.e0 s1l6 s8nll6 h1l6) =>
    if (s1l6 > (0 : Int)) then
     some .r0
    else
    if ((a0n = (List.length h0)) ∧ (((List.length h0) + (List.length h1l6)) ≤ 1099511627776)) then
     some (.r1 ((Go.Abs.isEmptyCols [(Col.bools h1l6)]) && a0nl) (h0 ++ h1l6))
    else
    none)
def rf68 (a0n : Nat) (a0nl : Bool) (a1 : Int) (a2 : Int) (h0 : List Bool) : Option Rf68 → Option (AV × Heap)
  | none => none
  | some .r0 => some ((AV.tuple [(AV.slice 0 0 0 a0n 1 a0nl true), (AV.int IntKind.i64 (1 : Int))]), [(Blk.dyn true 4 [(Col.bools h0)])])
  | some (.r1 res_0nl h1) => some ((AV.tuple [(AV.slice 1 0 0 (List.length h1) 1 res_0nl true), (AV.int IntKind.i64 (0 : Int))]), [Blk.dead, (Blk.dyn true 4 [(Col.bools h1)])])
theorem ef68 (N : Nat) (a0n : Nat) (a0nl : Bool) (a1 : Int) (a2 : Int) (h0 : List Bool) : rf68 a0n a0nl a1 a2 h0 (f68 N a0n a0nl a1 a2 h0) = sem68 N [(AV.slice 0 0 0 a0n 1 a0nl true), (AV.int IntKind.i64 a1), (AV.int IntKind.i64 a2)] [(Blk.dyn true 4 [(Col.bools h0)])] := by
  unfold f68
  refine br (p := (a2 < (0 : Int))) (fun h0x => finF (ctx68 N) Try.f68 [.b true, .b true, .b true, .b true, .b true] (by kernel_rfl) (ya (pT h0x) (yt (yt (yt (yt yz)))))) (fun h0x => ?_)
  refine br (p := (a2 > (24 : Int))) (fun h1x => finF (ctx68 N) Try.f68 [.b false, .b false, .b true, .b true, .b true] (by kernel_rfl) (ya (pF h0x) (yf (ya (pT h1x) (yt (yt yz)))))) (fun h1x => ?_)
  refine br (p := (a1 < (0 : Int))) (fun h2x => finF (ctx68 N) Try.f68 [.b false, .b false, .b false, .b false, .b true] (by kernel_rfl) (ya (pF h0x) (yf (ya (pF h1x) (yf (ya (pT h2x) yz)))))) (fun h2x => ?_)
  cases ho6 : lf68_5 N a2 N a1 true (0 : Int) ([] : List Bool) with
  | none => exact finF (ctx68 N) Try.f68 [.b false, .b false, .b false, .b false, .b false, .out (qlf68_5 a0n a0nl a2 h0 none)] (by kernel_rfl) (ya (pF h0x) (yf (ya (pF h1x) (yf (ya (pF h2x) (ya (ys (elf68_5 N a0n a0nl a2 h0 N a1 true (0 : Int) ([] : List Bool)) ho6) yz))))))
  | some o =>
    cases o with
    | e0 s1l6 s8nll6 h1l6 =>
      dsimp only
      refine br (p := (s1l6 > (0 : Int))) (fun h7x => finF (ctx68 N) Try.f68 [.b false, .b false, .b false, .b false, .b false, .out (qlf68_5 a0n a0nl a2 h0 (some (.e0 s1l6 s8nll6 h1l6))), .b true] (by kernel_rfl) (ya (pF h0x) (yf (ya (pF h1x) (yf (ya (pF h2x) (ya (ys (elf68_5 N a0n a0nl a2 h0 N a1 true (0 : Int) ([] : List Bool)) ho6) (ya (pT h7x) yz)))))))) (fun h7x => ?_)
      refine br (p := ((a0n = (List.length h0)) ∧ (((List.length h0) + (List.length h1l6)) ≤ 1099511627776))) (fun h8x => finF (ctx68 N) Try.f68 [.b false, .b false, .b false, .b false, .b false, .out (qlf68_5 a0n a0nl a2 h0 (some (.e0 s1l6 s8nll6 h1l6))), .b false, .b true, .b true] (by kernel_rfl) (ya (pF h0x) (yf (ya (pF h1x) (yf (ya (pF h2x) (ya (ys (elf68_5 N a0n a0nl a2 h0 N a1 true (0 : Int) ([] : List Bool)) ho6) (ya (pF h7x) (ya (pT (show ((List.length h1l6) = (List.length h1l6)) by omega)) (ya (pT h8x) yz)))))))))) (fun h8x => ?_)
      exact finF (ctx68 N) Try.f68 [.b false, .b false, .b false, .b false, .b false, .out (qlf68_5 a0n a0nl a2 h0 (some (.e0 s1l6 s8nll6 h1l6))), .b false, .b true, .b false] (by kernel_rfl) (ya (pF h0x) (yf (ya (pF h1x) (yf (ya (pF h2x) (ya (ys (elf68_5 N a0n a0nl a2 h0 N a1 true (0 : Int) ([] : List Bool)) ho6) (ya (pF h7x) (ya (pT (show ((List.length h1l6) = (List.length h1l6)) by omega)) (ya (pF h8x) yz)))))))))
/-! 59 -/
inductive Rf59 where
  | r0
  | r1 (resnl : Bool) (h1 : List Bool)
def f59 (N : Nat) (a0n : Nat) (a0nl : Bool) (a1 : Int) (a2 : Int) (h0 : List Bool) : Option Rf59 :=
 (match f68 N a0n a0nl a1 a2 h0 with
 | none => none
 | some .r0 =>
  some .r0
 | some (.r1 res_0nlc0 h1c0) =>
  some (.r1 res_0nlc0 h1c0))
def rf59 (a0n : Nat) (a0nl : Bool) (a1 : Int) (a2 : Int) (h0 : List Bool) : Option Rf59 → Option (AV × Heap)
  | none => none
  | some .r0 => some ((AV.slice 0 0 0 a0n 1 a0nl true), [(Blk.dyn true 4 [(Col.bools h0)])])
  | some (.r1 resnl h1) => some ((AV.slice 1 0 0 (List.length h1) 1 resnl true), [Blk.dead, (Blk.dyn true 4 [(Col.bools h1)])])
theorem ef59 (N : Nat) (a0n : Nat) (a0nl : Bool) (a1 : Int) (a2 : Int) (h0 : List Bool) : rf59 a0n a0nl a1 a2 h0 (f59 N a0n a0nl a1 a2 h0) = sem59 N [(AV.slice 0 0 0 a0n 1 a0nl true), (AV.int IntKind.i64 a1), (AV.int IntKind.i64 a2)] [(Blk.dyn true 4 [(Col.bools h0)])] := by
  unfold f59
  cases hc0 : f68 N a0n a0nl a1 a2 h0 with
  | none => exact finF (ctx59 N) Try.f59 [.call (rf68 a0n a0nl a1 a2 h0 none)] (by kernel_rfl) (ya (ys (ef68 N a0n a0nl a1 a2 h0) hc0) yz)
  | some o =>
    cases o with
    | r0 =>
      dsimp only
      exact finF (ctx59 N) Try.f59 [.call (rf68 a0n a0nl a1 a2 h0 (some .r0))] (by kernel_rfl) (ya (ys (ef68 N a0n a0nl a1 a2 h0) hc0) yz)
    | r1 res_0nlc0 h1c0 =>
      dsimp only
      exact finF (ctx59 N) Try.f59 [.call (rf68 a0n a0nl a1 a2 h0 (some (.r1 res_0nlc0 h1c0)))] (by kernel_rfl) (ya (ys (ef68 N a0n a0nl a1 a2 h0) hc0) yz)
/-! 69 -/
inductive Rf69 where
  | r0 (res : Int)
def f69 (N : Nat) (a0 : Int) : Option Rf69 :=
 if (a0 < (4 : Int)) then
  some (.r0 (0 : Int))
 else
 some (.r0 (IntKind.wrap IntKind.i64 (Int.tdiv (IntKind.wrap IntKind.i64 (a0 - (2 : Int))) (2 : Int))))
def rf69 (a0 : Int) : Option Rf69 → Option (AV × Heap)
  | none => none
  | some (.r0 res) => some ((AV.int IntKind.i64 res), ([] : List Blk))
theorem ef69 (N : Nat) (a0 : Int) : rf69 a0 (f69 N a0) = sem69 N [(AV.int IntKind.i64 a0)] ([] : List Blk) := by
  unfold f69
  refine br (p := (a0 < (4 : Int))) (fun h0x => finF (ctx69 N) Try.f69 [.b true] (by kernel_rfl) (ya (pT h0x) yz)) (fun h0x => ?_)
  exact finF (ctx69 N) Try.f69 [.b false, .b false] (by kernel_rfl) (ya (pF h0x) (yf yz))
/-! 60, loop 3 -/
inductive Qlf60_3 where
  | e0 (s4 : Int)
def slf60_3 (N : Nat) (a0 : Int) (n : Nat) (go : Int → Int → Option Qlf60_3) (s4k3 : Int) (s5k3 : Int) : Option Qlf60_3 :=
 if (s5k3 < a0) then
  (match f69 N s5k3 with
  | none => none
  | some (.r0 resc4) =>
   (match f66 N resc4 with
   | none => none
   | some (.r0 resc5) =>
    go (IntKind.wrap IntKind.i64 (s4k3 + resc5)) (IntKind.wrap IntKind.i64 (s5k3 + (1 : Int)))))
 else
  some (.e0 s4k3)
def lf60_3 (N : Nat) (a0 : Int) : Nat → Int → Int → Option Qlf60_3
  | 0, _, _ => none
  | n + 1, s4k3, s5k3 => slf60_3 N a0 n (lf60_3 N a0 n) s4k3 s5k3
def qlf60_3 (a0 : Int) : Option Qlf60_3 → Out
  | none => none
  | some (.e0 s4) => some ((XT.exit 0), (St.mk [(0, (AV.int IntKind.i64 a0)), (4, (AV.int IntKind.i64 s4))] ([] : List Blk)))
theorem elf60_3 (N : Nat) (a0 : Int) : ∀ (n : Nat) (s4k3 : Int) (s5k3 : Int), qlf60_3 a0 (lf60_3 N a0 n s4k3 s5k3) = lp (ctx60 N) 0 Try.f60 3 n (St.mk [(0, (AV.int IntKind.i64 a0)), (4, (AV.int IntKind.i64 s4k3)), (5, (AV.int IntKind.i64 s5k3))] ([] : List Blk)) := by
  intro n
  induction n with
  | zero => intros; kernel_rfl
  | succ n ih =>
    intro s4k3 s5k3
    rw [lf60_3]
    unfold slf60_3
    refine br (p := (s5k3 < a0)) (fun h3x => ?_) (fun h3x => finL (ctx60 N) 0 Try.f60 3 n [.b false] (by kernel_rfl) (ya (pF h3x) yz))
    cases hc4 : f69 N s5k3 with
    | none => exact finL (ctx60 N) 0 Try.f60 3 n [.b true, .call (rf69 s5k3 none)] (by kernel_rfl) (ya (pT h3x) (ya (ys (ef69 N s5k3) hc4) yz))
    | some o =>
      cases o with
      | r0 resc4 =>
        dsimp only
        cases hc5 : f66 N resc4 with
        | none => exact finL (ctx60 N) 0 Try.f60 3 n [.b true, .call (rf69 s5k3 (some (.r0 resc4))), .call (rf66 resc4 none)] (by kernel_rfl) (ya (pT h3x) (ya (ys (ef69 N s5k3) hc4) (ya (ys (ef66 N resc4) hc5) yz)))
        | some o =>
          cases o with
          | r0 resc5 =>
            dsimp only
            exact (ih (IntKind.wrap IntKind.i64 (s4k3 + resc5)) (IntKind.wrap IntKind.i64 (s5k3 + (1 : Int)))).trans (finL (ctx60 N) 0 Try.f60 3 n [.b true, .call (rf69 s5k3 (some (.r0 resc4))), .call (rf66 resc4 (some (.r0 resc5)))] (by kernel_rfl) (ya (pT h3x) (ya (ys (ef69 N s5k3) hc4) (ya (ys (ef66 N resc4) hc5) yz))))
/-! 60 -/
inductive Rf60 where
  | r0 (res_0 : Int) (res_1 : Int)
def f60 (N : Nat) (a0 : Int) : Option Rf60 :=
 (match lf60_3 N a0 N (1 : Int) (0 : Int) with
 | none => none
 | some (.e0 s4l6) =>
  (match f69 N a0 with
  | none => none
  | some (.r0 resc7) =>
   some (.r0 s4l6 resc7)))
def rf60 (a0 : Int) : Option Rf60 → Option (AV × Heap)
  | none => none
  | some (.r0 res_0 res_1) => some ((AV.tuple [(AV.int IntKind.i64 res_0), (AV.int IntKind.i64 res_1)]), ([] : List Blk))
theorem ef60 (N : Nat) (a0 : Int) : rf60 a0 (f60 N a0) = sem60 N [(AV.int IntKind.i64 a0)] ([] : List Blk) := by
  unfold f60
  cases ho6 : lf60_3 N a0 N (1 : Int) (0 : Int) with
  | none => exact finF (ctx60 N) Try.f60 [.out (qlf60_3 a0 none)] (by kernel_rfl) (ya (ys (elf60_3 N a0 N (1 : Int) (0 : Int)) ho6) yz)
  | some o =>
    cases o with
    | e0 s4l6 =>
      dsimp only
      cases hc7 : f69 N a0 with
      | none => exact finF (ctx60 N) Try.f60 [.out (qlf60_3 a0 (some (.e0 s4l6))), .call (rf69 a0 none)] (by kernel_rfl) (ya (ys (elf60_3 N a0 N (1 : Int) (0 : Int)) ho6) (ya (ys (ef69 N a0) hc7) yz))
      | some o =>
        cases o with
        | r0 resc7 =>
          dsimp only
          exact finF (ctx60 N) Try.f60 [.out (qlf60_3 a0 (some (.e0 s4l6))), .call (rf69 a0 (some (.r0 resc7)))] (by kernel_rfl) (ya (ys (elf60_3 N a0 N (1 : Int) (0 : Int)) ho6) (ya (ys (ef69 N a0) hc7) yz))
/-! 29, loop 3 -/
inductive Qlf29_3 where
  | e0 (s4nl : Bool) (h1 : List Int)
def slf29_3 (N : Nat) (n : Nat) (go : Bool → Int → List Int → Option Qlf29_3) (s4nlk3 : Bool) (s5k3 : Int) (h1k3 : List Int) : Option Qlf29_3 :=
 if (s5k3 < (30 : Int)) then
  if (((List.length h1k3) = (List.length h1k3)) ∧ (((List.length h1k3) + 1) ≤ 1099511627776)) then
   go false (IntKind.wrap IntKind.i64 (s5k3 + (1 : Int))) (h1k3 ++ [(5 : Int)])
  else
  none
 else
  some (.e0 s4nlk3 h1k3)
def lf29_3 (N : Nat) : Nat → Bool → Int → List Int → Option Qlf29_3
  | 0, _, _, _ => none
  | n + 1, s4nlk3, s5k3, h1k3 => slf29_3 N n (lf29_3 N n) s4nlk3 s5k3 h1k3
def qlf29_3 (a0n : Nat) (a0nl : Bool) (h0rw : Bool) (h0_0 : List Int) (h0_1 : List Int) (h0_2 : List Int) : Option Qlf29_3 → Out
  | none => none
  | some (.e0 s4nl h1) => some ((XT.exit 0), (St.mk [(0, (AV.slice 0 0 0 a0n 3 a0nl true)), (4, (AV.slice 1 0 0 (List.length h1) 1 s4nl true))] [(Blk.dyn h0rw 62 [(Col.ints IntKind.i64 h0_0), (Col.ints IntKind.i64 h0_1), (Col.ints IntKind.i64 h0_2)]), (Blk.dyn true 3 [(Col.ints IntKind.i64 h1)])]))
theorem elf29_3 (N : Nat) (a0n : Nat) (a0nl : Bool) (h0rw : Bool) (h0_0 : List Int) (h0_1 : List Int) (h0_2 : List Int) : ∀ (n : Nat) (s4nlk3 : Bool) (s5k3 : Int) (h1k3 : List Int), qlf29_3 a0n a0nl h0rw h0_0 h0_1 h0_2 (lf29_3 N n s4nlk3 s5k3 h1k3) = lp (ctx29 N) 1 Try.f29 3 n (St.mk [(0, (AV.slice 0 0 0 a0n 3 a0nl true)), (4, (AV.slice 1 0 0 (List.length h1k3) 1 s4nlk3 true)), (5, (AV.int IntKind.i64 s5k3))] [(Blk.dyn h0rw 62 [(Col.ints IntKind.i64 h0_0), (Col.ints IntKind.i64 h0_1), (Col.ints IntKind.i64 h0_2)]), (Blk.dyn true 3 [(Col.ints IntKind.i64 h1k3)])]) := by
  intro n
  induction n with
  | zero => intros; kernel_rfl
  | succ n ih =>
    intro s4nlk3 s5k3 h1k3
    rw [lf29_3]
    unfold slf29_3
    refine br (p := (s5k3 < (30 : Int))) (fun h0x => ?_) (fun h0x => finL (ctx29 N) 1 Try.f29 3 n [.b false] (by kernel_rfl) (ya (pF h0x) yz))
    refine br (p := (((List.length h1k3) = (List.length h1k3)) ∧ (((List.length h1k3) + 1) ≤ 1099511627776))) (fun h1x => (ih false (IntKind.wrap IntKind.i64 (s5k3 + (1 : Int))) (h1k3 ++ [(5 : Int)])).trans (finL (ctx29 N) 1 Try.f29 3 n [.b true, .b true, .b true] (by kernel_rfl) (ya (pT h0x) (yt (ya (pT h1x) yz))))) (fun h1x => ?_)
    exact finL (ctx29 N) 1 Try.f29 3 n [.b true, .b true, .b false] (by kernel_rfl) (ya (pT h0x) (yt (ya (pF h1x) yz)))
/-! 29, loop 19 -/
inductive Qlf29_19 where
  | e0 (s10 : Int) (s11 : Int) (s12 : Int)
def slf29_19 (N : Nat) (h0_1 : List Int) (s8k10 : Int) (n : Nat) (go : Int → Int → Int → Option Qlf29_19) (s10k19 : Int) (s11k19 : Int) (s12k19 : Int) : Option Qlf29_19 :=
 if (s11k19 > (List.getD h0_1 (0 + (Int.toNat s8k10)) (0 : Int))) then
  (match f58 N (IntKind.wrap IntKind.i64 (s10k19 - (1 : Int))) with
  | none => none
  | some (.r0 res_0c56 res_1c56) =>
   go (IntKind.wrap IntKind.i64 (s10k19 - (1 : Int))) res_0c56 res_1c56)
 else
  some (.e0 s10k19 s11k19 s12k19)
def lf29_19 (N : Nat) (h0_1 : List Int) (s8k10 : Int) : Nat → Int → Int → Int → Option Qlf29_19
  | 0, _, _, _ => none
  | n + 1, s10k19, s11k19, s12k19 => slf29_19 N h0_1 s8k10 n (lf29_19 N h0_1 s8k10 n) s10k19 s11k19 s12k19
def qlf29_19 (a0n : Nat) (a0nl : Bool) (h0rw : Bool) (h0_0 : List Int) (h0_1 : List Int) (h0_2 : List Int) (h1l2 : List Int) (resnlc4 : Bool) (h0c4 : List Int) (s7nlk10 : Bool) (s8k10 : Int) (h3k10 : List Bool) : Option Qlf29_19 → Out
  | none => none
  | some (.e0 s10 s11 s12) => some ((XT.exit 4), (St.mk [(0, (AV.slice 0 0 0 a0n 3 a0nl true)), (4, (AV.slice 1 0 0 (List.length (h1l2 ++ [(5 : Int), (5 : Int)])) 1 false true)), (6, (AV.slice 2 0 0 (List.length h0c4) 1 resnlc4 true)), (7, (AV.slice 3 0 0 (List.length h3k10) 1 s7nlk10 true)), (8, (AV.int IntKind.i64 s8k10)), (9, (AV.ptr 4 0 0 1)), (10, (AV.int IntKind.i64 s10)), (11, (AV.int IntKind.i64 s11)), (12, (AV.int IntKind.i64 s12))] [(Blk.dyn h0rw 62 [(Col.ints IntKind.i64 h0_0), (Col.ints IntKind.i64 h0_1), (Col.ints IntKind.i64 h0_2)]), (Blk.dyn true 3 [(Col.ints IntKind.i64 (h1l2 ++ [(5 : Int), (5 : Int)]))]), (Blk.dyn true 3 [(Col.ints IntKind.i64 h0c4)]), (Blk.dyn true 4 [(Col.bools h3k10)]), (Blk.segs true 62 [(Seg.cell (AV.int IntKind.i64 (List.getD h0_0 (0 + (Int.toNat s8k10)) (0 : Int)))), (Seg.cell (AV.int IntKind.i64 (List.getD h0_1 (0 + (Int.toNat s8k10)) (0 : Int)))), (Seg.cell (AV.int IntKind.i64 (List.getD h0_2 (0 + (Int.toNat s8k10)) (0 : Int))))])]))
theorem elf29_19 (N : Nat) (a0n : Nat) (a0nl : Bool) (h0rw : Bool) (h0_0 : List Int) (h0_1 : List Int) (h0_2 : List Int) (h1l2 : List Int) (resnlc4 : Bool) (h0c4 : List Int) (s7nlk10 : Bool) (s8k10 : Int) (h3k10 : List Bool) : ∀ (n : Nat) (s10k19 : Int) (s11k19 : Int) (s12k19 : Int), qlf29_19 a0n a0nl h0rw h0_0 h0_1 h0_2 h1l2 resnlc4 h0c4 s7nlk10 s8k10 h3k10 (lf29_19 N h0_1 s8k10 n s10k19 s11k19 s12k19) = lp (ctx29 N) 1 Try.f29 19 n (St.mk [(0, (AV.slice 0 0 0 a0n 3 a0nl true)), (4, (AV.slice 1 0 0 (List.length (h1l2 ++ [(5 : Int), (5 : Int)])) 1 false true)), (6, (AV.slice 2 0 0 (List.length h0c4) 1 resnlc4 true)), (7, (AV.slice 3 0 0 (List.length h3k10) 1 s7nlk10 true)), (8, (AV.int IntKind.i64 s8k10)), (9, (AV.ptr 4 0 0 1)), (10, (AV.int IntKind.i64 s10k19)), (11, (AV.int IntKind.i64 s11k19)), (12, (AV.int IntKind.i64 s12k19))] [(Blk.dyn h0rw 62 [(Col.ints IntKind.i64 h0_0), (Col.ints IntKind.i64 h0_1), (Col.ints IntKind.i64 h0_2)]), (Blk.dyn true 3 [(Col.ints IntKind.i64 (h1l2 ++ [(5 : Int), (5 : Int)]))]), (Blk.dyn true 3 [(Col.ints IntKind.i64 h0c4)]), (Blk.dyn true 4 [(Col.bools h3k10)]), (Blk.segs true 62 [(Seg.cell (AV.int IntKind.i64 (List.getD h0_0 (0 + (Int.toNat s8k10)) (0 : Int)))), (Seg.cell (AV.int IntKind.i64 (List.getD h0_1 (0 + (Int.toNat s8k10)) (0 : Int)))), (Seg.cell (AV.int IntKind.i64 (List.getD h0_2 (0 + (Int.toNat s8k10)) (0 : Int))))])]) := by
  intro n
  induction n with
  | zero => intros; kernel_rfl
  | succ n ih =>
    intro s10k19 s11k19 s12k19
    rw [lf29_19]
    unfold slf29_19
    refine br (p := (s11k19 > (List.getD h0_1 (0 + (Int.toNat s8k10)) (0 : Int)))) (fun h55x => ?_) (fun h55x => finL (ctx29 N) 1 Try.f29 19 n [.b false] (by kernel_rfl) (ya (pF h55x) yz))
    cases hc56 : f58 N (IntKind.wrap IntKind.i64 (s10k19 - (1 : Int))) with
    | none => exact finL (ctx29 N) 1 Try.f29 19 n [.b true, .call (rf58 (IntKind.wrap IntKind.i64 (s10k19 - (1 : Int))) none)] (by kernel_rfl) (ya (pT h55x) (ya (ys (ef58 N (IntKind.wrap IntKind.i64 (s10k19 - (1 : Int)))) hc56) yz))
    | some o =>
      cases o with
      | r0 res_0c56 res_1c56 =>
        dsimp only
        exact (ih (IntKind.wrap IntKind.i64 (s10k19 - (1 : Int))) res_0c56 res_1c56).trans (finL (ctx29 N) 1 Try.f29 19 n [.b true, .call (rf58 (IntKind.wrap IntKind.i64 (s10k19 - (1 : Int))) (some (.r0 res_0c56 res_1c56)))] (by kernel_rfl) (ya (pT h55x) (ya (ys (ef58 N (IntKind.wrap IntKind.i64 (s10k19 - (1 : Int)))) hc56) yz)))
/-! 29, loop 28 -/
inductive Qlf29_28 where
  | e0 (s10 : Int) (s11 : Int) (s12 : Int)
def slf29_28 (N : Nat) (h0_2 : List Int) (s8k10 : Int) (n : Nat) (go : Int → Int → Int → Option Qlf29_28) (s10k28 : Int) (s11k28 : Int) (s12k28 : Int) : Option Qlf29_28 :=
 if (s11k28 > (List.getD h0_2 (0 + (Int.toNat s8k10)) (0 : Int))) then
  (match f60 N (IntKind.wrap IntKind.i64 (s10k28 - (1 : Int))) with
  | none => none
  | some (.r0 res_0c66 res_1c66) =>
   go (IntKind.wrap IntKind.i64 (s10k28 - (1 : Int))) res_0c66 res_1c66)
 else
  some (.e0 s10k28 s11k28 s12k28)
def lf29_28 (N : Nat) (h0_2 : List Int) (s8k10 : Int) : Nat → Int → Int → Int → Option Qlf29_28
  | 0, _, _, _ => none
  | n + 1, s10k28, s11k28, s12k28 => slf29_28 N h0_2 s8k10 n (lf29_28 N h0_2 s8k10 n) s10k28 s11k28 s12k28
def qlf29_28 (a0n : Nat) (a0nl : Bool) (h0rw : Bool) (h0_0 : List Int) (h0_1 : List Int) (h0_2 : List Int) (h1l2 : List Int) (resnlc4 : Bool) (h0c4 : List Int) (s7nlk10 : Bool) (s8k10 : Int) (h3k10 : List Bool) (h1c58 : List Bool) : Option Qlf29_28 → Out
  | none => none
  | some (.e0 s10 s11 s12) => some ((XT.exit 6), (St.mk [(0, (AV.slice 0 0 0 a0n 3 a0nl true)), (4, (AV.slice 1 0 0 (List.length (h1l2 ++ [(5 : Int), (5 : Int)])) 1 false true)), (6, (AV.slice 2 0 0 (List.length h0c4) 1 resnlc4 true)), (7, (AV.slice 3 0 0 (List.length (h3k10 ++ h1c58)) 1 ((Go.Abs.isEmptyCols [(Col.bools h1c58)]) && s7nlk10) true)), (8, (AV.int IntKind.i64 s8k10)), (9, (AV.ptr 4 0 0 1)), (10, (AV.int IntKind.i64 s10)), (11, (AV.int IntKind.i64 s11)), (12, (AV.int IntKind.i64 s12))] [(Blk.dyn h0rw 62 [(Col.ints IntKind.i64 h0_0), (Col.ints IntKind.i64 h0_1), (Col.ints IntKind.i64 h0_2)]), (Blk.dyn true 3 [(Col.ints IntKind.i64 (h1l2 ++ [(5 : Int), (5 : Int)]))]), (Blk.dyn true 3 [(Col.ints IntKind.i64 h0c4)]), (Blk.dyn true 4 [(Col.bools (h3k10 ++ h1c58))]), (Blk.segs true 62 [(Seg.cell (AV.int IntKind.i64 (List.getD h0_0 (0 + (Int.toNat s8k10)) (0 : Int)))), (Seg.cell (AV.int IntKind.i64 (List.getD h0_1 (0 + (Int.toNat s8k10)) (0 : Int)))), (Seg.cell (AV.int IntKind.i64 (List.getD h0_2 (0 + (Int.toNat s8k10)) (0 : Int))))])]))
theorem elf29_28 (N : Nat) (a0n : Nat) (a0nl : Bool) (h0rw : Bool) (h0_0 : List Int) (h0_1 : List Int) (h0_2 : List Int) (h1l2 : List Int) (resnlc4 : Bool) (h0c4 : List Int) (s7nlk10 : Bool) (s8k10 : Int) (h3k10 : List Bool) (h1c58 : List Bool) : ∀ (n : Nat) (s10k28 : Int) (s11k28 : Int) (s12k28 : Int), qlf29_28 a0n a0nl h0rw h0_0 h0_1 h0_2 h1l2 resnlc4 h0c4 s7nlk10 s8k10 h3k10 h1c58 (lf29_28 N h0_2 s8k10 n s10k28 s11k28 s12k28) = lp (ctx29 N) 1 Try.f29 28 n (St.mk [(0, (AV.slice 0 0 0 a0n 3 a0nl true)), (4, (AV.slice 1 0 0 (List.length (h1l2 ++ [(5 : Int), (5 : Int)])) 1 false true)), (6, (AV.slice 2 0 0 (List.length h0c4) 1 resnlc4 true)), (7, (AV.slice 3 0 0 (List.length (h3k10 ++ h1c58)) 1 ((Go.Abs.isEmptyCols [(Col.bools h1c58)]) && s7nlk10) true)), (8, (AV.int IntKind.i64 s8k10)), (9, (AV.ptr 4 0 0 1)), (10, (AV.int IntKind.i64 s10k28)), (11, (AV.int IntKind.i64 s11k28)), (12, (AV.int IntKind.i64 s12k28))] [(Blk.dyn h0rw 62 [(Col.ints IntKind.i64 h0_0), (Col.ints IntKind.i64 h0_1), (Col.ints IntKind.i64 h0_2)]), (Blk.dyn true 3 [(Col.ints IntKind.i64 (h1l2 ++ [(5 : Int), (5 : Int)]))]), (Blk.dyn true 3 [(Col.ints IntKind.i64 h0c4)]), (Blk.dyn true 4 [(Col.bools (h3k10 ++ h1c58))]), (Blk.segs true 62 [(Seg.cell (AV.int IntKind.i64 (List.getD h0_0 (0 + (Int.toNat s8k10)) (0 : Int)))), (Seg.cell (AV.int IntKind.i64 (List.getD h0_1 (0 + (Int.toNat s8k10)) (0 : Int)))), (Seg.cell (AV.int IntKind.i64 (List.getD h0_2 (0 + (Int.toNat s8k10)) (0 : Int))))])]) := by
  intro n
  induction n with
  | zero => intros; kernel_rfl
  | succ n ih =>
    intro s10k28 s11k28 s12k28
    rw [lf29_28]
    unfold slf29_28
    refine br (p := (s11k28 > (List.getD h0_2 (0 + (Int.toNat s8k10)) (0 : Int)))) (fun h65x => ?_) (fun h65x => finL (ctx29 N) 1 Try.f29 28 n [.b false] (by kernel_rfl) (ya (pF h65x) yz))
    cases hc66 : f60 N (IntKind.wrap IntKind.i64 (s10k28 - (1 : Int))) with
    | none => exact finL (ctx29 N) 1 Try.f29 28 n [.b true, .call (rf60 (IntKind.wrap IntKind.i64 (s10k28 - (1 : Int))) none)] (by kernel_rfl) (ya (pT h65x) (ya (ys (ef60 N (IntKind.wrap IntKind.i64 (s10k28 - (1 : Int)))) hc66) yz))
    | some o =>
      cases o with
      | r0 res_0c66 res_1c66 =>
        dsimp only
        exact (ih (IntKind.wrap IntKind.i64 (s10k28 - (1 : Int))) res_0c66 res_1c66).trans (finL (ctx29 N) 1 Try.f29 28 n [.b true, .call (rf60 (IntKind.wrap IntKind.i64 (s10k28 - (1 : Int))) (some (.r0 res_0c66 res_1c66)))] (by kernel_rfl) (ya (pT h65x) (ya (ys (ef60 N (IntKind.wrap IntKind.i64 (s10k28 - (1 : Int)))) hc66) yz)))
/-! 29, loop 28 -/
inductive Qlf29_28b where
  | e0 (s10 : Int) (s11 : Int) (s12 : Int)
def slf29_28b (N : Nat) (h0_2 : List Int) (s8k10 : Int) (n : Nat) (go : Int → Int → Int → Option Qlf29_28b) (s10k28 : Int) (s11k28 : Int) (s12k28 : Int) : Option Qlf29_28b :=
 if (s11k28 > (List.getD h0_2 (0 + (Int.toNat s8k10)) (0 : Int))) then
  (match f60 N (IntKind.wrap IntKind.i64 (s10k28 - (1 : Int))) with
  | none => none
  | some (.r0 res_0c76 res_1c76) =>
   go (IntKind.wrap IntKind.i64 (s10k28 - (1 : Int))) res_0c76 res_1c76)
 else
  some (.e0 s10k28 s11k28 s12k28)
def lf29_28b (N : Nat) (h0_2 : List Int) (s8k10 : Int) : Nat → Int → Int → Int → Option Qlf29_28b
  | 0, _, _, _ => none
  | n + 1, s10k28, s11k28, s12k28 => slf29_28b N h0_2 s8k10 n (lf29_28b N h0_2 s8k10 n) s10k28 s11k28 s12k28
def qlf29_28b (a0n : Nat) (a0nl : Bool) (h0rw : Bool) (h0_0 : List Int) (h0_1 : List Int) (h0_2 : List Int) (h1l2 : List Int) (resnlc4 : Bool) (h0c4 : List Int) (s8k10 : Int) (resnlc61 : Bool) (h1c61 : List Bool) : Option Qlf29_28b → Out
  | none => none
  | some (.e0 s10 s11 s12) => some ((XT.exit 6), (St.mk [(0, (AV.slice 0 0 0 a0n 3 a0nl true)), (4, (AV.slice 1 0 0 (List.length (h1l2 ++ [(5 : Int), (5 : Int)])) 1 false true)), (6, (AV.slice 2 0 0 (List.length h0c4) 1 resnlc4 true)), (7, (AV.slice 3 0 0 (List.length h1c61) 1 resnlc61 true)), (8, (AV.int IntKind.i64 s8k10)), (9, (AV.ptr 4 0 0 1)), (10, (AV.int IntKind.i64 s10)), (11, (AV.int IntKind.i64 s11)), (12, (AV.int IntKind.i64 s12))] [(Blk.dyn h0rw 62 [(Col.ints IntKind.i64 h0_0), (Col.ints IntKind.i64 h0_1), (Col.ints IntKind.i64 h0_2)]), (Blk.dyn true 3 [(Col.ints IntKind.i64 (h1l2 ++ [(5 : Int), (5 : Int)]))]), (Blk.dyn true 3 [(Col.ints IntKind.i64 h0c4)]), (Blk.dyn true 4 [(Col.bools h1c61)]), (Blk.segs true 62 [(Seg.cell (AV.int IntKind.i64 (List.getD h0_0 (0 + (Int.toNat s8k10)) (0 : Int)))), (Seg.cell (AV.int IntKind.i64 (List.getD h0_1 (0 + (Int.toNat s8k10)) (0 : Int)))), (Seg.cell (AV.int IntKind.i64 (List.getD h0_2 (0 + (Int.toNat s8k10)) (0 : Int))))])]))
theorem elf29_28b (N : Nat) (a0n : Nat) (a0nl : Bool) (h0rw : Bool) (h0_0 : List Int) (h0_1 : List Int) (h0_2 : List Int) (h1l2 : List Int) (resnlc4 : Bool) (h0c4 : List Int) (s8k10 : Int) (resnlc61 : Bool) (h1c61 : List Bool) : ∀ (n : Nat) (s10k28 : Int) (s11k28 : Int) (s12k28 : Int), qlf29_28b a0n a0nl h0rw h0_0 h0_1 h0_2 h1l2 resnlc4 h0c4 s8k10 resnlc61 h1c61 (lf29_28b N h0_2 s8k10 n s10k28 s11k28 s12k28) = lp (ctx29 N) 1 Try.f29 28 n (St.mk [(0, (AV.slice 0 0 0 a0n 3 a0nl true)), (4, (AV.slice 1 0 0 (List.length (h1l2 ++ [(5 : Int), (5 : Int)])) 1 false true)), (6, (AV.slice 2 0 0 (List.length h0c4) 1 resnlc4 true)), (7, (AV.slice 3 0 0 (List.length h1c61) 1 resnlc61 true)), (8, (AV.int IntKind.i64 s8k10)), (9, (AV.ptr 4 0 0 1)), (10, (AV.int IntKind.i64 s10k28)), (11, (AV.int IntKind.i64 s11k28)), (12, (AV.int IntKind.i64 s12k28))] [(Blk.dyn h0rw 62 [(Col.ints IntKind.i64 h0_0), (Col.ints IntKind.i64 h0_1), (Col.ints IntKind.i64 h0_2)]), (Blk.dyn true 3 [(Col.ints IntKind.i64 (h1l2 ++ [(5 : Int), (5 : Int)]))]), (Blk.dyn true 3 [(Col.ints IntKind.i64 h0c4)]), (Blk.dyn true 4 [(Col.bools h1c61)]), (Blk.segs true 62 [(Seg.cell (AV.int IntKind.i64 (List.getD h0_0 (0 + (Int.toNat s8k10)) (0 : Int)))), (Seg.cell (AV.int IntKind.i64 (List.getD h0_1 (0 + (Int.toNat s8k10)) (0 : Int)))), (Seg.cell (AV.int IntKind.i64 (List.getD h0_2 (0 + (Int.toNat s8k10)) (0 : Int))))])]) := by
  intro n
  induction n with
  | zero => intros; kernel_rfl
  | succ n ih =>
    intro s10k28 s11k28 s12k28
    rw [lf29_28b]
    unfold slf29_28b
    refine br (p := (s11k28 > (List.getD h0_2 (0 + (Int.toNat s8k10)) (0 : Int)))) (fun h75x => ?_) (fun h75x => finL (ctx29 N) 1 Try.f29 28 n [.b false] (by kernel_rfl) (ya (pF h75x) yz))
    cases hc76 : f60 N (IntKind.wrap IntKind.i64 (s10k28 - (1 : Int))) with
    | none => exact finL (ctx29 N) 1 Try.f29 28 n [.b true, .call (rf60 (IntKind.wrap IntKind.i64 (s10k28 - (1 : Int))) none)] (by kernel_rfl) (ya (pT h75x) (ya (ys (ef60 N (IntKind.wrap IntKind.i64 (s10k28 - (1 : Int)))) hc76) yz))
    | some o =>
      cases o with
      | r0 res_0c76 res_1c76 =>
        dsimp only
        exact (ih (IntKind.wrap IntKind.i64 (s10k28 - (1 : Int))) res_0c76 res_1c76).trans (finL (ctx29 N) 1 Try.f29 28 n [.b true, .call (rf60 (IntKind.wrap IntKind.i64 (s10k28 - (1 : Int))) (some (.r0 res_0c76 res_1c76)))] (by kernel_rfl) (ya (pT h75x) (ya (ys (ef60 N (IntKind.wrap IntKind.i64 (s10k28 - (1 : Int)))) hc76) yz)))
/-! 29, loop 10 -/
inductive Qlf29_10 where
  | e0
  | e1 (s7nl : Bool) (h2 : List Bool)
def slf29_10 (N : Nat) (a0n : Nat) (h0_0 : List Int) (h0_1 : List Int) (h0_2 : List Int) (h1l2 : List Int) (h0c4 : List Int) (n : Nat) (go : Bool → Int → List Bool → Option Qlf29_10) (s7nlk10 : Bool) (s8k10 : Int) (h3k10 : List Bool) : Option Qlf29_10 :=
 if (s8k10 < ((a0n : Nat) : Int)) then
  if (((0 : Int) ≤ s8k10) ∧ ((Int.toNat s8k10) < a0n)) then
   if ((0 + (Int.toNat s8k10)) < (List.length h0_0)) then
    (match f57 N (List.getD h0_0 (0 + (Int.toNat s8k10)) (0 : Int)) (List.getD h0_1 (0 + (Int.toNat s8k10)) (0 : Int)) (List.getD h0_2 (0 + (Int.toNat s8k10)) (0 : Int)) with
    | none => none
    | some (.r0 resc46) =>
     if ((!resc46) = true) then
      some .e0
     else
     if ((List.getD h0_1 (0 + (Int.toNat s8k10)) (0 : Int)) = (0 : Int)) then
      (match f14 N (List.length h0c4) (List.getD h0_0 (0 + (Int.toNat s8k10)) (0 : Int)) h0c4 with
      | none => none
      | some (.r0 resnc49 resnlc49 h1c49) =>
       if (resnc49 = (List.length h1c49)) then
        if (((List.length h3k10) = (List.length h3k10)) ∧ (((List.length h3k10) + (List.length h1c49)) ≤ 1099511627776)) then
         go ((Go.Abs.isEmptyCols [(Col.bools h1c49)]) && s7nlk10) (IntKind.wrap IntKind.i64 (s8k10 + (1 : Int))) (h3k10 ++ h1c49)
        else
        none
       else
        none)
     else
      (match f58 N (285 : Int) with
      | none => none
      | some (.r0 res_0c52 res_1c52) =>
       (match lf29_19 N h0_1 s8k10 N (285 : Int) res_0c52 res_1c52 with
       | none => none
       | some (.e0 s10l57 s11l57 s12l57) =>
        (match f14 N (List.length h0c4) s10l57 h0c4 with
        | none => none
        | some (.r0 resnc58 resnlc58 h1c58) =>
         if (resnc58 = (List.length h1c58)) then
          if (((List.length h3k10) = (List.length h3k10)) ∧ (((List.length h3k10) + (List.length h1c58)) ≤ 1099511627776)) then
           (match f59 N (List.length (h3k10 ++ h1c58)) ((Go.Abs.isEmptyCols [(Col.bools h1c58)]) && s7nlk10) (IntKind.wrap IntKind.i64 ((List.getD h0_1 (0 + (Int.toNat s8k10)) (0 : Int)) - s11l57)) s12l57 (h3k10 ++ h1c58) with
           | none => none
           | some .r0 =>
            (match f60 N (29 : Int) with
            | none => none
            | some (.r0 res_0c62 res_1c62) =>
             (match lf29_28 N h0_2 s8k10 N (29 : Int) res_0c62 res_1c62 with
             | none => none
             | some (.e0 s10l67 s11l67 s12l67) =>
              (match f14 N (List.length (h1l2 ++ [(5 : Int), (5 : Int)])) s10l67 (h1l2 ++ [(5 : Int), (5 : Int)]) with
              | none => none
              | some (.r0 resnc68 resnlc68 h1c68) =>
               if (resnc68 = (List.length h1c68)) then
                if (((List.length (h3k10 ++ h1c58)) = (List.length (h3k10 ++ h1c58))) ∧ (((List.length (h3k10 ++ h1c58)) + (List.length h1c68)) ≤ 1099511627776)) then
                 (match f59 N (List.length ((h3k10 ++ h1c58) ++ h1c68)) ((Go.Abs.isEmptyCols [(Col.bools h1c68)]) && ((Go.Abs.isEmptyCols [(Col.bools h1c58)]) && s7nlk10)) (IntKind.wrap IntKind.i64 ((List.getD h0_2 (0 + (Int.toNat s8k10)) (0 : Int)) - s11l67)) s12l67 ((h3k10 ++ h1c58) ++ h1c68) with
                 | none => none
                 | some .r0 =>
                  go ((Go.Abs.isEmptyCols [(Col.bools h1c68)]) && ((Go.Abs.isEmptyCols [(Col.bools h1c58)]) && s7nlk10)) (IntKind.wrap IntKind.i64 (s8k10 + (1 : Int))) ((h3k10 ++ h1c58) ++ h1c68)
                 | some (.r1 resnlc71 h1c71) =>
                  go resnlc71 (IntKind.wrap IntKind.i64 (s8k10 + (1 : Int))) h1c71)
                else
                 none
               else
                none)))
           | some (.r1 resnlc61 h1c61) =>
            (match f60 N (29 : Int) with
            | none => none
            | some (.r0 res_0c72 res_1c72) =>
             (match lf29_28b N h0_2 s8k10 N (29 : Int) res_0c72 res_1c72 with
             | none => none
             | some (.e0 s10l77 s11l77 s12l77) =>
              (match f14 N (List.length (h1l2 ++ [(5 : Int), (5 : Int)])) s10l77 (h1l2 ++ [(5 : Int), (5 : Int)]) with
              | none => none
              | some (.r0 resnc78 resnlc78 h1c78) =>
               if (resnc78 = (List.length h1c78)) then
                if (((List.length h1c61) = (List.length h1c61)) ∧ (((List.length h1c61) + (List.length h1c78)) ≤ 1099511627776)) then
                 (match f59 N (List.length (h1c61 ++ h1c78)) ((Go.Abs.isEmptyCols [(Col.bools h1c78)]) && resnlc61) (IntKind.wrap IntKind.i64 ((List.getD h0_2 (0 + (Int.toNat s8k10)) (0 : Int)) - s11l77)) s12l77 (h1c61 ++ h1c78) with
                 | none => none
                 | some .r0 =>
                  go ((Go.Abs.isEmptyCols [(Col.bools h1c78)]) && resnlc61) (IntKind.wrap IntKind.i64 (s8k10 + (1 : Int))) (h1c61 ++ h1c78)
                 | some (.r1 resnlc81 h1c81) =>
                  go resnlc81 (IntKind.wrap IntKind.i64 (s8k10 + (1 : Int))) h1c81)
                else
                 none
               else
                none))))
          else
           none
         else
          none))))
   else
    none
  else
   none
 else
  some (.e1 s7nlk10 h3k10)
def lf29_10 (N : Nat) (a0n : Nat) (h0_0 : List Int) (h0_1 : List Int) (h0_2 : List Int) (h1l2 : List Int) (h0c4 : List Int) : Nat → Bool → Int → List Bool → Option Qlf29_10
  | 0, _, _, _ => none
  | n + 1, s7nlk10, s8k10, h3k10 => slf29_10 N a0n h0_0 h0_1 h0_2 h1l2 h0c4 n (lf29_10 N a0n h0_0 h0_1 h0_2 h1l2 h0c4 n) s7nlk10 s8k10 h3k10
def qlf29_10 (a0n : Nat) (a0nl : Bool) (h0rw : Bool) (h0_0 : List Int) (h0_1 : List Int) (h0_2 : List Int) (h1l2 : List Int) (resnlc4 : Bool) (h0c4 : List Int) : Option Qlf29_10 → Out
  | none => none
  | some .e0 => some (XT.ret, (St.mk [(2, (AV.slice 1 0 0 0 1 true true)), (3, (AV.int IntKind.i64 (1 : Int)))] [(Blk.dyn h0rw 62 [(Col.ints IntKind.i64 h0_0), (Col.ints IntKind.i64 h0_1), (Col.ints IntKind.i64 h0_2)]), (Blk.dyn true 5 [(Col.ints IntKind.u8 ([] : List Int))])]))
  | some (.e1 s7nl h2) => some ((XT.exit 2), (St.mk [(6, (AV.slice 1 0 0 (List.length h0c4) 1 resnlc4 true)), (7, (AV.slice 2 0 0 (List.length h2) 1 s7nl true))] [(Blk.dyn h0rw 62 [(Col.ints IntKind.i64 h0_0), (Col.ints IntKind.i64 h0_1), (Col.ints IntKind.i64 h0_2)]), (Blk.dyn true 3 [(Col.ints IntKind.i64 h0c4)]), (Blk.dyn true 4 [(Col.bools h2)])]))
theorem elf29_10 (N : Nat) (a0n : Nat) (a0nl : Bool) (h0rw : Bool) (h0_0 : List Int) (h0_1 : List Int) (h0_2 : List Int) (h1l2 : List Int) (resnlc4 : Bool) (h0c4 : List Int) : ∀ (n : Nat) (s7nlk10 : Bool) (s8k10 : Int) (h3k10 : List Bool), qlf29_10 a0n a0nl h0rw h0_0 h0_1 h0_2 h1l2 resnlc4 h0c4 (lf29_10 N a0n h0_0 h0_1 h0_2 h1l2 h0c4 n s7nlk10 s8k10 h3k10) = lp (ctx29 N) 1 Try.f29 10 n (St.mk [(0, (AV.slice 0 0 0 a0n 3 a0nl true)), (4, (AV.slice 1 0 0 (List.length (h1l2 ++ [(5 : Int), (5 : Int)])) 1 false true)), (6, (AV.slice 2 0 0 (List.length h0c4) 1 resnlc4 true)), (7, (AV.slice 3 0 0 (List.length h3k10) 1 s7nlk10 true)), (8, (AV.int IntKind.i64 s8k10))] [(Blk.dyn h0rw 62 [(Col.ints IntKind.i64 h0_0), (Col.ints IntKind.i64 h0_1), (Col.ints IntKind.i64 h0_2)]), (Blk.dyn true 3 [(Col.ints IntKind.i64 (h1l2 ++ [(5 : Int), (5 : Int)]))]), (Blk.dyn true 3 [(Col.ints IntKind.i64 h0c4)]), (Blk.dyn true 4 [(Col.bools h3k10)])]) := by
  intro n
  induction n with
  | zero => intros; kernel_rfl
  | succ n ih =>
    intro s7nlk10 s8k10 h3k10
    rw [lf29_10]
    unfold slf29_10
    refine br (p := (s8k10 < ((a0n : Nat) : Int))) (fun h43x => ?_) (fun h43x => finL (ctx29 N) 1 Try.f29 10 n [.b false] (by kernel_rfl) (ya (pF h43x) yz))
    refine br (p := (((0 : Int) ≤ s8k10) ∧ ((Int.toNat s8k10) < a0n))) (fun h44x => ?_) (fun h44x => finL (ctx29 N) 1 Try.f29 10 n [.b true, .b false] (by kernel_rfl) (ya (pT h43x) (ya (pF h44x) yz)))
    refine br (p := ((0 + (Int.toNat s8k10)) < (List.length h0_0))) (fun h45x => ?_) (fun h45x => finL (ctx29 N) 1 Try.f29 10 n [.b true, .b true, .b false] (by kernel_rfl) (ya (pT h43x) (ya (pT h44x) (ya (pF h45x) yz))))
    cases hc46 : f57 N (List.getD h0_0 (0 + (Int.toNat s8k10)) (0 : Int)) (List.getD h0_1 (0 + (Int.toNat s8k10)) (0 : Int)) (List.getD h0_2 (0 + (Int.toNat s8k10)) (0 : Int)) with
    | none => exact finL (ctx29 N) 1 Try.f29 10 n [.b true, .b true, .b true, .call (rf57 (List.getD h0_0 (0 + (Int.toNat s8k10)) (0 : Int)) (List.getD h0_1 (0 + (Int.toNat s8k10)) (0 : Int)) (List.getD h0_2 (0 + (Int.toNat s8k10)) (0 : Int)) none)] (by kernel_rfl) (ya (pT h43x) (ya (pT h44x) (ya (pT h45x) (ya (ys (ef57 N (List.getD h0_0 (0 + (Int.toNat s8k10)) (0 : Int)) (List.getD h0_1 (0 + (Int.toNat s8k10)) (0 : Int)) (List.getD h0_2 (0 + (Int.toNat s8k10)) (0 : Int))) hc46) yz))))
    | some o =>
      cases o with
      | r0 resc46 =>
        dsimp only
        refine br (p := ((!resc46) = true)) (fun h47x => finL (ctx29 N) 1 Try.f29 10 n [.b true, .b true, .b true, .call (rf57 (List.getD h0_0 (0 + (Int.toNat s8k10)) (0 : Int)) (List.getD h0_1 (0 + (Int.toNat s8k10)) (0 : Int)) (List.getD h0_2 (0 + (Int.toNat s8k10)) (0 : Int)) (some (.r0 resc46))), .b true] (by kernel_rfl) (ya (pT h43x) (ya (pT h44x) (ya (pT h45x) (ya (ys (ef57 N (List.getD h0_0 (0 + (Int.toNat s8k10)) (0 : Int)) (List.getD h0_1 (0 + (Int.toNat s8k10)) (0 : Int)) (List.getD h0_2 (0 + (Int.toNat s8k10)) (0 : Int))) hc46) (ya h47x yz)))))) (fun h47x => ?_)
        refine br (p := ((List.getD h0_1 (0 + (Int.toNat s8k10)) (0 : Int)) = (0 : Int))) (fun h48x => ?_) (fun h48x => ?_)
        · skip
          cases hc49 : f14 N (List.length h0c4) (List.getD h0_0 (0 + (Int.toNat s8k10)) (0 : Int)) h0c4 with
          | none => exact finL (ctx29 N) 1 Try.f29 10 n [.b true, .b true, .b true, .call (rf57 (List.getD h0_0 (0 + (Int.toNat s8k10)) (0 : Int)) (List.getD h0_1 (0 + (Int.toNat s8k10)) (0 : Int)) (List.getD h0_2 (0 + (Int.toNat s8k10)) (0 : Int)) (some (.r0 resc46))), .b false, .b true, .call (rf14 (List.length h0c4) resnlc4 (List.getD h0_0 (0 + (Int.toNat s8k10)) (0 : Int)) true h0c4 none)] (by kernel_rfl) (ya (pT h43x) (ya (pT h44x) (ya (pT h45x) (ya (ys (ef57 N (List.getD h0_0 (0 + (Int.toNat s8k10)) (0 : Int)) (List.getD h0_1 (0 + (Int.toNat s8k10)) (0 : Int)) (List.getD h0_2 (0 + (Int.toNat s8k10)) (0 : Int))) hc46) (ya (pNB h47x) (ya (pE h48x) (ya (ys (ef14 N (List.length h0c4) resnlc4 (List.getD h0_0 (0 + (Int.toNat s8k10)) (0 : Int)) true h0c4) hc49) yz)))))))
          | some o =>
            cases o with
            | r0 resnc49 resnlc49 h1c49 =>
              dsimp only
              refine br (p := (resnc49 = (List.length h1c49))) (fun h50x => ?_) (fun h50x => finL (ctx29 N) 1 Try.f29 10 n [.b true, .b true, .b true, .call (rf57 (List.getD h0_0 (0 + (Int.toNat s8k10)) (0 : Int)) (List.getD h0_1 (0 + (Int.toNat s8k10)) (0 : Int)) (List.getD h0_2 (0 + (Int.toNat s8k10)) (0 : Int)) (some (.r0 resc46))), .b false, .b true, .call (rf14 (List.length h0c4) resnlc4 (List.getD h0_0 (0 + (Int.toNat s8k10)) (0 : Int)) true h0c4 (some (.r0 resnc49 resnlc49 h1c49))), .b false] (by kernel_rfl) (ya (pT h43x) (ya (pT h44x) (ya (pT h45x) (ya (ys (ef57 N (List.getD h0_0 (0 + (Int.toNat s8k10)) (0 : Int)) (List.getD h0_1 (0 + (Int.toNat s8k10)) (0 : Int)) (List.getD h0_2 (0 + (Int.toNat s8k10)) (0 : Int))) hc46) (ya (pNB h47x) (ya (pE h48x) (ya (ys (ef14 N (List.length h0c4) resnlc4 (List.getD h0_0 (0 + (Int.toNat s8k10)) (0 : Int)) true h0c4) hc49) (ya (pF h50x) yz)))))))))
              refine br (p := (((List.length h3k10) = (List.length h3k10)) ∧ (((List.length h3k10) + (List.length h1c49)) ≤ 1099511627776))) (fun h51x => (ih ((Go.Abs.isEmptyCols [(Col.bools h1c49)]) && s7nlk10) (IntKind.wrap IntKind.i64 (s8k10 + (1 : Int))) (h3k10 ++ h1c49)).trans (finL (ctx29 N) 1 Try.f29 10 n [.b true, .b true, .b true, .call (rf57 (List.getD h0_0 (0 + (Int.toNat s8k10)) (0 : Int)) (List.getD h0_1 (0 + (Int.toNat s8k10)) (0 : Int)) (List.getD h0_2 (0 + (Int.toNat s8k10)) (0 : Int)) (some (.r0 resc46))), .b false, .b true, .call (rf14 (List.length h0c4) resnlc4 (List.getD h0_0 (0 + (Int.toNat s8k10)) (0 : Int)) true h0c4 (some (.r0 resnc49 resnlc49 h1c49))), .b true, .b true] (by kernel_rfl) (ya (pT h43x) (ya (pT h44x) (ya (pT h45x) (ya (ys (ef57 N (List.getD h0_0 (0 + (Int.toNat s8k10)) (0 : Int)) (List.getD h0_1 (0 + (Int.toNat s8k10)) (0 : Int)) (List.getD h0_2 (0 + (Int.toNat s8k10)) (0 : Int))) hc46) (ya (pNB h47x) (ya (pE h48x) (ya (ys (ef14 N (List.length h0c4) resnlc4 (List.getD h0_0 (0 + (Int.toNat s8k10)) (0 : Int)) true h0c4) hc49) (ya (pT h50x) (ya (pT h51x) yz))))))))))) (fun h51x => ?_)
              exact finL (ctx29 N) 1 Try.f29 10 n [.b true, .b true, .b true, .call (rf57 (List.getD h0_0 (0 + (Int.toNat s8k10)) (0 : Int)) (List.getD h0_1 (0 + (Int.toNat s8k10)) (0 : Int)) (List.getD h0_2 (0 + (Int.toNat s8k10)) (0 : Int)) (some (.r0 resc46))), .b false, .b true, .call (rf14 (List.length h0c4) resnlc4 (List.getD h0_0 (0 + (Int.toNat s8k10)) (0 : Int)) true h0c4 (some (.r0 resnc49 resnlc49 h1c49))), .b true, .b false] (by kernel_rfl) (ya (pT h43x) (ya (pT h44x) (ya (pT h45x) (ya (ys (ef57 N (List.getD h0_0 (0 + (Int.toNat s8k10)) (0 : Int)) (List.getD h0_1 (0 + (Int.toNat s8k10)) (0 : Int)) (List.getD h0_2 (0 + (Int.toNat s8k10)) (0 : Int))) hc46) (ya (pNB h47x) (ya (pE h48x) (ya (ys (ef14 N (List.length h0c4) resnlc4 (List.getD h0_0 (0 + (Int.toNat s8k10)) (0 : Int)) true h0c4) hc49) (ya (pT h50x) (ya (pF h51x) yz)))))))))
        · skip
          cases hc52 : f58 N (285 : Int) with
          | none => exact finL (ctx29 N) 1 Try.f29 10 n [.b true, .b true, .b true, .call (rf57 (List.getD h0_0 (0 + (Int.toNat s8k10)) (0 : Int)) (List.getD h0_1 (0 + (Int.toNat s8k10)) (0 : Int)) (List.getD h0_2 (0 + (Int.toNat s8k10)) (0 : Int)) (some (.r0 resc46))), .b false, .b false, .call (rf58 (285 : Int) none)] (by kernel_rfl) (ya (pT h43x) (ya (pT h44x) (ya (pT h45x) (ya (ys (ef57 N (List.getD h0_0 (0 + (Int.toNat s8k10)) (0 : Int)) (List.getD h0_1 (0 + (Int.toNat s8k10)) (0 : Int)) (List.getD h0_2 (0 + (Int.toNat s8k10)) (0 : Int))) hc46) (ya (pNB h47x) (ya (pNE h48x) (ya (ys (ef58 N (285 : Int)) hc52) yz)))))))
          | some o =>
            cases o with
            | r0 res_0c52 res_1c52 =>
              dsimp only
              cases ho57 : lf29_19 N h0_1 s8k10 N (285 : Int) res_0c52 res_1c52 with
              | none => exact finL (ctx29 N) 1 Try.f29 10 n [.b true, .b true, .b true, .call (rf57 (List.getD h0_0 (0 + (Int.toNat s8k10)) (0 : Int)) (List.getD h0_1 (0 + (Int.toNat s8k10)) (0 : Int)) (List.getD h0_2 (0 + (Int.toNat s8k10)) (0 : Int)) (some (.r0 resc46))), .b false, .b false, .call (rf58 (285 : Int) (some (.r0 res_0c52 res_1c52))), .out (qlf29_19 a0n a0nl h0rw h0_0 h0_1 h0_2 h1l2 resnlc4 h0c4 s7nlk10 s8k10 h3k10 none)] (by kernel_rfl) (ya (pT h43x) (ya (pT h44x) (ya (pT h45x) (ya (ys (ef57 N (List.getD h0_0 (0 + (Int.toNat s8k10)) (0 : Int)) (List.getD h0_1 (0 + (Int.toNat s8k10)) (0 : Int)) (List.getD h0_2 (0 + (Int.toNat s8k10)) (0 : Int))) hc46) (ya (pNB h47x) (ya (pNE h48x) (ya (ys (ef58 N (285 : Int)) hc52) (ya (ys (elf29_19 N a0n a0nl h0rw h0_0 h0_1 h0_2 h1l2 resnlc4 h0c4 s7nlk10 s8k10 h3k10 N (285 : Int) res_0c52 res_1c52) ho57) yz))))))))
              | some o =>
                cases o with
                | e0 s10l57 s11l57 s12l57 =>
                  dsimp only
                  cases hc58 : f14 N (List.length h0c4) s10l57 h0c4 with
                  | none => exact finL (ctx29 N) 1 Try.f29 10 n [.b true, .b true, .b true, .call (rf57 (List.getD h0_0 (0 + (Int.toNat s8k10)) (0 : Int)) (List.getD h0_1 (0 + (Int.toNat s8k10)) (0 : Int)) (List.getD h0_2 (0 + (Int.toNat s8k10)) (0 : Int)) (some (.r0 resc46))), .b false, .b false, .call (rf58 (285 : Int) (some (.r0 res_0c52 res_1c52))), .out (qlf29_19 a0n a0nl h0rw h0_0 h0_1 h0_2 h1l2 resnlc4 h0c4 s7nlk10 s8k10 h3k10 (some (.e0 s10l57 s11l57 s12l57))), .call (rf14 (List.length h0c4) resnlc4 s10l57 true h0c4 none)] (by kernel_rfl) (ya (pT h43x) (ya (pT h44x) (ya (pT h45x) (ya (ys (ef57 N (List.getD h0_0 (0 + (Int.toNat s8k10)) (0 : Int)) (List.getD h0_1 (0 + (Int.toNat s8k10)) (0 : Int)) (List.getD h0_2 (0 + (Int.toNat s8k10)) (0 : Int))) hc46) (ya (pNB h47x) (ya (pNE h48x) (ya (ys (ef58 N (285 : Int)) hc52) (ya (ys (elf29_19 N a0n a0nl h0rw h0_0 h0_1 h0_2 h1l2 resnlc4 h0c4 s7nlk10 s8k10 h3k10 N (285 : Int) res_0c52 res_1c52) ho57) (ya (ys (ef14 N (List.length h0c4) resnlc4 s10l57 true h0c4) hc58) yz)))))))))
                  | some o =>
                    cases o with
                    | r0 resnc58 resnlc58 h1c58 =>
                      dsimp only
                      refine br (p := (resnc58 = (List.length h1c58))) (fun h59x => ?_) (fun h59x => finL (ctx29 N) 1 Try.f29 10 n [.b true, .b true, .b true, .call (rf57 (List.getD h0_0 (0 + (Int.toNat s8k10)) (0 : Int)) (List.getD h0_1 (0 + (Int.toNat s8k10)) (0 : Int)) (List.getD h0_2 (0 + (Int.toNat s8k10)) (0 : Int)) (some (.r0 resc46))), .b false, .b false, .call (rf58 (285 : Int) (some (.r0 res_0c52 res_1c52))), .out (qlf29_19 a0n a0nl h0rw h0_0 h0_1 h0_2 h1l2 resnlc4 h0c4 s7nlk10 s8k10 h3k10 (some (.e0 s10l57 s11l57 s12l57))), .call (rf14 (List.length h0c4) resnlc4 s10l57 true h0c4 (some (.r0 resnc58 resnlc58 h1c58))), .b false] (by kernel_rfl) (ya (pT h43x) (ya (pT h44x) (ya (pT h45x) (ya (ys (ef57 N (List.getD h0_0 (0 + (Int.toNat s8k10)) (0 : Int)) (List.getD h0_1 (0 + (Int.toNat s8k10)) (0 : Int)) (List.getD h0_2 (0 + (Int.toNat s8k10)) (0 : Int))) hc46) (ya (pNB h47x) (ya (pNE h48x) (ya (ys (ef58 N (285 : Int)) hc52) (ya (ys (elf29_19 N a0n a0nl h0rw h0_0 h0_1 h0_2 h1l2 resnlc4 h0c4 s7nlk10 s8k10 h3k10 N (285 : Int) res_0c52 res_1c52) ho57) (ya (ys (ef14 N (List.length h0c4) resnlc4 s10l57 true h0c4) hc58) (ya (pF h59x) yz)))))))))))
                      refine br (p := (((List.length h3k10) = (List.length h3k10)) ∧ (((List.length h3k10) + (List.length h1c58)) ≤ 1099511627776))) (fun h60x => ?_) (fun h60x => finL (ctx29 N) 1 Try.f29 10 n [.b true, .b true, .b true, .call (rf57 (List.getD h0_0 (0 + (Int.toNat s8k10)) (0 : Int)) (List.getD h0_1 (0 + (Int.toNat s8k10)) (0 : Int)) (List.getD h0_2 (0 + (Int.toNat s8k10)) (0 : Int)) (some (.r0 resc46))), .b false, .b false, .call (rf58 (285 : Int) (some (.r0 res_0c52 res_1c52))), .out (qlf29_19 a0n a0nl h0rw h0_0 h0_1 h0_2 h1l2 resnlc4 h0c4 s7nlk10 s8k10 h3k10 (some (.e0 s10l57 s11l57 s12l57))), .call (rf14 (List.length h0c4) resnlc4 s10l57 true h0c4 (some (.r0 resnc58 resnlc58 h1c58))), .b true, .b false] (by kernel_rfl) (ya (pT h43x) (ya (pT h44x) (ya (pT h45x) (ya (ys (ef57 N (List.getD h0_0 (0 + (Int.toNat s8k10)) (0 : Int)) (List.getD h0_1 (0 + (Int.toNat s8k10)) (0 : Int)) (List.getD h0_2 (0 + (Int.toNat s8k10)) (0 : Int))) hc46) (ya (pNB h47x) (ya (pNE h48x) (ya (ys (ef58 N (285 : Int)) hc52) (ya (ys (elf29_19 N a0n a0nl h0rw h0_0 h0_1 h0_2 h1l2 resnlc4 h0c4 s7nlk10 s8k10 h3k10 N (285 : Int) res_0c52 res_1c52) ho57) (ya (ys (ef14 N (List.length h0c4) resnlc4 s10l57 true h0c4) hc58) (ya (pT h59x) (ya (pF h60x) yz))))))))))))
                      cases hc61 : f59 N (List.length (h3k10 ++ h1c58)) ((Go.Abs.isEmptyCols [(Col.bools h1c58)]) && s7nlk10) (IntKind.wrap IntKind.i64 ((List.getD h0_1 (0 + (Int.toNat s8k10)) (0 : Int)) - s11l57)) s12l57 (h3k10 ++ h1c58) with
                      | none => exact finL (ctx29 N) 1 Try.f29 10 n [.b true, .b true, .b true, .call (rf57 (List.getD h0_0 (0 + (Int.toNat s8k10)) (0 : Int)) (List.getD h0_1 (0 + (Int.toNat s8k10)) (0 : Int)) (List.getD h0_2 (0 + (Int.toNat s8k10)) (0 : Int)) (some (.r0 resc46))), .b false, .b false, .call (rf58 (285 : Int) (some (.r0 res_0c52 res_1c52))), .out (qlf29_19 a0n a0nl h0rw h0_0 h0_1 h0_2 h1l2 resnlc4 h0c4 s7nlk10 s8k10 h3k10 (some (.e0 s10l57 s11l57 s12l57))), .call (rf14 (List.length h0c4) resnlc4 s10l57 true h0c4 (some (.r0 resnc58 resnlc58 h1c58))), .b true, .b true, .call (rf59 (List.length (h3k10 ++ h1c58)) ((Go.Abs.isEmptyCols [(Col.bools h1c58)]) && s7nlk10) (IntKind.wrap IntKind.i64 ((List.getD h0_1 (0 + (Int.toNat s8k10)) (0 : Int)) - s11l57)) s12l57 (h3k10 ++ h1c58) none)] (by kernel_rfl) (ya (pT h43x) (ya (pT h44x) (ya (pT h45x) (ya (ys (ef57 N (List.getD h0_0 (0 + (Int.toNat s8k10)) (0 : Int)) (List.getD h0_1 (0 + (Int.toNat s8k10)) (0 : Int)) (List.getD h0_2 (0 + (Int.toNat s8k10)) (0 : Int))) hc46) (ya (pNB h47x) (ya (pNE h48x) (ya (ys (ef58 N (285 : Int)) hc52) (ya (ys (elf29_19 N a0n a0nl h0rw h0_0 h0_1 h0_2 h1l2 resnlc4 h0c4 s7nlk10 s8k10 h3k10 N (285 : Int) res_0c52 res_1c52) ho57) (ya (ys (ef14 N (List.length h0c4) resnlc4 s10l57 true h0c4) hc58) (ya (pT h59x) (ya (pT h60x) (ya (ys (ef59 N (List.length (h3k10 ++ h1c58)) ((Go.Abs.isEmptyCols [(Col.bools h1c58)]) && s7nlk10) (IntKind.wrap IntKind.i64 ((List.getD h0_1 (0 + (Int.toNat s8k10)) (0 : Int)) - s11l57)) s12l57 (h3k10 ++ h1c58)) hc61) yz))))))))))))
                      | some o =>
                        cases o with
                        | r0 =>
                          dsimp only
                          cases hc62 : f60 N (29 : Int) with
                          | none => exact finL (ctx29 N) 1 Try.f29 10 n [.b true, .b true, .b true, .call (rf57 (List.getD h0_0 (0 + (Int.toNat s8k10)) (0 : Int)) (List.getD h0_1 (0 + (Int.toNat s8k10)) (0 : Int)) (List.getD h0_2 (0 + (Int.toNat s8k10)) (0 : Int)) (some (.r0 resc46))), .b false, .b false, .call (rf58 (285 : Int) (some (.r0 res_0c52 res_1c52))), .out (qlf29_19 a0n a0nl h0rw h0_0 h0_1 h0_2 h1l2 resnlc4 h0c4 s7nlk10 s8k10 h3k10 (some (.e0 s10l57 s11l57 s12l57))), .call (rf14 (List.length h0c4) resnlc4 s10l57 true h0c4 (some (.r0 resnc58 resnlc58 h1c58))), .b true, .b true, .call (rf59 (List.length (h3k10 ++ h1c58)) ((Go.Abs.isEmptyCols [(Col.bools h1c58)]) && s7nlk10) (IntKind.wrap IntKind.i64 ((List.getD h0_1 (0 + (Int.toNat s8k10)) (0 : Int)) - s11l57)) s12l57 (h3k10 ++ h1c58) (some .r0)), .call (rf60 (29 : Int) none)] (by kernel_rfl) (ya (pT h43x) (ya (pT h44x) (ya (pT h45x) (ya (ys (ef57 N (List.getD h0_0 (0 + (Int.toNat s8k10)) (0 : Int)) (List.getD h0_1 (0 + (Int.toNat s8k10)) (0 : Int)) (List.getD h0_2 (0 + (Int.toNat s8k10)) (0 : Int))) hc46) (ya (pNB h47x) (ya (pNE h48x) (ya (ys (ef58 N (285 : Int)) hc52) (ya (ys (elf29_19 N a0n a0nl h0rw h0_0 h0_1 h0_2 h1l2 resnlc4 h0c4 s7nlk10 s8k10 h3k10 N (285 : Int) res_0c52 res_1c52) ho57) (ya (ys (ef14 N (List.length h0c4) resnlc4 s10l57 true h0c4) hc58) (ya (pT h59x) (ya (pT h60x) (ya (ys (ef59 N (List.length (h3k10 ++ h1c58)) ((Go.Abs.isEmptyCols [(Col.bools h1c58)]) && s7nlk10) (IntKind.wrap IntKind.i64 ((List.getD h0_1 (0 + (Int.toNat s8k10)) (0 : Int)) - s11l57)) s12l57 (h3k10 ++ h1c58)) hc61) (ya (ys (ef60 N (29 : Int)) hc62) yz)))))))))))))
                          | some o =>
                            cases o with
                            | r0 res_0c62 res_1c62 =>
                              dsimp only
                              cases ho67 : lf29_28 N h0_2 s8k10 N (29 : Int) res_0c62 res_1c62 with
                              | none => exact finL (ctx29 N) 1 Try.f29 10 n [.b true, .b true, .b true, .call (rf57 (List.getD h0_0 (0 + (Int.toNat s8k10)) (0 : Int)) (List.getD h0_1 (0 + (Int.toNat s8k10)) (0 : Int)) (List.getD h0_2 (0 + (Int.toNat s8k10)) (0 : Int)) (some (.r0 resc46))), .b false, .b false, .call (rf58 (285 : Int) (some (.r0 res_0c52 res_1c52))), .out (qlf29_19 a0n a0nl h0rw h0_0 h0_1 h0_2 h1l2 resnlc4 h0c4 s7nlk10 s8k10 h3k10 (some (.e0 s10l57 s11l57 s12l57))), .call (rf14 (List.length h0c4) resnlc4 s10l57 true h0c4 (some (.r0 resnc58 resnlc58 h1c58))), .b true, .b true, .call (rf59 (List.length (h3k10 ++ h1c58)) ((Go.Abs.isEmptyCols [(Col.bools h1c58)]) && s7nlk10) (IntKind.wrap IntKind.i64 ((List.getD h0_1 (0 + (Int.toNat s8k10)) (0 : Int)) - s11l57)) s12l57 (h3k10 ++ h1c58) (some .r0)), .call (rf60 (29 : Int) (some (.r0 res_0c62 res_1c62))), .out (qlf29_28 a0n a0nl h0rw h0_0 h0_1 h0_2 h1l2 resnlc4 h0c4 s7nlk10 s8k10 h3k10 h1c58 none)] (by kernel_rfl) (ya (pT h43x) (ya (pT h44x) (ya (pT h45x) (ya (ys (ef57 N (List.getD h0_0 (0 + (Int.toNat s8k10)) (0 : Int)) (List.getD h0_1 (0 + (Int.toNat s8k10)) (0 : Int)) (List.getD h0_2 (0 + (Int.toNat s8k10)) (0 : Int))) hc46) (ya (pNB h47x) (ya (pNE h48x) (ya (ys (ef58 N (285 : Int)) hc52) (ya (ys (elf29_19 N a0n a0nl h0rw h0_0 h0_1 h0_2 h1l2 resnlc4 h0c4 s7nlk10 s8k10 h3k10 N (285 : Int) res_0c52 res_1c52) ho57) (ya (ys (ef14 N (List.length h0c4) resnlc4 s10l57 true h0c4) hc58) (ya (pT h59x) (ya (pT h60x) (ya (ys (ef59 N (List.length (h3k10 ++ h1c58)) ((Go.Abs.isEmptyCols [(Col.bools h1c58)]) && s7nlk10) (IntKind.wrap IntKind.i64 ((List.getD h0_1 (0 + (Int.toNat s8k10)) (0 : Int)) - s11l57)) s12l57 (h3k10 ++ h1c58)) hc61) (ya (ys (ef60 N (29 : Int)) hc62) (ya (ys (elf29_28 N a0n a0nl h0rw h0_0 h0_1 h0_2 h1l2 resnlc4 h0c4 s7nlk10 s8k10 h3k10 h1c58 N (29 : Int) res_0c62 res_1c62) ho67) yz))))))))))))))
                              | some o =>
                                cases o with
                                | e0 s10l67 s11l67 s12l67 =>
                                  dsimp only
                                  cases hc68 : f14 N (List.length (h1l2 ++ [(5 : Int), (5 : Int)])) s10l67 (h1l2 ++ [(5 : Int), (5 : Int)]) with
                                  | none => exact finL (ctx29 N) 1 Try.f29 10 n [.b true, .b true, .b true, .call (rf57 (List.getD h0_0 (0 + (Int.toNat s8k10)) (0 : Int)) (List.getD h0_1 (0 + (Int.toNat s8k10)) (0 : Int)) (List.getD h0_2 (0 + (Int.toNat s8k10)) (0 : Int)) (some (.r0 resc46))), .b false, .b false, .call (rf58 (285 : Int) (some (.r0 res_0c52 res_1c52))), .out (qlf29_19 a0n a0nl h0rw h0_0 h0_1 h0_2 h1l2 resnlc4 h0c4 s7nlk10 s8k10 h3k10 (some (.e0 s10l57 s11l57 s12l57))), .call (rf14 (List.length h0c4) resnlc4 s10l57 true h0c4 (some (.r0 resnc58 resnlc58 h1c58))), .b true, .b true, .call (rf59 (List.length (h3k10 ++ h1c58)) ((Go.Abs.isEmptyCols [(Col.bools h1c58)]) && s7nlk10) (IntKind.wrap IntKind.i64 ((List.getD h0_1 (0 + (Int.toNat s8k10)) (0 : Int)) - s11l57)) s12l57 (h3k10 ++ h1c58) (some .r0)), .call (rf60 (29 : Int) (some (.r0 res_0c62 res_1c62))), .out (qlf29_28 a0n a0nl h0rw h0_0 h0_1 h0_2 h1l2 resnlc4 h0c4 s7nlk10 s8k10 h3k10 h1c58 (some (.e0 s10l67 s11l67 s12l67))), .call (rf14 (List.length (h1l2 ++ [(5 : Int), (5 : Int)])) false s10l67 true (h1l2 ++ [(5 : Int), (5 : Int)]) none)] (by kernel_rfl) (ya (pT h43x) (ya (pT h44x) (ya (pT h45x) (ya (ys (ef57 N (List.getD h0_0 (0 + (Int.toNat s8k10)) (0 : Int)) (List.getD h0_1 (0 + (Int.toNat s8k10)) (0 : Int)) (List.getD h0_2 (0 + (Int.toNat s8k10)) (0 : Int))) hc46) (ya (pNB h47x) (ya (pNE h48x) (ya (ys (ef58 N (285 : Int)) hc52) (ya (ys (elf29_19 N a0n a0nl h0rw h0_0 h0_1 h0_2 h1l2 resnlc4 h0c4 s7nlk10 s8k10 h3k10 N (285 : Int) res_0c52 res_1c52) ho57) (ya (ys (ef14 N (List.length h0c4) resnlc4 s10l57 true h0c4) hc58) (ya (pT h59x) (ya (pT h60x) (ya (ys (ef59 N (List.length (h3k10 ++ h1c58)) ((Go.Abs.isEmptyCols [(Col.bools h1c58)]) && s7nlk10) (IntKind.wrap IntKind.i64 ((List.getD h0_1 (0 + (Int.toNat s8k10)) (0 : Int)) - s11l57)) s12l57 (h3k10 ++ h1c58)) hc61) (ya (ys (ef60 N (29 : Int)) hc62) (ya (ys (elf29_28 N a0n a0nl h0rw h0_0 h0_1 h0_2 h1l2 resnlc4 h0c4 s7nlk10 s8k10 h3k10 h1c58 N (29 : Int) res_0c62 res_1c62) ho67) (ya (ys (ef14 N (List.length (h1l2 ++ [(5 : Int), (5 : Int)])) false s10l67 true (h1l2 ++ [(5 : Int), (5 : Int)])) hc68) yz)))))))))))))))
                                  | some o =>
                                    cases o with
                                    | r0 resnc68 resnlc68 h1c68 =>
                                      dsimp only
                                      refine br (p := (resnc68 = (List.length h1c68))) (fun h69x => ?_) (fun h69x => finL (ctx29 N) 1 Try.f29 10 n [.b true, .b true, .b true, .call (rf57 (List.getD h0_0 (0 + (Int.toNat s8k10)) (0 : Int)) (List.getD h0_1 (0 + (Int.toNat s8k10)) (0 : Int)) (List.getD h0_2 (0 + (Int.toNat s8k10)) (0 : Int)) (some (.r0 resc46))), .b false, .b false, .call (rf58 (285 : Int) (some (.r0 res_0c52 res_1c52))), .out (qlf29_19 a0n a0nl h0rw h0_0 h0_1 h0_2 h1l2 resnlc4 h0c4 s7nlk10 s8k10 h3k10 (some (.e0 s10l57 s11l57 s12l57))), .call (rf14 (List.length h0c4) resnlc4 s10l57 true h0c4 (some (.r0 resnc58 resnlc58 h1c58))), .b true, .b true, .call (rf59 (List.length (h3k10 ++ h1c58)) ((Go.Abs.isEmptyCols [(Col.bools h1c58)]) && s7nlk10) (IntKind.wrap IntKind.i64 ((List.getD h0_1 (0 + (Int.toNat s8k10)) (0 : Int)) - s11l57)) s12l57 (h3k10 ++ h1c58) (some .r0)), .call (rf60 (29 : Int) (some (.r0 res_0c62 res_1c62))), .out (qlf29_28 a0n a0nl h0rw h0_0 h0_1 h0_2 h1l2 resnlc4 h0c4 s7nlk10 s8k10 h3k10 h1c58 (some (.e0 s10l67 s11l67 s12l67))), .call (rf14 (List.length (h1l2 ++ [(5 : Int), (5 : Int)])) false s10l67 true (h1l2 ++ [(5 : Int), (5 : Int)]) (some (.r0 resnc68 resnlc68 h1c68))), .b false] (by kernel_rfl) (ya (pT h43x) (ya (pT h44x) (ya (pT h45x) (ya (ys (ef57 N (List.getD h0_0 (0 + (Int.toNat s8k10)) (0 : Int)) (List.getD h0_1 (0 + (Int.toNat s8k10)) (0 : Int)) (List.getD h0_2 (0 + (Int.toNat s8k10)) (0 : Int))) hc46) (ya (pNB h47x) (ya (pNE h48x) (ya (ys (ef58 N (285 : Int)) hc52) (ya (ys (elf29_19 N a0n a0nl h0rw h0_0 h0_1 h0_2 h1l2 resnlc4 h0c4 s7nlk10 s8k10 h3k10 N (285 : Int) res_0c52 res_1c52) ho57) (ya (ys (ef14 N (List.length h0c4) resnlc4 s10l57 true h0c4) hc58) (ya (pT h59x) (ya (pT h60x) (ya (ys (ef59 N (List.length (h3k10 ++ h1c58)) ((Go.Abs.isEmptyCols [(Col.bools h1c58)]) && s7nlk10) (IntKind.wrap IntKind.i64 ((List.getD h0_1 (0 + (Int.toNat s8k10)) (0 : Int)) - s11l57)) s12l57 (h3k10 ++ h1c58)) hc61) (ya (ys (ef60 N (29 : Int)) hc62) (ya (ys (elf29_28 N a0n a0nl h0rw h0_0 h0_1 h0_2 h1l2 resnlc4 h0c4 s7nlk10 s8k10 h3k10 h1c58 N (29 : Int) res_0c62 res_1c62) ho67) (ya (ys (ef14 N (List.length (h1l2 ++ [(5 : Int), (5 : Int)])) false s10l67 true (h1l2 ++ [(5 : Int), (5 : Int)])) hc68) (ya (pF h69x) yz)))))))))))))))))
                                      refine br (p := (((List.length (h3k10 ++ h1c58)) = (List.length (h3k10 ++ h1c58))) ∧ (((List.length (h3k10 ++ h1c58)) + (List.length h1c68)) ≤ 1099511627776))) (fun h70x => ?_) (fun h70x => finL (ctx29 N) 1 Try.f29 10 n [.b true, .b true, .b true, .call (rf57 (List.getD h0_0 (0 + (Int.toNat s8k10)) (0 : Int)) (List.getD h0_1 (0 + (Int.toNat s8k10)) (0 : Int)) (List.getD h0_2 (0 + (Int.toNat s8k10)) (0 : Int)) (some (.r0 resc46))), .b false, .b false, .call (rf58 (285 : Int) (some (.r0 res_0c52 res_1c52))), .out (qlf29_19 a0n a0nl h0rw h0_0 h0_1 h0_2 h1l2 resnlc4 h0c4 s7nlk10 s8k10 h3k10 (some (.e0 s10l57 s11l57 s12l57))), .call (rf14 (List.length h0c4) resnlc4 s10l57 true h0c4 (some (.r0 resnc58 resnlc58 h1c58))), .b true, .b true, .call (rf59 (List.length (h3k10 ++ h1c58)) ((Go.Abs.isEmptyCols [(Col.bools h1c58)]) && s7nlk10) (IntKind.wrap IntKind.i64 ((List.getD h0_1 (0 + (Int.toNat s8k10)) (0 : Int)) - s11l57)) s12l57 (h3k10 ++ h1c58) (some .r0)), .call (rf60 (29 : Int) (some (.r0 res_0c62 res_1c62))), .out (qlf29_28 a0n a0nl h0rw h0_0 h0_1 h0_2 h1l2 resnlc4 h0c4 s7nlk10 s8k10 h3k10 h1c58 (some (.e0 s10l67 s11l67 s12l67))), .call (rf14 (List.length (h1l2 ++ [(5 : Int), (5 : Int)])) false s10l67 true (h1l2 ++ [(5 : Int), (5 : Int)]) (some (.r0 resnc68 resnlc68 h1c68))), .b true, .b false] (by kernel_rfl) (ya (pT h43x) (ya (pT h44x) (ya (pT h45x) (ya (ys (ef57 N (List.getD h0_0 (0 + (Int.toNat s8k10)) (0 : Int)) (List.getD h0_1 (0 + (Int.toNat s8k10)) (0 : Int)) (List.getD h0_2 (0 + (Int.toNat s8k10)) (0 : Int))) hc46) (ya (pNB h47x) (ya (pNE h48x) (ya (ys (ef58 N (285 : Int)) hc52) (ya (ys (elf29_19 N a0n a0nl h0rw h0_0 h0_1 h0_2 h1l2 resnlc4 h0c4 s7nlk10 s8k10 h3k10 N (285 : Int) res_0c52 res_1c52) ho57) (ya (ys (ef14 N (List.length h0c4) resnlc4 s10l57 true h0c4) hc58) (ya (pT h59x) (ya (pT h60x) (ya (ys (ef59 N (List.length (h3k10 ++ h1c58)) ((Go.Abs.isEmptyCols [(Col.bools h1c58)]) && s7nlk10) (IntKind.wrap IntKind.i64 ((List.getD h0_1 (0 + (Int.toNat s8k10)) (0 : Int)) - s11l57)) s12l57 (h3k10 ++ h1c58)) hc61) (ya (ys (ef60 N (29 : Int)) hc62) (ya (ys (elf29_28 N a0n a0nl h0rw h0_0 h0_1 h0_2 h1l2 resnlc4 h0c4 s7nlk10 s8k10 h3k10 h1c58 N (29 : Int) res_0c62 res_1c62) ho67) (ya (ys (ef14 N (List.length (h1l2 ++ [(5 : Int), (5 : Int)])) false s10l67 true (h1l2 ++ [(5 : Int), (5 : Int)])) hc68) (ya (pT h69x) (ya (pF h70x) yz))))))))))))))))))
                                      cases hc71 : f59 N (List.length ((h3k10 ++ h1c58) ++ h1c68)) ((Go.Abs.isEmptyCols [(Col.bools h1c68)]) && ((Go.Abs.isEmptyCols [(Col.bools h1c58)]) && s7nlk10)) (IntKind.wrap IntKind.i64 ((List.getD h0_2 (0 + (Int.toNat s8k10)) (0 : Int)) - s11l67)) s12l67 ((h3k10 ++ h1c58) ++ h1c68) with
                                      | none => exact finL (ctx29 N) 1 Try.f29 10 n [.b true, .b true, .b true, .call (rf57 (List.getD h0_0 (0 + (Int.toNat s8k10)) (0 : Int)) (List.getD h0_1 (0 + (Int.toNat s8k10)) (0 : Int)) (List.getD h0_2 (0 + (Int.toNat s8k10)) (0 : Int)) (some (.r0 resc46))), .b false, .b false, .call (rf58 (285 : Int) (some (.r0 res_0c52 res_1c52))), .out (qlf29_19 a0n a0nl h0rw h0_0 h0_1 h0_2 h1l2 resnlc4 h0c4 s7nlk10 s8k10 h3k10 (some (.e0 s10l57 s11l57 s12l57))), .call (rf14 (List.length h0c4) resnlc4 s10l57 true h0c4 (some (.r0 resnc58 resnlc58 h1c58))), .b true, .b true, .call (rf59 (List.length (h3k10 ++ h1c58)) ((Go.Abs.isEmptyCols [(Col.bools h1c58)]) && s7nlk10) (IntKind.wrap IntKind.i64 ((List.getD h0_1 (0 + (Int.toNat s8k10)) (0 : Int)) - s11l57)) s12l57 (h3k10 ++ h1c58) (some .r0)), .call (rf60 (29 : Int) (some (.r0 res_0c62 res_1c62))), .out (qlf29_28 a0n a0nl h0rw h0_0 h0_1 h0_2 h1l2 resnlc4 h0c4 s7nlk10 s8k10 h3k10 h1c58 (some (.e0 s10l67 s11l67 s12l67))), .call (rf14 (List.length (h1l2 ++ [(5 : Int), (5 : Int)])) false s10l67 true (h1l2 ++ [(5 : Int), (5 : Int)]) (some (.r0 resnc68 resnlc68 h1c68))), .b true, .b true, .call (rf59 (List.length ((h3k10 ++ h1c58) ++ h1c68)) ((Go.Abs.isEmptyCols [(Col.bools h1c68)]) && ((Go.Abs.isEmptyCols [(Col.bools h1c58)]) && s7nlk10)) (IntKind.wrap IntKind.i64 ((List.getD h0_2 (0 + (Int.toNat s8k10)) (0 : Int)) - s11l67)) s12l67 ((h3k10 ++ h1c58) ++ h1c68) none)] (by kernel_rfl) (ya (pT h43x) (ya (pT h44x) (ya (pT h45x) (ya (ys (ef57 N (List.getD h0_0 (0 + (Int.toNat s8k10)) (0 : Int)) (List.getD h0_1 (0 + (Int.toNat s8k10)) (0 : Int)) (List.getD h0_2 (0 + (Int.toNat s8k10)) (0 : Int))) hc46) (ya (pNB h47x) (ya (pNE h48x) (ya (ys (ef58 N (285 : Int)) hc52) (ya (ys (elf29_19 N a0n a0nl h0rw h0_0 h0_1 h0_2 h1l2 resnlc4 h0c4 s7nlk10 s8k10 h3k10 N (285 : Int) res_0c52 res_1c52) ho57) (ya (ys (ef14 N (List.length h0c4) resnlc4 s10l57 true h0c4) hc58) (ya (pT h59x) (ya (pT h60x) (ya (ys (ef59 N (List.length (h3k10 ++ h1c58)) ((Go.Abs.isEmptyCols [(Col.bools h1c58)]) && s7nlk10) (IntKind.wrap IntKind.i64 ((List.getD h0_1 (0 + (Int.toNat s8k10)) (0 : Int)) - s11l57)) s12l57 (h3k10 ++ h1c58)) hc61) (ya (ys (ef60 N (29 : Int)) hc62) (ya (ys (elf29_28 N a0n a0nl h0rw h0_0 h0_1 h0_2 h1l2 resnlc4 h0c4 s7nlk10 s8k10 h3k10 h1c58 N (29 : Int) res_0c62 res_1c62) ho67) (ya (ys (ef14 N (List.length (h1l2 ++ [(5 : Int), (5 : Int)])) false s10l67 true (h1l2 ++ [(5 : Int), (5 : Int)])) hc68) (ya (pT h69x) (ya (pT h70x) (ya (ys (ef59 N (List.length ((h3k10 ++ h1c58) ++ h1c68)) ((Go.Abs.isEmptyCols [(Col.bools h1c68)]) && ((Go.Abs.isEmptyCols [(Col.bools h1c58)]) && s7nlk10)) (IntKind.wrap IntKind.i64 ((List.getD h0_2 (0 + (Int.toNat s8k10)) (0 : Int)) - s11l67)) s12l67 ((h3k10 ++ h1c58) ++ h1c68)) hc71) yz))))))))))))))))))
                                      | some o =>
                                        cases o with
                                        | r0 =>
                                          dsimp only
                                          exact (ih ((Go.Abs.isEmptyCols [(Col.bools h1c68)]) && ((Go.Abs.isEmptyCols [(Col.bools h1c58)]) && s7nlk10)) (IntKind.wrap IntKind.i64 (s8k10 + (1 : Int))) ((h3k10 ++ h1c58) ++ h1c68)).trans (finL (ctx29 N) 1 Try.f29 10 n [.b true, .b true, .b true, .call (rf57 (List.getD h0_0 (0 + (Int.toNat s8k10)) (0 : Int)) (List.getD h0_1 (0 + (Int.toNat s8k10)) (0 : Int)) (List.getD h0_2 (0 + (Int.toNat s8k10)) (0 : Int)) (some (.r0 resc46))), .b false, .b false, .call (rf58 (285 : Int) (some (.r0 res_0c52 res_1c52))), .out (qlf29_19 a0n a0nl h0rw h0_0 h0_1 h0_2 h1l2 resnlc4 h0c4 s7nlk10 s8k10 h3k10 (some (.e0 s10l57 s11l57 s12l57))), .call (rf14 (List.length h0c4) resnlc4 s10l57 true h0c4 (some (.r0 resnc58 resnlc58 h1c58))), .b true, .b true, .call (rf59 (List.length (h3k10 ++ h1c58)) ((Go.Abs.isEmptyCols [(Col.bools h1c58)]) && s7nlk10) (IntKind.wrap IntKind.i64 ((List.getD h0_1 (0 + (Int.toNat s8k10)) (0 : Int)) - s11l57)) s12l57 (h3k10 ++ h1c58) (some .r0)), .call (rf60 (29 : Int) (some (.r0 res_0c62 res_1c62))), .out (qlf29_28 a0n a0nl h0rw h0_0 h0_1 h0_2 h1l2 resnlc4 h0c4 s7nlk10 s8k10 h3k10 h1c58 (some (.e0 s10l67 s11l67 s12l67))), .call (rf14 (List.length (h1l2 ++ [(5 : Int), (5 : Int)])) false s10l67 true (h1l2 ++ [(5 : Int), (5 : Int)]) (some (.r0 resnc68 resnlc68 h1c68))), .b true, .b true, .call (rf59 (List.length ((h3k10 ++ h1c58) ++ h1c68)) ((Go.Abs.isEmptyCols [(Col.bools h1c68)]) && ((Go.Abs.isEmptyCols [(Col.bools h1c58)]) && s7nlk10)) (IntKind.wrap IntKind.i64 ((List.getD h0_2 (0 + (Int.toNat s8k10)) (0 : Int)) - s11l67)) s12l67 ((h3k10 ++ h1c58) ++ h1c68) (some .r0))] (by kernel_rfl) (ya (pT h43x) (ya (pT h44x) (ya (pT h45x) (ya (ys (ef57 N (List.getD h0_0 (0 + (Int.toNat s8k10)) (0 : Int)) (List.getD h0_1 (0 + (Int.toNat s8k10)) (0 : Int)) (List.getD h0_2 (0 + (Int.toNat s8k10)) (0 : Int))) hc46) (ya (pNB h47x) (ya (pNE h48x) (ya (ys (ef58 N (285 : Int)) hc52) (ya (ys (elf29_19 N a0n a0nl h0rw h0_0 h0_1 h0_2 h1l2 resnlc4 h0c4 s7nlk10 s8k10 h3k10 N (285 : Int) res_0c52 res_1c52) ho57) (ya (ys (ef14 N (List.length h0c4) resnlc4 s10l57 true h0c4) hc58) (ya (pT h59x) (ya (pT h60x) (ya (ys (ef59 N (List.length (h3k10 ++ h1c58)) ((Go.Abs.isEmptyCols [(Col.bools h1c58)]) && s7nlk10) (IntKind.wrap IntKind.i64 ((List.getD h0_1 (0 + (Int.toNat s8k10)) (0 : Int)) - s11l57)) s12l57 (h3k10 ++ h1c58)) hc61) (ya (ys (ef60 N (29 : Int)) hc62) (ya (ys (elf29_28 N a0n a0nl h0rw h0_0 h0_1 h0_2 h1l2 resnlc4 h0c4 s7nlk10 s8k10 h3k10 h1c58 N (29 : Int) res_0c62 res_1c62) ho67) (ya (ys (ef14 N (List.length (h1l2 ++ [(5 : Int), (5 : Int)])) false s10l67 true (h1l2 ++ [(5 : Int), (5 : Int)])) hc68) (ya (pT h69x) (ya (pT h70x) (ya (ys (ef59 N (List.length ((h3k10 ++ h1c58) ++ h1c68)) ((Go.Abs.isEmptyCols [(Col.bools h1c68)]) && ((Go.Abs.isEmptyCols [(Col.bools h1c58)]) && s7nlk10)) (IntKind.wrap IntKind.i64 ((List.getD h0_2 (0 + (Int.toNat s8k10)) (0 : Int)) - s11l67)) s12l67 ((h3k10 ++ h1c58) ++ h1c68)) hc71) yz)))))))))))))))))))
                                        | r1 resnlc71 h1c71 =>
                                          dsimp only
                                          exact (ih resnlc71 (IntKind.wrap IntKind.i64 (s8k10 + (1 : Int))) h1c71).trans (finL (ctx29 N) 1 Try.f29 10 n [.b true, .b true, .b true, .call (rf57 (List.getD h0_0 (0 + (Int.toNat s8k10)) (0 : Int)) (List.getD h0_1 (0 + (Int.toNat s8k10)) (0 : Int)) (List.getD h0_2 (0 + (Int.toNat s8k10)) (0 : Int)) (some (.r0 resc46))), .b false, .b false, .call (rf58 (285 : Int) (some (.r0 res_0c52 res_1c52))), .out (qlf29_19 a0n a0nl h0rw h0_0 h0_1 h0_2 h1l2 resnlc4 h0c4 s7nlk10 s8k10 h3k10 (some (.e0 s10l57 s11l57 s12l57))), .call (rf14 (List.length h0c4) resnlc4 s10l57 true h0c4 (some (.r0 resnc58 resnlc58 h1c58))), .b true, .b true, .call (rf59 (List.length (h3k10 ++ h1c58)) ((Go.Abs.isEmptyCols [(Col.bools h1c58)]) && s7nlk10) (IntKind.wrap IntKind.i64 ((List.getD h0_1 (0 + (Int.toNat s8k10)) (0 : Int)) - s11l57)) s12l57 (h3k10 ++ h1c58) (some .r0)), .call (rf60 (29 : Int) (some (.r0 res_0c62 res_1c62))), .out (qlf29_28 a0n a0nl h0rw h0_0 h0_1 h0_2 h1l2 resnlc4 h0c4 s7nlk10 s8k10 h3k10 h1c58 (some (.e0 s10l67 s11l67 s12l67))), .call (rf14 (List.length (h1l2 ++ [(5 : Int), (5 : Int)])) false s10l67 true (h1l2 ++ [(5 : Int), (5 : Int)]) (some (.r0 resnc68 resnlc68 h1c68))), .b true, .b true, .call (rf59 (List.length ((h3k10 ++ h1c58) ++ h1c68)) ((Go.Abs.isEmptyCols [(Col.bools h1c68)]) && ((Go.Abs.isEmptyCols [(Col.bools h1c58)]) && s7nlk10)) (IntKind.wrap IntKind.i64 ((List.getD h0_2 (0 + (Int.toNat s8k10)) (0 : Int)) - s11l67)) s12l67 ((h3k10 ++ h1c58) ++ h1c68) (some (.r1 resnlc71 h1c71)))] (by kernel_rfl) (ya (pT h43x) (ya (pT h44x) (ya (pT h45x) (ya (ys (ef57 N (List.getD h0_0 (0 + (Int.toNat s8k10)) (0 : Int)) (List.getD h0_1 (0 + (Int.toNat s8k10)) (0 : Int)) (List.getD h0_2 (0 + (Int.toNat s8k10)) (0 : Int))) hc46) (ya (pNB h47x) (ya (pNE h48x) (ya (ys (ef58 N (285 : Int)) hc52) (ya (ys (elf29_19 N a0n a0nl h0rw h0_0 h0_1 h0_2 h1l2 resnlc4 h0c4 s7nlk10 s8k10 h3k10 N (285 : Int) res_0c52 res_1c52) ho57) (ya (ys (ef14 N (List.length h0c4) resnlc4 s10l57 true h0c4) hc58) (ya (pT h59x) (ya (pT h60x) (ya (ys (ef59 N (List.length (h3k10 ++ h1c58)) ((Go.Abs.isEmptyCols [(Col.bools h1c58)]) && s7nlk10) (IntKind.wrap IntKind.i64 ((List.getD h0_1 (0 + (Int.toNat s8k10)) (0 : Int)) - s11l57)) s12l57 (h3k10 ++ h1c58)) hc61) (ya (ys (ef60 N (29 : Int)) hc62) (ya (ys (elf29_28 N a0n a0nl h0rw h0_0 h0_1 h0_2 h1l2 resnlc4 h0c4 s7nlk10 s8k10 h3k10 h1c58 N (29 : Int) res_0c62 res_1c62) ho67) (ya (ys (ef14 N (List.length (h1l2 ++ [(5 : Int), (5 : Int)])) false s10l67 true (h1l2 ++ [(5 : Int), (5 : Int)])) hc68) (ya (pT h69x) (ya (pT h70x) (ya (ys (ef59 N (List.length ((h3k10 ++ h1c58) ++ h1c68)) ((Go.Abs.isEmptyCols [(Col.bools h1c68)]) && ((Go.Abs.isEmptyCols [(Col.bools h1c58)]) && s7nlk10)) (IntKind.wrap IntKind.i64 ((List.getD h0_2 (0 + (Int.toNat s8k10)) (0 : Int)) - s11l67)) s12l67 ((h3k10 ++ h1c58) ++ h1c68)) hc71) yz)))))))))))))))))))
                        | r1 resnlc61 h1c61 =>
                          dsimp only
                          cases hc72 : f60 N (29 : Int) with
                          | none => exact finL (ctx29 N) 1 Try.f29 10 n [.b true, .b true, .b true, .call (rf57 (List.getD h0_0 (0 + (Int.toNat s8k10)) (0 : Int)) (List.getD h0_1 (0 + (Int.toNat s8k10)) (0 : Int)) (List.getD h0_2 (0 + (Int.toNat s8k10)) (0 : Int)) (some (.r0 resc46))), .b false, .b false, .call (rf58 (285 : Int) (some (.r0 res_0c52 res_1c52))), .out (qlf29_19 a0n a0nl h0rw h0_0 h0_1 h0_2 h1l2 resnlc4 h0c4 s7nlk10 s8k10 h3k10 (some (.e0 s10l57 s11l57 s12l57))), .call (rf14 (List.length h0c4) resnlc4 s10l57 true h0c4 (some (.r0 resnc58 resnlc58 h1c58))), .b true, .b true, .call (rf59 (List.length (h3k10 ++ h1c58)) ((Go.Abs.isEmptyCols [(Col.bools h1c58)]) && s7nlk10) (IntKind.wrap IntKind.i64 ((List.getD h0_1 (0 + (Int.toNat s8k10)) (0 : Int)) - s11l57)) s12l57 (h3k10 ++ h1c58) (some (.r1 resnlc61 h1c61))), .call (rf60 (29 : Int) none)] (by kernel_rfl) (ya (pT h43x) (ya (pT h44x) (ya (pT h45x) (ya (ys (ef57 N (List.getD h0_0 (0 + (Int.toNat s8k10)) (0 : Int)) (List.getD h0_1 (0 + (Int.toNat s8k10)) (0 : Int)) (List.getD h0_2 (0 + (Int.toNat s8k10)) (0 : Int))) hc46) (ya (pNB h47x) (ya (pNE h48x) (ya (ys (ef58 N (285 : Int)) hc52) (ya (ys (elf29_19 N a0n a0nl h0rw h0_0 h0_1 h0_2 h1l2 resnlc4 h0c4 s7nlk10 s8k10 h3k10 N (285 : Int) res_0c52 res_1c52) ho57) (ya (ys (ef14 N (List.length h0c4) resnlc4 s10l57 true h0c4) hc58) (ya (pT h59x) (ya (pT h60x) (ya (ys (ef59 N (List.length (h3k10 ++ h1c58)) ((Go.Abs.isEmptyCols [(Col.bools h1c58)]) && s7nlk10) (IntKind.wrap IntKind.i64 ((List.getD h0_1 (0 + (Int.toNat s8k10)) (0 : Int)) - s11l57)) s12l57 (h3k10 ++ h1c58)) hc61) (ya (ys (ef60 N (29 : Int)) hc72) yz)))))))))))))
                          | some o =>
                            cases o with
                            | r0 res_0c72 res_1c72 =>
                              dsimp only
                              cases ho77 : lf29_28b N h0_2 s8k10 N (29 : Int) res_0c72 res_1c72 with
                              | none => exact finL (ctx29 N) 1 Try.f29 10 n [.b true, .b true, .b true, .call (rf57 (List.getD h0_0 (0 + (Int.toNat s8k10)) (0 : Int)) (List.getD h0_1 (0 + (Int.toNat s8k10)) (0 : Int)) (List.getD h0_2 (0 + (Int.toNat s8k10)) (0 : Int)) (some (.r0 resc46))), .b false, .b false, .call (rf58 (285 : Int) (some (.r0 res_0c52 res_1c52))), .out (qlf29_19 a0n a0nl h0rw h0_0 h0_1 h0_2 h1l2 resnlc4 h0c4 s7nlk10 s8k10 h3k10 (some (.e0 s10l57 s11l57 s12l57))), .call (rf14 (List.length h0c4) resnlc4 s10l57 true h0c4 (some (.r0 resnc58 resnlc58 h1c58))), .b true, .b true, .call (rf59 (List.length (h3k10 ++ h1c58)) ((Go.Abs.isEmptyCols [(Col.bools h1c58)]) && s7nlk10) (IntKind.wrap IntKind.i64 ((List.getD h0_1 (0 + (Int.toNat s8k10)) (0 : Int)) - s11l57)) s12l57 (h3k10 ++ h1c58) (some (.r1 resnlc61 h1c61))), .call (rf60 (29 : Int) (some (.r0 res_0c72 res_1c72))), .out (qlf29_28b a0n a0nl h0rw h0_0 h0_1 h0_2 h1l2 resnlc4 h0c4 s8k10 resnlc61 h1c61 none)] (by kernel_rfl) (ya (pT h43x) (ya (pT h44x) (ya (pT h45x) (ya (ys (ef57 N (List.getD h0_0 (0 + (Int.toNat s8k10)) (0 : Int)) (List.getD h0_1 (0 + (Int.toNat s8k10)) (0 : Int)) (List.getD h0_2 (0 + (Int.toNat s8k10)) (0 : Int))) hc46) (ya (pNB h47x) (ya (pNE h48x) (ya (ys (ef58 N (285 : Int)) hc52) (ya (ys (elf29_19 N a0n a0nl h0rw h0_0 h0_1 h0_2 h1l2 resnlc4 h0c4 s7nlk10 s8k10 h3k10 N (285 : Int) res_0c52 res_1c52) ho57) (ya (ys (ef14 N (List.length h0c4) resnlc4 s10l57 true h0c4) hc58) (ya (pT h59x) (ya (pT h60x) (ya (ys (ef59 N (List.length (h3k10 ++ h1c58)) ((Go.Abs.isEmptyCols [(Col.bools h1c58)]) && s7nlk10) (IntKind.wrap IntKind.i64 ((List.getD h0_1 (0 + (Int.toNat s8k10)) (0 : Int)) - s11l57)) s12l57 (h3k10 ++ h1c58)) hc61) (ya (ys (ef60 N (29 : Int)) hc72) (ya (ys (elf29_28b N a0n a0nl h0rw h0_0 h0_1 h0_2 h1l2 resnlc4 h0c4 s8k10 resnlc61 h1c61 N (29 : Int) res_0c72 res_1c72) ho77) yz))))))))))))))
                              | some o =>
                                cases o with
                                | e0 s10l77 s11l77 s12l77 =>
                                  dsimp only
                                  cases hc78 : f14 N (List.length (h1l2 ++ [(5 : Int), (5 : Int)])) s10l77 (h1l2 ++ [(5 : Int), (5 : Int)]) with
                                  | none => exact finL (ctx29 N) 1 Try.f29 10 n [.b true, .b true, .b true, .call (rf57 (List.getD h0_0 (0 + (Int.toNat s8k10)) (0 : Int)) (List.getD h0_1 (0 + (Int.toNat s8k10)) (0 : Int)) (List.getD h0_2 (0 + (Int.toNat s8k10)) (0 : Int)) (some (.r0 resc46))), .b false, .b false, .call (rf58 (285 : Int) (some (.r0 res_0c52 res_1c52))), .out (qlf29_19 a0n a0nl h0rw h0_0 h0_1 h0_2 h1l2 resnlc4 h0c4 s7nlk10 s8k10 h3k10 (some (.e0 s10l57 s11l57 s12l57))), .call (rf14 (List.length h0c4) resnlc4 s10l57 true h0c4 (some (.r0 resnc58 resnlc58 h1c58))), .b true, .b true, .call (rf59 (List.length (h3k10 ++ h1c58)) ((Go.Abs.isEmptyCols [(Col.bools h1c58)]) && s7nlk10) (IntKind.wrap IntKind.i64 ((List.getD h0_1 (0 + (Int.toNat s8k10)) (0 : Int)) - s11l57)) s12l57 (h3k10 ++ h1c58) (some (.r1 resnlc61 h1c61))), .call (rf60 (29 : Int) (some (.r0 res_0c72 res_1c72))), .out (qlf29_28b a0n a0nl h0rw h0_0 h0_1 h0_2 h1l2 resnlc4 h0c4 s8k10 resnlc61 h1c61 (some (.e0 s10l77 s11l77 s12l77))), .call (rf14 (List.length (h1l2 ++ [(5 : Int), (5 : Int)])) false s10l77 true (h1l2 ++ [(5 : Int), (5 : Int)]) none)] (by kernel_rfl) (ya (pT h43x) (ya (pT h44x) (ya (pT h45x) (ya (ys (ef57 N (List.getD h0_0 (0 + (Int.toNat s8k10)) (0 : Int)) (List.getD h0_1 (0 + (Int.toNat s8k10)) (0 : Int)) (List.getD h0_2 (0 + (Int.toNat s8k10)) (0 : Int))) hc46) (ya (pNB h47x) (ya (pNE h48x) (ya (ys (ef58 N (285 : Int)) hc52) (ya (ys (elf29_19 N a0n a0nl h0rw h0_0 h0_1 h0_2 h1l2 resnlc4 h0c4 s7nlk10 s8k10 h3k10 N (285 : Int) res_0c52 res_1c52) ho57) (ya (ys (ef14 N (List.length h0c4) resnlc4 s10l57 true h0c4) hc58) (ya (pT h59x) (ya (pT h60x) (ya (ys (ef59 N (List.length (h3k10 ++ h1c58)) ((Go.Abs.isEmptyCols [(Col.bools h1c58)]) && s7nlk10) (IntKind.wrap IntKind.i64 ((List.getD h0_1 (0 + (Int.toNat s8k10)) (0 : Int)) - s11l57)) s12l57 (h3k10 ++ h1c58)) hc61) (ya (ys (ef60 N (29 : Int)) hc72) (ya (ys (elf29_28b N a0n a0nl h0rw h0_0 h0_1 h0_2 h1l2 resnlc4 h0c4 s8k10 resnlc61 h1c61 N (29 : Int) res_0c72 res_1c72) ho77) (ya (ys (ef14 N (List.length (h1l2 ++ [(5 : Int), (5 : Int)])) false s10l77 true (h1l2 ++ [(5 : Int), (5 : Int)])) hc78) yz)))))))))))))))
                                  | some o =>
                                    cases o with
                                    | r0 resnc78 resnlc78 h1c78 =>
                                      dsimp only
                                      refine br (p := (resnc78 = (List.length h1c78))) (fun h79x => ?_) (fun h79x => finL (ctx29 N) 1 Try.f29 10 n [.b true, .b true, .b true, .call (rf57 (List.getD h0_0 (0 + (Int.toNat s8k10)) (0 : Int)) (List.getD h0_1 (0 + (Int.toNat s8k10)) (0 : Int)) (List.getD h0_2 (0 + (Int.toNat s8k10)) (0 : Int)) (some (.r0 resc46))), .b false, .b false, .call (rf58 (285 : Int) (some (.r0 res_0c52 res_1c52))), .out (qlf29_19 a0n a0nl h0rw h0_0 h0_1 h0_2 h1l2 resnlc4 h0c4 s7nlk10 s8k10 h3k10 (some (.e0 s10l57 s11l57 s12l57))), .call (rf14 (List.length h0c4) resnlc4 s10l57 true h0c4 (some (.r0 resnc58 resnlc58 h1c58))), .b true, .b true, .call (rf59 (List.length (h3k10 ++ h1c58)) ((Go.Abs.isEmptyCols [(Col.bools h1c58)]) && s7nlk10) (IntKind.wrap IntKind.i64 ((List.getD h0_1 (0 + (Int.toNat s8k10)) (0 : Int)) - s11l57)) s12l57 (h3k10 ++ h1c58) (some (.r1 resnlc61 h1c61))), .call (rf60 (29 : Int) (some (.r0 res_0c72 res_1c72))), .out (qlf29_28b a0n a0nl h0rw h0_0 h0_1 h0_2 h1l2 resnlc4 h0c4 s8k10 resnlc61 h1c61 (some (.e0 s10l77 s11l77 s12l77))), .call (rf14 (List.length (h1l2 ++ [(5 : Int), (5 : Int)])) false s10l77 true (h1l2 ++ [(5 : Int), (5 : Int)]) (some (.r0 resnc78 resnlc78 h1c78))), .b false] (by kernel_rfl) (ya (pT h43x) (ya (pT h44x) (ya (pT h45x) (ya (ys (ef57 N (List.getD h0_0 (0 + (Int.toNat s8k10)) (0 : Int)) (List.getD h0_1 (0 + (Int.toNat s8k10)) (0 : Int)) (List.getD h0_2 (0 + (Int.toNat s8k10)) (0 : Int))) hc46) (ya (pNB h47x) (ya (pNE h48x) (ya (ys (ef58 N (285 : Int)) hc52) (ya (ys (elf29_19 N a0n a0nl h0rw h0_0 h0_1 h0_2 h1l2 resnlc4 h0c4 s7nlk10 s8k10 h3k10 N (285 : Int) res_0c52 res_1c52) ho57) (ya (ys (ef14 N (List.length h0c4) resnlc4 s10l57 true h0c4) hc58) (ya (pT h59x) (ya (pT h60x) (ya (ys (ef59 N (List.length (h3k10 ++ h1c58)) ((Go.Abs.isEmptyCols [(Col.bools h1c58)]) && s7nlk10) (IntKind.wrap IntKind.i64 ((List.getD h0_1 (0 + (Int.toNat s8k10)) (0 : Int)) - s11l57)) s12l57 (h3k10 ++ h1c58)) hc61) (ya (ys (ef60 N (29 : Int)) hc72) (ya (ys (elf29_28b N a0n a0nl h0rw h0_0 h0_1 h0_2 h1l2 resnlc4 h0c4 s8k10 resnlc61 h1c61 N (29 : Int) res_0c72 res_1c72) ho77) (ya (ys (ef14 N (List.length (h1l2 ++ [(5 : Int), (5 : Int)])) false s10l77 true (h1l2 ++ [(5 : Int), (5 : Int)])) hc78) (ya (pF h79x) yz)))))))))))))))))
                                      refine br (p := (((List.length h1c61) = (List.length h1c61)) ∧ (((List.length h1c61) + (List.length h1c78)) ≤ 1099511627776))) (fun h80x => ?_) (fun h80x => finL (ctx29 N) 1 Try.f29 10 n [.b true, .b true, .b true, .call (rf57 (List.getD h0_0 (0 + (Int.toNat s8k10)) (0 : Int)) (List.getD h0_1 (0 + (Int.toNat s8k10)) (0 : Int)) (List.getD h0_2 (0 + (Int.toNat s8k10)) (0 : Int)) (some (.r0 resc46))), .b false, .b false, .call (rf58 (285 : Int) (some (.r0 res_0c52 res_1c52))), .out (qlf29_19 a0n a0nl h0rw h0_0 h0_1 h0_2 h1l2 resnlc4 h0c4 s7nlk10 s8k10 h3k10 (some (.e0 s10l57 s11l57 s12l57))), .call (rf14 (List.length h0c4) resnlc4 s10l57 true h0c4 (some (.r0 resnc58 resnlc58 h1c58))), .b true, .b true, .call (rf59 (List.length (h3k10 ++ h1c58)) ((Go.Abs.isEmptyCols [(Col.bools h1c58)]) && s7nlk10) (IntKind.wrap IntKind.i64 ((List.getD h0_1 (0 + (Int.toNat s8k10)) (0 : Int)) - s11l57)) s12l57 (h3k10 ++ h1c58) (some (.r1 resnlc61 h1c61))), .call (rf60 (29 : Int) (some (.r0 res_0c72 res_1c72))), .out (qlf29_28b a0n a0nl h0rw h0_0 h0_1 h0_2 h1l2 resnlc4 h0c4 s8k10 resnlc61 h1c61 (some (.e0 s10l77 s11l77 s12l77))), .call (rf14 (List.length (h1l2 ++ [(5 : Int), (5 : Int)])) false s10l77 true (h1l2 ++ [(5 : Int), (5 : Int)]) (some (.r0 resnc78 resnlc78 h1c78))), .b true, .b false] (by kernel_rfl) (ya (pT h43x) (ya (pT h44x) (ya (pT h45x) (ya (ys (ef57 N (List.getD h0_0 (0 + (Int.toNat s8k10)) (0 : Int)) (List.getD h0_1 (0 + (Int.toNat s8k10)) (0 : Int)) (List.getD h0_2 (0 + (Int.toNat s8k10)) (0 : Int))) hc46) (ya (pNB h47x) (ya (pNE h48x) (ya (ys (ef58 N (285 : Int)) hc52) (ya (ys (elf29_19 N a0n a0nl h0rw h0_0 h0_1 h0_2 h1l2 resnlc4 h0c4 s7nlk10 s8k10 h3k10 N (285 : Int) res_0c52 res_1c52) ho57) (ya (ys (ef14 N (List.length h0c4) resnlc4 s10l57 true h0c4) hc58) (ya (pT h59x) (ya (pT h60x) (ya (ys (ef59 N (List.length (h3k10 ++ h1c58)) ((Go.Abs.isEmptyCols [(Col.bools h1c58)]) && s7nlk10) (IntKind.wrap IntKind.i64 ((List.getD h0_1 (0 + (Int.toNat s8k10)) (0 : Int)) - s11l57)) s12l57 (h3k10 ++ h1c58)) hc61) (ya (ys (ef60 N (29 : Int)) hc72) (ya (ys (elf29_28b N a0n a0nl h0rw h0_0 h0_1 h0_2 h1l2 resnlc4 h0c4 s8k10 resnlc61 h1c61 N (29 : Int) res_0c72 res_1c72) ho77) (ya (ys (ef14 N (List.length (h1l2 ++ [(5 : Int), (5 : Int)])) false s10l77 true (h1l2 ++ [(5 : Int), (5 : Int)])) hc78) (ya (pT h79x) (ya (pF h80x) yz))))))))))))))))))
                                      cases hc81 : f59 N (List.length (h1c61 ++ h1c78)) ((Go.Abs.isEmptyCols [(Col.bools h1c78)]) && resnlc61) (IntKind.wrap IntKind.i64 ((List.getD h0_2 (0 + (Int.toNat s8k10)) (0 : Int)) - s11l77)) s12l77 (h1c61 ++ h1c78) with
                                      | none => exact finL (ctx29 N) 1 Try.f29 10 n [.b true, .b true, .b true, .call (rf57 (List.getD h0_0 (0 + (Int.toNat s8k10)) (0 : Int)) (List.getD h0_1 (0 + (Int.toNat s8k10)) (0 : Int)) (List.getD h0_2 (0 + (Int.toNat s8k10)) (0 : Int)) (some (.r0 resc46))), .b false, .b false, .call (rf58 (285 : Int) (some (.r0 res_0c52 res_1c52))), .out (qlf29_19 a0n a0nl h0rw h0_0 h0_1 h0_2 h1l2 resnlc4 h0c4 s7nlk10 s8k10 h3k10 (some (.e0 s10l57 s11l57 s12l57))), .call (rf14 (List.length h0c4) resnlc4 s10l57 true h0c4 (some (.r0 resnc58 resnlc58 h1c58))), .b true, .b true, .call (rf59 (List.length (h3k10 ++ h1c58)) ((Go.Abs.isEmptyCols [(Col.bools h1c58)]) && s7nlk10) (IntKind.wrap IntKind.i64 ((List.getD h0_1 (0 + (Int.toNat s8k10)) (0 : Int)) - s11l57)) s12l57 (h3k10 ++ h1c58) (some (.r1 resnlc61 h1c61))), .call (rf60 (29 : Int) (some (.r0 res_0c72 res_1c72))), .out (qlf29_28b a0n a0nl h0rw h0_0 h0_1 h0_2 h1l2 resnlc4 h0c4 s8k10 resnlc61 h1c61 (some (.e0 s10l77 s11l77 s12l77))), .call (rf14 (List.length (h1l2 ++ [(5 : Int), (5 : Int)])) false s10l77 true (h1l2 ++ [(5 : Int), (5 : Int)]) (some (.r0 resnc78 resnlc78 h1c78))), .b true, .b true, .call (rf59 (List.length (h1c61 ++ h1c78)) ((Go.Abs.isEmptyCols [(Col.bools h1c78)]) && resnlc61) (IntKind.wrap IntKind.i64 ((List.getD h0_2 (0 + (Int.toNat s8k10)) (0 : Int)) - s11l77)) s12l77 (h1c61 ++ h1c78) none)] (by kernel_rfl) (ya (pT h43x) (ya (pT h44x) (ya (pT h45x) (ya (ys (ef57 N (List.getD h0_0 (0 + (Int.toNat s8k10)) (0 : Int)) (List.getD h0_1 (0 + (Int.toNat s8k10)) (0 : Int)) (List.getD h0_2 (0 + (Int.toNat s8k10)) (0 : Int))) hc46) (ya (pNB h47x) (ya (pNE h48x) (ya (ys (ef58 N (285 : Int)) hc52) (ya (ys (elf29_19 N a0n a0nl h0rw h0_0 h0_1 h0_2 h1l2 resnlc4 h0c4 s7nlk10 s8k10 h3k10 N (285 : Int) res_0c52 res_1c52) ho57) (ya (ys (ef14 N (List.length h0c4) resnlc4 s10l57 true h0c4) hc58) (ya (pT h59x) (ya (pT h60x) (ya (ys (ef59 N (List.length (h3k10 ++ h1c58)) ((Go.Abs.isEmptyCols [(Col.bools h1c58)]) && s7nlk10) (IntKind.wrap IntKind.i64 ((List.getD h0_1 (0 + (Int.toNat s8k10)) (0 : Int)) - s11l57)) s12l57 (h3k10 ++ h1c58)) hc61) (ya (ys (ef60 N (29 : Int)) hc72) (ya (ys (elf29_28b N a0n a0nl h0rw h0_0 h0_1 h0_2 h1l2 resnlc4 h0c4 s8k10 resnlc61 h1c61 N (29 : Int) res_0c72 res_1c72) ho77) (ya (ys (ef14 N (List.length (h1l2 ++ [(5 : Int), (5 : Int)])) false s10l77 true (h1l2 ++ [(5 : Int), (5 : Int)])) hc78) (ya (pT h79x) (ya (pT h80x) (ya (ys (ef59 N (List.length (h1c61 ++ h1c78)) ((Go.Abs.isEmptyCols [(Col.bools h1c78)]) && resnlc61) (IntKind.wrap IntKind.i64 ((List.getD h0_2 (0 + (Int.toNat s8k10)) (0 : Int)) - s11l77)) s12l77 (h1c61 ++ h1c78)) hc81) yz))))))))))))))))))
                                      | some o =>
                                        cases o with
                                        | r0 =>
                                          dsimp only
                                          exact (ih ((Go.Abs.isEmptyCols [(Col.bools h1c78)]) && resnlc61) (IntKind.wrap IntKind.i64 (s8k10 + (1 : Int))) (h1c61 ++ h1c78)).trans (finL (ctx29 N) 1 Try.f29 10 n [.b true, .b true, .b true, .call (rf57 (List.getD h0_0 (0 + (Int.toNat s8k10)) (0 : Int)) (List.getD h0_1 (0 + (Int.toNat s8k10)) (0 : Int)) (List.getD h0_2 (0 + (Int.toNat s8k10)) (0 : Int)) (some (.r0 resc46))), .b false, .b false, .call (rf58 (285 : Int) (some (.r0 res_0c52 res_1c52))), .out (qlf29_19 a0n a0nl h0rw h0_0 h0_1 h0_2 h1l2 resnlc4 h0c4 s7nlk10 s8k10 h3k10 (some (.e0 s10l57 s11l57 s12l57))), .call (rf14 (List.length h0c4) resnlc4 s10l57 true h0c4 (some (.r0 resnc58 resnlc58 h1c58))), .b true, .b true, .call (rf59 (List.length (h3k10 ++ h1c58)) ((Go.Abs.isEmptyCols [(Col.bools h1c58)]) && s7nlk10) (IntKind.wrap IntKind.i64 ((List.getD h0_1 (0 + (Int.toNat s8k10)) (0 : Int)) - s11l57)) s12l57 (h3k10 ++ h1c58) (some (.r1 resnlc61 h1c61))), .call (rf60 (29 : Int) (some (.r0 res_0c72 res_1c72))), .out (qlf29_28b a0n a0nl h0rw h0_0 h0_1 h0_2 h1l2 resnlc4 h0c4 s8k10 resnlc61 h1c61 (some (.e0 s10l77 s11l77 s12l77))), .call (rf14 (List.length (h1l2 ++ [(5 : Int), (5 : Int)])) false s10l77 true (h1l2 ++ [(5 : Int), (5 : Int)]) (some (.r0 resnc78 resnlc78 h1c78))), .b true, .b true, .call (rf59 (List.length (h1c61 ++ h1c78)) ((Go.Abs.isEmptyCols [(Col.bools h1c78)]) && resnlc61) (IntKind.wrap IntKind.i64 ((List.getD h0_2 (0 + (Int.toNat s8k10)) (0 : Int)) - s11l77)) s12l77 (h1c61 ++ h1c78) (some .r0))] (by kernel_rfl) (ya (pT h43x) (ya (pT h44x) (ya (pT h45x) (ya (ys (ef57 N (List.getD h0_0 (0 + (Int.toNat s8k10)) (0 : Int)) (List.getD h0_1 (0 + (Int.toNat s8k10)) (0 : Int)) (List.getD h0_2 (0 + (Int.toNat s8k10)) (0 : Int))) hc46) (ya (pNB h47x) (ya (pNE h48x) (ya (ys (ef58 N (285 : Int)) hc52) (ya (ys (elf29_19 N a0n a0nl h0rw h0_0 h0_1 h0_2 h1l2 resnlc4 h0c4 s7nlk10 s8k10 h3k10 N (285 : Int) res_0c52 res_1c52) ho57) (ya (ys (ef14 N (List.length h0c4) resnlc4 s10l57 true h0c4) hc58) (ya (pT h59x) (ya (pT h60x) (ya (ys (ef59 N (List.length (h3k10 ++ h1c58)) ((Go.Abs.isEmptyCols [(Col.bools h1c58)]) && s7nlk10) (IntKind.wrap IntKind.i64 ((List.getD h0_1 (0 + (Int.toNat s8k10)) (0 : Int)) - s11l57)) s12l57 (h3k10 ++ h1c58)) hc61) (ya (ys (ef60 N (29 : Int)) hc72) (ya (ys (elf29_28b N a0n a0nl h0rw h0_0 h0_1 h0_2 h1l2 resnlc4 h0c4 s8k10 resnlc61 h1c61 N (29 : Int) res_0c72 res_1c72) ho77) (ya (ys (ef14 N (List.length (h1l2 ++ [(5 : Int), (5 : Int)])) false s10l77 true (h1l2 ++ [(5 : Int), (5 : Int)])) hc78) (ya (pT h79x) (ya (pT h80x) (ya (ys (ef59 N (List.length (h1c61 ++ h1c78)) ((Go.Abs.isEmptyCols [(Col.bools h1c78)]) && resnlc61) (IntKind.wrap IntKind.i64 ((List.getD h0_2 (0 + (Int.toNat s8k10)) (0 : Int)) - s11l77)) s12l77 (h1c61 ++ h1c78)) hc81) yz)))))))))))))))))))
                                        | r1 resnlc81 h1c81 =>
                                          dsimp only
                                          exact (ih resnlc81 (IntKind.wrap IntKind.i64 (s8k10 + (1 : Int))) h1c81).trans (finL (ctx29 N) 1 Try.f29 10 n [.b true, .b true, .b true, .call (rf57 (List.getD h0_0 (0 + (Int.toNat s8k10)) (0 : Int)) (List.getD h0_1 (0 + (Int.toNat s8k10)) (0 : Int)) (List.getD h0_2 (0 + (Int.toNat s8k10)) (0 : Int)) (some (.r0 resc46))), .b false, .b false, .call (rf58 (285 : Int) (some (.r0 res_0c52 res_1c52))), .out (qlf29_19 a0n a0nl h0rw h0_0 h0_1 h0_2 h1l2 resnlc4 h0c4 s7nlk10 s8k10 h3k10 (some (.e0 s10l57 s11l57 s12l57))), .call (rf14 (List.length h0c4) resnlc4 s10l57 true h0c4 (some (.r0 resnc58 resnlc58 h1c58))), .b true, .b true, .call (rf59 (List.length (h3k10 ++ h1c58)) ((Go.Abs.isEmptyCols [(Col.bools h1c58)]) && s7nlk10) (IntKind.wrap IntKind.i64 ((List.getD h0_1 (0 + (Int.toNat s8k10)) (0 : Int)) - s11l57)) s12l57 (h3k10 ++ h1c58) (some (.r1 resnlc61 h1c61))), .call (rf60 (29 : Int) (some (.r0 res_0c72 res_1c72))), .out (qlf29_28b a0n a0nl h0rw h0_0 h0_1 h0_2 h1l2 resnlc4 h0c4 s8k10 resnlc61 h1c61 (some (.e0 s10l77 s11l77 s12l77))), .call (rf14 (List.length (h1l2 ++ [(5 : Int), (5 : Int)])) false s10l77 true (h1l2 ++ [(5 : Int), (5 : Int)]) (some (.r0 resnc78 resnlc78 h1c78))), .b true, .b true, .call (rf59 (List.length (h1c61 ++ h1c78)) ((Go.Abs.isEmptyCols [(Col.bools h1c78)]) && resnlc61) (IntKind.wrap IntKind.i64 ((List.getD h0_2 (0 + (Int.toNat s8k10)) (0 : Int)) - s11l77)) s12l77 (h1c61 ++ h1c78) (some (.r1 resnlc81 h1c81)))] (by kernel_rfl) (ya (pT h43x) (ya (pT h44x) (ya (pT h45x) (ya (ys (ef57 N (List.getD h0_0 (0 + (Int.toNat s8k10)) (0 : Int)) (List.getD h0_1 (0 + (Int.toNat s8k10)) (0 : Int)) (List.getD h0_2 (0 + (Int.toNat s8k10)) (0 : Int))) hc46) (ya (pNB h47x) (ya (pNE h48x) (ya (ys (ef58 N (285 : Int)) hc52) (ya (ys (elf29_19 N a0n a0nl h0rw h0_0 h0_1 h0_2 h1l2 resnlc4 h0c4 s7nlk10 s8k10 h3k10 N (285 : Int) res_0c52 res_1c52) ho57) (ya (ys (ef14 N (List.length h0c4) resnlc4 s10l57 true h0c4) hc58) (ya (pT h59x) (ya (pT h60x) (ya (ys (ef59 N (List.length (h3k10 ++ h1c58)) ((Go.Abs.isEmptyCols [(Col.bools h1c58)]) && s7nlk10) (IntKind.wrap IntKind.i64 ((List.getD h0_1 (0 + (Int.toNat s8k10)) (0 : Int)) - s11l57)) s12l57 (h3k10 ++ h1c58)) hc61) (ya (ys (ef60 N (29 : Int)) hc72) (ya (ys (elf29_28b N a0n a0nl h0rw h0_0 h0_1 h0_2 h1l2 resnlc4 h0c4 s8k10 resnlc61 h1c61 N (29 : Int) res_0c72 res_1c72) ho77) (ya (ys (ef14 N (List.length (h1l2 ++ [(5 : Int), (5 : Int)])) false s10l77 true (h1l2 ++ [(5 : Int), (5 : Int)])) hc78) (ya (pT h79x) (ya (pT h80x) (ya (ys (ef59 N (List.length (h1c61 ++ h1c78)) ((Go.Abs.isEmptyCols [(Col.bools h1c78)]) && resnlc61) (IntKind.wrap IntKind.i64 ((List.getD h0_2 (0 + (Int.toNat s8k10)) (0 : Int)) - s11l77)) s12l77 (h1c61 ++ h1c78)) hc81) yz)))))))))))))))))))
/-! 29 -/
inductive Rf29 where
  | r0 (res_0n : Nat) (res_0nl : Bool) (res_1 : Int) (h1 : List Int)
def f29 (N : Nat) (a0n : Nat) (h0_0 : List Int) (h0_1 : List Int) (h0_2 : List Int) : Option Rf29 :=
 (match lf29_3 N N true (0 : Int) ([] : List Int) with
 | none => none
 | some (.e0 s4nll2 h1l2) =>
  if (((List.length h1l2) = (List.length h1l2)) ∧ (((List.length h1l2) + 2) ≤ 1099511627776)) then
   (match f56 N with
   | none => none
   | some (.r0 resnlc4 h0c4) =>
    (match lf29_10 N a0n h0_0 h0_1 h0_2 h1l2 h0c4 N false (0 : Int) [true, true, false] with
    | none => none
    | some .e0 =>
     some (.r0 0 true (1 : Int) ([] : List Int))
    | some (.e1 s7nll82 h2l82) =>
     (match f14 N (List.length h0c4) (256 : Int) h0c4 with
     | none => none
     | some (.r0 resnc83 resnlc83 h1c83) =>
      if (resnc83 = (List.length h1c83)) then
       if (((List.length h2l82) = (List.length h2l82)) ∧ (((List.length h2l82) + (List.length h1c83)) ≤ 1099511627776)) then
        (match f17 N (List.length (h2l82 ++ h1c83)) (h2l82 ++ h1c83) with
        | none => none
        | some (.r0 h1c86) =>
         some (.r0 (Int.toNat (IntKind.wrap IntKind.i64 (Int.tdiv (IntKind.wrap IntKind.i64 ((((List.length (h2l82 ++ h1c83)) : Nat) : Int) + (7 : Int))) (8 : Int)))) false (0 : Int) h1c86))
       else
        none
      else
       none)))
  else
   none)
def rf29 (a0n : Nat) (a0nl : Bool) (h0rw : Bool) (h0_0 : List Int) (h0_1 : List Int) (h0_2 : List Int) : Option Rf29 → Option (AV × Heap)
  | none => none
  | some (.r0 res_0n res_0nl res_1 h1) => some ((AV.tuple [(AV.slice 1 0 0 res_0n 1 res_0nl true), (AV.int IntKind.i64 res_1)]), [(Blk.dyn h0rw 62 [(Col.ints IntKind.i64 h0_0), (Col.ints IntKind.i64 h0_1), (Col.ints IntKind.i64 h0_2)]), (Blk.dyn true 5 [(Col.ints IntKind.u8 h1)])])
theorem ef29 (N : Nat) (a0n : Nat) (a0nl : Bool) (h0rw : Bool) (h0_0 : List Int) (h0_1 : List Int) (h0_2 : List Int) : rf29 a0n a0nl h0rw h0_0 h0_1 h0_2 (f29 N a0n h0_0 h0_1 h0_2) = sem29 N [(AV.slice 0 0 0 a0n 3 a0nl true)] [(Blk.dyn h0rw 62 [(Col.ints IntKind.i64 h0_0), (Col.ints IntKind.i64 h0_1), (Col.ints IntKind.i64 h0_2)])] := by
  unfold f29
  cases ho2 : lf29_3 N N true (0 : Int) ([] : List Int) with
  | none => exact finF (ctx29 N) Try.f29 [.out (qlf29_3 a0n a0nl h0rw h0_0 h0_1 h0_2 none)] (by kernel_rfl) (ya (ys (elf29_3 N a0n a0nl h0rw h0_0 h0_1 h0_2 N true (0 : Int) ([] : List Int)) ho2) yz)
  | some o =>
    cases o with
    | e0 s4nll2 h1l2 =>
      dsimp only
      refine br (p := (((List.length h1l2) = (List.length h1l2)) ∧ (((List.length h1l2) + 2) ≤ 1099511627776))) (fun h3x => ?_) (fun h3x => finF (ctx29 N) Try.f29 [.out (qlf29_3 a0n a0nl h0rw h0_0 h0_1 h0_2 (some (.e0 s4nll2 h1l2))), .b true, .b false] (by kernel_rfl) (ya (ys (elf29_3 N a0n a0nl h0rw h0_0 h0_1 h0_2 N true (0 : Int) ([] : List Int)) ho2) (yt (ya (pF h3x) yz))))
      cases hc4 : f56 N with
      | none => exact finF (ctx29 N) Try.f29 [.out (qlf29_3 a0n a0nl h0rw h0_0 h0_1 h0_2 (some (.e0 s4nll2 h1l2))), .b true, .b true, .call (rf56 none)] (by kernel_rfl) (ya (ys (elf29_3 N a0n a0nl h0rw h0_0 h0_1 h0_2 N true (0 : Int) ([] : List Int)) ho2) (yt (ya (pT h3x) (ya (ys (ef56 N) hc4) yz))))
      | some o =>
        cases o with
        | r0 resnlc4 h0c4 =>
          dsimp only
          cases ho82 : lf29_10 N a0n h0_0 h0_1 h0_2 h1l2 h0c4 N false (0 : Int) [true, true, false] with
          | none => exact finF (ctx29 N) Try.f29 [.out (qlf29_3 a0n a0nl h0rw h0_0 h0_1 h0_2 (some (.e0 s4nll2 h1l2))), .b true, .b true, .call (rf56 (some (.r0 resnlc4 h0c4))), .out (qlf29_10 a0n a0nl h0rw h0_0 h0_1 h0_2 h1l2 resnlc4 h0c4 none)] (by kernel_rfl) (ya (ys (elf29_3 N a0n a0nl h0rw h0_0 h0_1 h0_2 N true (0 : Int) ([] : List Int)) ho2) (yt (ya (pT h3x) (ya (ys (ef56 N) hc4) (ya (ys (elf29_10 N a0n a0nl h0rw h0_0 h0_1 h0_2 h1l2 resnlc4 h0c4 N false (0 : Int) [true, true, false]) ho82) yz)))))
          | some o =>
            cases o with
            | e0 =>
              dsimp only
              exact finF (ctx29 N) Try.f29 [.out (qlf29_3 a0n a0nl h0rw h0_0 h0_1 h0_2 (some (.e0 s4nll2 h1l2))), .b true, .b true, .call (rf56 (some (.r0 resnlc4 h0c4))), .out (qlf29_10 a0n a0nl h0rw h0_0 h0_1 h0_2 h1l2 resnlc4 h0c4 (some .e0))] (by kernel_rfl) (ya (ys (elf29_3 N a0n a0nl h0rw h0_0 h0_1 h0_2 N true (0 : Int) ([] : List Int)) ho2) (yt (ya (pT h3x) (ya (ys (ef56 N) hc4) (ya (ys (elf29_10 N a0n a0nl h0rw h0_0 h0_1 h0_2 h1l2 resnlc4 h0c4 N false (0 : Int) [true, true, false]) ho82) yz)))))
            | e1 s7nll82 h2l82 =>
              dsimp only
              cases hc83 : f14 N (List.length h0c4) (256 : Int) h0c4 with
              | none => exact finF (ctx29 N) Try.f29 [.out (qlf29_3 a0n a0nl h0rw h0_0 h0_1 h0_2 (some (.e0 s4nll2 h1l2))), .b true, .b true, .call (rf56 (some (.r0 resnlc4 h0c4))), .out (qlf29_10 a0n a0nl h0rw h0_0 h0_1 h0_2 h1l2 resnlc4 h0c4 (some (.e1 s7nll82 h2l82))), .call (rf14 (List.length h0c4) resnlc4 (256 : Int) true h0c4 none)] (by kernel_rfl) (ya (ys (elf29_3 N a0n a0nl h0rw h0_0 h0_1 h0_2 N true (0 : Int) ([] : List Int)) ho2) (yt (ya (pT h3x) (ya (ys (ef56 N) hc4) (ya (ys (elf29_10 N a0n a0nl h0rw h0_0 h0_1 h0_2 h1l2 resnlc4 h0c4 N false (0 : Int) [true, true, false]) ho82) (ya (ys (ef14 N (List.length h0c4) resnlc4 (256 : Int) true h0c4) hc83) yz))))))
              | some o =>
                cases o with
                | r0 resnc83 resnlc83 h1c83 =>
                  dsimp only
                  refine br (p := (resnc83 = (List.length h1c83))) (fun h84x => ?_) (fun h84x => finF (ctx29 N) Try.f29 [.out (qlf29_3 a0n a0nl h0rw h0_0 h0_1 h0_2 (some (.e0 s4nll2 h1l2))), .b true, .b true, .call (rf56 (some (.r0 resnlc4 h0c4))), .out (qlf29_10 a0n a0nl h0rw h0_0 h0_1 h0_2 h1l2 resnlc4 h0c4 (some (.e1 s7nll82 h2l82))), .call (rf14 (List.length h0c4) resnlc4 (256 : Int) true h0c4 (some (.r0 resnc83 resnlc83 h1c83))), .b false] (by kernel_rfl) (ya (ys (elf29_3 N a0n a0nl h0rw h0_0 h0_1 h0_2 N true (0 : Int) ([] : List Int)) ho2) (yt (ya (pT h3x) (ya (ys (ef56 N) hc4) (ya (ys (elf29_10 N a0n a0nl h0rw h0_0 h0_1 h0_2 h1l2 resnlc4 h0c4 N false (0 : Int) [true, true, false]) ho82) (ya (ys (ef14 N (List.length h0c4) resnlc4 (256 : Int) true h0c4) hc83) (ya (pF h84x) yz))))))))
                  refine br (p := (((List.length h2l82) = (List.length h2l82)) ∧ (((List.length h2l82) + (List.length h1c83)) ≤ 1099511627776))) (fun h85x => ?_) (fun h85x => finF (ctx29 N) Try.f29 [.out (qlf29_3 a0n a0nl h0rw h0_0 h0_1 h0_2 (some (.e0 s4nll2 h1l2))), .b true, .b true, .call (rf56 (some (.r0 resnlc4 h0c4))), .out (qlf29_10 a0n a0nl h0rw h0_0 h0_1 h0_2 h1l2 resnlc4 h0c4 (some (.e1 s7nll82 h2l82))), .call (rf14 (List.length h0c4) resnlc4 (256 : Int) true h0c4 (some (.r0 resnc83 resnlc83 h1c83))), .b true, .b false] (by kernel_rfl) (ya (ys (elf29_3 N a0n a0nl h0rw h0_0 h0_1 h0_2 N true (0 : Int) ([] : List Int)) ho2) (yt (ya (pT h3x) (ya (ys (ef56 N) hc4) (ya (ys (elf29_10 N a0n a0nl h0rw h0_0 h0_1 h0_2 h1l2 resnlc4 h0c4 N false (0 : Int) [true, true, false]) ho82) (ya (ys (ef14 N (List.length h0c4) resnlc4 (256 : Int) true h0c4) hc83) (ya (pT h84x) (ya (pF h85x) yz)))))))))
                  cases hc86 : f17 N (List.length (h2l82 ++ h1c83)) (h2l82 ++ h1c83) with
                  | none => exact finF (ctx29 N) Try.f29 [.out (qlf29_3 a0n a0nl h0rw h0_0 h0_1 h0_2 (some (.e0 s4nll2 h1l2))), .b true, .b true, .call (rf56 (some (.r0 resnlc4 h0c4))), .out (qlf29_10 a0n a0nl h0rw h0_0 h0_1 h0_2 h1l2 resnlc4 h0c4 (some (.e1 s7nll82 h2l82))), .call (rf14 (List.length h0c4) resnlc4 (256 : Int) true h0c4 (some (.r0 resnc83 resnlc83 h1c83))), .b true, .b true, .call (rf17 (List.length (h2l82 ++ h1c83)) ((Go.Abs.isEmptyCols [(Col.bools h1c83)]) && s7nll82) true (h2l82 ++ h1c83) none)] (by kernel_rfl) (ya (ys (elf29_3 N a0n a0nl h0rw h0_0 h0_1 h0_2 N true (0 : Int) ([] : List Int)) ho2) (yt (ya (pT h3x) (ya (ys (ef56 N) hc4) (ya (ys (elf29_10 N a0n a0nl h0rw h0_0 h0_1 h0_2 h1l2 resnlc4 h0c4 N false (0 : Int) [true, true, false]) ho82) (ya (ys (ef14 N (List.length h0c4) resnlc4 (256 : Int) true h0c4) hc83) (ya (pT h84x) (ya (pT h85x) (ya (ys (ef17 N (List.length (h2l82 ++ h1c83)) ((Go.Abs.isEmptyCols [(Col.bools h1c83)]) && s7nll82) true (h2l82 ++ h1c83)) hc86) yz)))))))))
                  | some o =>
                    cases o with
                    | r0 h1c86 =>
                      dsimp only
                      exact finF (ctx29 N) Try.f29 [.out (qlf29_3 a0n a0nl h0rw h0_0 h0_1 h0_2 (some (.e0 s4nll2 h1l2))), .b true, .b true, .call (rf56 (some (.r0 resnlc4 h0c4))), .out (qlf29_10 a0n a0nl h0rw h0_0 h0_1 h0_2 h1l2 resnlc4 h0c4 (some (.e1 s7nll82 h2l82))), .call (rf14 (List.length h0c4) resnlc4 (256 : Int) true h0c4 (some (.r0 resnc83 resnlc83 h1c83))), .b true, .b true, .call (rf17 (List.length (h2l82 ++ h1c83)) ((Go.Abs.isEmptyCols [(Col.bools h1c83)]) && s7nll82) true (h2l82 ++ h1c83) (some (.r0 h1c86)))] (by kernel_rfl) (ya (ys (elf29_3 N a0n a0nl h0rw h0_0 h0_1 h0_2 N true (0 : Int) ([] : List Int)) ho2) (yt (ya (pT h3x) (ya (ys (ef56 N) hc4) (ya (ys (elf29_10 N a0n a0nl h0rw h0_0 h0_1 h0_2 h1l2 resnlc4 h0c4 N false (0 : Int) [true, true, false]) ho82) (ya (ys (ef14 N (List.length h0c4) resnlc4 (256 : Int) true h0c4) hc83) (ya (pT h84x) (ya (pT h85x) (ya (ys (ef17 N (List.length (h2l82 ++ h1c83)) ((Go.Abs.isEmptyCols [(Col.bools h1c83)]) && s7nll82) true (h2l82 ++ h1c83)) hc86) yz)))))))))
/-! 31 -/
inductive Rf31 where
  | r0 (res_0n : Nat) (res_0nl : Bool) (res_1 : Int) (h1 : List Int)
def f31 (N : Nat) (a0n : Nat) (h0 : List Int) : Option Rf31 :=
 (match f27 N a0n h0 with
 | none => none
 | some (.r0 res_0nlc0 res_1c0 h1_0c0 h1_1c0 h1_2c0) =>
  if (res_1c0 = (0 : Int)) then
   (match f29 N (List.length h1_0c0) h1_0c0 h1_1c0 h1_2c0 with
   | none => none
   | some (.r0 res_0nc2 res_0nlc2 res_1c2 h1c2) =>
    some (.r0 res_0nc2 res_0nlc2 res_1c2 h1c2))
  else
   some (.r0 0 true res_1c0 ([] : List Int)))
def rf31 (a0n : Nat) (a0nl : Bool) (h0rw : Bool) (h0 : List Int) : Option Rf31 → Option (AV × Heap)
  | none => none
  | some (.r0 res_0n res_0nl res_1 h1) => some ((AV.tuple [(AV.slice 1 0 0 res_0n 1 res_0nl true), (AV.int IntKind.i64 res_1)]), [(Blk.dyn h0rw 5 [(Col.ints IntKind.u8 h0)]), (Blk.dyn true 5 [(Col.ints IntKind.u8 h1)])])
theorem ef31 (N : Nat) (a0n : Nat) (a0nl : Bool) (h0rw : Bool) (h0 : List Int) : rf31 a0n a0nl h0rw h0 (f31 N a0n h0) = sem31 N [(AV.slice 0 0 0 a0n 1 a0nl true)] [(Blk.dyn h0rw 5 [(Col.ints IntKind.u8 h0)])] := by
  unfold f31
  cases hc0 : f27 N a0n h0 with
  | none => exact finF (ctx31 N) Try.f31 [.call (rf27 a0n a0nl h0rw h0 none)] (by kernel_rfl) (ya (ys (ef27 N a0n a0nl h0rw h0) hc0) yz)
  | some o =>
    cases o with
    | r0 res_0nlc0 res_1c0 h1_0c0 h1_1c0 h1_2c0 =>
      dsimp only
      refine br (p := (res_1c0 = (0 : Int))) (fun h1x => ?_) (fun h1x => finF (ctx31 N) Try.f31 [.call (rf27 a0n a0nl h0rw h0 (some (.r0 res_0nlc0 res_1c0 h1_0c0 h1_1c0 h1_2c0))), .b true] (by kernel_rfl) (ya (ys (ef27 N a0n a0nl h0rw h0) hc0) (ya (pNX h1x) yz)))
      cases hc2 : f29 N (List.length h1_0c0) h1_0c0 h1_1c0 h1_2c0 with
      | none => exact finF (ctx31 N) Try.f31 [.call (rf27 a0n a0nl h0rw h0 (some (.r0 res_0nlc0 res_1c0 h1_0c0 h1_1c0 h1_2c0))), .b false, .call (rf29 (List.length h1_0c0) res_0nlc0 true h1_0c0 h1_1c0 h1_2c0 none)] (by kernel_rfl) (ya (ys (ef27 N a0n a0nl h0rw h0) hc0) (ya (pX h1x) (ya (ys (ef29 N (List.length h1_0c0) res_0nlc0 true h1_0c0 h1_1c0 h1_2c0) hc2) yz)))
      | some o =>
        cases o with
        | r0 res_0nc2 res_0nlc2 res_1c2 h1c2 =>
          dsimp only
          exact finF (ctx31 N) Try.f31 [.call (rf27 a0n a0nl h0rw h0 (some (.r0 res_0nlc0 res_1c0 h1_0c0 h1_1c0 h1_2c0))), .b false, .call (rf29 (List.length h1_0c0) res_0nlc0 true h1_0c0 h1_1c0 h1_2c0 (some (.r0 res_0nc2 res_0nlc2 res_1c2 h1c2)))] (by kernel_rfl) (ya (ys (ef27 N a0n a0nl h0rw h0) hc0) (ya (pX h1x) (ya (ys (ef29 N (List.length h1_0c0) res_0nlc0 true h1_0c0 h1_1c0 h1_2c0) hc2) yz)))
/-! 33, loop 4 -/
inductive Qlf33_4 where
  | e0
  | e1
def slf33_4 (N : Nat) (a0n : Nat) (a1n : Nat) (h0_0 : List Int) (h0_1 : List Int) (h0_2 : List Int) (h1_0 : List Int) (h1_1 : List Int) (h1_2 : List Int) (n : Nat) (go : Int → Option Qlf33_4) (s5k4 : Int) : Option Qlf33_4 :=
 if (s5k4 < ((a0n : Nat) : Int)) then
  if (((0 : Int) ≤ s5k4) ∧ ((Int.toNat s5k4) < a0n)) then
   if ((0 + (Int.toNat s5k4)) < (List.length h0_0)) then
    if (((0 : Int) ≤ s5k4) ∧ ((Int.toNat s5k4) < a1n)) then
     if ((0 + (Int.toNat s5k4)) < (List.length h1_0)) then
      if ((!(((List.getD h0_0 (0 + (Int.toNat s5k4)) (0 : Int)) == (List.getD h1_0 (0 + (Int.toNat s5k4)) (0 : Int))) && (((List.getD h0_1 (0 + (Int.toNat s5k4)) (0 : Int)) == (List.getD h1_1 (0 + (Int.toNat s5k4)) (0 : Int))) && (((List.getD h0_2 (0 + (Int.toNat s5k4)) (0 : Int)) == (List.getD h1_2 (0 + (Int.toNat s5k4)) (0 : Int))) && true)))) = true) then
       some .e0
      else
      go (IntKind.wrap IntKind.i64 (s5k4 + (1 : Int)))
     else
      none
    else
     none
   else
    none
  else
   none
 else
  some .e1
def lf33_4 (N : Nat) (a0n : Nat) (a1n : Nat) (h0_0 : List Int) (h0_1 : List Int) (h0_2 : List Int) (h1_0 : List Int) (h1_1 : List Int) (h1_2 : List Int) : Nat → Int → Option Qlf33_4
  | 0, _ => none
  | n + 1, s5k4 => slf33_4 N a0n a1n h0_0 h0_1 h0_2 h1_0 h1_1 h1_2 n (lf33_4 N a0n a1n h0_0 h0_1 h0_2 h1_0 h1_1 h1_2 n) s5k4
def qlf33_4 (a0n : Nat) (a0nl : Bool) (a1n : Nat) (a1nl : Bool) (h0rw : Bool) (h0_0 : List Int) (h0_1 : List Int) (h0_2 : List Int) (h1rw : Bool) (h1_0 : List Int) (h1_1 : List Int) (h1_2 : List Int) : Option Qlf33_4 → Out
  | none => none
  | some .e0 => some (XT.ret, (St.mk [(4, (AV.bool false))] [(Blk.dyn h0rw 62 [(Col.ints IntKind.i64 h0_0), (Col.ints IntKind.i64 h0_1), (Col.ints IntKind.i64 h0_2)]), (Blk.dyn h1rw 62 [(Col.ints IntKind.i64 h1_0), (Col.ints IntKind.i64 h1_1), (Col.ints IntKind.i64 h1_2)])]))
  | some .e1 => some ((XT.exit 0), (St.mk ([] : List (Nat × AV)) [(Blk.dyn h0rw 62 [(Col.ints IntKind.i64 h0_0), (Col.ints IntKind.i64 h0_1), (Col.ints IntKind.i64 h0_2)]), (Blk.dyn h1rw 62 [(Col.ints IntKind.i64 h1_0), (Col.ints IntKind.i64 h1_1), (Col.ints IntKind.i64 h1_2)])]))
theorem elf33_4 (N : Nat) (a0n : Nat) (a0nl : Bool) (a1n : Nat) (a1nl : Bool) (h0rw : Bool) (h0_0 : List Int) (h0_1 : List Int) (h0_2 : List Int) (h1rw : Bool) (h1_0 : List Int) (h1_1 : List Int) (h1_2 : List Int) : ∀ (n : Nat) (s5k4 : Int), qlf33_4 a0n a0nl a1n a1nl h0rw h0_0 h0_1 h0_2 h1rw h1_0 h1_1 h1_2 (lf33_4 N a0n a1n h0_0 h0_1 h0_2 h1_0 h1_1 h1_2 n s5k4) = lp (ctx33 N) 2 Try.f33 4 n (St.mk [(0, (AV.slice 0 0 0 a0n 3 a0nl true)), (1, (AV.slice 1 0 0 a1n 3 a1nl true)), (5, (AV.int IntKind.i64 s5k4))] [(Blk.dyn h0rw 62 [(Col.ints IntKind.i64 h0_0), (Col.ints IntKind.i64 h0_1), (Col.ints IntKind.i64 h0_2)]), (Blk.dyn h1rw 62 [(Col.ints IntKind.i64 h1_0), (Col.ints IntKind.i64 h1_1), (Col.ints IntKind.i64 h1_2)])]) := by
  intro n
  induction n with
  | zero => intros; kernel_rfl
  | succ n ih =>
    intro s5k4
    rw [lf33_4]
    unfold slf33_4
    refine br (p := (s5k4 < ((a0n : Nat) : Int))) (fun h6x => ?_) (fun h6x => finL (ctx33 N) 2 Try.f33 4 n [.b false] (by kernel_rfl) (ya (pF h6x) yz))
    refine br (p := (((0 : Int) ≤ s5k4) ∧ ((Int.toNat s5k4) < a0n))) (fun h7x => ?_) (fun h7x => finL (ctx33 N) 2 Try.f33 4 n [.b true, .b false] (by kernel_rfl) (ya (pT h6x) (ya (pF h7x) yz)))
    refine br (p := ((0 + (Int.toNat s5k4)) < (List.length h0_0))) (fun h8x => ?_) (fun h8x => finL (ctx33 N) 2 Try.f33 4 n [.b true, .b true, .b false] (by kernel_rfl) (ya (pT h6x) (ya (pT h7x) (ya (pF h8x) yz))))
    refine br (p := (((0 : Int) ≤ s5k4) ∧ ((Int.toNat s5k4) < a1n))) (fun h9x => ?_) (fun h9x => finL (ctx33 N) 2 Try.f33 4 n [.b true, .b true, .b true, .b false] (by kernel_rfl) (ya (pT h6x) (ya (pT h7x) (ya (pT h8x) (ya (pF h9x) yz)))))
    refine br (p := ((0 + (Int.toNat s5k4)) < (List.length h1_0))) (fun h10x => ?_) (fun h10x => finL (ctx33 N) 2 Try.f33 4 n [.b true, .b true, .b true, .b true, .b false] (by kernel_rfl) (ya (pT h6x) (ya (pT h7x) (ya (pT h8x) (ya (pT h9x) (ya (pF h10x) yz))))))
    refine br (p := ((!(((List.getD h0_0 (0 + (Int.toNat s5k4)) (0 : Int)) == (List.getD h1_0 (0 + (Int.toNat s5k4)) (0 : Int))) && (((List.getD h0_1 (0 + (Int.toNat s5k4)) (0 : Int)) == (List.getD h1_1 (0 + (Int.toNat s5k4)) (0 : Int))) && (((List.getD h0_2 (0 + (Int.toNat s5k4)) (0 : Int)) == (List.getD h1_2 (0 + (Int.toNat s5k4)) (0 : Int))) && true)))) = true)) (fun h11x => finL (ctx33 N) 2 Try.f33 4 n [.b true, .b true, .b true, .b true, .b true, .b true] (by kernel_rfl) (ya (pT h6x) (ya (pT h7x) (ya (pT h8x) (ya (pT h9x) (ya (pT h10x) (ya h11x yz))))))) (fun h11x => ?_)
    exact (ih (IntKind.wrap IntKind.i64 (s5k4 + (1 : Int)))).trans (finL (ctx33 N) 2 Try.f33 4 n [.b true, .b true, .b true, .b true, .b true, .b false] (by kernel_rfl) (ya (pT h6x) (ya (pT h7x) (ya (pT h8x) (ya (pT h9x) (ya (pT h10x) (ya (pNB h11x) yz)))))))
/-! 33 -/
inductive Rf33 where
  | r0 (res : Bool)
def f33 (N : Nat) (a0n : Nat) (a1n : Nat) (h0_0 : List Int) (h0_1 : List Int) (h0_2 : List Int) (h1_0 : List Int) (h1_1 : List Int) (h1_2 : List Int) : Option Rf33 :=
 if (((a0n : Nat) : Int) = ((a1n : Nat) : Int)) then
  (match lf33_4 N a0n a1n h0_0 h0_1 h0_2 h1_0 h1_1 h1_2 N (0 : Int) with
  | none => none
  | some .e0 =>
   some (.r0 false)
  | some .e1 =>
   some (.r0 true))
 else
  some (.r0 false)
def rf33 (a0n : Nat) (a0nl : Bool) (a1n : Nat) (a1nl : Bool) (h0rw : Bool) (h0_0 : List Int) (h0_1 : List Int) (h0_2 : List Int) (h1rw : Bool) (h1_0 : List Int) (h1_1 : List Int) (h1_2 : List Int) : Option Rf33 → Option (AV × Heap)
  | none => none
  | some (.r0 res) => some ((AV.bool res), [(Blk.dyn h0rw 62 [(Col.ints IntKind.i64 h0_0), (Col.ints IntKind.i64 h0_1), (Col.ints IntKind.i64 h0_2)]), (Blk.dyn h1rw 62 [(Col.ints IntKind.i64 h1_0), (Col.ints IntKind.i64 h1_1), (Col.ints IntKind.i64 h1_2)])])
theorem ef33 (N : Nat) (a0n : Nat) (a0nl : Bool) (a1n : Nat) (a1nl : Bool) (h0rw : Bool) (h0_0 : List Int) (h0_1 : List Int) (h0_2 : List Int) (h1rw : Bool) (h1_0 : List Int) (h1_1 : List Int) (h1_2 : List Int) : rf33 a0n a0nl a1n a1nl h0rw h0_0 h0_1 h0_2 h1rw h1_0 h1_1 h1_2 (f33 N a0n a1n h0_0 h0_1 h0_2 h1_0 h1_1 h1_2) = sem33 N [(AV.slice 0 0 0 a0n 3 a0nl true), (AV.slice 1 0 0 a1n 3 a1nl true)] [(Blk.dyn h0rw 62 [(Col.ints IntKind.i64 h0_0), (Col.ints IntKind.i64 h0_1), (Col.ints IntKind.i64 h0_2)]), (Blk.dyn h1rw 62 [(Col.ints IntKind.i64 h1_0), (Col.ints IntKind.i64 h1_1), (Col.ints IntKind.i64 h1_2)])] := by
  unfold f33
  refine br (p := (((a0n : Nat) : Int) = ((a1n : Nat) : Int))) (fun h0x => ?_) (fun h0x => finF (ctx33 N) Try.f33 [.b true] (by kernel_rfl) (ya (pNX h0x) yz))
  cases ho12 : lf33_4 N a0n a1n h0_0 h0_1 h0_2 h1_0 h1_1 h1_2 N (0 : Int) with
  | none => exact finF (ctx33 N) Try.f33 [.b false, .out (qlf33_4 a0n a0nl a1n a1nl h0rw h0_0 h0_1 h0_2 h1rw h1_0 h1_1 h1_2 none)] (by kernel_rfl) (ya (pX h0x) (ya (ys (elf33_4 N a0n a0nl a1n a1nl h0rw h0_0 h0_1 h0_2 h1rw h1_0 h1_1 h1_2 N (0 : Int)) ho12) yz))
  | some o =>
    cases o with
    | e0 =>
      dsimp only
      exact finF (ctx33 N) Try.f33 [.b false, .out (qlf33_4 a0n a0nl a1n a1nl h0rw h0_0 h0_1 h0_2 h1rw h1_0 h1_1 h1_2 (some .e0))] (by kernel_rfl) (ya (pX h0x) (ya (ys (elf33_4 N a0n a0nl a1n a1nl h0rw h0_0 h0_1 h0_2 h1rw h1_0 h1_1 h1_2 N (0 : Int)) ho12) yz))
    | e1 =>
      dsimp only
      exact finF (ctx33 N) Try.f33 [.b false, .out (qlf33_4 a0n a0nl a1n a1nl h0rw h0_0 h0_1 h0_2 h1rw h1_0 h1_1 h1_2 (some .e1))] (by kernel_rfl) (ya (pX h0x) (ya (ys (elf33_4 N a0n a0nl a1n a1nl h0rw h0_0 h0_1 h0_2 h1rw h1_0 h1_1 h1_2 N (0 : Int)) ho12) yz))
/-! 7 -/
inductive Rf7 where
  | r0 (res : Bool)
def f7 (N : Nat) (h0 : List Int) (h1_0 : List Int) (h1_1 : List Int) (h1_2 : List Int) : Option Rf7 :=
 if ((((List.length h0) : Nat) : Int) > (300 : Int)) then
  some (.r0 true)
 else
  if ((((List.length h1_0) : Nat) : Int) > (60 : Int)) then
   some (.r0 true)
  else
  (match f25 N (List.length h0) h0 with
  | none => none
  | some .r0 =>
   (match f26 N (List.length (([] : List Int) ++ h0)) (([] : List Int) ++ h0) with
   | none => none
   | some (.r0 res_0nlc3 res_1c3 h1_0c3 h1_1c3 h1_2c3) =>
    (match f27 N (List.length h0) h0 with
    | none => none
    | some (.r0 res_0nlc4 res_1c4 h1_0c4 h1_1c4 h1_2c4) =>
     (match f28 N (List.length h1_0) h1_0 h1_1 h1_2 with
     | none => none
     | some (.r0 res_0nlc5 res_1c5 h1c5) =>
      (match f29 N (List.length h1_0) h1_0 h1_1 h1_2 with
      | none => none
      | some (.r0 res_0nc6 res_0nlc6 res_1c6 h1c6) =>
       (match f30 N (List.length (([] : List Int) ++ h0)) (([] : List Int) ++ h0) with
       | none => none
       | some (.r0 res_0nlc7 res_1c7 h1c7) =>
        (match f31 N (List.length h0) h0 with
        | none => none
        | some (.r0 res_0nc8 res_0nlc8 res_1c8 h1c8) =>
         if (((ByteArray.toList (Go.Abs.mkStr (([] : List Int) ++ h0))) == (ByteArray.toList (Go.Abs.mkStr h0))) = true) then
          (match f33 N (List.length h1_0c3) (List.length h1_0c4) h1_0c3 h1_1c3 h1_2c3 h1_0c4 h1_1c4 h1_2c4 with
          | none => none
          | some (.r0 resc10) =>
           if (resc10 = true) then
            if (res_1c3 = res_1c4) then
             if (res_0nc6 = (List.length h1c6)) then
              if (((ByteArray.toList (Go.Abs.mkStr h1c5)) == (ByteArray.toList (Go.Abs.mkStr h1c6))) = true) then
               if (res_1c5 = res_1c6) then
                if (res_0nc8 = (List.length h1c8)) then
                 if (((ByteArray.toList (Go.Abs.mkStr h1c7)) == (ByteArray.toList (Go.Abs.mkStr h1c8))) = true) then
                  some (.r0 (res_1c7 == res_1c8))
                 else
                  some (.r0 false)
                else
                 none
               else
                some (.r0 false)
              else
               some (.r0 false)
             else
              none
            else
             some (.r0 false)
           else
            some (.r0 false))
         else
          some (.r0 false))))))))
def rf7 (a0nl : Bool) (a1nl : Bool) (h0rw : Bool) (h0 : List Int) (h1rw : Bool) (h1_0 : List Int) (h1_1 : List Int) (h1_2 : List Int) : Option Rf7 → Option (AV × Heap)
  | none => none
  | some (.r0 res) => some ((AV.bool res), [(Blk.dyn h0rw 5 [(Col.ints IntKind.u8 h0)]), (Blk.dyn h1rw 62 [(Col.ints IntKind.i64 h1_0), (Col.ints IntKind.i64 h1_1), (Col.ints IntKind.i64 h1_2)])])
theorem ef7 (N : Nat) (a0nl : Bool) (a1nl : Bool) (h0rw : Bool) (h0 : List Int) (h1rw : Bool) (h1_0 : List Int) (h1_1 : List Int) (h1_2 : List Int) (hk32 : sem32 N [] [] = some (.bool true, [])) : rf7 a0nl a1nl h0rw h0 h1rw h1_0 h1_1 h1_2 (f7 N h0 h1_0 h1_1 h1_2) = sem7 N [(AV.slice 0 0 0 (List.length h0) 1 a0nl true), (AV.slice 1 0 0 (List.length h1_0) 3 a1nl true)] [(Blk.dyn h0rw 5 [(Col.ints IntKind.u8 h0)]), (Blk.dyn h1rw 62 [(Col.ints IntKind.i64 h1_0), (Col.ints IntKind.i64 h1_1), (Col.ints IntKind.i64 h1_2)])] := by
  unfold f7
  refine br (p := ((((List.length h0) : Nat) : Int) > (300 : Int))) (fun h0x => finF (ctx7 N) Try.f7 [.b true, .b true, .b true, .b true] (by kernel_rfl) (ya (pT h0x) (yt (yt (yt yz))))) (fun h0x => ?_)
  refine br (p := ((((List.length h1_0) : Nat) : Int) > (60 : Int))) (fun h1x => finF (ctx7 N) Try.f7 [.b false, .b false, .b false, .b true] (by kernel_rfl) (ya (pF h0x) (yf (yf (ya (pT h1x) yz))))) (fun h1x => ?_)
  cases hc2 : f25 N (List.length h0) h0 with
  | none => exact finF (ctx7 N) Try.f7 [.b false, .b false, .b false, .b false, .call (rf25 (List.length h0) a0nl h0rw h0 none)] (by kernel_rfl) (ya (pF h0x) (yf (yf (ya (pF h1x) (ya (ys (ef25 N (List.length h0) a0nl h0rw h0) hc2) yz)))))
  | some o =>
    cases o with
    | r0 =>
      dsimp only
      cases hc3 : f26 N (List.length (([] : List Int) ++ h0)) (([] : List Int) ++ h0) with
      | none => exact finF (ctx7 N) Try.f7 [.b false, .b false, .b false, .b false, .call (rf25 (List.length h0) a0nl h0rw h0 (some .r0)), .call (rf26 (List.length (([] : List Int) ++ h0)) ((Go.Abs.isEmptyCols [(Col.ints IntKind.u8 h0)]) && true) true (([] : List Int) ++ h0) none)] (by kernel_rfl) (ya (pF h0x) (yf (yf (ya (pF h1x) (ya (ys (ef25 N (List.length h0) a0nl h0rw h0) hc2) (ya (ys (ef26 N (List.length (([] : List Int) ++ h0)) ((Go.Abs.isEmptyCols [(Col.ints IntKind.u8 h0)]) && true) true (([] : List Int) ++ h0)) hc3) yz))))))
      | some o =>
        cases o with
        | r0 res_0nlc3 res_1c3 h1_0c3 h1_1c3 h1_2c3 =>
          dsimp only
          cases hc4 : f27 N (List.length h0) h0 with
          | none => exact finF (ctx7 N) Try.f7 [.b false, .b false, .b false, .b false, .call (rf25 (List.length h0) a0nl h0rw h0 (some .r0)), .call (rf26 (List.length (([] : List Int) ++ h0)) ((Go.Abs.isEmptyCols [(Col.ints IntKind.u8 h0)]) && true) true (([] : List Int) ++ h0) (some (.r0 res_0nlc3 res_1c3 h1_0c3 h1_1c3 h1_2c3))), .call (rf27 (List.length h0) a0nl h0rw h0 none)] (by kernel_rfl) (ya (pF h0x) (yf (yf (ya (pF h1x) (ya (ys (ef25 N (List.length h0) a0nl h0rw h0) hc2) (ya (ys (ef26 N (List.length (([] : List Int) ++ h0)) ((Go.Abs.isEmptyCols [(Col.ints IntKind.u8 h0)]) && true) true (([] : List Int) ++ h0)) hc3) (ya (ys (ef27 N (List.length h0) a0nl h0rw h0) hc4) yz)))))))
          | some o =>
            cases o with
            | r0 res_0nlc4 res_1c4 h1_0c4 h1_1c4 h1_2c4 =>
              dsimp only
              cases hc5 : f28 N (List.length h1_0) h1_0 h1_1 h1_2 with
              | none => exact finF (ctx7 N) Try.f7 [.b false, .b false, .b false, .b false, .call (rf25 (List.length h0) a0nl h0rw h0 (some .r0)), .call (rf26 (List.length (([] : List Int) ++ h0)) ((Go.Abs.isEmptyCols [(Col.ints IntKind.u8 h0)]) && true) true (([] : List Int) ++ h0) (some (.r0 res_0nlc3 res_1c3 h1_0c3 h1_1c3 h1_2c3))), .call (rf27 (List.length h0) a0nl h0rw h0 (some (.r0 res_0nlc4 res_1c4 h1_0c4 h1_1c4 h1_2c4))), .call (rf28 (List.length h1_0) a1nl h1rw h1_0 h1_1 h1_2 none)] (by kernel_rfl) (ya (pF h0x) (yf (yf (ya (pF h1x) (ya (ys (ef25 N (List.length h0) a0nl h0rw h0) hc2) (ya (ys (ef26 N (List.length (([] : List Int) ++ h0)) ((Go.Abs.isEmptyCols [(Col.ints IntKind.u8 h0)]) && true) true (([] : List Int) ++ h0)) hc3) (ya (ys (ef27 N (List.length h0) a0nl h0rw h0) hc4) (ya (ys (ef28 N (List.length h1_0) a1nl h1rw h1_0 h1_1 h1_2) hc5) yz))))))))
              | some o =>
                cases o with
                | r0 res_0nlc5 res_1c5 h1c5 =>
                  dsimp only
                  cases hc6 : f29 N (List.length h1_0) h1_0 h1_1 h1_2 with
                  | none => exact finF (ctx7 N) Try.f7 [.b false, .b false, .b false, .b false, .call (rf25 (List.length h0) a0nl h0rw h0 (some .r0)), .call (rf26 (List.length (([] : List Int) ++ h0)) ((Go.Abs.isEmptyCols [(Col.ints IntKind.u8 h0)]) && true) true (([] : List Int) ++ h0) (some (.r0 res_0nlc3 res_1c3 h1_0c3 h1_1c3 h1_2c3))), .call (rf27 (List.length h0) a0nl h0rw h0 (some (.r0 res_0nlc4 res_1c4 h1_0c4 h1_1c4 h1_2c4))), .call (rf28 (List.length h1_0) a1nl h1rw h1_0 h1_1 h1_2 (some (.r0 res_0nlc5 res_1c5 h1c5))), .call (rf29 (List.length h1_0) a1nl h1rw h1_0 h1_1 h1_2 none)] (by kernel_rfl) (ya (pF h0x) (yf (yf (ya (pF h1x) (ya (ys (ef25 N (List.length h0) a0nl h0rw h0) hc2) (ya (ys (ef26 N (List.length (([] : List Int) ++ h0)) ((Go.Abs.isEmptyCols [(Col.ints IntKind.u8 h0)]) && true) true (([] : List Int) ++ h0)) hc3) (ya (ys (ef27 N (List.length h0) a0nl h0rw h0) hc4) (ya (ys (ef28 N (List.length h1_0) a1nl h1rw h1_0 h1_1 h1_2) hc5) (ya (ys (ef29 N (List.length h1_0) a1nl h1rw h1_0 h1_1 h1_2) hc6) yz)))))))))
                  | some o =>
                    cases o with
                    | r0 res_0nc6 res_0nlc6 res_1c6 h1c6 =>
                      dsimp only
                      cases hc7 : f30 N (List.length (([] : List Int) ++ h0)) (([] : List Int) ++ h0) with
                      | none => exact finF (ctx7 N) Try.f7 [.b false, .b false, .b false, .b false, .call (rf25 (List.length h0) a0nl h0rw h0 (some .r0)), .call (rf26 (List.length (([] : List Int) ++ h0)) ((Go.Abs.isEmptyCols [(Col.ints IntKind.u8 h0)]) && true) true (([] : List Int) ++ h0) (some (.r0 res_0nlc3 res_1c3 h1_0c3 h1_1c3 h1_2c3))), .call (rf27 (List.length h0) a0nl h0rw h0 (some (.r0 res_0nlc4 res_1c4 h1_0c4 h1_1c4 h1_2c4))), .call (rf28 (List.length h1_0) a1nl h1rw h1_0 h1_1 h1_2 (some (.r0 res_0nlc5 res_1c5 h1c5))), .call (rf29 (List.length h1_0) a1nl h1rw h1_0 h1_1 h1_2 (some (.r0 res_0nc6 res_0nlc6 res_1c6 h1c6))), .call (rf30 (List.length (([] : List Int) ++ h0)) ((Go.Abs.isEmptyCols [(Col.ints IntKind.u8 h0)]) && true) true (([] : List Int) ++ h0) none)] (by kernel_rfl) (ya (pF h0x) (yf (yf (ya (pF h1x) (ya (ys (ef25 N (List.length h0) a0nl h0rw h0) hc2) (ya (ys (ef26 N (List.length (([] : List Int) ++ h0)) ((Go.Abs.isEmptyCols [(Col.ints IntKind.u8 h0)]) && true) true (([] : List Int) ++ h0)) hc3) (ya (ys (ef27 N (List.length h0) a0nl h0rw h0) hc4) (ya (ys (ef28 N (List.length h1_0) a1nl h1rw h1_0 h1_1 h1_2) hc5) (ya (ys (ef29 N (List.length h1_0) a1nl h1rw h1_0 h1_1 h1_2) hc6) (ya (ys (ef30 N (List.length (([] : List Int) ++ h0)) ((Go.Abs.isEmptyCols [(Col.ints IntKind.u8 h0)]) && true) true (([] : List Int) ++ h0)) hc7) yz))))))))))
                      | some o =>
                        cases o with
                        | r0 res_0nlc7 res_1c7 h1c7 =>
                          dsimp only
                          cases hc8 : f31 N (List.length h0) h0 with
                          | none => exact finF (ctx7 N) Try.f7 [.b false, .b false, .b false, .b false, .call (rf25 (List.length h0) a0nl h0rw h0 (some .r0)), .call (rf26 (List.length (([] : List Int) ++ h0)) ((Go.Abs.isEmptyCols [(Col.ints IntKind.u8 h0)]) && true) true (([] : List Int) ++ h0) (some (.r0 res_0nlc3 res_1c3 h1_0c3 h1_1c3 h1_2c3))), .call (rf27 (List.length h0) a0nl h0rw h0 (some (.r0 res_0nlc4 res_1c4 h1_0c4 h1_1c4 h1_2c4))), .call (rf28 (List.length h1_0) a1nl h1rw h1_0 h1_1 h1_2 (some (.r0 res_0nlc5 res_1c5 h1c5))), .call (rf29 (List.length h1_0) a1nl h1rw h1_0 h1_1 h1_2 (some (.r0 res_0nc6 res_0nlc6 res_1c6 h1c6))), .call (rf30 (List.length (([] : List Int) ++ h0)) ((Go.Abs.isEmptyCols [(Col.ints IntKind.u8 h0)]) && true) true (([] : List Int) ++ h0) (some (.r0 res_0nlc7 res_1c7 h1c7))), .call (rf31 (List.length h0) a0nl h0rw h0 none)] (by kernel_rfl) (ya (pF h0x) (yf (yf (ya (pF h1x) (ya (ys (ef25 N (List.length h0) a0nl h0rw h0) hc2) (ya (ys (ef26 N (List.length (([] : List Int) ++ h0)) ((Go.Abs.isEmptyCols [(Col.ints IntKind.u8 h0)]) && true) true (([] : List Int) ++ h0)) hc3) (ya (ys (ef27 N (List.length h0) a0nl h0rw h0) hc4) (ya (ys (ef28 N (List.length h1_0) a1nl h1rw h1_0 h1_1 h1_2) hc5) (ya (ys (ef29 N (List.length h1_0) a1nl h1rw h1_0 h1_1 h1_2) hc6) (ya (ys (ef30 N (List.length (([] : List Int) ++ h0)) ((Go.Abs.isEmptyCols [(Col.ints IntKind.u8 h0)]) && true) true (([] : List Int) ++ h0)) hc7) (ya (ys (ef31 N (List.length h0) a0nl h0rw h0) hc8) yz)))))))))))
                          | some o =>
                            cases o with
                            | r0 res_0nc8 res_0nlc8 res_1c8 h1c8 =>
                              dsimp only
                              refine br (p := (((ByteArray.toList (Go.Abs.mkStr (([] : List Int) ++ h0))) == (ByteArray.toList (Go.Abs.mkStr h0))) = true)) (fun h9x => ?_) (fun h9x => finF (ctx7 N) Try.f7 [.b false, .b false, .b false, .b false, .call (rf25 (List.length h0) a0nl h0rw h0 (some .r0)), .call (rf26 (List.length (([] : List Int) ++ h0)) ((Go.Abs.isEmptyCols [(Col.ints IntKind.u8 h0)]) && true) true (([] : List Int) ++ h0) (some (.r0 res_0nlc3 res_1c3 h1_0c3 h1_1c3 h1_2c3))), .call (rf27 (List.length h0) a0nl h0rw h0 (some (.r0 res_0nlc4 res_1c4 h1_0c4 h1_1c4 h1_2c4))), .call (rf28 (List.length h1_0) a1nl h1rw h1_0 h1_1 h1_2 (some (.r0 res_0nlc5 res_1c5 h1c5))), .call (rf29 (List.length h1_0) a1nl h1rw h1_0 h1_1 h1_2 (some (.r0 res_0nc6 res_0nlc6 res_1c6 h1c6))), .call (rf30 (List.length (([] : List Int) ++ h0)) ((Go.Abs.isEmptyCols [(Col.ints IntKind.u8 h0)]) && true) true (([] : List Int) ++ h0) (some (.r0 res_0nlc7 res_1c7 h1c7))), .call (rf31 (List.length h0) a0nl h0rw h0 (some (.r0 res_0nc8 res_0nlc8 res_1c8 h1c8))), .call (some (.bool true, [])), .b true, .b true, .b true, .b true, .b true, .b true, .b true, .b false, .b false, .b false, .b false, .b false, .b false, .b false, .b false, .b false, .b false, .b false, .b false, .b false, .b false, .b false, .b false, .b false, .b false, .b false, .b false, .b false, .b false] (by kernel_rfl) (ya (pF h0x) (yf (yf (ya (pF h1x) (ya (ys (ef25 N (List.length h0) a0nl h0rw h0) hc2) (ya (ys (ef26 N (List.length (([] : List Int) ++ h0)) ((Go.Abs.isEmptyCols [(Col.ints IntKind.u8 h0)]) && true) true (([] : List Int) ++ h0)) hc3) (ya (ys (ef27 N (List.length h0) a0nl h0rw h0) hc4) (ya (ys (ef28 N (List.length h1_0) a1nl h1rw h1_0 h1_1 h1_2) hc5) (ya (ys (ef29 N (List.length h1_0) a1nl h1rw h1_0 h1_1 h1_2) hc6) (ya (ys (ef30 N (List.length (([] : List Int) ++ h0)) ((Go.Abs.isEmptyCols [(Col.ints IntKind.u8 h0)]) && true) true (([] : List Int) ++ h0)) hc7) (ya (ys (ef31 N (List.length h0) a0nl h0rw h0) hc8) (ya hk32 (yt (yt (ya (pT (show ((List.length (([] : List Int) ++ h0)) = (List.length (([] : List Int) ++ h0))) by omega)) (yt (yt (ya (pT (show ((List.length h0) = (List.length h0)) by omega)) (yt (ya (pNB h9x) (yf (yf (yf (yf (yf (yf (yf (yf (yf (yf (yf (yf (yf (yf (yf (yf (yf (yf (yf (yf (yf yz))))))))))))))))))))))))))))))))))))))))))
                              cases hc10 : f33 N (List.length h1_0c3) (List.length h1_0c4) h1_0c3 h1_1c3 h1_2c3 h1_0c4 h1_1c4 h1_2c4 with
                              | none => exact finF (ctx7 N) Try.f7 [.b false, .b false, .b false, .b false, .call (rf25 (List.length h0) a0nl h0rw h0 (some .r0)), .call (rf26 (List.length (([] : List Int) ++ h0)) ((Go.Abs.isEmptyCols [(Col.ints IntKind.u8 h0)]) && true) true (([] : List Int) ++ h0) (some (.r0 res_0nlc3 res_1c3 h1_0c3 h1_1c3 h1_2c3))), .call (rf27 (List.length h0) a0nl h0rw h0 (some (.r0 res_0nlc4 res_1c4 h1_0c4 h1_1c4 h1_2c4))), .call (rf28 (List.length h1_0) a1nl h1rw h1_0 h1_1 h1_2 (some (.r0 res_0nlc5 res_1c5 h1c5))), .call (rf29 (List.length h1_0) a1nl h1rw h1_0 h1_1 h1_2 (some (.r0 res_0nc6 res_0nlc6 res_1c6 h1c6))), .call (rf30 (List.length (([] : List Int) ++ h0)) ((Go.Abs.isEmptyCols [(Col.ints IntKind.u8 h0)]) && true) true (([] : List Int) ++ h0) (some (.r0 res_0nlc7 res_1c7 h1c7))), .call (rf31 (List.length h0) a0nl h0rw h0 (some (.r0 res_0nc8 res_0nlc8 res_1c8 h1c8))), .call (some (.bool true, [])), .b true, .b true, .b true, .b true, .b true, .b true, .b true, .b true, .b true, .b true, .call (rf33 (List.length h1_0c3) res_0nlc3 (List.length h1_0c4) res_0nlc4 true h1_0c3 h1_1c3 h1_2c3 true h1_0c4 h1_1c4 h1_2c4 none)] (by kernel_rfl) (ya (pF h0x) (yf (yf (ya (pF h1x) (ya (ys (ef25 N (List.length h0) a0nl h0rw h0) hc2) (ya (ys (ef26 N (List.length (([] : List Int) ++ h0)) ((Go.Abs.isEmptyCols [(Col.ints IntKind.u8 h0)]) && true) true (([] : List Int) ++ h0)) hc3) (ya (ys (ef27 N (List.length h0) a0nl h0rw h0) hc4) (ya (ys (ef28 N (List.length h1_0) a1nl h1rw h1_0 h1_1 h1_2) hc5) (ya (ys (ef29 N (List.length h1_0) a1nl h1rw h1_0 h1_1 h1_2) hc6) (ya (ys (ef30 N (List.length (([] : List Int) ++ h0)) ((Go.Abs.isEmptyCols [(Col.ints IntKind.u8 h0)]) && true) true (([] : List Int) ++ h0)) hc7) (ya (ys (ef31 N (List.length h0) a0nl h0rw h0) hc8) (ya hk32 (yt (yt (ya (pT (show ((List.length (([] : List Int) ++ h0)) = (List.length (([] : List Int) ++ h0))) by omega)) (yt (yt (ya (pT (show ((List.length h0) = (List.length h0)) by omega)) (yt (ya h9x (yt (yt (ya (ys (ef33 N (List.length h1_0c3) res_0nlc3 (List.length h1_0c4) res_0nlc4 true h1_0c3 h1_1c3 h1_2c3 true h1_0c4 h1_1c4 h1_2c4) hc10) yz)))))))))))))))))))))))
                              | some o =>
                                cases o with
                                | r0 resc10 =>
                                  dsimp only
                                  refine br (p := (resc10 = true)) (fun h11x => ?_) (fun h11x => finF (ctx7 N) Try.f7 [.b false, .b false, .b false, .b false, .call (rf25 (List.length h0) a0nl h0rw h0 (some .r0)), .call (rf26 (List.length (([] : List Int) ++ h0)) ((Go.Abs.isEmptyCols [(Col.ints IntKind.u8 h0)]) && true) true (([] : List Int) ++ h0) (some (.r0 res_0nlc3 res_1c3 h1_0c3 h1_1c3 h1_2c3))), .call (rf27 (List.length h0) a0nl h0rw h0 (some (.r0 res_0nlc4 res_1c4 h1_0c4 h1_1c4 h1_2c4))), .call (rf28 (List.length h1_0) a1nl h1rw h1_0 h1_1 h1_2 (some (.r0 res_0nlc5 res_1c5 h1c5))), .call (rf29 (List.length h1_0) a1nl h1rw h1_0 h1_1 h1_2 (some (.r0 res_0nc6 res_0nlc6 res_1c6 h1c6))), .call (rf30 (List.length (([] : List Int) ++ h0)) ((Go.Abs.isEmptyCols [(Col.ints IntKind.u8 h0)]) && true) true (([] : List Int) ++ h0) (some (.r0 res_0nlc7 res_1c7 h1c7))), .call (rf31 (List.length h0) a0nl h0rw h0 (some (.r0 res_0nc8 res_0nlc8 res_1c8 h1c8))), .call (some (.bool true, [])), .b true, .b true, .b true, .b true, .b true, .b true, .b true, .b true, .b true, .b true, .call (rf33 (List.length h1_0c3) res_0nlc3 (List.length h1_0c4) res_0nlc4 true h1_0c3 h1_1c3 h1_2c3 true h1_0c4 h1_1c4 h1_2c4 (some (.r0 resc10))), .b false, .b false, .b false, .b false, .b false, .b false, .b false, .b false, .b false, .b false, .b false, .b false, .b false, .b false, .b false, .b false, .b false, .b false, .b false] (by kernel_rfl) (ya (pF h0x) (yf (yf (ya (pF h1x) (ya (ys (ef25 N (List.length h0) a0nl h0rw h0) hc2) (ya (ys (ef26 N (List.length (([] : List Int) ++ h0)) ((Go.Abs.isEmptyCols [(Col.ints IntKind.u8 h0)]) && true) true (([] : List Int) ++ h0)) hc3) (ya (ys (ef27 N (List.length h0) a0nl h0rw h0) hc4) (ya (ys (ef28 N (List.length h1_0) a1nl h1rw h1_0 h1_1 h1_2) hc5) (ya (ys (ef29 N (List.length h1_0) a1nl h1rw h1_0 h1_1 h1_2) hc6) (ya (ys (ef30 N (List.length (([] : List Int) ++ h0)) ((Go.Abs.isEmptyCols [(Col.ints IntKind.u8 h0)]) && true) true (([] : List Int) ++ h0)) hc7) (ya (ys (ef31 N (List.length h0) a0nl h0rw h0) hc8) (ya hk32 (yt (yt (ya (pT (show ((List.length (([] : List Int) ++ h0)) = (List.length (([] : List Int) ++ h0))) by omega)) (yt (yt (ya (pT (show ((List.length h0) = (List.length h0)) by omega)) (yt (ya h9x (yt (yt (ya (ys (ef33 N (List.length h1_0c3) res_0nlc3 (List.length h1_0c4) res_0nlc4 true h1_0c3 h1_1c3 h1_2c3 true h1_0c4 h1_1c4 h1_2c4) hc10) (ya (pNB h11x) (yf (yf (yf (yf (yf (yf (yf (yf (yf (yf (yf (yf (yf (yf (yf (yf (yf (yf yz)))))))))))))))))))))))))))))))))))))))))))
                                  refine br (p := (res_1c3 = res_1c4)) (fun h12x => ?_) (fun h12x => finF (ctx7 N) Try.f7 [.b false, .b false, .b false, .b false, .call (rf25 (List.length h0) a0nl h0rw h0 (some .r0)), .call (rf26 (List.length (([] : List Int) ++ h0)) ((Go.Abs.isEmptyCols [(Col.ints IntKind.u8 h0)]) && true) true (([] : List Int) ++ h0) (some (.r0 res_0nlc3 res_1c3 h1_0c3 h1_1c3 h1_2c3))), .call (rf27 (List.length h0) a0nl h0rw h0 (some (.r0 res_0nlc4 res_1c4 h1_0c4 h1_1c4 h1_2c4))), .call (rf28 (List.length h1_0) a1nl h1rw h1_0 h1_1 h1_2 (some (.r0 res_0nlc5 res_1c5 h1c5))), .call (rf29 (List.length h1_0) a1nl h1rw h1_0 h1_1 h1_2 (some (.r0 res_0nc6 res_0nlc6 res_1c6 h1c6))), .call (rf30 (List.length (([] : List Int) ++ h0)) ((Go.Abs.isEmptyCols [(Col.ints IntKind.u8 h0)]) && true) true (([] : List Int) ++ h0) (some (.r0 res_0nlc7 res_1c7 h1c7))), .call (rf31 (List.length h0) a0nl h0rw h0 (some (.r0 res_0nc8 res_0nlc8 res_1c8 h1c8))), .call (some (.bool true, [])), .b true, .b true, .b true, .b true, .b true, .b true, .b true, .b true, .b true, .b true, .call (rf33 (List.length h1_0c3) res_0nlc3 (List.length h1_0c4) res_0nlc4 true h1_0c3 h1_1c3 h1_2c3 true h1_0c4 h1_1c4 h1_2c4 (some (.r0 resc10))), .b true, .b true, .b true, .b false, .b false, .b false, .b false, .b false, .b false, .b false, .b false, .b false, .b false, .b false, .b false, .b false, .b false, .b false, .b false] (by kernel_rfl) (ya (pF h0x) (yf (yf (ya (pF h1x) (ya (ys (ef25 N (List.length h0) a0nl h0rw h0) hc2) (ya (ys (ef26 N (List.length (([] : List Int) ++ h0)) ((Go.Abs.isEmptyCols [(Col.ints IntKind.u8 h0)]) && true) true (([] : List Int) ++ h0)) hc3) (ya (ys (ef27 N (List.length h0) a0nl h0rw h0) hc4) (ya (ys (ef28 N (List.length h1_0) a1nl h1rw h1_0 h1_1 h1_2) hc5) (ya (ys (ef29 N (List.length h1_0) a1nl h1rw h1_0 h1_1 h1_2) hc6) (ya (ys (ef30 N (List.length (([] : List Int) ++ h0)) ((Go.Abs.isEmptyCols [(Col.ints IntKind.u8 h0)]) && true) true (([] : List Int) ++ h0)) hc7) (ya (ys (ef31 N (List.length h0) a0nl h0rw h0) hc8) (ya hk32 (yt (yt (ya (pT (show ((List.length (([] : List Int) ++ h0)) = (List.length (([] : List Int) ++ h0))) by omega)) (yt (yt (ya (pT (show ((List.length h0) = (List.length h0)) by omega)) (yt (ya h9x (yt (yt (ya (ys (ef33 N (List.length h1_0c3) res_0nlc3 (List.length h1_0c4) res_0nlc4 true h1_0c3 h1_1c3 h1_2c3 true h1_0c4 h1_1c4 h1_2c4) hc10) (ya h11x (yt (yt (ya (pNE h12x) (yf (yf (yf (yf (yf (yf (yf (yf (yf (yf (yf (yf (yf (yf (yf yz)))))))))))))))))))))))))))))))))))))))))))
                                  refine br (p := (res_0nc6 = (List.length h1c6))) (fun h13x => ?_) (fun h13x => finF (ctx7 N) Try.f7 [.b false, .b false, .b false, .b false, .call (rf25 (List.length h0) a0nl h0rw h0 (some .r0)), .call (rf26 (List.length (([] : List Int) ++ h0)) ((Go.Abs.isEmptyCols [(Col.ints IntKind.u8 h0)]) && true) true (([] : List Int) ++ h0) (some (.r0 res_0nlc3 res_1c3 h1_0c3 h1_1c3 h1_2c3))), .call (rf27 (List.length h0) a0nl h0rw h0 (some (.r0 res_0nlc4 res_1c4 h1_0c4 h1_1c4 h1_2c4))), .call (rf28 (List.length h1_0) a1nl h1rw h1_0 h1_1 h1_2 (some (.r0 res_0nlc5 res_1c5 h1c5))), .call (rf29 (List.length h1_0) a1nl h1rw h1_0 h1_1 h1_2 (some (.r0 res_0nc6 res_0nlc6 res_1c6 h1c6))), .call (rf30 (List.length (([] : List Int) ++ h0)) ((Go.Abs.isEmptyCols [(Col.ints IntKind.u8 h0)]) && true) true (([] : List Int) ++ h0) (some (.r0 res_0nlc7 res_1c7 h1c7))), .call (rf31 (List.length h0) a0nl h0rw h0 (some (.r0 res_0nc8 res_0nlc8 res_1c8 h1c8))), .call (some (.bool true, [])), .b true, .b true, .b true, .b true, .b true, .b true, .b true, .b true, .b true, .b true, .call (rf33 (List.length h1_0c3) res_0nlc3 (List.length h1_0c4) res_0nlc4 true h1_0c3 h1_1c3 h1_2c3 true h1_0c4 h1_1c4 h1_2c4 (some (.r0 resc10))), .b true, .b true, .b true, .b true, .b true, .b true, .b true, .b true, .b false] (by kernel_rfl) (ya (pF h0x) (yf (yf (ya (pF h1x) (ya (ys (ef25 N (List.length h0) a0nl h0rw h0) hc2) (ya (ys (ef26 N (List.length (([] : List Int) ++ h0)) ((Go.Abs.isEmptyCols [(Col.ints IntKind.u8 h0)]) && true) true (([] : List Int) ++ h0)) hc3) (ya (ys (ef27 N (List.length h0) a0nl h0rw h0) hc4) (ya (ys (ef28 N (List.length h1_0) a1nl h1rw h1_0 h1_1 h1_2) hc5) (ya (ys (ef29 N (List.length h1_0) a1nl h1rw h1_0 h1_1 h1_2) hc6) (ya (ys (ef30 N (List.length (([] : List Int) ++ h0)) ((Go.Abs.isEmptyCols [(Col.ints IntKind.u8 h0)]) && true) true (([] : List Int) ++ h0)) hc7) (ya (ys (ef31 N (List.length h0) a0nl h0rw h0) hc8) (ya hk32 (yt (yt (ya (pT (show ((List.length (([] : List Int) ++ h0)) = (List.length (([] : List Int) ++ h0))) by omega)) (yt (yt (ya (pT (show ((List.length h0) = (List.length h0)) by omega)) (yt (ya h9x (yt (yt (ya (ys (ef33 N (List.length h1_0c3) res_0nlc3 (List.length h1_0c4) res_0nlc4 true h1_0c3 h1_1c3 h1_2c3 true h1_0c4 h1_1c4 h1_2c4) hc10) (ya h11x (yt (yt (ya (pE h12x) (yt (ya (pT (show ((List.length h1c5) = (List.length h1c5)) by omega)) (yt (yt (ya (pF h13x) yz)))))))))))))))))))))))))))))))))
                                  refine br (p := (((ByteArray.toList (Go.Abs.mkStr h1c5)) == (ByteArray.toList (Go.Abs.mkStr h1c6))) = true)) (fun h14x => ?_) (fun h14x => finF (ctx7 N) Try.f7 [.b false, .b false, .b false, .b false, .call (rf25 (List.length h0) a0nl h0rw h0 (some .r0)), .call (rf26 (List.length (([] : List Int) ++ h0)) ((Go.Abs.isEmptyCols [(Col.ints IntKind.u8 h0)]) && true) true (([] : List Int) ++ h0) (some (.r0 res_0nlc3 res_1c3 h1_0c3 h1_1c3 h1_2c3))), .call (rf27 (List.length h0) a0nl h0rw h0 (some (.r0 res_0nlc4 res_1c4 h1_0c4 h1_1c4 h1_2c4))), .call (rf28 (List.length h1_0) a1nl h1rw h1_0 h1_1 h1_2 (some (.r0 res_0nlc5 res_1c5 h1c5))), .call (rf29 (List.length h1_0) a1nl h1rw h1_0 h1_1 h1_2 (some (.r0 res_0nc6 res_0nlc6 res_1c6 h1c6))), .call (rf30 (List.length (([] : List Int) ++ h0)) ((Go.Abs.isEmptyCols [(Col.ints IntKind.u8 h0)]) && true) true (([] : List Int) ++ h0) (some (.r0 res_0nlc7 res_1c7 h1c7))), .call (rf31 (List.length h0) a0nl h0rw h0 (some (.r0 res_0nc8 res_0nlc8 res_1c8 h1c8))), .call (some (.bool true, [])), .b true, .b true, .b true, .b true, .b true, .b true, .b true, .b true, .b true, .b true, .call (rf33 (List.length h1_0c3) res_0nlc3 (List.length h1_0c4) res_0nlc4 true h1_0c3 h1_1c3 h1_2c3 true h1_0c4 h1_1c4 h1_2c4 (some (.r0 resc10))), .b true, .b true, .b true, .b true, .b true, .b true, .b true, .b true, .b true, .b true, .b false, .b false, .b false, .b false, .b false, .b false, .b false, .b false, .b false, .b false, .b false] (by kernel_rfl) (ya (pF h0x) (yf (yf (ya (pF h1x) (ya (ys (ef25 N (List.length h0) a0nl h0rw h0) hc2) (ya (ys (ef26 N (List.length (([] : List Int) ++ h0)) ((Go.Abs.isEmptyCols [(Col.ints IntKind.u8 h0)]) && true) true (([] : List Int) ++ h0)) hc3) (ya (ys (ef27 N (List.length h0) a0nl h0rw h0) hc4) (ya (ys (ef28 N (List.length h1_0) a1nl h1rw h1_0 h1_1 h1_2) hc5) (ya (ys (ef29 N (List.length h1_0) a1nl h1rw h1_0 h1_1 h1_2) hc6) (ya (ys (ef30 N (List.length (([] : List Int) ++ h0)) ((Go.Abs.isEmptyCols [(Col.ints IntKind.u8 h0)]) && true) true (([] : List Int) ++ h0)) hc7) (ya (ys (ef31 N (List.length h0) a0nl h0rw h0) hc8) (ya hk32 (yt (yt (ya (pT (show ((List.length (([] : List Int) ++ h0)) = (List.length (([] : List Int) ++ h0))) by omega)) (yt (yt (ya (pT (show ((List.length h0) = (List.length h0)) by omega)) (yt (ya h9x (yt (yt (ya (ys (ef33 N (List.length h1_0c3) res_0nlc3 (List.length h1_0c4) res_0nlc4 true h1_0c3 h1_1c3 h1_2c3 true h1_0c4 h1_1c4 h1_2c4) hc10) (ya h11x (yt (yt (ya (pE h12x) (yt (ya (pT (show ((List.length h1c5) = (List.length h1c5)) by omega)) (yt (yt (ya (pT h13x) (yt (ya (pNB h14x) (yf (yf (yf (yf (yf (yf (yf (yf (yf (yf yz)))))))))))))))))))))))))))))))))))))))))))))
                                  refine br (p := (res_1c5 = res_1c6)) (fun h15x => ?_) (fun h15x => finF (ctx7 N) Try.f7 [.b false, .b false, .b false, .b false, .call (rf25 (List.length h0) a0nl h0rw h0 (some .r0)), .call (rf26 (List.length (([] : List Int) ++ h0)) ((Go.Abs.isEmptyCols [(Col.ints IntKind.u8 h0)]) && true) true (([] : List Int) ++ h0) (some (.r0 res_0nlc3 res_1c3 h1_0c3 h1_1c3 h1_2c3))), .call (rf27 (List.length h0) a0nl h0rw h0 (some (.r0 res_0nlc4 res_1c4 h1_0c4 h1_1c4 h1_2c4))), .call (rf28 (List.length h1_0) a1nl h1rw h1_0 h1_1 h1_2 (some (.r0 res_0nlc5 res_1c5 h1c5))), .call (rf29 (List.length h1_0) a1nl h1rw h1_0 h1_1 h1_2 (some (.r0 res_0nc6 res_0nlc6 res_1c6 h1c6))), .call (rf30 (List.length (([] : List Int) ++ h0)) ((Go.Abs.isEmptyCols [(Col.ints IntKind.u8 h0)]) && true) true (([] : List Int) ++ h0) (some (.r0 res_0nlc7 res_1c7 h1c7))), .call (rf31 (List.length h0) a0nl h0rw h0 (some (.r0 res_0nc8 res_0nlc8 res_1c8 h1c8))), .call (some (.bool true, [])), .b true, .b true, .b true, .b true, .b true, .b true, .b true, .b true, .b true, .b true, .call (rf33 (List.length h1_0c3) res_0nlc3 (List.length h1_0c4) res_0nlc4 true h1_0c3 h1_1c3 h1_2c3 true h1_0c4 h1_1c4 h1_2c4 (some (.r0 resc10))), .b true, .b true, .b true, .b true, .b true, .b true, .b true, .b true, .b true, .b true, .b true, .b true, .b true, .b false, .b false, .b false, .b false, .b false, .b false, .b false, .b false] (by kernel_rfl) (ya (pF h0x) (yf (yf (ya (pF h1x) (ya (ys (ef25 N (List.length h0) a0nl h0rw h0) hc2) (ya (ys (ef26 N (List.length (([] : List Int) ++ h0)) ((Go.Abs.isEmptyCols [(Col.ints IntKind.u8 h0)]) && true) true (([] : List Int) ++ h0)) hc3) (ya (ys (ef27 N (List.length h0) a0nl h0rw h0) hc4) (ya (ys (ef28 N (List.length h1_0) a1nl h1rw h1_0 h1_1 h1_2) hc5) (ya (ys (ef29 N (List.length h1_0) a1nl h1rw h1_0 h1_1 h1_2) hc6) (ya (ys (ef30 N (List.length (([] : List Int) ++ h0)) ((Go.Abs.isEmptyCols [(Col.ints IntKind.u8 h0)]) && true) true (([] : List Int) ++ h0)) hc7) (ya (ys (ef31 N (List.length h0) a0nl h0rw h0) hc8) (ya hk32 (yt (yt (ya (pT (show ((List.length (([] : List Int) ++ h0)) = (List.length (([] : List Int) ++ h0))) by omega)) (yt (yt (ya (pT (show ((List.length h0) = (List.length h0)) by omega)) (yt (ya h9x (yt (yt (ya (ys (ef33 N (List.length h1_0c3) res_0nlc3 (List.length h1_0c4) res_0nlc4 true h1_0c3 h1_1c3 h1_2c3 true h1_0c4 h1_1c4 h1_2c4) hc10) (ya h11x (yt (yt (ya (pE h12x) (yt (ya (pT (show ((List.length h1c5) = (List.length h1c5)) by omega)) (yt (yt (ya (pT h13x) (yt (ya h14x (yt (yt (ya (pNE h15x) (yf (yf (yf (yf (yf (yf (yf yz)))))))))))))))))))))))))))))))))))))))))))))
                                  refine br (p := (res_0nc8 = (List.length h1c8))) (fun h16x => ?_) (fun h16x => finF (ctx7 N) Try.f7 [.b false, .b false, .b false, .b false, .call (rf25 (List.length h0) a0nl h0rw h0 (some .r0)), .call (rf26 (List.length (([] : List Int) ++ h0)) ((Go.Abs.isEmptyCols [(Col.ints IntKind.u8 h0)]) && true) true (([] : List Int) ++ h0) (some (.r0 res_0nlc3 res_1c3 h1_0c3 h1_1c3 h1_2c3))), .call (rf27 (List.length h0) a0nl h0rw h0 (some (.r0 res_0nlc4 res_1c4 h1_0c4 h1_1c4 h1_2c4))), .call (rf28 (List.length h1_0) a1nl h1rw h1_0 h1_1 h1_2 (some (.r0 res_0nlc5 res_1c5 h1c5))), .call (rf29 (List.length h1_0) a1nl h1rw h1_0 h1_1 h1_2 (some (.r0 res_0nc6 res_0nlc6 res_1c6 h1c6))), .call (rf30 (List.length (([] : List Int) ++ h0)) ((Go.Abs.isEmptyCols [(Col.ints IntKind.u8 h0)]) && true) true (([] : List Int) ++ h0) (some (.r0 res_0nlc7 res_1c7 h1c7))), .call (rf31 (List.length h0) a0nl h0rw h0 (some (.r0 res_0nc8 res_0nlc8 res_1c8 h1c8))), .call (some (.bool true, [])), .b true, .b true, .b true, .b true, .b true, .b true, .b true, .b true, .b true, .b true, .call (rf33 (List.length h1_0c3) res_0nlc3 (List.length h1_0c4) res_0nlc4 true h1_0c3 h1_1c3 h1_2c3 true h1_0c4 h1_1c4 h1_2c4 (some (.r0 resc10))), .b true, .b true, .b true, .b true, .b true, .b true, .b true, .b true, .b true, .b true, .b true, .b true, .b true, .b true, .b true, .b true, .b true, .b true, .b false] (by kernel_rfl) (ya (pF h0x) (yf (yf (ya (pF h1x) (ya (ys (ef25 N (List.length h0) a0nl h0rw h0) hc2) (ya (ys (ef26 N (List.length (([] : List Int) ++ h0)) ((Go.Abs.isEmptyCols [(Col.ints IntKind.u8 h0)]) && true) true (([] : List Int) ++ h0)) hc3) (ya (ys (ef27 N (List.length h0) a0nl h0rw h0) hc4) (ya (ys (ef28 N (List.length h1_0) a1nl h1rw h1_0 h1_1 h1_2) hc5) (ya (ys (ef29 N (List.length h1_0) a1nl h1rw h1_0 h1_1 h1_2) hc6) (ya (ys (ef30 N (List.length (([] : List Int) ++ h0)) ((Go.Abs.isEmptyCols [(Col.ints IntKind.u8 h0)]) && true) true (([] : List Int) ++ h0)) hc7) (ya (ys (ef31 N (List.length h0) a0nl h0rw h0) hc8) (ya hk32 (yt (yt (ya (pT (show ((List.length (([] : List Int) ++ h0)) = (List.length (([] : List Int) ++ h0))) by omega)) (yt (yt (ya (pT (show ((List.length h0) = (List.length h0)) by omega)) (yt (ya h9x (yt (yt (ya (ys (ef33 N (List.length h1_0c3) res_0nlc3 (List.length h1_0c4) res_0nlc4 true h1_0c3 h1_1c3 h1_2c3 true h1_0c4 h1_1c4 h1_2c4) hc10) (ya h11x (yt (yt (ya (pE h12x) (yt (ya (pT (show ((List.length h1c5) = (List.length h1c5)) by omega)) (yt (yt (ya (pT h13x) (yt (ya h14x (yt (yt (ya (pE h15x) (yt (ya (pT (show ((List.length h1c7) = (List.length h1c7)) by omega)) (yt (yt (ya (pF h16x) yz)))))))))))))))))))))))))))))))))))))))))))
                                  refine br (p := (((ByteArray.toList (Go.Abs.mkStr h1c7)) == (ByteArray.toList (Go.Abs.mkStr h1c8))) = true)) (fun h17x => finF (ctx7 N) Try.f7 [.b false, .b false, .b false, .b false, .call (rf25 (List.length h0) a0nl h0rw h0 (some .r0)), .call (rf26 (List.length (([] : List Int) ++ h0)) ((Go.Abs.isEmptyCols [(Col.ints IntKind.u8 h0)]) && true) true (([] : List Int) ++ h0) (some (.r0 res_0nlc3 res_1c3 h1_0c3 h1_1c3 h1_2c3))), .call (rf27 (List.length h0) a0nl h0rw h0 (some (.r0 res_0nlc4 res_1c4 h1_0c4 h1_1c4 h1_2c4))), .call (rf28 (List.length h1_0) a1nl h1rw h1_0 h1_1 h1_2 (some (.r0 res_0nlc5 res_1c5 h1c5))), .call (rf29 (List.length h1_0) a1nl h1rw h1_0 h1_1 h1_2 (some (.r0 res_0nc6 res_0nlc6 res_1c6 h1c6))), .call (rf30 (List.length (([] : List Int) ++ h0)) ((Go.Abs.isEmptyCols [(Col.ints IntKind.u8 h0)]) && true) true (([] : List Int) ++ h0) (some (.r0 res_0nlc7 res_1c7 h1c7))), .call (rf31 (List.length h0) a0nl h0rw h0 (some (.r0 res_0nc8 res_0nlc8 res_1c8 h1c8))), .call (some (.bool true, [])), .b true, .b true, .b true, .b true, .b true, .b true, .b true, .b true, .b true, .b true, .call (rf33 (List.length h1_0c3) res_0nlc3 (List.length h1_0c4) res_0nlc4 true h1_0c3 h1_1c3 h1_2c3 true h1_0c4 h1_1c4 h1_2c4 (some (.r0 resc10))), .b true, .b true, .b true, .b true, .b true, .b true, .b true, .b true, .b true, .b true, .b true, .b true, .b true, .b true, .b true, .b true, .b true, .b true, .b true, .b true, .b true, .b true, .b true] (by kernel_rfl) (ya (pF h0x) (yf (yf (ya (pF h1x) (ya (ys (ef25 N (List.length h0) a0nl h0rw h0) hc2) (ya (ys (ef26 N (List.length (([] : List Int) ++ h0)) ((Go.Abs.isEmptyCols [(Col.ints IntKind.u8 h0)]) && true) true (([] : List Int) ++ h0)) hc3) (ya (ys (ef27 N (List.length h0) a0nl h0rw h0) hc4) (ya (ys (ef28 N (List.length h1_0) a1nl h1rw h1_0 h1_1 h1_2) hc5) (ya (ys (ef29 N (List.length h1_0) a1nl h1rw h1_0 h1_1 h1_2) hc6) (ya (ys (ef30 N (List.length (([] : List Int) ++ h0)) ((Go.Abs.isEmptyCols [(Col.ints IntKind.u8 h0)]) && true) true (([] : List Int) ++ h0)) hc7) (ya (ys (ef31 N (List.length h0) a0nl h0rw h0) hc8) (ya hk32 (yt (yt (ya (pT (show ((List.length (([] : List Int) ++ h0)) = (List.length (([] : List Int) ++ h0))) by omega)) (yt (yt (ya (pT (show ((List.length h0) = (List.length h0)) by omega)) (yt (ya h9x (yt (yt (ya (ys (ef33 N (List.length h1_0c3) res_0nlc3 (List.length h1_0c4) res_0nlc4 true h1_0c3 h1_1c3 h1_2c3 true h1_0c4 h1_1c4 h1_2c4) hc10) (ya h11x (yt (yt (ya (pE h12x) (yt (ya (pT (show ((List.length h1c5) = (List.length h1c5)) by omega)) (yt (yt (ya (pT h13x) (yt (ya h14x (yt (yt (ya (pE h15x) (yt (ya (pT (show ((List.length h1c7) = (List.length h1c7)) by omega)) (yt (yt (ya (pT h16x) (yt (ya h17x (yt (yt yz))))))))))))))))))))))))))))))))))))))))))))))) (fun h17x => ?_)
                                  exact finF (ctx7 N) Try.f7 [.b false, .b false, .b false, .b false, .call (rf25 (List.length h0) a0nl h0rw h0 (some .r0)), .call (rf26 (List.length (([] : List Int) ++ h0)) ((Go.Abs.isEmptyCols [(Col.ints IntKind.u8 h0)]) && true) true (([] : List Int) ++ h0) (some (.r0 res_0nlc3 res_1c3 h1_0c3 h1_1c3 h1_2c3))), .call (rf27 (List.length h0) a0nl h0rw h0 (some (.r0 res_0nlc4 res_1c4 h1_0c4 h1_1c4 h1_2c4))), .call (rf28 (List.length h1_0) a1nl h1rw h1_0 h1_1 h1_2 (some (.r0 res_0nlc5 res_1c5 h1c5))), .call (rf29 (List.length h1_0) a1nl h1rw h1_0 h1_1 h1_2 (some (.r0 res_0nc6 res_0nlc6 res_1c6 h1c6))), .call (rf30 (List.length (([] : List Int) ++ h0)) ((Go.Abs.isEmptyCols [(Col.ints IntKind.u8 h0)]) && true) true (([] : List Int) ++ h0) (some (.r0 res_0nlc7 res_1c7 h1c7))), .call (rf31 (List.length h0) a0nl h0rw h0 (some (.r0 res_0nc8 res_0nlc8 res_1c8 h1c8))), .call (some (.bool true, [])), .b true, .b true, .b true, .b true, .b true, .b true, .b true, .b true, .b true, .b true, .call (rf33 (List.length h1_0c3) res_0nlc3 (List.length h1_0c4) res_0nlc4 true h1_0c3 h1_1c3 h1_2c3 true h1_0c4 h1_1c4 h1_2c4 (some (.r0 resc10))), .b true, .b true, .b true, .b true, .b true, .b true, .b true, .b true, .b true, .b true, .b true, .b true, .b true, .b true, .b true, .b true, .b true, .b true, .b true, .b true, .b false, .b false, .b false] (by kernel_rfl) (ya (pF h0x) (yf (yf (ya (pF h1x) (ya (ys (ef25 N (List.length h0) a0nl h0rw h0) hc2) (ya (ys (ef26 N (List.length (([] : List Int) ++ h0)) ((Go.Abs.isEmptyCols [(Col.ints IntKind.u8 h0)]) && true) true (([] : List Int) ++ h0)) hc3) (ya (ys (ef27 N (List.length h0) a0nl h0rw h0) hc4) (ya (ys (ef28 N (List.length h1_0) a1nl h1rw h1_0 h1_1 h1_2) hc5) (ya (ys (ef29 N (List.length h1_0) a1nl h1rw h1_0 h1_1 h1_2) hc6) (ya (ys (ef30 N (List.length (([] : List Int) ++ h0)) ((Go.Abs.isEmptyCols [(Col.ints IntKind.u8 h0)]) && true) true (([] : List Int) ++ h0)) hc7) (ya (ys (ef31 N (List.length h0) a0nl h0rw h0) hc8) (ya hk32 (yt (yt (ya (pT (show ((List.length (([] : List Int) ++ h0)) = (List.length (([] : List Int) ++ h0))) by omega)) (yt (yt (ya (pT (show ((List.length h0) = (List.length h0)) by omega)) (yt (ya h9x (yt (yt (ya (ys (ef33 N (List.length h1_0c3) res_0nlc3 (List.length h1_0c4) res_0nlc4 true h1_0c3 h1_1c3 h1_2c3 true h1_0c4 h1_1c4 h1_2c4) hc10) (ya h11x (yt (yt (ya (pE h12x) (yt (ya (pT (show ((List.length h1c5) = (List.length h1c5)) by omega)) (yt (yt (ya (pT h13x) (yt (ya h14x (yt (yt (ya (pE h15x) (yt (ya (pT (show ((List.length h1c7) = (List.length h1c7)) by omega)) (yt (yt (ya (pT h16x) (yt (ya (pNB h17x) (yf (yf yz))))))))))))))))))))))))))))))))))))))))))))))
/-! 8, loop 17 -/
inductive Qlf8_17 where
  | e0 (s9 : Int)
def slf8_17 (N : Nat) (h0 : List Int) (s5k8 : Int) (s8k14 : Int) (n : Nat) (go : Int → Option Qlf8_17) (s9k17 : Int) : Option Qlf8_17 :=
 if (s9k17 < (258 : Int)) then
  if ((IntKind.wrap IntKind.i64 (s5k8 + s9k17)) < (((List.length h0) : Nat) : Int)) then
   if (((0 : Int) ≤ (IntKind.wrap IntKind.i64 (s5k8 + s9k17))) ∧ ((Int.toNat (IntKind.wrap IntKind.i64 (s5k8 + s9k17))) < (List.length h0))) then
    if (((0 : Int) ≤ (IntKind.wrap IntKind.i64 ((IntKind.wrap IntKind.i64 (s5k8 + s9k17)) - s8k14))) ∧ ((Int.toNat (IntKind.wrap IntKind.i64 ((IntKind.wrap IntKind.i64 (s5k8 + s9k17)) - s8k14))) < (List.length h0))) then
     if ((List.getD h0 (0 + (Int.toNat (IntKind.wrap IntKind.i64 (s5k8 + s9k17)))) (0 : Int)) = (List.getD h0 (0 + (Int.toNat (IntKind.wrap IntKind.i64 ((IntKind.wrap IntKind.i64 (s5k8 + s9k17)) - s8k14)))) (0 : Int))) then
      go (IntKind.wrap IntKind.i64 (s9k17 + (1 : Int)))
     else
     some (.e0 s9k17)
    else
     none
   else
    none
  else
   some (.e0 s9k17)
 else
  some (.e0 s9k17)
def lf8_17 (N : Nat) (h0 : List Int) (s5k8 : Int) (s8k14 : Int) : Nat → Int → Option Qlf8_17
  | 0, _ => none
  | n + 1, s9k17 => slf8_17 N h0 s5k8 s8k14 n (lf8_17 N h0 s5k8 s8k14 n) s9k17
def qlf8_17 (a0nl : Bool) (h0rw : Bool) (h0 : List Int) (res_0nlc1 : Bool) (h1_0c1 : List Int) (h1_1c1 : List Int) (h1_2c1 : List Int) (s5k8 : Int) (s6k8 : Int) (s8k14 : Int) : Option Qlf8_17 → Out
  | none => none
  | some (.e0 s9) => some ((XT.exit 4), (St.mk [(0, (AV.slice 0 0 0 (List.length h0) 1 a0nl true)), (3, (AV.slice 1 0 0 (List.length h1_0c1) 3 res_0nlc1 true)), (5, (AV.int IntKind.i64 s5k8)), (6, (AV.int IntKind.i64 s6k8)), (7, (AV.int IntKind.i64 (List.getD h1_1c1 (0 + (Int.toNat s6k8)) (0 : Int)))), (8, (AV.int IntKind.i64 s8k14)), (9, (AV.int IntKind.i64 s9))] [(Blk.dyn h0rw 5 [(Col.ints IntKind.u8 h0)]), (Blk.dyn true 62 [(Col.ints IntKind.i64 h1_0c1), (Col.ints IntKind.i64 h1_1c1), (Col.ints IntKind.i64 h1_2c1)])]))
theorem elf8_17 (N : Nat) (a0nl : Bool) (h0rw : Bool) (h0 : List Int) (res_0nlc1 : Bool) (h1_0c1 : List Int) (h1_1c1 : List Int) (h1_2c1 : List Int) (s5k8 : Int) (s6k8 : Int) (s8k14 : Int) (hk32 : sem32 N [] [] = some (.bool true, [])) : ∀ (n : Nat) (s9k17 : Int), qlf8_17 a0nl h0rw h0 res_0nlc1 h1_0c1 h1_1c1 h1_2c1 s5k8 s6k8 s8k14 (lf8_17 N h0 s5k8 s8k14 n s9k17) = lp (ctx8 N) 1 Try.f8 17 n (St.mk [(0, (AV.slice 0 0 0 (List.length h0) 1 a0nl true)), (3, (AV.slice 1 0 0 (List.length h1_0c1) 3 res_0nlc1 true)), (5, (AV.int IntKind.i64 s5k8)), (6, (AV.int IntKind.i64 s6k8)), (7, (AV.int IntKind.i64 (List.getD h1_1c1 (0 + (Int.toNat s6k8)) (0 : Int)))), (8, (AV.int IntKind.i64 s8k14)), (9, (AV.int IntKind.i64 s9k17))] [(Blk.dyn h0rw 5 [(Col.ints IntKind.u8 h0)]), (Blk.dyn true 62 [(Col.ints IntKind.i64 h1_0c1), (Col.ints IntKind.i64 h1_1c1), (Col.ints IntKind.i64 h1_2c1)])]) := by
  intro n
  induction n with
  | zero => intros; kernel_rfl
  | succ n ih =>
    intro s9k17
    rw [lf8_17]
    unfold slf8_17
    refine br (p := (s9k17 < (258 : Int))) (fun h37x => ?_) (fun h37x => finL (ctx8 N) 1 Try.f8 17 n [.b false, .b false, .b false, .b false, .b false, .b false, .b false, .b false, .b false, .b false, .b false, .b false, .b false, .b false, .b false, .b false, .b false, .b false, .b false, .b false, .b false, .b false] (by kernel_rfl) (ya (pF h37x) (yf (yf (yf (yf (yf (yf (yf (yf (yf (yf (yf (yf (yf (yf (yf (yf (yf (yf (yf (yf (yf yz)))))))))))))))))))))))
    refine br (p := ((IntKind.wrap IntKind.i64 (s5k8 + s9k17)) < (((List.length h0) : Nat) : Int))) (fun h38x => ?_) (fun h38x => finL (ctx8 N) 1 Try.f8 17 n [.b true, .b true, .b true, .b true, .b true, .b true, .b false, .b false, .b false, .b false, .b false, .b false, .b false, .b false, .b false, .b false, .b false, .b false, .b false, .b false, .b false, .b false] (by kernel_rfl) (ya (pT h37x) (yt (yt (yt (yt (yt (ya (pF h38x) (yf (yf (yf (yf (yf (yf (yf (yf (yf (yf (yf (yf (yf (yf (yf yz)))))))))))))))))))))))
    refine br (p := (((0 : Int) ≤ (IntKind.wrap IntKind.i64 (s5k8 + s9k17))) ∧ ((Int.toNat (IntKind.wrap IntKind.i64 (s5k8 + s9k17))) < (List.length h0)))) (fun h39x => ?_) (fun h39x => finL (ctx8 N) 1 Try.f8 17 n [.b true, .b true, .b true, .b true, .b true, .b true, .b true, .b true, .b true, .b true, .b true, .b false] (by kernel_rfl) (ya (pT h37x) (yt (yt (yt (yt (yt (ya (pT h38x) (yt (yt (yt (yt (ya (pF h39x) yz)))))))))))))
    refine br (p := (((0 : Int) ≤ (IntKind.wrap IntKind.i64 ((IntKind.wrap IntKind.i64 (s5k8 + s9k17)) - s8k14))) ∧ ((Int.toNat (IntKind.wrap IntKind.i64 ((IntKind.wrap IntKind.i64 (s5k8 + s9k17)) - s8k14))) < (List.length h0)))) (fun h40x => ?_) (fun h40x => finL (ctx8 N) 1 Try.f8 17 n [.b true, .b true, .b true, .b true, .b true, .b true, .b true, .b true, .b true, .b true, .b true, .b true, .b true, .b true, .b true, .b true, .b true, .b true, .b true, .b true, .b true, .b false] (by kernel_rfl) (ya (pT h37x) (yt (yt (yt (yt (yt (ya (pT h38x) (yt (yt (yt (yt (ya (pT h39x) (yt (ya (pT (show ((0 + (Int.toNat (IntKind.wrap IntKind.i64 (s5k8 + s9k17)))) < (List.length h0)) by omega)) (yt (yt (yt (yt (yt (yt (yt (ya (pF h40x) yz)))))))))))))))))))))))
    refine br (p := ((List.getD h0 (0 + (Int.toNat (IntKind.wrap IntKind.i64 (s5k8 + s9k17)))) (0 : Int)) = (List.getD h0 (0 + (Int.toNat (IntKind.wrap IntKind.i64 ((IntKind.wrap IntKind.i64 (s5k8 + s9k17)) - s8k14)))) (0 : Int)))) (fun h41x => (ih (IntKind.wrap IntKind.i64 (s9k17 + (1 : Int)))).trans (finL (ctx8 N) 1 Try.f8 17 n [.b true, .b true, .b true, .b true, .b true, .b true, .b true, .b true, .b true, .b true, .b true, .b true, .b true, .b true, .b true, .b true, .b true, .b true, .b true, .b true, .b true, .b true, .b true, .b true, .b true, .b true] (by kernel_rfl) (ya (pT h37x) (yt (yt (yt (yt (yt (ya (pT h38x) (yt (yt (yt (yt (ya (pT h39x) (yt (ya (pT (show ((0 + (Int.toNat (IntKind.wrap IntKind.i64 (s5k8 + s9k17)))) < (List.length h0)) by omega)) (yt (yt (yt (yt (yt (yt (yt (ya (pT h40x) (yt (ya (pT (show ((0 + (Int.toNat (IntKind.wrap IntKind.i64 ((IntKind.wrap IntKind.i64 (s5k8 + s9k17)) - s8k14)))) < (List.length h0)) by omega)) (yt (ya (pE h41x) yz)))))))))))))))))))))))))))) (fun h41x => ?_)
    exact finL (ctx8 N) 1 Try.f8 17 n [.b true, .b true, .b true, .b true, .b true, .b true, .b true, .b true, .b true, .b true, .b true, .b true, .b true, .b true, .b true, .b true, .b true, .b true, .b true, .b true, .b true, .b true, .b true, .b true, .b true, .b false] (by kernel_rfl) (ya (pT h37x) (yt (yt (yt (yt (yt (ya (pT h38x) (yt (yt (yt (yt (ya (pT h39x) (yt (ya (pT (show ((0 + (Int.toNat (IntKind.wrap IntKind.i64 (s5k8 + s9k17)))) < (List.length h0)) by omega)) (yt (yt (yt (yt (yt (yt (yt (ya (pT h40x) (yt (ya (pT (show ((0 + (Int.toNat (IntKind.wrap IntKind.i64 ((IntKind.wrap IntKind.i64 (s5k8 + s9k17)) - s8k14)))) < (List.length h0)) by omega)) (yt (ya (pNE h41x) yz))))))))))))))))))))))))))
/-! 8, loop 14 -/
inductive Qlf8_14 where
  | e0
  | e1
def slf8_14 (N : Nat) (h0 : List Int) (h1_0c1 : List Int) (h1_1c1 : List Int) (h1_2c1 : List Int) (s5k8 : Int) (s6k8 : Int) (n : Nat) (go : Int → Option Qlf8_14) (s8k14 : Int) : Option Qlf8_14 :=
 if (s8k14 ≤ s5k8) then
  if (s8k14 ≤ (1024 : Int)) then
   (match lf8_17 N h0 s5k8 s8k14 N (0 : Int) with
   | none => none
   | some (.e0 s9l42) =>
    if (s9l42 > (if ((2 : Int) > (List.getD h1_1c1 (0 + (Int.toNat s6k8)) (0 : Int))) then (2 : Int) else (List.getD h1_1c1 (0 + (Int.toNat s6k8)) (0 : Int)))) then
     some .e0
    else
     if (s9l42 = (List.getD h1_1c1 (0 + (Int.toNat s6k8)) (0 : Int))) then
      if ((List.getD h1_1c1 (0 + (Int.toNat s6k8)) (0 : Int)) > (0 : Int)) then
       if (((0 : Int) ≤ s6k8) ∧ ((Int.toNat s6k8) < (List.length h1_0c1))) then
        if (s8k14 < (List.getD h1_2c1 (0 + (Int.toNat s6k8)) (0 : Int))) then
         some .e0
        else
        go (IntKind.wrap IntKind.i64 (s8k14 + (1 : Int)))
       else
        none
      else
       go (IntKind.wrap IntKind.i64 (s8k14 + (1 : Int)))
     else
      go (IntKind.wrap IntKind.i64 (s8k14 + (1 : Int))))
  else
   some .e1
 else
  some .e1
def lf8_14 (N : Nat) (h0 : List Int) (h1_0c1 : List Int) (h1_1c1 : List Int) (h1_2c1 : List Int) (s5k8 : Int) (s6k8 : Int) : Nat → Int → Option Qlf8_14
  | 0, _ => none
  | n + 1, s8k14 => slf8_14 N h0 h1_0c1 h1_1c1 h1_2c1 s5k8 s6k8 n (lf8_14 N h0 h1_0c1 h1_1c1 h1_2c1 s5k8 s6k8 n) s8k14
def qlf8_14 (a0nl : Bool) (h0rw : Bool) (h0 : List Int) (res_0nlc1 : Bool) (h1_0c1 : List Int) (h1_1c1 : List Int) (h1_2c1 : List Int) (s5k8 : Int) (s6k8 : Int) : Option Qlf8_14 → Out
  | none => none
  | some .e0 => some (XT.ret, (St.mk [(2, (AV.bool false))] [(Blk.dyn h0rw 5 [(Col.ints IntKind.u8 h0)])]))
  | some .e1 => some ((XT.exit 2), (St.mk [(0, (AV.slice 0 0 0 (List.length h0) 1 a0nl true)), (3, (AV.slice 1 0 0 (List.length h1_0c1) 3 res_0nlc1 true)), (5, (AV.int IntKind.i64 s5k8)), (6, (AV.int IntKind.i64 s6k8)), (7, (AV.int IntKind.i64 (List.getD h1_1c1 (0 + (Int.toNat s6k8)) (0 : Int))))] [(Blk.dyn h0rw 5 [(Col.ints IntKind.u8 h0)]), (Blk.dyn true 62 [(Col.ints IntKind.i64 h1_0c1), (Col.ints IntKind.i64 h1_1c1), (Col.ints IntKind.i64 h1_2c1)])]))
theorem elf8_14 (N : Nat) (a0nl : Bool) (h0rw : Bool) (h0 : List Int) (res_0nlc1 : Bool) (h1_0c1 : List Int) (h1_1c1 : List Int) (h1_2c1 : List Int) (s5k8 : Int) (s6k8 : Int) (hk32 : sem32 N [] [] = some (.bool true, [])) : ∀ (n : Nat) (s8k14 : Int), qlf8_14 a0nl h0rw h0 res_0nlc1 h1_0c1 h1_1c1 h1_2c1 s5k8 s6k8 (lf8_14 N h0 h1_0c1 h1_1c1 h1_2c1 s5k8 s6k8 n s8k14) = lp (ctx8 N) 1 Try.f8 14 n (St.mk [(0, (AV.slice 0 0 0 (List.length h0) 1 a0nl true)), (3, (AV.slice 1 0 0 (List.length h1_0c1) 3 res_0nlc1 true)), (5, (AV.int IntKind.i64 s5k8)), (6, (AV.int IntKind.i64 s6k8)), (7, (AV.int IntKind.i64 (List.getD h1_1c1 (0 + (Int.toNat s6k8)) (0 : Int)))), (8, (AV.int IntKind.i64 s8k14))] [(Blk.dyn h0rw 5 [(Col.ints IntKind.u8 h0)]), (Blk.dyn true 62 [(Col.ints IntKind.i64 h1_0c1), (Col.ints IntKind.i64 h1_1c1), (Col.ints IntKind.i64 h1_2c1)])]) := by
  intro n
  induction n with
  | zero => intros; kernel_rfl
  | succ n ih =>
    intro s8k14
    rw [lf8_14]
    unfold slf8_14
    refine br (p := (s8k14 ≤ s5k8)) (fun h31x => ?_) (fun h31x => finL (ctx8 N) 1 Try.f8 14 n [.b false, .b false, .b false] (by kernel_rfl) (ya (pF h31x) (yf (yf yz))))
    refine br (p := (s8k14 ≤ (1024 : Int))) (fun h32x => ?_) (fun h32x => finL (ctx8 N) 1 Try.f8 14 n [.b true, .b true, .b false] (by kernel_rfl) (ya (pT h31x) (yt (ya (pF h32x) yz))))
    cases ho42 : lf8_17 N h0 s5k8 s8k14 N (0 : Int) with
    | none => exact finL (ctx8 N) 1 Try.f8 14 n [.b true, .b true, .b true, .out (qlf8_17 a0nl h0rw h0 res_0nlc1 h1_0c1 h1_1c1 h1_2c1 s5k8 s6k8 s8k14 none)] (by kernel_rfl) (ya (pT h31x) (yt (ya (pT h32x) (ya (ys (elf8_17 N a0nl h0rw h0 res_0nlc1 h1_0c1 h1_1c1 h1_2c1 s5k8 s6k8 s8k14 hk32 N (0 : Int)) ho42) yz))))
    | some o =>
      cases o with
      | e0 s9l42 =>
        dsimp only
        refine br (p := (s9l42 > (if ((2 : Int) > (List.getD h1_1c1 (0 + (Int.toNat s6k8)) (0 : Int))) then (2 : Int) else (List.getD h1_1c1 (0 + (Int.toNat s6k8)) (0 : Int))))) (fun h43x => finL (ctx8 N) 1 Try.f8 14 n [.b true, .b true, .b true, .out (qlf8_17 a0nl h0rw h0 res_0nlc1 h1_0c1 h1_1c1 h1_2c1 s5k8 s6k8 s8k14 (some (.e0 s9l42))), .b true, .b true, .b true, .b true, .b true, .b true, .b true, .b true] (by kernel_rfl) (ya (pT h31x) (yt (ya (pT h32x) (ya (ys (elf8_17 N a0nl h0rw h0 res_0nlc1 h1_0c1 h1_1c1 h1_2c1 s5k8 s6k8 s8k14 hk32 N (0 : Int)) ho42) (ya (pT h43x) (yt (yt (yt (yt (yt (yt (yt yz))))))))))))) (fun h43x => ?_)
        refine br (p := (s9l42 = (List.getD h1_1c1 (0 + (Int.toNat s6k8)) (0 : Int)))) (fun h44x => ?_) (fun h44x => (ih (IntKind.wrap IntKind.i64 (s8k14 + (1 : Int)))).trans (finL (ctx8 N) 1 Try.f8 14 n [.b true, .b true, .b true, .out (qlf8_17 a0nl h0rw h0 res_0nlc1 h1_0c1 h1_1c1 h1_2c1 s5k8 s6k8 s8k14 (some (.e0 s9l42))), .b false, .b false, .b false, .b false, .b false, .b false, .b false, .b false, .b false, .b false, .b false, .b false, .b false, .b false, .b false, .b false, .b false] (by kernel_rfl) (ya (pT h31x) (yt (ya (pT h32x) (ya (ys (elf8_17 N a0nl h0rw h0 res_0nlc1 h1_0c1 h1_1c1 h1_2c1 s5k8 s6k8 s8k14 hk32 N (0 : Int)) ho42) (ya (pF h43x) (yf (yf (yf (ya (pNE h44x) (yf (yf (yf (yf (yf (yf (yf (yf (yf (yf (yf (yf yz)))))))))))))))))))))))
        refine br (p := ((List.getD h1_1c1 (0 + (Int.toNat s6k8)) (0 : Int)) > (0 : Int))) (fun h45x => ?_) (fun h45x => (ih (IntKind.wrap IntKind.i64 (s8k14 + (1 : Int)))).trans (finL (ctx8 N) 1 Try.f8 14 n [.b true, .b true, .b true, .out (qlf8_17 a0nl h0rw h0 res_0nlc1 h1_0c1 h1_1c1 h1_2c1 s5k8 s6k8 s8k14 (some (.e0 s9l42))), .b false, .b false, .b false, .b false, .b true, .b true, .b false, .b false, .b false, .b false, .b false, .b false, .b false, .b false, .b false, .b false, .b false] (by kernel_rfl) (ya (pT h31x) (yt (ya (pT h32x) (ya (ys (elf8_17 N a0nl h0rw h0 res_0nlc1 h1_0c1 h1_1c1 h1_2c1 s5k8 s6k8 s8k14 hk32 N (0 : Int)) ho42) (ya (pF h43x) (yf (yf (yf (ya (pE h44x) (yt (yf (yf (ya (pF h45x) (yf (yf (yf (yf (yf (yf (yf (yf yz)))))))))))))))))))))))
        refine br (p := (((0 : Int) ≤ s6k8) ∧ ((Int.toNat s6k8) < (List.length h1_0c1)))) (fun h46x => ?_) (fun h46x => finL (ctx8 N) 1 Try.f8 14 n [.b true, .b true, .b true, .out (qlf8_17 a0nl h0rw h0 res_0nlc1 h1_0c1 h1_1c1 h1_2c1 s5k8 s6k8 s8k14 (some (.e0 s9l42))), .b false, .b false, .b false, .b false, .b true, .b true, .b false, .b false, .b true, .b true, .b true, .b true, .b false] (by kernel_rfl) (ya (pT h31x) (yt (ya (pT h32x) (ya (ys (elf8_17 N a0nl h0rw h0 res_0nlc1 h1_0c1 h1_1c1 h1_2c1 s5k8 s6k8 s8k14 hk32 N (0 : Int)) ho42) (ya (pF h43x) (yf (yf (yf (ya (pE h44x) (yt (yf (yf (ya (pT h45x) (yt (yt (yt (ya (pF h46x) yz))))))))))))))))))
        refine br (p := (s8k14 < (List.getD h1_2c1 (0 + (Int.toNat s6k8)) (0 : Int)))) (fun h47x => finL (ctx8 N) 1 Try.f8 14 n [.b true, .b true, .b true, .out (qlf8_17 a0nl h0rw h0 res_0nlc1 h1_0c1 h1_1c1 h1_2c1 s5k8 s6k8 s8k14 (some (.e0 s9l42))), .b false, .b false, .b false, .b false, .b true, .b true, .b false, .b false, .b true, .b true, .b true, .b true, .b true, .b true, .b true, .b true, .b true, .b false, .b true] (by kernel_rfl) (ya (pT h31x) (yt (ya (pT h32x) (ya (ys (elf8_17 N a0nl h0rw h0 res_0nlc1 h1_0c1 h1_1c1 h1_2c1 s5k8 s6k8 s8k14 hk32 N (0 : Int)) ho42) (ya (pF h43x) (yf (yf (yf (ya (pE h44x) (yt (yf (yf (ya (pT h45x) (yt (yt (yt (ya (pT h46x) (yt (yt (ya (pT (show ((0 + (Int.toNat s6k8)) < (List.length h1_0c1)) by omega)) (yt (yf (ya (pT h47x) yz)))))))))))))))))))))))) (fun h47x => ?_)
        exact (ih (IntKind.wrap IntKind.i64 (s8k14 + (1 : Int)))).trans (finL (ctx8 N) 1 Try.f8 14 n [.b true, .b true, .b true, .out (qlf8_17 a0nl h0rw h0 res_0nlc1 h1_0c1 h1_1c1 h1_2c1 s5k8 s6k8 s8k14 (some (.e0 s9l42))), .b false, .b false, .b false, .b false, .b true, .b true, .b false, .b false, .b true, .b true, .b true, .b true, .b true, .b true, .b true, .b true, .b true, .b false, .b false] (by kernel_rfl) (ya (pT h31x) (yt (ya (pT h32x) (ya (ys (elf8_17 N a0nl h0rw h0 res_0nlc1 h1_0c1 h1_1c1 h1_2c1 s5k8 s6k8 s8k14 hk32 N (0 : Int)) ho42) (ya (pF h43x) (yf (yf (yf (ya (pE h44x) (yt (yf (yf (ya (pT h45x) (yt (yt (yt (ya (pT h46x) (yt (yt (ya (pT (show ((0 + (Int.toNat s6k8)) < (List.length h1_0c1)) by omega)) (yt (yf (ya (pF h47x) yz))))))))))))))))))))))))
/-! 8, loop 8 -/
inductive Qlf8_8 where
  | e0
  | e1 (s5 : Int)
def slf8_8 (N : Nat) (h0 : List Int) (h1_0c1 : List Int) (h1_1c1 : List Int) (h1_2c1 : List Int) (n : Nat) (go : Int → Int → Option Qlf8_8) (s5k8 : Int) (s6k8 : Int) : Option Qlf8_8 :=
 if (s6k8 < (((List.length h1_0c1) : Nat) : Int)) then
  if (((0 : Int) ≤ s6k8) ∧ ((Int.toNat s6k8) < (List.length h1_0c1))) then
   if ((List.getD h1_1c1 (0 + (Int.toNat s6k8)) (0 : Int)) < (0 : Int)) then
    some .e0
   else
    if ((List.getD h1_1c1 (0 + (Int.toNat s6k8)) (0 : Int)) > (IntKind.wrap IntKind.i64 ((((List.length h0) : Nat) : Int) - s5k8))) then
     some .e0
    else
     if ((List.getD h1_2c1 (0 + (Int.toNat s6k8)) (0 : Int)) > s5k8) then
      some .e0
     else
      if (s5k8 ≥ (((List.length h0) : Nat) : Int)) then
       some .e0
      else
      (match lf8_14 N h0 h1_0c1 h1_1c1 h1_2c1 s5k8 s6k8 N (1 : Int) with
      | none => none
      | some .e0 =>
       some .e0
      | some .e1 =>
       go (IntKind.wrap IntKind.i64 (s5k8 + (if ((1 : Int) > (List.getD h1_1c1 (0 + (Int.toNat s6k8)) (0 : Int))) then (1 : Int) else (List.getD h1_1c1 (0 + (Int.toNat s6k8)) (0 : Int))))) (IntKind.wrap IntKind.i64 (s6k8 + (1 : Int))))
  else
   none
 else
  some (.e1 s5k8)
def lf8_8 (N : Nat) (h0 : List Int) (h1_0c1 : List Int) (h1_1c1 : List Int) (h1_2c1 : List Int) : Nat → Int → Int → Option Qlf8_8
  | 0, _, _ => none
  | n + 1, s5k8, s6k8 => slf8_8 N h0 h1_0c1 h1_1c1 h1_2c1 n (lf8_8 N h0 h1_0c1 h1_1c1 h1_2c1 n) s5k8 s6k8
def qlf8_8 (a0nl : Bool) (h0rw : Bool) (h0 : List Int) (res_0nlc1 : Bool) (h1_0c1 : List Int) (h1_1c1 : List Int) (h1_2c1 : List Int) : Option Qlf8_8 → Out
  | none => none
  | some .e0 => some (XT.ret, (St.mk [(2, (AV.bool false))] [(Blk.dyn h0rw 5 [(Col.ints IntKind.u8 h0)])]))
  | some (.e1 s5) => some ((XT.exit 0), (St.mk [(0, (AV.slice 0 0 0 (List.length h0) 1 a0nl true)), (5, (AV.int IntKind.i64 s5))] [(Blk.dyn h0rw 5 [(Col.ints IntKind.u8 h0)])]))
theorem elf8_8 (N : Nat) (a0nl : Bool) (h0rw : Bool) (h0 : List Int) (res_0nlc1 : Bool) (h1_0c1 : List Int) (h1_1c1 : List Int) (h1_2c1 : List Int) (hk32 : sem32 N [] [] = some (.bool true, [])) : ∀ (n : Nat) (s5k8 : Int) (s6k8 : Int), qlf8_8 a0nl h0rw h0 res_0nlc1 h1_0c1 h1_1c1 h1_2c1 (lf8_8 N h0 h1_0c1 h1_1c1 h1_2c1 n s5k8 s6k8) = lp (ctx8 N) 1 Try.f8 8 n (St.mk [(0, (AV.slice 0 0 0 (List.length h0) 1 a0nl true)), (3, (AV.slice 1 0 0 (List.length h1_0c1) 3 res_0nlc1 true)), (5, (AV.int IntKind.i64 s5k8)), (6, (AV.int IntKind.i64 s6k8))] [(Blk.dyn h0rw 5 [(Col.ints IntKind.u8 h0)]), (Blk.dyn true 62 [(Col.ints IntKind.i64 h1_0c1), (Col.ints IntKind.i64 h1_1c1), (Col.ints IntKind.i64 h1_2c1)])]) := by
  intro n
  induction n with
  | zero => intros; kernel_rfl
  | succ n ih =>
    intro s5k8 s6k8
    rw [lf8_8]
    unfold slf8_8
    refine br (p := (s6k8 < (((List.length h1_0c1) : Nat) : Int))) (fun h9x => ?_) (fun h9x => finL (ctx8 N) 1 Try.f8 8 n [.b false] (by kernel_rfl) (ya (pF h9x) yz))
    refine br (p := (((0 : Int) ≤ s6k8) ∧ ((Int.toNat s6k8) < (List.length h1_0c1)))) (fun h10x => ?_) (fun h10x => finL (ctx8 N) 1 Try.f8 8 n [.b true, .b false] (by kernel_rfl) (ya (pT h9x) (ya (pF h10x) yz)))
    refine br (p := ((List.getD h1_1c1 (0 + (Int.toNat s6k8)) (0 : Int)) < (0 : Int))) (fun h11x => finL (ctx8 N) 1 Try.f8 8 n [.b true, .b true, .b true, .b true, .b true, .b true, .b true, .b true, .b true, .b true, .b true, .b true, .b true, .b true, .b true, .b true, .b true, .b true, .b true, .b true, .b true] (by kernel_rfl) (ya (pT h9x) (ya (pT h10x) (ya (pT (show ((0 + (Int.toNat s6k8)) < (List.length h1_0c1)) by omega)) (ya (pT h11x) (yt (yt (yt (yt (yt (yt (yt (yt (yt (yt (yt (yt (yt (yt (yt (yt (yt yz)))))))))))))))))))))) (fun h11x => ?_)
    refine br (p := ((List.getD h1_1c1 (0 + (Int.toNat s6k8)) (0 : Int)) > (IntKind.wrap IntKind.i64 ((((List.length h0) : Nat) : Int) - s5k8)))) (fun h12x => finL (ctx8 N) 1 Try.f8 8 n [.b true, .b true, .b true, .b false, .b false, .b false, .b false, .b false, .b false, .b true, .b true, .b true, .b true, .b true, .b true, .b true, .b true, .b true, .b true, .b true, .b true] (by kernel_rfl) (ya (pT h9x) (ya (pT h10x) (ya (pT (show ((0 + (Int.toNat s6k8)) < (List.length h1_0c1)) by omega)) (ya (pF h11x) (yf (yf (yf (yf (yf (ya (pT h12x) (yt (yt (yt (yt (yt (yt (yt (yt (yt (yt (yt yz)))))))))))))))))))))) (fun h12x => ?_)
    refine br (p := ((List.getD h1_2c1 (0 + (Int.toNat s6k8)) (0 : Int)) > s5k8)) (fun h13x => finL (ctx8 N) 1 Try.f8 8 n [.b true, .b true, .b true, .b false, .b false, .b false, .b false, .b false, .b false, .b false, .b false, .b false, .b true, .b false, .b false, .b true, .b false, .b false, .b true, .b true, .b true, .b true, .b true] (by kernel_rfl) (ya (pT h9x) (ya (pT h10x) (ya (pT (show ((0 + (Int.toNat s6k8)) < (List.length h1_0c1)) by omega)) (ya (pF h11x) (yf (yf (yf (yf (yf (ya (pF h12x) (yf (yf (ya (pT h10x) (yf (yf (ya (pT (show ((0 + (Int.toNat s6k8)) < (List.length h1_0c1)) by omega)) (yf (yf (ya (pT h13x) (yt (yt (yt (yt yz)))))))))))))))))))))))) (fun h13x => ?_)
    refine br (p := (s5k8 ≥ (((List.length h0) : Nat) : Int))) (fun h14x => finL (ctx8 N) 1 Try.f8 8 n [.b true, .b true, .b true, .b false, .b false, .b false, .b false, .b false, .b false, .b false, .b false, .b false, .b true, .b false, .b false, .b true, .b false, .b false, .b false, .b false, .b false, .b false, .b true] (by kernel_rfl) (ya (pT h9x) (ya (pT h10x) (ya (pT (show ((0 + (Int.toNat s6k8)) < (List.length h1_0c1)) by omega)) (ya (pF h11x) (yf (yf (yf (yf (yf (ya (pF h12x) (yf (yf (ya (pT h10x) (yf (yf (ya (pT (show ((0 + (Int.toNat s6k8)) < (List.length h1_0c1)) by omega)) (yf (yf (ya (pF h13x) (yf (yf (yf (ya (pT h14x) yz)))))))))))))))))))))))) (fun h14x => ?_)
    cases ho48 : lf8_14 N h0 h1_0c1 h1_1c1 h1_2c1 s5k8 s6k8 N (1 : Int) with
    | none => exact finL (ctx8 N) 1 Try.f8 8 n [.b true, .b true, .b true, .b false, .b false, .b false, .b false, .b false, .b false, .b false, .b false, .b false, .b true, .b false, .b false, .b true, .b false, .b false, .b false, .b false, .b false, .b false, .b false, .out (qlf8_14 a0nl h0rw h0 res_0nlc1 h1_0c1 h1_1c1 h1_2c1 s5k8 s6k8 none)] (by kernel_rfl) (ya (pT h9x) (ya (pT h10x) (ya (pT (show ((0 + (Int.toNat s6k8)) < (List.length h1_0c1)) by omega)) (ya (pF h11x) (yf (yf (yf (yf (yf (ya (pF h12x) (yf (yf (ya (pT h10x) (yf (yf (ya (pT (show ((0 + (Int.toNat s6k8)) < (List.length h1_0c1)) by omega)) (yf (yf (ya (pF h13x) (yf (yf (yf (ya (pF h14x) (ya (ys (elf8_14 N a0nl h0rw h0 res_0nlc1 h1_0c1 h1_1c1 h1_2c1 s5k8 s6k8 hk32 N (1 : Int)) ho48) yz))))))))))))))))))))))))
    | some o =>
      cases o with
      | e0 =>
        dsimp only
        exact finL (ctx8 N) 1 Try.f8 8 n [.b true, .b true, .b true, .b false, .b false, .b false, .b false, .b false, .b false, .b false, .b false, .b false, .b true, .b false, .b false, .b true, .b false, .b false, .b false, .b false, .b false, .b false, .b false, .out (qlf8_14 a0nl h0rw h0 res_0nlc1 h1_0c1 h1_1c1 h1_2c1 s5k8 s6k8 (some .e0))] (by kernel_rfl) (ya (pT h9x) (ya (pT h10x) (ya (pT (show ((0 + (Int.toNat s6k8)) < (List.length h1_0c1)) by omega)) (ya (pF h11x) (yf (yf (yf (yf (yf (ya (pF h12x) (yf (yf (ya (pT h10x) (yf (yf (ya (pT (show ((0 + (Int.toNat s6k8)) < (List.length h1_0c1)) by omega)) (yf (yf (ya (pF h13x) (yf (yf (yf (ya (pF h14x) (ya (ys (elf8_14 N a0nl h0rw h0 res_0nlc1 h1_0c1 h1_1c1 h1_2c1 s5k8 s6k8 hk32 N (1 : Int)) ho48) yz))))))))))))))))))))))))
      | e1 =>
        dsimp only
        exact (ih (IntKind.wrap IntKind.i64 (s5k8 + (if ((1 : Int) > (List.getD h1_1c1 (0 + (Int.toNat s6k8)) (0 : Int))) then (1 : Int) else (List.getD h1_1c1 (0 + (Int.toNat s6k8)) (0 : Int))))) (IntKind.wrap IntKind.i64 (s6k8 + (1 : Int)))).trans (finL (ctx8 N) 1 Try.f8 8 n [.b true, .b true, .b true, .b false, .b false, .b false, .b false, .b false, .b false, .b false, .b false, .b false, .b true, .b false, .b false, .b true, .b false, .b false, .b false, .b false, .b false, .b false, .b false, .out (qlf8_14 a0nl h0rw h0 res_0nlc1 h1_0c1 h1_1c1 h1_2c1 s5k8 s6k8 (some .e1))] (by kernel_rfl) (ya (pT h9x) (ya (pT h10x) (ya (pT (show ((0 + (Int.toNat s6k8)) < (List.length h1_0c1)) by omega)) (ya (pF h11x) (yf (yf (yf (yf (yf (ya (pF h12x) (yf (yf (ya (pT h10x) (yf (yf (ya (pT (show ((0 + (Int.toNat s6k8)) < (List.length h1_0c1)) by omega)) (yf (yf (ya (pF h13x) (yf (yf (yf (ya (pF h14x) (ya (ys (elf8_14 N a0nl h0rw h0 res_0nlc1 h1_0c1 h1_1c1 h1_2c1 s5k8 s6k8 hk32 N (1 : Int)) ho48) yz)))))))))))))))))))))))))
/-! 8 -/
inductive Rf8 where
  | r0 (res : Bool)
def f8 (N : Nat) (h0 : List Int) : Option Rf8 :=
 if ((((List.length h0) : Nat) : Int) > (300 : Int)) then
  some (.r0 true)
 else
 (match f26 N (List.length h0) h0 with
 | none => none
 | some (.r0 res_0nlc1 res_1c1 h1_0c1 h1_1c1 h1_2c1) =>
  if (res_1c1 = (0 : Int)) then
   (match lf8_8 N h0 h1_0c1 h1_1c1 h1_2c1 N (0 : Int) (0 : Int) with
   | none => none
   | some .e0 =>
    some (.r0 false)
   | some (.e1 s5l49) =>
    some (.r0 (s5l49 == (((List.length h0) : Nat) : Int))))
  else
   some (.r0 false))
def rf8 (a0nl : Bool) (h0rw : Bool) (h0 : List Int) : Option Rf8 → Option (AV × Heap)
  | none => none
  | some (.r0 res) => some ((AV.bool res), [(Blk.dyn h0rw 5 [(Col.ints IntKind.u8 h0)])])
theorem ef8 (N : Nat) (a0nl : Bool) (h0rw : Bool) (h0 : List Int) (hk32 : sem32 N [] [] = some (.bool true, [])) : rf8 a0nl h0rw h0 (f8 N h0) = sem8 N [(AV.slice 0 0 0 (List.length h0) 1 a0nl true)] [(Blk.dyn h0rw 5 [(Col.ints IntKind.u8 h0)])] := by
  unfold f8
  refine br (p := ((((List.length h0) : Nat) : Int) > (300 : Int))) (fun h0x => finF (ctx8 N) Try.f8 [.b true] (by kernel_rfl) (ya (pT h0x) yz)) (fun h0x => ?_)
  cases hc1 : f26 N (List.length h0) h0 with
  | none => exact finF (ctx8 N) Try.f8 [.b false, .call (rf26 (List.length h0) a0nl h0rw h0 none)] (by kernel_rfl) (ya (pF h0x) (ya (ys (ef26 N (List.length h0) a0nl h0rw h0) hc1) yz))
  | some o =>
    cases o with
    | r0 res_0nlc1 res_1c1 h1_0c1 h1_1c1 h1_2c1 =>
      dsimp only
      refine br (p := (res_1c1 = (0 : Int))) (fun h2x => ?_) (fun h2x => finF (ctx8 N) Try.f8 [.b false, .call (rf26 (List.length h0) a0nl h0rw h0 (some (.r0 res_0nlc1 res_1c1 h1_0c1 h1_1c1 h1_2c1))), .b true] (by kernel_rfl) (ya (pF h0x) (ya (ys (ef26 N (List.length h0) a0nl h0rw h0) hc1) (ya (pNX h2x) yz))))
      cases ho49 : lf8_8 N h0 h1_0c1 h1_1c1 h1_2c1 N (0 : Int) (0 : Int) with
      | none => exact finF (ctx8 N) Try.f8 [.b false, .call (rf26 (List.length h0) a0nl h0rw h0 (some (.r0 res_0nlc1 res_1c1 h1_0c1 h1_1c1 h1_2c1))), .b false, .out (qlf8_8 a0nl h0rw h0 res_0nlc1 h1_0c1 h1_1c1 h1_2c1 none)] (by kernel_rfl) (ya (pF h0x) (ya (ys (ef26 N (List.length h0) a0nl h0rw h0) hc1) (ya (pX h2x) (ya (ys (elf8_8 N a0nl h0rw h0 res_0nlc1 h1_0c1 h1_1c1 h1_2c1 hk32 N (0 : Int) (0 : Int)) ho49) yz))))
      | some o =>
        cases o with
        | e0 =>
          dsimp only
          exact finF (ctx8 N) Try.f8 [.b false, .call (rf26 (List.length h0) a0nl h0rw h0 (some (.r0 res_0nlc1 res_1c1 h1_0c1 h1_1c1 h1_2c1))), .b false, .out (qlf8_8 a0nl h0rw h0 res_0nlc1 h1_0c1 h1_1c1 h1_2c1 (some .e0))] (by kernel_rfl) (ya (pF h0x) (ya (ys (ef26 N (List.length h0) a0nl h0rw h0) hc1) (ya (pX h2x) (ya (ys (elf8_8 N a0nl h0rw h0 res_0nlc1 h1_0c1 h1_1c1 h1_2c1 hk32 N (0 : Int) (0 : Int)) ho49) yz))))
        | e1 s5l49 =>
          dsimp only
          exact finF (ctx8 N) Try.f8 [.b false, .call (rf26 (List.length h0) a0nl h0rw h0 (some (.r0 res_0nlc1 res_1c1 h1_0c1 h1_1c1 h1_2c1))), .b false, .out (qlf8_8 a0nl h0rw h0 res_0nlc1 h1_0c1 h1_1c1 h1_2c1 (some (.e1 s5l49))), .call (some (.bool true, [])), .b true, .b true, .b true, .b true] (by kernel_rfl) (ya (pF h0x) (ya (ys (ef26 N (List.length h0) a0nl h0rw h0) hc1) (ya (pX h2x) (ya (ys (elf8_8 N a0nl h0rw h0 res_0nlc1 h1_0c1 h1_1c1 h1_2c1 hk32 N (0 : Int) (0 : Int)) ho49) (ya hk32 (yt (yt (yt (yt yz)))))))))
/-! 9, loop 5 -/
inductive Qlf9_5 where
  | e0 (h0 : List Int)
def slf9_5 (N : Nat) (a0 : Int) (a1 : Int) (n : Nat) (go : Int → List Int → Option Qlf9_5) (s6k5 : Int) (h0k5 : List Int) : Option Qlf9_5 :=
 if (s6k5 < a1) then
  if (((0 : Int) ≤ s6k5) ∧ ((Int.toNat s6k5) < (Int.toNat a1))) then
   if ((0 + (Int.toNat s6k5)) < (List.length h0k5)) then
    go (IntKind.wrap IntKind.i64 (s6k5 + (1 : Int))) (List.set h0k5 (0 + (Int.toNat s6k5)) a0)
   else
   none
  else
   none
 else
  some (.e0 h0k5)
def lf9_5 (N : Nat) (a0 : Int) (a1 : Int) : Nat → Int → List Int → Option Qlf9_5
  | 0, _, _ => none
  | n + 1, s6k5, h0k5 => slf9_5 N a0 a1 n (lf9_5 N a0 a1 n) s6k5 h0k5
def qlf9_5 (a0 : Int) (a1 : Int) : Option Qlf9_5 → Out
  | none => none
  | some (.e0 h0) => some ((XT.exit 0), (St.mk [(0, (AV.int IntKind.u8 a0)), (1, (AV.int IntKind.i64 a1)), (5, (AV.slice 0 0 0 (Int.toNat a1) 1 false true))] [(Blk.dyn true 5 [(Col.ints IntKind.u8 h0)])]))
theorem elf9_5 (N : Nat) (a0 : Int) (a1 : Int) (hk32 : sem32 N [] [] = some (.bool true, [])) : ∀ (n : Nat) (s6k5 : Int) (h0k5 : List Int), qlf9_5 a0 a1 (lf9_5 N a0 a1 n s6k5 h0k5) = lp (ctx9 N) 0 Try.f9 5 n (St.mk [(0, (AV.int IntKind.u8 a0)), (1, (AV.int IntKind.i64 a1)), (5, (AV.slice 0 0 0 (Int.toNat a1) 1 false true)), (6, (AV.int IntKind.i64 s6k5))] [(Blk.dyn true 5 [(Col.ints IntKind.u8 h0k5)])]) := by
  intro n
  induction n with
  | zero => intros; kernel_rfl
  | succ n ih =>
    intro s6k5 h0k5
    rw [lf9_5]
    unfold slf9_5
    refine br (p := (s6k5 < a1)) (fun h4x => ?_) (fun h4x => finL (ctx9 N) 0 Try.f9 5 n [.b false] (by kernel_rfl) (ya (pF h4x) yz))
    refine br (p := (((0 : Int) ≤ s6k5) ∧ ((Int.toNat s6k5) < (Int.toNat a1)))) (fun h5x => ?_) (fun h5x => finL (ctx9 N) 0 Try.f9 5 n [.b true, .b false] (by kernel_rfl) (ya (pT h4x) (ya (pF h5x) yz)))
    refine br (p := ((0 + (Int.toNat s6k5)) < (List.length h0k5))) (fun h6x => (ih (IntKind.wrap IntKind.i64 (s6k5 + (1 : Int))) (List.set h0k5 (0 + (Int.toNat s6k5)) a0)).trans (finL (ctx9 N) 0 Try.f9 5 n [.b true, .b true, .b true] (by kernel_rfl) (ya (pT h4x) (ya (pT h5x) (ya (pT h6x) yz))))) (fun h6x => ?_)
    exact finL (ctx9 N) 0 Try.f9 5 n [.b true, .b true, .b false] (by kernel_rfl) (ya (pT h4x) (ya (pT h5x) (ya (pF h6x) yz)))
/-! 9, loop 11 -/
inductive Qlf9_11 where
  | e0
  | e1 (s9 : Int)
def slf9_11 (N : Nat) (a0 : Int) (h1_0c8 : List Int) (h1_1c8 : List Int) (h1_2c8 : List Int) (n : Nat) (go : Int → Int → Option Qlf9_11) (s9k11 : Int) (s10k11 : Int) : Option Qlf9_11 :=
 if (s10k11 < (((List.length h1_0c8) : Nat) : Int)) then
  if (((0 : Int) ≤ s10k11) ∧ ((Int.toNat s10k11) < (List.length h1_0c8))) then
   if (s10k11 > (0 : Int)) then
    if (s9k11 ≥ (3 : Int)) then
     if ((List.getD h1_1c8 (0 + (Int.toNat s10k11)) (0 : Int)) = (if ((258 : Int) < s9k11) then (258 : Int) else s9k11)) then
      if ((List.getD h1_2c8 (0 + (Int.toNat s10k11)) (0 : Int)) = (1 : Int)) then
       if (s10k11 = (0 : Int)) then
        if ((List.getD h1_1c8 (0 + (Int.toNat s10k11)) (0 : Int)) = (0 : Int)) then
         if ((List.getD h1_0c8 (0 + (Int.toNat s10k11)) (0 : Int)) = (IntKind.wrap IntKind.i64 a0)) then
          go (IntKind.wrap IntKind.i64 (s9k11 - (if ((1 : Int) > (List.getD h1_1c8 (0 + (Int.toNat s10k11)) (0 : Int))) then (1 : Int) else (List.getD h1_1c8 (0 + (Int.toNat s10k11)) (0 : Int))))) (IntKind.wrap IntKind.i64 (s10k11 + (1 : Int)))
         else
         some .e0
        else
         some .e0
       else
        if (s9k11 < (3 : Int)) then
         if ((List.getD h1_1c8 (0 + (Int.toNat s10k11)) (0 : Int)) = (0 : Int)) then
          if ((List.getD h1_0c8 (0 + (Int.toNat s10k11)) (0 : Int)) = (IntKind.wrap IntKind.i64 a0)) then
           go (IntKind.wrap IntKind.i64 (s9k11 - (if ((1 : Int) > (List.getD h1_1c8 (0 + (Int.toNat s10k11)) (0 : Int))) then (1 : Int) else (List.getD h1_1c8 (0 + (Int.toNat s10k11)) (0 : Int))))) (IntKind.wrap IntKind.i64 (s10k11 + (1 : Int)))
          else
          some .e0
         else
          some .e0
        else
         go (IntKind.wrap IntKind.i64 (s9k11 - (if ((1 : Int) > (List.getD h1_1c8 (0 + (Int.toNat s10k11)) (0 : Int))) then (1 : Int) else (List.getD h1_1c8 (0 + (Int.toNat s10k11)) (0 : Int))))) (IntKind.wrap IntKind.i64 (s10k11 + (1 : Int)))
      else
       some .e0
     else
      some .e0
    else
     if (s10k11 = (0 : Int)) then
      if ((List.getD h1_1c8 (0 + (Int.toNat s10k11)) (0 : Int)) = (0 : Int)) then
       if ((List.getD h1_0c8 (0 + (Int.toNat s10k11)) (0 : Int)) = (IntKind.wrap IntKind.i64 a0)) then
        go (IntKind.wrap IntKind.i64 (s9k11 - (if ((1 : Int) > (List.getD h1_1c8 (0 + (Int.toNat s10k11)) (0 : Int))) then (1 : Int) else (List.getD h1_1c8 (0 + (Int.toNat s10k11)) (0 : Int))))) (IntKind.wrap IntKind.i64 (s10k11 + (1 : Int)))
       else
       some .e0
      else
       some .e0
     else
      if (s9k11 < (3 : Int)) then
       if ((List.getD h1_1c8 (0 + (Int.toNat s10k11)) (0 : Int)) = (0 : Int)) then
        if ((List.getD h1_0c8 (0 + (Int.toNat s10k11)) (0 : Int)) = (IntKind.wrap IntKind.i64 a0)) then
         go (IntKind.wrap IntKind.i64 (s9k11 - (if ((1 : Int) > (List.getD h1_1c8 (0 + (Int.toNat s10k11)) (0 : Int))) then (1 : Int) else (List.getD h1_1c8 (0 + (Int.toNat s10k11)) (0 : Int))))) (IntKind.wrap IntKind.i64 (s10k11 + (1 : Int)))
        else
        some .e0
       else
        some .e0
      else
       go (IntKind.wrap IntKind.i64 (s9k11 - (if ((1 : Int) > (List.getD h1_1c8 (0 + (Int.toNat s10k11)) (0 : Int))) then (1 : Int) else (List.getD h1_1c8 (0 + (Int.toNat s10k11)) (0 : Int))))) (IntKind.wrap IntKind.i64 (s10k11 + (1 : Int)))
   else
    if (s10k11 = (0 : Int)) then
     if ((List.getD h1_1c8 (0 + (Int.toNat s10k11)) (0 : Int)) = (0 : Int)) then
      if ((List.getD h1_0c8 (0 + (Int.toNat s10k11)) (0 : Int)) = (IntKind.wrap IntKind.i64 a0)) then
       go (IntKind.wrap IntKind.i64 (s9k11 - (if ((1 : Int) > (List.getD h1_1c8 (0 + (Int.toNat s10k11)) (0 : Int))) then (1 : Int) else (List.getD h1_1c8 (0 + (Int.toNat s10k11)) (0 : Int))))) (IntKind.wrap IntKind.i64 (s10k11 + (1 : Int)))
      else
      some .e0
     else
      some .e0
    else
     if (s9k11 < (3 : Int)) then
      if ((List.getD h1_1c8 (0 + (Int.toNat s10k11)) (0 : Int)) = (0 : Int)) then
       if ((List.getD h1_0c8 (0 + (Int.toNat s10k11)) (0 : Int)) = (IntKind.wrap IntKind.i64 a0)) then
        go (IntKind.wrap IntKind.i64 (s9k11 - (if ((1 : Int) > (List.getD h1_1c8 (0 + (Int.toNat s10k11)) (0 : Int))) then (1 : Int) else (List.getD h1_1c8 (0 + (Int.toNat s10k11)) (0 : Int))))) (IntKind.wrap IntKind.i64 (s10k11 + (1 : Int)))
       else
       some .e0
      else
       some .e0
     else
      go (IntKind.wrap IntKind.i64 (s9k11 - (if ((1 : Int) > (List.getD h1_1c8 (0 + (Int.toNat s10k11)) (0 : Int))) then (1 : Int) else (List.getD h1_1c8 (0 + (Int.toNat s10k11)) (0 : Int))))) (IntKind.wrap IntKind.i64 (s10k11 + (1 : Int)))
  else
   none
 else
  some (.e1 s9k11)
def lf9_11 (N : Nat) (a0 : Int) (h1_0c8 : List Int) (h1_1c8 : List Int) (h1_2c8 : List Int) : Nat → Int → Int → Option Qlf9_11
  | 0, _, _ => none
  | n + 1, s9k11, s10k11 => slf9_11 N a0 h1_0c8 h1_1c8 h1_2c8 n (lf9_11 N a0 h1_0c8 h1_1c8 h1_2c8 n) s9k11 s10k11
def qlf9_11 (a0 : Int) (res_0nlc8 : Bool) (res_1c8 : Int) (h1_0c8 : List Int) (h1_1c8 : List Int) (h1_2c8 : List Int) : Option Qlf9_11 → Out
  | none => none
  | some .e0 => some (XT.ret, (St.mk [(4, (AV.bool false))] ([] : List Blk)))
  | some (.e1 s9) => some ((XT.exit 2), (St.mk [(8, (AV.int IntKind.i64 res_1c8)), (9, (AV.int IntKind.i64 s9))] ([] : List Blk)))
theorem elf9_11 (N : Nat) (a0 : Int) (res_0nlc8 : Bool) (res_1c8 : Int) (h1_0c8 : List Int) (h1_1c8 : List Int) (h1_2c8 : List Int) (hk32 : sem32 N [] [] = some (.bool true, [])) : ∀ (n : Nat) (s9k11 : Int) (s10k11 : Int), qlf9_11 a0 res_0nlc8 res_1c8 h1_0c8 h1_1c8 h1_2c8 (lf9_11 N a0 h1_0c8 h1_1c8 h1_2c8 n s9k11 s10k11) = lp (ctx9 N) 0 Try.f9 11 n (St.mk [(0, (AV.int IntKind.u8 a0)), (7, (AV.slice 0 0 0 (List.length h1_0c8) 3 res_0nlc8 true)), (8, (AV.int IntKind.i64 res_1c8)), (9, (AV.int IntKind.i64 s9k11)), (10, (AV.int IntKind.i64 s10k11))] [(Blk.dyn true 62 [(Col.ints IntKind.i64 h1_0c8), (Col.ints IntKind.i64 h1_1c8), (Col.ints IntKind.i64 h1_2c8)])]) := by
  intro n
  induction n with
  | zero => intros; kernel_rfl
  | succ n ih =>
    intro s9k11 s10k11
    rw [lf9_11]
    unfold slf9_11
    refine br (p := (s10k11 < (((List.length h1_0c8) : Nat) : Int))) (fun h12x => ?_) (fun h12x => finL (ctx9 N) 0 Try.f9 11 n [.b false] (by kernel_rfl) (ya (pF h12x) yz))
    refine br (p := (((0 : Int) ≤ s10k11) ∧ ((Int.toNat s10k11) < (List.length h1_0c8)))) (fun h13x => ?_) (fun h13x => finL (ctx9 N) 0 Try.f9 11 n [.b true, .b false] (by kernel_rfl) (ya (pT h12x) (ya (pF h13x) yz)))
    refine br (p := (s10k11 > (0 : Int))) (fun h14x => ?_) (fun h14x => ?_)
    · skip
      refine br (p := (s9k11 ≥ (3 : Int))) (fun h15x => ?_) (fun h15x => ?_)
      · skip
        refine br (p := ((List.getD h1_1c8 (0 + (Int.toNat s10k11)) (0 : Int)) = (if ((258 : Int) < s9k11) then (258 : Int) else s9k11))) (fun h16x => ?_) (fun h16x => finL (ctx9 N) 0 Try.f9 11 n [.b true, .b true, .b true, .b true, .b true, .b true, .b true, .b true, .b true, .b true, .b true, .b true, .b true, .b true, .b true, .b true, .b true, .b true, .b true, .b true, .b true, .b true] (by kernel_rfl) (ya (pT h12x) (ya (pT h13x) (ya (pT (show ((0 + (Int.toNat s10k11)) < (List.length h1_0c8)) by omega)) (ya (pT h14x) (yt (ya (pT h15x) (yt (yt (yt (yt (yt (ya (pNX h16x) (yt (yt (yt (yt (yt (yt (yt (yt (yt (yt yz)))))))))))))))))))))))
        refine br (p := ((List.getD h1_2c8 (0 + (Int.toNat s10k11)) (0 : Int)) = (1 : Int))) (fun h17x => ?_) (fun h17x => finL (ctx9 N) 0 Try.f9 11 n [.b true, .b true, .b true, .b true, .b true, .b true, .b true, .b true, .b true, .b true, .b true, .b false, .b false, .b false, .b true, .b true, .b true, .b true, .b true, .b true, .b true, .b true] (by kernel_rfl) (ya (pT h12x) (ya (pT h13x) (ya (pT (show ((0 + (Int.toNat s10k11)) < (List.length h1_0c8)) by omega)) (ya (pT h14x) (yt (ya (pT h15x) (yt (yt (yt (yt (yt (ya (pX h16x) (yf (yf (yt (ya (pNX h17x) (yt (yt (yt (yt (yt (yt yz)))))))))))))))))))))))
        refine br (p := (s10k11 = (0 : Int))) (fun h18x => ?_) (fun h18x => ?_)
        · skip
          refine br (p := ((List.getD h1_1c8 (0 + (Int.toNat s10k11)) (0 : Int)) = (0 : Int))) (fun h19x => ?_) (fun h19x => finL (ctx9 N) 0 Try.f9 11 n [.b true, .b true, .b true, .b true, .b true, .b true, .b true, .b true, .b true, .b true, .b true, .b false, .b false, .b false, .b true, .b false, .b false, .b false, .b true, .b true, .b false, .b false, .b true, .b true, .b true, .b true, .b true, .b true, .b true, .b true, .b true, .b true, .b false, .b true] (by kernel_rfl) (ya (pT h12x) (ya (pT h13x) (ya (pT (show ((0 + (Int.toNat s10k11)) < (List.length h1_0c8)) by omega)) (ya (pT h14x) (yt (ya (pT h15x) (yt (yt (yt (yt (yt (ya (pX h16x) (yf (yf (yt (ya (pX h17x) (yf (yf (ya (pE h18x) (yt (yf (yf (yt (yt (yt (yt (ya (pNX h19x) (yt (yt (yt (yt (yt (yf (yt yz)))))))))))))))))))))))))))))))))))
          refine br (p := ((List.getD h1_0c8 (0 + (Int.toNat s10k11)) (0 : Int)) = (IntKind.wrap IntKind.i64 a0))) (fun h20x => (ih (IntKind.wrap IntKind.i64 (s9k11 - (if ((1 : Int) > (List.getD h1_1c8 (0 + (Int.toNat s10k11)) (0 : Int))) then (1 : Int) else (List.getD h1_1c8 (0 + (Int.toNat s10k11)) (0 : Int))))) (IntKind.wrap IntKind.i64 (s10k11 + (1 : Int)))).trans (finL (ctx9 N) 0 Try.f9 11 n [.b true, .b true, .b true, .b true, .b true, .b true, .b true, .b true, .b true, .b true, .b true, .b false, .b false, .b false, .b true, .b false, .b false, .b false, .b true, .b true, .b false, .b false, .b true, .b true, .b true, .b true, .b false, .b false, .b false, .b false, .b false, .b true, .b false, .b false] (by kernel_rfl) (ya (pT h12x) (ya (pT h13x) (ya (pT (show ((0 + (Int.toNat s10k11)) < (List.length h1_0c8)) by omega)) (ya (pT h14x) (yt (ya (pT h15x) (yt (yt (yt (yt (yt (ya (pX h16x) (yf (yf (yt (ya (pX h17x) (yf (yf (ya (pE h18x) (yt (yf (yf (yt (yt (yt (yt (ya (pX h19x) (yf (yf (yf (yf (yt (yf (ya (pX h20x) yz)))))))))))))))))))))))))))))))))))) (fun h20x => ?_)
          exact finL (ctx9 N) 0 Try.f9 11 n [.b true, .b true, .b true, .b true, .b true, .b true, .b true, .b true, .b true, .b true, .b true, .b false, .b false, .b false, .b true, .b false, .b false, .b false, .b true, .b true, .b false, .b false, .b true, .b true, .b true, .b true, .b false, .b false, .b false, .b false, .b false, .b true, .b false, .b true] (by kernel_rfl) (ya (pT h12x) (ya (pT h13x) (ya (pT (show ((0 + (Int.toNat s10k11)) < (List.length h1_0c8)) by omega)) (ya (pT h14x) (yt (ya (pT h15x) (yt (yt (yt (yt (yt (ya (pX h16x) (yf (yf (yt (ya (pX h17x) (yf (yf (ya (pE h18x) (yt (yf (yf (yt (yt (yt (yt (ya (pX h19x) (yf (yf (yf (yf (yt (yf (ya (pNX h20x) yz))))))))))))))))))))))))))))))))))
        · skip
          refine br (p := (s9k11 < (3 : Int))) (fun h21x => ?_) (fun h21x => (ih (IntKind.wrap IntKind.i64 (s9k11 - (if ((1 : Int) > (List.getD h1_1c8 (0 + (Int.toNat s10k11)) (0 : Int))) then (1 : Int) else (List.getD h1_1c8 (0 + (Int.toNat s10k11)) (0 : Int))))) (IntKind.wrap IntKind.i64 (s10k11 + (1 : Int)))).trans (finL (ctx9 N) 0 Try.f9 11 n [.b true, .b true, .b true, .b true, .b true, .b true, .b true, .b true, .b true, .b true, .b true, .b false, .b false, .b false, .b true, .b false, .b false, .b false, .b false, .b false, .b false, .b false, .b false, .b false, .b false, .b false, .b false, .b false, .b false] (by kernel_rfl) (ya (pT h12x) (ya (pT h13x) (ya (pT (show ((0 + (Int.toNat s10k11)) < (List.length h1_0c8)) by omega)) (ya (pT h14x) (yt (ya (pT h15x) (yt (yt (yt (yt (yt (ya (pX h16x) (yf (yf (yt (ya (pX h17x) (yf (yf (ya (pNE h18x) (yf (yf (yf (ya (pF h21x) (yf (yf (yf (yf (yf (yf yz)))))))))))))))))))))))))))))))
          refine br (p := ((List.getD h1_1c8 (0 + (Int.toNat s10k11)) (0 : Int)) = (0 : Int))) (fun h22x => ?_) (fun h22x => finL (ctx9 N) 0 Try.f9 11 n [.b true, .b true, .b true, .b true, .b true, .b true, .b true, .b true, .b true, .b true, .b true, .b false, .b false, .b false, .b true, .b false, .b false, .b false, .b false, .b false, .b false, .b false, .b true, .b true, .b true, .b true, .b true, .b true, .b true, .b true, .b true, .b true, .b false, .b true] (by kernel_rfl) (ya (pT h12x) (ya (pT h13x) (ya (pT (show ((0 + (Int.toNat s10k11)) < (List.length h1_0c8)) by omega)) (ya (pT h14x) (yt (ya (pT h15x) (yt (yt (yt (yt (yt (ya (pX h16x) (yf (yf (yt (ya (pX h17x) (yf (yf (ya (pNE h18x) (yf (yf (yf (ya (pT h21x) (yt (yt (yt (ya (pNX h22x) (yt (yt (yt (yt (yt (yf (yt yz)))))))))))))))))))))))))))))))))))
          refine br (p := ((List.getD h1_0c8 (0 + (Int.toNat s10k11)) (0 : Int)) = (IntKind.wrap IntKind.i64 a0))) (fun h23x => (ih (IntKind.wrap IntKind.i64 (s9k11 - (if ((1 : Int) > (List.getD h1_1c8 (0 + (Int.toNat s10k11)) (0 : Int))) then (1 : Int) else (List.getD h1_1c8 (0 + (Int.toNat s10k11)) (0 : Int))))) (IntKind.wrap IntKind.i64 (s10k11 + (1 : Int)))).trans (finL (ctx9 N) 0 Try.f9 11 n [.b true, .b true, .b true, .b true, .b true, .b true, .b true, .b true, .b true, .b true, .b true, .b false, .b false, .b false, .b true, .b false, .b false, .b false, .b false, .b false, .b false, .b false, .b true, .b true, .b true, .b true, .b false, .b false, .b false, .b false, .b false, .b true, .b false, .b false] (by kernel_rfl) (ya (pT h12x) (ya (pT h13x) (ya (pT (show ((0 + (Int.toNat s10k11)) < (List.length h1_0c8)) by omega)) (ya (pT h14x) (yt (ya (pT h15x) (yt (yt (yt (yt (yt (ya (pX h16x) (yf (yf (yt (ya (pX h17x) (yf (yf (ya (pNE h18x) (yf (yf (yf (ya (pT h21x) (yt (yt (yt (ya (pX h22x) (yf (yf (yf (yf (yt (yf (ya (pX h23x) yz)))))))))))))))))))))))))))))))))))) (fun h23x => ?_)
          exact finL (ctx9 N) 0 Try.f9 11 n [.b true, .b true, .b true, .b true, .b true, .b true, .b true, .b true, .b true, .b true, .b true, .b false, .b false, .b false, .b true, .b false, .b false, .b false, .b false, .b false, .b false, .b false, .b true, .b true, .b true, .b true, .b false, .b false, .b false, .b false, .b false, .b true, .b false, .b true] (by kernel_rfl) (ya (pT h12x) (ya (pT h13x) (ya (pT (show ((0 + (Int.toNat s10k11)) < (List.length h1_0c8)) by omega)) (ya (pT h14x) (yt (ya (pT h15x) (yt (yt (yt (yt (yt (ya (pX h16x) (yf (yf (yt (ya (pX h17x) (yf (yf (ya (pNE h18x) (yf (yf (yf (ya (pT h21x) (yt (yt (yt (ya (pX h22x) (yf (yf (yf (yf (yt (yf (ya (pNX h23x) yz))))))))))))))))))))))))))))))))))
      · skip
        refine br (p := (s10k11 = (0 : Int))) (fun h24x => ?_) (fun h24x => ?_)
        · skip
          refine br (p := ((List.getD h1_1c8 (0 + (Int.toNat s10k11)) (0 : Int)) = (0 : Int))) (fun h25x => ?_) (fun h25x => finL (ctx9 N) 0 Try.f9 11 n [.b true, .b true, .b true, .b true, .b true, .b false, .b false, .b false, .b false, .b false, .b false, .b false, .b false, .b false, .b false, .b true, .b true, .b false, .b false, .b true, .b true, .b true, .b true, .b true, .b true, .b true, .b true, .b true, .b true, .b false, .b true] (by kernel_rfl) (ya (pT h12x) (ya (pT h13x) (ya (pT (show ((0 + (Int.toNat s10k11)) < (List.length h1_0c8)) by omega)) (ya (pT h14x) (yt (ya (pF h15x) (yf (yf (yf (yf (yf (yf (yf (yf (yf (ya (pE h24x) (yt (yf (yf (yt (yt (yt (yt (ya (pNX h25x) (yt (yt (yt (yt (yt (yf (yt yz))))))))))))))))))))))))))))))))
          refine br (p := ((List.getD h1_0c8 (0 + (Int.toNat s10k11)) (0 : Int)) = (IntKind.wrap IntKind.i64 a0))) (fun h26x => (ih (IntKind.wrap IntKind.i64 (s9k11 - (if ((1 : Int) > (List.getD h1_1c8 (0 + (Int.toNat s10k11)) (0 : Int))) then (1 : Int) else (List.getD h1_1c8 (0 + (Int.toNat s10k11)) (0 : Int))))) (IntKind.wrap IntKind.i64 (s10k11 + (1 : Int)))).trans (finL (ctx9 N) 0 Try.f9 11 n [.b true, .b true, .b true, .b true, .b true, .b false, .b false, .b false, .b false, .b false, .b false, .b false, .b false, .b false, .b false, .b true, .b true, .b false, .b false, .b true, .b true, .b true, .b true, .b false, .b false, .b false, .b false, .b false, .b true, .b false, .b false] (by kernel_rfl) (ya (pT h12x) (ya (pT h13x) (ya (pT (show ((0 + (Int.toNat s10k11)) < (List.length h1_0c8)) by omega)) (ya (pT h14x) (yt (ya (pF h15x) (yf (yf (yf (yf (yf (yf (yf (yf (yf (ya (pE h24x) (yt (yf (yf (yt (yt (yt (yt (ya (pX h25x) (yf (yf (yf (yf (yt (yf (ya (pX h26x) yz))))))))))))))))))))))))))))))))) (fun h26x => ?_)
          exact finL (ctx9 N) 0 Try.f9 11 n [.b true, .b true, .b true, .b true, .b true, .b false, .b false, .b false, .b false, .b false, .b false, .b false, .b false, .b false, .b false, .b true, .b true, .b false, .b false, .b true, .b true, .b true, .b true, .b false, .b false, .b false, .b false, .b false, .b true, .b false, .b true] (by kernel_rfl) (ya (pT h12x) (ya (pT h13x) (ya (pT (show ((0 + (Int.toNat s10k11)) < (List.length h1_0c8)) by omega)) (ya (pT h14x) (yt (ya (pF h15x) (yf (yf (yf (yf (yf (yf (yf (yf (yf (ya (pE h24x) (yt (yf (yf (yt (yt (yt (yt (ya (pX h25x) (yf (yf (yf (yf (yt (yf (ya (pNX h26x) yz)))))))))))))))))))))))))))))))
        · skip
          refine br (p := (s9k11 < (3 : Int))) (fun h27x => ?_) (fun h27x => (ih (IntKind.wrap IntKind.i64 (s9k11 - (if ((1 : Int) > (List.getD h1_1c8 (0 + (Int.toNat s10k11)) (0 : Int))) then (1 : Int) else (List.getD h1_1c8 (0 + (Int.toNat s10k11)) (0 : Int))))) (IntKind.wrap IntKind.i64 (s10k11 + (1 : Int)))).trans (finL (ctx9 N) 0 Try.f9 11 n [.b true, .b true, .b true, .b true, .b true, .b false, .b false, .b false, .b false, .b false, .b false, .b false, .b false, .b false, .b false, .b false, .b false, .b false, .b false, .b false, .b false, .b false, .b false, .b false, .b false, .b false] (by kernel_rfl) (ya (pT h12x) (ya (pT h13x) (ya (pT (show ((0 + (Int.toNat s10k11)) < (List.length h1_0c8)) by omega)) (ya (pT h14x) (yt (ya (pF h15x) (yf (yf (yf (yf (yf (yf (yf (yf (yf (ya (pNE h24x) (yf (yf (yf (ya (pF h27x) (yf (yf (yf (yf (yf (yf yz))))))))))))))))))))))))))))
          refine br (p := ((List.getD h1_1c8 (0 + (Int.toNat s10k11)) (0 : Int)) = (0 : Int))) (fun h28x => ?_) (fun h28x => finL (ctx9 N) 0 Try.f9 11 n [.b true, .b true, .b true, .b true, .b true, .b false, .b false, .b false, .b false, .b false, .b false, .b false, .b false, .b false, .b false, .b false, .b false, .b false, .b false, .b true, .b true, .b true, .b true, .b true, .b true, .b true, .b true, .b true, .b true, .b false, .b true] (by kernel_rfl) (ya (pT h12x) (ya (pT h13x) (ya (pT (show ((0 + (Int.toNat s10k11)) < (List.length h1_0c8)) by omega)) (ya (pT h14x) (yt (ya (pF h15x) (yf (yf (yf (yf (yf (yf (yf (yf (yf (ya (pNE h24x) (yf (yf (yf (ya (pT h27x) (yt (yt (yt (ya (pNX h28x) (yt (yt (yt (yt (yt (yf (yt yz))))))))))))))))))))))))))))))))
          refine br (p := ((List.getD h1_0c8 (0 + (Int.toNat s10k11)) (0 : Int)) = (IntKind.wrap IntKind.i64 a0))) (fun h29x => (ih (IntKind.wrap IntKind.i64 (s9k11 - (if ((1 : Int) > (List.getD h1_1c8 (0 + (Int.toNat s10k11)) (0 : Int))) then (1 : Int) else (List.getD h1_1c8 (0 + (Int.toNat s10k11)) (0 : Int))))) (IntKind.wrap IntKind.i64 (s10k11 + (1 : Int)))).trans (finL (ctx9 N) 0 Try.f9 11 n [.b true, .b true, .b true, .b true, .b true, .b false, .b false, .b false, .b false, .b false, .b false, .b false, .b false, .b false, .b false, .b false, .b false, .b false, .b false, .b true, .b true, .b true, .b true, .b false, .b false, .b false, .b false, .b false, .b true, .b false, .b false] (by kernel_rfl) (ya (pT h12x) (ya (pT h13x) (ya (pT (show ((0 + (Int.toNat s10k11)) < (List.length h1_0c8)) by omega)) (ya (pT h14x) (yt (ya (pF h15x) (yf (yf (yf (yf (yf (yf (yf (yf (yf (ya (pNE h24x) (yf (yf (yf (ya (pT h27x) (yt (yt (yt (ya (pX h28x) (yf (yf (yf (yf (yt (yf (ya (pX h29x) yz))))))))))))))))))))))))))))))))) (fun h29x => ?_)
          exact finL (ctx9 N) 0 Try.f9 11 n [.b true, .b true, .b true, .b true, .b true, .b false, .b false, .b false, .b false, .b false, .b false, .b false, .b false, .b false, .b false, .b false, .b false, .b false, .b false, .b true, .b true, .b true, .b true, .b false, .b false, .b false, .b false, .b false, .b true, .b false, .b true] (by kernel_rfl) (ya (pT h12x) (ya (pT h13x) (ya (pT (show ((0 + (Int.toNat s10k11)) < (List.length h1_0c8)) by omega)) (ya (pT h14x) (yt (ya (pF h15x) (yf (yf (yf (yf (yf (yf (yf (yf (yf (ya (pNE h24x) (yf (yf (yf (ya (pT h27x) (yt (yt (yt (ya (pX h28x) (yf (yf (yf (yf (yt (yf (ya (pNX h29x) yz)))))))))))))))))))))))))))))))
    · skip
      refine br (p := (s10k11 = (0 : Int))) (fun h30x => ?_) (fun h30x => ?_)
      · skip
        refine br (p := ((List.getD h1_1c8 (0 + (Int.toNat s10k11)) (0 : Int)) = (0 : Int))) (fun h31x => ?_) (fun h31x => finL (ctx9 N) 0 Try.f9 11 n [.b true, .b true, .b true, .b false, .b false, .b false, .b false, .b false, .b false, .b false, .b false, .b false, .b false, .b false, .b false, .b true, .b true, .b false, .b false, .b true, .b true, .b true, .b true, .b true, .b true, .b true, .b true, .b true, .b true, .b false, .b true] (by kernel_rfl) (ya (pT h12x) (ya (pT h13x) (ya (pT (show ((0 + (Int.toNat s10k11)) < (List.length h1_0c8)) by omega)) (ya (pF h14x) (yf (yf (yf (yf (yf (yf (yf (yf (yf (yf (yf (ya (pE h30x) (yt (yf (yf (yt (yt (yt (yt (ya (pNX h31x) (yt (yt (yt (yt (yt (yf (yt yz))))))))))))))))))))))))))))))))
        refine br (p := ((List.getD h1_0c8 (0 + (Int.toNat s10k11)) (0 : Int)) = (IntKind.wrap IntKind.i64 a0))) (fun h32x => (ih (IntKind.wrap IntKind.i64 (s9k11 - (if ((1 : Int) > (List.getD h1_1c8 (0 + (Int.toNat s10k11)) (0 : Int))) then (1 : Int) else (List.getD h1_1c8 (0 + (Int.toNat s10k11)) (0 : Int))))) (IntKind.wrap IntKind.i64 (s10k11 + (1 : Int)))).trans (finL (ctx9 N) 0 Try.f9 11 n [.b true, .b true, .b true, .b false, .b false, .b false, .b false, .b false, .b false, .b false, .b false, .b false, .b false, .b false, .b false, .b true, .b true, .b false, .b false, .b true, .b true, .b true, .b true, .b false, .b false, .b false, .b false, .b false, .b true, .b false, .b false] (by kernel_rfl) (ya (pT h12x) (ya (pT h13x) (ya (pT (show ((0 + (Int.toNat s10k11)) < (List.length h1_0c8)) by omega)) (ya (pF h14x) (yf (yf (yf (yf (yf (yf (yf (yf (yf (yf (yf (ya (pE h30x) (yt (yf (yf (yt (yt (yt (yt (ya (pX h31x) (yf (yf (yf (yf (yt (yf (ya (pX h32x) yz))))))))))))))))))))))))))))))))) (fun h32x => ?_)
        exact finL (ctx9 N) 0 Try.f9 11 n [.b true, .b true, .b true, .b false, .b false, .b false, .b false, .b false, .b false, .b false, .b false, .b false, .b false, .b false, .b false, .b true, .b true, .b false, .b false, .b true, .b true, .b true, .b true, .b false, .b false, .b false, .b false, .b false, .b true, .b false, .b true] (by kernel_rfl) (ya (pT h12x) (ya (pT h13x) (ya (pT (show ((0 + (Int.toNat s10k11)) < (List.length h1_0c8)) by omega)) (ya (pF h14x) (yf (yf (yf (yf (yf (yf (yf (yf (yf (yf (yf (ya (pE h30x) (yt (yf (yf (yt (yt (yt (yt (ya (pX h31x) (yf (yf (yf (yf (yt (yf (ya (pNX h32x) yz)))))))))))))))))))))))))))))))
      · skip
        refine br (p := (s9k11 < (3 : Int))) (fun h33x => ?_) (fun h33x => (ih (IntKind.wrap IntKind.i64 (s9k11 - (if ((1 : Int) > (List.getD h1_1c8 (0 + (Int.toNat s10k11)) (0 : Int))) then (1 : Int) else (List.getD h1_1c8 (0 + (Int.toNat s10k11)) (0 : Int))))) (IntKind.wrap IntKind.i64 (s10k11 + (1 : Int)))).trans (finL (ctx9 N) 0 Try.f9 11 n [.b true, .b true, .b true, .b false, .b false, .b false, .b false, .b false, .b false, .b false, .b false, .b false, .b false, .b false, .b false, .b false, .b false, .b false, .b false, .b false, .b false, .b false, .b false, .b false, .b false, .b false] (by kernel_rfl) (ya (pT h12x) (ya (pT h13x) (ya (pT (show ((0 + (Int.toNat s10k11)) < (List.length h1_0c8)) by omega)) (ya (pF h14x) (yf (yf (yf (yf (yf (yf (yf (yf (yf (yf (yf (ya (pNE h30x) (yf (yf (yf (ya (pF h33x) (yf (yf (yf (yf (yf (yf yz))))))))))))))))))))))))))))
        refine br (p := ((List.getD h1_1c8 (0 + (Int.toNat s10k11)) (0 : Int)) = (0 : Int))) (fun h34x => ?_) (fun h34x => finL (ctx9 N) 0 Try.f9 11 n [.b true, .b true, .b true, .b false, .b false, .b false, .b false, .b false, .b false, .b false, .b false, .b false, .b false, .b false, .b false, .b false, .b false, .b false, .b false, .b true, .b true, .b true, .b true, .b true, .b true, .b true, .b true, .b true, .b true, .b false, .b true] (by kernel_rfl) (ya (pT h12x) (ya (pT h13x) (ya (pT (show ((0 + (Int.toNat s10k11)) < (List.length h1_0c8)) by omega)) (ya (pF h14x) (yf (yf (yf (yf (yf (yf (yf (yf (yf (yf (yf (ya (pNE h30x) (yf (yf (yf (ya (pT h33x) (yt (yt (yt (ya (pNX h34x) (yt (yt (yt (yt (yt (yf (yt yz))))))))))))))))))))))))))))))))
        refine br (p := ((List.getD h1_0c8 (0 + (Int.toNat s10k11)) (0 : Int)) = (IntKind.wrap IntKind.i64 a0))) (fun h35x => (ih (IntKind.wrap IntKind.i64 (s9k11 - (if ((1 : Int) > (List.getD h1_1c8 (0 + (Int.toNat s10k11)) (0 : Int))) then (1 : Int) else (List.getD h1_1c8 (0 + (Int.toNat s10k11)) (0 : Int))))) (IntKind.wrap IntKind.i64 (s10k11 + (1 : Int)))).trans (finL (ctx9 N) 0 Try.f9 11 n [.b true, .b true, .b true, .b false, .b false, .b false, .b false, .b false, .b false, .b false, .b false, .b false, .b false, .b false, .b false, .b false, .b false, .b false, .b false, .b true, .b true, .b true, .b true, .b false, .b false, .b false, .b false, .b false, .b true, .b false, .b false] (by kernel_rfl) (ya (pT h12x) (ya (pT h13x) (ya (pT (show ((0 + (Int.toNat s10k11)) < (List.length h1_0c8)) by omega)) (ya (pF h14x) (yf (yf (yf (yf (yf (yf (yf (yf (yf (yf (yf (ya (pNE h30x) (yf (yf (yf (ya (pT h33x) (yt (yt (yt (ya (pX h34x) (yf (yf (yf (yf (yt (yf (ya (pX h35x) yz))))))))))))))))))))))))))))))))) (fun h35x => ?_)
        exact finL (ctx9 N) 0 Try.f9 11 n [.b true, .b true, .b true, .b false, .b false, .b false, .b false, .b false, .b false, .b false, .b false, .b false, .b false, .b false, .b false, .b false, .b false, .b false, .b false, .b true, .b true, .b true, .b true, .b false, .b false, .b false, .b false, .b false, .b true, .b false, .b true] (by kernel_rfl) (ya (pT h12x) (ya (pT h13x) (ya (pT (show ((0 + (Int.toNat s10k11)) < (List.length h1_0c8)) by omega)) (ya (pF h14x) (yf (yf (yf (yf (yf (yf (yf (yf (yf (yf (yf (ya (pNE h30x) (yf (yf (yf (ya (pT h33x) (yt (yt (yt (ya (pX h34x) (yf (yf (yf (yf (yt (yf (ya (pNX h35x) yz)))))))))))))))))))))))))))))))
/-! 9 -/
inductive Rf9 where
  | r0 (res : Bool)
def f9 (N : Nat) (a0 : Int) (a1 : Int) : Option Rf9 :=
 if (a1 < (0 : Int)) then
  some (.r0 true)
 else
  if (a1 > (2000 : Int)) then
   some (.r0 true)
  else
  (match lf9_5 N a0 a1 N (0 : Int) (List.replicate (Int.toNat a1) (0 : Int)) with
  | none => none
  | some (.e0 h0l7) =>
   (match f26 N (Int.toNat a1) h0l7 with
   | none => none
   | some (.r0 res_0nlc8 res_1c8 h1_0c8 h1_1c8 h1_2c8) =>
    (match lf9_11 N a0 h1_0c8 h1_1c8 h1_2c8 N a1 (0 : Int) with
    | none => none
    | some .e0 =>
     some (.r0 false)
    | some (.e1 s9l36) =>
     if (res_1c8 = (0 : Int)) then
      some (.r0 (s9l36 == (0 : Int)))
     else
      some (.r0 false))))
def rf9 (a0 : Int) (a1 : Int) : Option Rf9 → Option (AV × Heap)
  | none => none
  | some (.r0 res) => some ((AV.bool res), ([] : List Blk))
theorem ef9 (N : Nat) (a0 : Int) (a1 : Int) (hk32 : sem32 N [] [] = some (.bool true, [])) : rf9 a0 a1 (f9 N a0 a1) = sem9 N [(AV.int IntKind.u8 a0), (AV.int IntKind.i64 a1)] ([] : List Blk) := by
  unfold f9
  refine br (p := (a1 < (0 : Int))) (fun h0x => finF (ctx9 N) Try.f9 [.b true, .b true, .b true] (by kernel_rfl) (ya (pT h0x) (yt (yt yz)))) (fun h0x => ?_)
  refine br (p := (a1 > (2000 : Int))) (fun h1x => finF (ctx9 N) Try.f9 [.b false, .b false, .b true] (by kernel_rfl) (ya (pF h0x) (yf (ya (pT h1x) yz)))) (fun h1x => ?_)
  cases ho7 : lf9_5 N a0 a1 N (0 : Int) (List.replicate (Int.toNat a1) (0 : Int)) with
  | none => exact finF (ctx9 N) Try.f9 [.b false, .b false, .b false, .b true, .out (qlf9_5 a0 a1 none)] (by kernel_rfl) (ya (pF h0x) (yf (ya (pF h1x) (ya (pT (show (((0 : Int) ≤ a1) ∧ ((a1 ≤ a1) ∧ (a1 ≤ (1099511627776 : Int)))) by omega)) (ya (ys (elf9_5 N a0 a1 hk32 N (0 : Int) (List.replicate (Int.toNat a1) (0 : Int))) ho7) yz)))))
  | some o =>
    cases o with
    | e0 h0l7 =>
      dsimp only
      cases hc8 : f26 N (Int.toNat a1) h0l7 with
      | none => exact finF (ctx9 N) Try.f9 [.b false, .b false, .b false, .b true, .out (qlf9_5 a0 a1 (some (.e0 h0l7))), .call (rf26 (Int.toNat a1) false true h0l7 none)] (by kernel_rfl) (ya (pF h0x) (yf (ya (pF h1x) (ya (pT (show (((0 : Int) ≤ a1) ∧ ((a1 ≤ a1) ∧ (a1 ≤ (1099511627776 : Int)))) by omega)) (ya (ys (elf9_5 N a0 a1 hk32 N (0 : Int) (List.replicate (Int.toNat a1) (0 : Int))) ho7) (ya (ys (ef26 N (Int.toNat a1) false true h0l7) hc8) yz))))))
      | some o =>
        cases o with
        | r0 res_0nlc8 res_1c8 h1_0c8 h1_1c8 h1_2c8 =>
          dsimp only
          cases ho36 : lf9_11 N a0 h1_0c8 h1_1c8 h1_2c8 N a1 (0 : Int) with
          | none => exact finF (ctx9 N) Try.f9 [.b false, .b false, .b false, .b true, .out (qlf9_5 a0 a1 (some (.e0 h0l7))), .call (rf26 (Int.toNat a1) false true h0l7 (some (.r0 res_0nlc8 res_1c8 h1_0c8 h1_1c8 h1_2c8))), .out (qlf9_11 a0 res_0nlc8 res_1c8 h1_0c8 h1_1c8 h1_2c8 none)] (by kernel_rfl) (ya (pF h0x) (yf (ya (pF h1x) (ya (pT (show (((0 : Int) ≤ a1) ∧ ((a1 ≤ a1) ∧ (a1 ≤ (1099511627776 : Int)))) by omega)) (ya (ys (elf9_5 N a0 a1 hk32 N (0 : Int) (List.replicate (Int.toNat a1) (0 : Int))) ho7) (ya (ys (ef26 N (Int.toNat a1) false true h0l7) hc8) (ya (ys (elf9_11 N a0 res_0nlc8 res_1c8 h1_0c8 h1_1c8 h1_2c8 hk32 N a1 (0 : Int)) ho36) yz)))))))
          | some o =>
            cases o with
            | e0 =>
              dsimp only
              exact finF (ctx9 N) Try.f9 [.b false, .b false, .b false, .b true, .out (qlf9_5 a0 a1 (some (.e0 h0l7))), .call (rf26 (Int.toNat a1) false true h0l7 (some (.r0 res_0nlc8 res_1c8 h1_0c8 h1_1c8 h1_2c8))), .out (qlf9_11 a0 res_0nlc8 res_1c8 h1_0c8 h1_1c8 h1_2c8 (some .e0))] (by kernel_rfl) (ya (pF h0x) (yf (ya (pF h1x) (ya (pT (show (((0 : Int) ≤ a1) ∧ ((a1 ≤ a1) ∧ (a1 ≤ (1099511627776 : Int)))) by omega)) (ya (ys (elf9_5 N a0 a1 hk32 N (0 : Int) (List.replicate (Int.toNat a1) (0 : Int))) ho7) (ya (ys (ef26 N (Int.toNat a1) false true h0l7) hc8) (ya (ys (elf9_11 N a0 res_0nlc8 res_1c8 h1_0c8 h1_1c8 h1_2c8 hk32 N a1 (0 : Int)) ho36) yz)))))))
            | e1 s9l36 =>
              dsimp only
              refine br (p := (res_1c8 = (0 : Int))) (fun h37x => finF (ctx9 N) Try.f9 [.b false, .b false, .b false, .b true, .out (qlf9_5 a0 a1 (some (.e0 h0l7))), .call (rf26 (Int.toNat a1) false true h0l7 (some (.r0 res_0nlc8 res_1c8 h1_0c8 h1_1c8 h1_2c8))), .out (qlf9_11 a0 res_0nlc8 res_1c8 h1_0c8 h1_1c8 h1_2c8 (some (.e1 s9l36))), .call (some (.bool true, [])), .b true, .b true, .b true, .b true] (by kernel_rfl) (ya (pF h0x) (yf (ya (pF h1x) (ya (pT (show (((0 : Int) ≤ a1) ∧ ((a1 ≤ a1) ∧ (a1 ≤ (1099511627776 : Int)))) by omega)) (ya (ys (elf9_5 N a0 a1 hk32 N (0 : Int) (List.replicate (Int.toNat a1) (0 : Int))) ho7) (ya (ys (ef26 N (Int.toNat a1) false true h0l7) hc8) (ya (ys (elf9_11 N a0 res_0nlc8 res_1c8 h1_0c8 h1_1c8 h1_2c8 hk32 N a1 (0 : Int)) ho36) (ya hk32 (yt (yt (ya (pE h37x) (yt yz))))))))))))) (fun h37x => ?_)
              exact finF (ctx9 N) Try.f9 [.b false, .b false, .b false, .b true, .out (qlf9_5 a0 a1 (some (.e0 h0l7))), .call (rf26 (Int.toNat a1) false true h0l7 (some (.r0 res_0nlc8 res_1c8 h1_0c8 h1_1c8 h1_2c8))), .out (qlf9_11 a0 res_0nlc8 res_1c8 h1_0c8 h1_1c8 h1_2c8 (some (.e1 s9l36))), .call (some (.bool true, [])), .b true, .b true, .b false, .b false] (by kernel_rfl) (ya (pF h0x) (yf (ya (pF h1x) (ya (pT (show (((0 : Int) ≤ a1) ∧ ((a1 ≤ a1) ∧ (a1 ≤ (1099511627776 : Int)))) by omega)) (ya (ys (elf9_5 N a0 a1 hk32 N (0 : Int) (List.replicate (Int.toNat a1) (0 : Int))) ho7) (ya (ys (ef26 N (Int.toNat a1) false true h0l7) hc8) (ya (ys (elf9_11 N a0 res_0nlc8 res_1c8 h1_0c8 h1_1c8 h1_2c8 hk32 N a1 (0 : Int)) ho36) (ya hk32 (yt (yt (ya (pNE h37x) (yf yz))))))))))))
/-! 32 -/
inductive Rf32 where
  | r0 (res : Bool)
def f32 (N : Nat) : Option Rf32 :=
 (match f26 N 6 [(97 : Int), (98 : Int), (97 : Int), (98 : Int), (97 : Int), (98 : Int)] with
 | none => none
 | some (.r0 res_0nlc0 res_1c0 h1_0c0 h1_1c0 h1_2c0) =>
  (match f30 N 3 [(97 : Int), (98 : Int), (99 : Int)] with
  | none => none
  | some (.r0 res_0nlc1 res_1c1 h1c1) =>
   (match f33 N (List.length h1_0c0) 3 h1_0c0 h1_1c0 h1_2c0 [(97 : Int), (98 : Int), (0 : Int)] [(0 : Int), (0 : Int), (4 : Int)] [(0 : Int), (0 : Int), (2 : Int)] with
   | none => none
   | some (.r0 resc2) =>
    if (resc2 = true) then
     if (res_1c0 = (0 : Int)) then
      if (((ByteArray.toList (Go.Abs.mkStr h1c1)) == (ByteArray.toList (ByteArray.mk (List.toArray [(75 : UInt8), (76 : UInt8), (74 : UInt8), (6 : UInt8), (0 : UInt8)])))) = true) then
       some (.r0 (res_1c1 == res_1c0))
      else
       some (.r0 false)
     else
      some (.r0 false)
    else
     some (.r0 false))))
def rf32 : Option Rf32 → Option (AV × Heap)
  | none => none
  | some (.r0 res) => some ((AV.bool res), ([] : List Blk))
theorem ef32 (N : Nat) : rf32 (f32 N) = sem32 N ([] : List AV) ([] : List Blk) := by
  unfold f32
  cases hc0 : f26 N 6 [(97 : Int), (98 : Int), (97 : Int), (98 : Int), (97 : Int), (98 : Int)] with
  | none => exact finF (ctx32 N) Try.f32 [.call (rf26 6 false true [(97 : Int), (98 : Int), (97 : Int), (98 : Int), (97 : Int), (98 : Int)] none)] (by kernel_rfl) (ya (ys (ef26 N 6 false true [(97 : Int), (98 : Int), (97 : Int), (98 : Int), (97 : Int), (98 : Int)]) hc0) yz)
  | some o =>
    cases o with
    | r0 res_0nlc0 res_1c0 h1_0c0 h1_1c0 h1_2c0 =>
      dsimp only
      cases hc1 : f30 N 3 [(97 : Int), (98 : Int), (99 : Int)] with
      | none => exact finF (ctx32 N) Try.f32 [.call (rf26 6 false true [(97 : Int), (98 : Int), (97 : Int), (98 : Int), (97 : Int), (98 : Int)] (some (.r0 res_0nlc0 res_1c0 h1_0c0 h1_1c0 h1_2c0))), .call (rf30 3 false true [(97 : Int), (98 : Int), (99 : Int)] none)] (by kernel_rfl) (ya (ys (ef26 N 6 false true [(97 : Int), (98 : Int), (97 : Int), (98 : Int), (97 : Int), (98 : Int)]) hc0) (ya (ys (ef30 N 3 false true [(97 : Int), (98 : Int), (99 : Int)]) hc1) yz))
      | some o =>
        cases o with
        | r0 res_0nlc1 res_1c1 h1c1 =>
          dsimp only
          cases hc2 : f33 N (List.length h1_0c0) 3 h1_0c0 h1_1c0 h1_2c0 [(97 : Int), (98 : Int), (0 : Int)] [(0 : Int), (0 : Int), (4 : Int)] [(0 : Int), (0 : Int), (2 : Int)] with
          | none => exact finF (ctx32 N) Try.f32 [.call (rf26 6 false true [(97 : Int), (98 : Int), (97 : Int), (98 : Int), (97 : Int), (98 : Int)] (some (.r0 res_0nlc0 res_1c0 h1_0c0 h1_1c0 h1_2c0))), .call (rf30 3 false true [(97 : Int), (98 : Int), (99 : Int)] (some (.r0 res_0nlc1 res_1c1 h1c1))), .call (rf33 (List.length h1_0c0) res_0nlc0 3 false true h1_0c0 h1_1c0 h1_2c0 true [(97 : Int), (98 : Int), (0 : Int)] [(0 : Int), (0 : Int), (4 : Int)] [(0 : Int), (0 : Int), (2 : Int)] none)] (by kernel_rfl) (ya (ys (ef26 N 6 false true [(97 : Int), (98 : Int), (97 : Int), (98 : Int), (97 : Int), (98 : Int)]) hc0) (ya (ys (ef30 N 3 false true [(97 : Int), (98 : Int), (99 : Int)]) hc1) (ya (ys (ef33 N (List.length h1_0c0) res_0nlc0 3 false true h1_0c0 h1_1c0 h1_2c0 true [(97 : Int), (98 : Int), (0 : Int)] [(0 : Int), (0 : Int), (4 : Int)] [(0 : Int), (0 : Int), (2 : Int)]) hc2) yz)))
          | some o =>
            cases o with
            | r0 resc2 =>
              dsimp only
              refine br (p := (resc2 = true)) (fun h3x => ?_) (fun h3x => finF (ctx32 N) Try.f32 [.call (rf26 6 false true [(97 : Int), (98 : Int), (97 : Int), (98 : Int), (97 : Int), (98 : Int)] (some (.r0 res_0nlc0 res_1c0 h1_0c0 h1_1c0 h1_2c0))), .call (rf30 3 false true [(97 : Int), (98 : Int), (99 : Int)] (some (.r0 res_0nlc1 res_1c1 h1c1))), .call (rf33 (List.length h1_0c0) res_0nlc0 3 false true h1_0c0 h1_1c0 h1_2c0 true [(97 : Int), (98 : Int), (0 : Int)] [(0 : Int), (0 : Int), (4 : Int)] [(0 : Int), (0 : Int), (2 : Int)] (some (.r0 resc2))), .b false, .b false, .b false, .b false, .b false, .b false, .b false, .b false] (by kernel_rfl) (ya (ys (ef26 N 6 false true [(97 : Int), (98 : Int), (97 : Int), (98 : Int), (97 : Int), (98 : Int)]) hc0) (ya (ys (ef30 N 3 false true [(97 : Int), (98 : Int), (99 : Int)]) hc1) (ya (ys (ef33 N (List.length h1_0c0) res_0nlc0 3 false true h1_0c0 h1_1c0 h1_2c0 true [(97 : Int), (98 : Int), (0 : Int)] [(0 : Int), (0 : Int), (4 : Int)] [(0 : Int), (0 : Int), (2 : Int)]) hc2) (ya (pNB h3x) (yf (yf (yf (yf (yf (yf (yf yz))))))))))))
              refine br (p := (res_1c0 = (0 : Int))) (fun h4x => ?_) (fun h4x => finF (ctx32 N) Try.f32 [.call (rf26 6 false true [(97 : Int), (98 : Int), (97 : Int), (98 : Int), (97 : Int), (98 : Int)] (some (.r0 res_0nlc0 res_1c0 h1_0c0 h1_1c0 h1_2c0))), .call (rf30 3 false true [(97 : Int), (98 : Int), (99 : Int)] (some (.r0 res_0nlc1 res_1c1 h1c1))), .call (rf33 (List.length h1_0c0) res_0nlc0 3 false true h1_0c0 h1_1c0 h1_2c0 true [(97 : Int), (98 : Int), (0 : Int)] [(0 : Int), (0 : Int), (4 : Int)] [(0 : Int), (0 : Int), (2 : Int)] (some (.r0 resc2))), .b true, .b true, .b false, .b false, .b false, .b false, .b false, .b false] (by kernel_rfl) (ya (ys (ef26 N 6 false true [(97 : Int), (98 : Int), (97 : Int), (98 : Int), (97 : Int), (98 : Int)]) hc0) (ya (ys (ef30 N 3 false true [(97 : Int), (98 : Int), (99 : Int)]) hc1) (ya (ys (ef33 N (List.length h1_0c0) res_0nlc0 3 false true h1_0c0 h1_1c0 h1_2c0 true [(97 : Int), (98 : Int), (0 : Int)] [(0 : Int), (0 : Int), (4 : Int)] [(0 : Int), (0 : Int), (2 : Int)]) hc2) (ya h3x (yt (ya (pNE h4x) (yf (yf (yf (yf (yf yz))))))))))))
              refine br (p := (((ByteArray.toList (Go.Abs.mkStr h1c1)) == (ByteArray.toList (ByteArray.mk (List.toArray [(75 : UInt8), (76 : UInt8), (74 : UInt8), (6 : UInt8), (0 : UInt8)])))) = true)) (fun h5x => finF (ctx32 N) Try.f32 [.call (rf26 6 false true [(97 : Int), (98 : Int), (97 : Int), (98 : Int), (97 : Int), (98 : Int)] (some (.r0 res_0nlc0 res_1c0 h1_0c0 h1_1c0 h1_2c0))), .call (rf30 3 false true [(97 : Int), (98 : Int), (99 : Int)] (some (.r0 res_0nlc1 res_1c1 h1c1))), .call (rf33 (List.length h1_0c0) res_0nlc0 3 false true h1_0c0 h1_1c0 h1_2c0 true [(97 : Int), (98 : Int), (0 : Int)] [(0 : Int), (0 : Int), (4 : Int)] [(0 : Int), (0 : Int), (2 : Int)] (some (.r0 resc2))), .b true, .b true, .b true, .b true, .b true, .b true, .b true, .b true, .b true] (by kernel_rfl) (ya (ys (ef26 N 6 false true [(97 : Int), (98 : Int), (97 : Int), (98 : Int), (97 : Int), (98 : Int)]) hc0) (ya (ys (ef30 N 3 false true [(97 : Int), (98 : Int), (99 : Int)]) hc1) (ya (ys (ef33 N (List.length h1_0c0) res_0nlc0 3 false true h1_0c0 h1_1c0 h1_2c0 true [(97 : Int), (98 : Int), (0 : Int)] [(0 : Int), (0 : Int), (4 : Int)] [(0 : Int), (0 : Int), (2 : Int)]) hc2) (ya h3x (yt (ya (pE h4x) (yt (ya (pT (show ((List.length h1c1) = (List.length h1c1)) by omega)) (yt (ya h5x (yt (yt yz))))))))))))) (fun h5x => ?_)
              exact finF (ctx32 N) Try.f32 [.call (rf26 6 false true [(97 : Int), (98 : Int), (97 : Int), (98 : Int), (97 : Int), (98 : Int)] (some (.r0 res_0nlc0 res_1c0 h1_0c0 h1_1c0 h1_2c0))), .call (rf30 3 false true [(97 : Int), (98 : Int), (99 : Int)] (some (.r0 res_0nlc1 res_1c1 h1c1))), .call (rf33 (List.length h1_0c0) res_0nlc0 3 false true h1_0c0 h1_1c0 h1_2c0 true [(97 : Int), (98 : Int), (0 : Int)] [(0 : Int), (0 : Int), (4 : Int)] [(0 : Int), (0 : Int), (2 : Int)] (some (.r0 resc2))), .b true, .b true, .b true, .b true, .b true, .b true, .b false, .b false, .b false] (by kernel_rfl) (ya (ys (ef26 N 6 false true [(97 : Int), (98 : Int), (97 : Int), (98 : Int), (97 : Int), (98 : Int)]) hc0) (ya (ys (ef30 N 3 false true [(97 : Int), (98 : Int), (99 : Int)]) hc1) (ya (ys (ef33 N (List.length h1_0c0) res_0nlc0 3 false true h1_0c0 h1_1c0 h1_2c0 true [(97 : Int), (98 : Int), (0 : Int)] [(0 : Int), (0 : Int), (4 : Int)] [(0 : Int), (0 : Int), (2 : Int)]) hc2) (ya h3x (yt (ya (pE h4x) (yt (ya (pT (show ((List.length h1c1) = (List.length h1c1)) by omega)) (yt (ya (pNB h5x) (yf (yf yz))))))))))))
end
end Go.Proofs.Ytnkjpkfijafkgaa
