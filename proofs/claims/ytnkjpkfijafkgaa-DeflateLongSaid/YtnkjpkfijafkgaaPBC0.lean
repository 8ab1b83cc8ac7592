/-
Printed by a program of this session: plain functions, and that the evaluator answers as they do.
-/
import Derived.Test.YtnkjpkfijafkgaaS4
import Derived.Test.YtnkjpkfijafkgaaFns
import Derived.Test.YtnkjpkfijafkgaaPABC
set_option linter.unusedVariables false
set_option maxRecDepth 100000
namespace Go.Proofs.Ytnkjpkfijafkgaa
open Go.Abs
noncomputable section
/-! 47, loop 2 -/
inductive Qlf47_2 where
  | e0 (s7 : Int)
def slf47_2 (N : Nat) (a0n : Nat) (a1 : Int) (a2 : Int) (h0 : List Int) (n : Nat) (go : Int → Option Qlf47_2) (s7k2 : Int) : Option Qlf47_2 :=
 if (s7k2 < (258 : Int)) then
  if ((IntKind.wrap IntKind.i64 (a1 + s7k2)) < ((a0n : Nat) : Int)) then
   if (((0 : Int) ≤ (IntKind.wrap IntKind.i64 (a1 + s7k2))) ∧ ((Int.toNat (IntKind.wrap IntKind.i64 (a1 + s7k2))) < a0n)) then
    if ((0 + (Int.toNat (IntKind.wrap IntKind.i64 (a1 + s7k2)))) < (List.length h0)) then
     if (((0 : Int) ≤ (IntKind.wrap IntKind.i64 ((IntKind.wrap IntKind.i64 (a1 + s7k2)) - a2))) ∧ ((Int.toNat (IntKind.wrap IntKind.i64 ((IntKind.wrap IntKind.i64 (a1 + s7k2)) - a2))) < a0n)) then
      if ((0 + (Int.toNat (IntKind.wrap IntKind.i64 ((IntKind.wrap IntKind.i64 (a1 + s7k2)) - a2)))) < (List.length h0)) then
       if ((List.getD h0 (0 + (Int.toNat (IntKind.wrap IntKind.i64 (a1 + s7k2)))) (0 : Int)) = (List.getD h0 (0 + (Int.toNat (IntKind.wrap IntKind.i64 ((IntKind.wrap IntKind.i64 (a1 + s7k2)) - a2)))) (0 : Int))) then
        go (IntKind.wrap IntKind.i64 (s7k2 + (1 : Int)))
       else
       some (.e0 s7k2)
      else
       none
     else
      none
    else
     none
   else
    none
  else
   some (.e0 s7k2)
 else
  some (.e0 s7k2)
def lf47_2 (N : Nat) (a0n : Nat) (a1 : Int) (a2 : Int) (h0 : List Int) : Nat → Int → Option Qlf47_2
  | 0, _ => none
  | n + 1, s7k2 => slf47_2 N a0n a1 a2 h0 n (lf47_2 N a0n a1 a2 h0 n) s7k2
def qlf47_2 (a0n : Nat) (a0nl : Bool) (a1 : Int) (a2 : Int) (h0rw : Bool) (h0 : List Int) : Option Qlf47_2 → Out
  | none => none
  | some (.e0 s7) => some ((XT.exit 0), (St.mk [(7, (AV.int IntKind.i64 s7))] [(Blk.dyn h0rw 5 [(Col.ints IntKind.u8 h0)])]))
theorem elf47_2 (N : Nat) (a0n : Nat) (a0nl : Bool) (a1 : Int) (a2 : Int) (h0rw : Bool) (h0 : List Int) : ∀ (n : Nat) (s7k2 : Int), qlf47_2 a0n a0nl a1 a2 h0rw h0 (lf47_2 N a0n a1 a2 h0 n s7k2) = lp (ctx47 N) 1 Try.f47 2 n (St.mk [(0, (AV.slice 0 0 0 a0n 1 a0nl true)), (1, (AV.int IntKind.i64 a1)), (2, (AV.int IntKind.i64 a2)), (7, (AV.int IntKind.i64 s7k2))] [(Blk.dyn h0rw 5 [(Col.ints IntKind.u8 h0)])]) := by
  intro n
  induction n with
  | zero => intros; kernel_rfl
  | succ n ih =>
    intro s7k2
    rw [lf47_2]
    unfold slf47_2
    refine br (p := (s7k2 < (258 : Int))) (fun h6x => ?_) (fun h6x => finL (ctx47 N) 1 Try.f47 2 n [.b false, .b false, .b false, .b false, .b false, .b false, .b false, .b false, .b false, .b false, .b false, .b false, .b false, .b false, .b false, .b false, .b false, .b false, .b false, .b false, .b false, .b false] (by kernel_rfl) (ya (pF h6x) (yf (yf (yf (yf (yf (yf (yf (yf (yf (yf (yf (yf (yf (yf (yf (yf (yf (yf (yf (yf (yf yz)))))))))))))))))))))))
    refine br (p := ((IntKind.wrap IntKind.i64 (a1 + s7k2)) < ((a0n : Nat) : Int))) (fun h7x => ?_) (fun h7x => finL (ctx47 N) 1 Try.f47 2 n [.b true, .b true, .b true, .b true, .b true, .b true, .b false, .b false, .b false, .b false, .b false, .b false, .b false, .b false, .b false, .b false, .b false, .b false, .b false, .b false, .b false, .b false] (by kernel_rfl) (ya (pT h6x) (yt (yt (yt (yt (yt (ya (pF h7x) (yf (yf (yf (yf (yf (yf (yf (yf (yf (yf (yf (yf (yf (yf (yf yz)))))))))))))))))))))))
    refine br (p := (((0 : Int) ≤ (IntKind.wrap IntKind.i64 (a1 + s7k2))) ∧ ((Int.toNat (IntKind.wrap IntKind.i64 (a1 + s7k2))) < a0n))) (fun h8x => ?_) (fun h8x => finL (ctx47 N) 1 Try.f47 2 n [.b true, .b true, .b true, .b true, .b true, .b true, .b true, .b true, .b true, .b true, .b true, .b false] (by kernel_rfl) (ya (pT h6x) (yt (yt (yt (yt (yt (ya (pT h7x) (yt (yt (yt (yt (ya (pF h8x) yz)))))))))))))
    refine br (p := ((0 + (Int.toNat (IntKind.wrap IntKind.i64 (a1 + s7k2)))) < (List.length h0))) (fun h9x => ?_) (fun h9x => finL (ctx47 N) 1 Try.f47 2 n [.b true, .b true, .b true, .b true, .b true, .b true, .b true, .b true, .b true, .b true, .b true, .b true, .b true, .b false] (by kernel_rfl) (ya (pT h6x) (yt (yt (yt (yt (yt (ya (pT h7x) (yt (yt (yt (yt (ya (pT h8x) (yt (ya (pF h9x) yz)))))))))))))))
    refine br (p := (((0 : Int) ≤ (IntKind.wrap IntKind.i64 ((IntKind.wrap IntKind.i64 (a1 + s7k2)) - a2))) ∧ ((Int.toNat (IntKind.wrap IntKind.i64 ((IntKind.wrap IntKind.i64 (a1 + s7k2)) - a2))) < a0n))) (fun h10x => ?_) (fun h10x => finL (ctx47 N) 1 Try.f47 2 n [.b true, .b true, .b true, .b true, .b true, .b true, .b true, .b true, .b true, .b true, .b true, .b true, .b true, .b true, .b true, .b true, .b true, .b true, .b true, .b true, .b true, .b false] (by kernel_rfl) (ya (pT h6x) (yt (yt (yt (yt (yt (ya (pT h7x) (yt (yt (yt (yt (ya (pT h8x) (yt (ya (pT h9x) (yt (yt (yt (yt (yt (yt (yt (ya (pF h10x) yz)))))))))))))))))))))))
    refine br (p := ((0 + (Int.toNat (IntKind.wrap IntKind.i64 ((IntKind.wrap IntKind.i64 (a1 + s7k2)) - a2)))) < (List.length h0))) (fun h11x => ?_) (fun h11x => finL (ctx47 N) 1 Try.f47 2 n [.b true, .b true, .b true, .b true, .b true, .b true, .b true, .b true, .b true, .b true, .b true, .b true, .b true, .b true, .b true, .b true, .b true, .b true, .b true, .b true, .b true, .b true, .b true, .b false] (by kernel_rfl) (ya (pT h6x) (yt (yt (yt (yt (yt (ya (pT h7x) (yt (yt (yt (yt (ya (pT h8x) (yt (ya (pT h9x) (yt (yt (yt (yt (yt (yt (yt (ya (pT h10x) (yt (ya (pF h11x) yz)))))))))))))))))))))))))
    refine br (p := ((List.getD h0 (0 + (Int.toNat (IntKind.wrap IntKind.i64 (a1 + s7k2)))) (0 : Int)) = (List.getD h0 (0 + (Int.toNat (IntKind.wrap IntKind.i64 ((IntKind.wrap IntKind.i64 (a1 + s7k2)) - a2)))) (0 : Int)))) (fun h12x => (ih (IntKind.wrap IntKind.i64 (s7k2 + (1 : Int)))).trans (finL (ctx47 N) 1 Try.f47 2 n [.b true, .b true, .b true, .b true, .b true, .b true, .b true, .b true, .b true, .b true, .b true, .b true, .b true, .b true, .b true, .b true, .b true, .b true, .b true, .b true, .b true, .b true, .b true, .b true, .b true, .b true] (by kernel_rfl) (ya (pT h6x) (yt (yt (yt (yt (yt (ya (pT h7x) (yt (yt (yt (yt (ya (pT h8x) (yt (ya (pT h9x) (yt (yt (yt (yt (yt (yt (yt (ya (pT h10x) (yt (ya (pT h11x) (yt (ya (pE h12x) yz)))))))))))))))))))))))))))) (fun h12x => ?_)
    exact finL (ctx47 N) 1 Try.f47 2 n [.b true, .b true, .b true, .b true, .b true, .b true, .b true, .b true, .b true, .b true, .b true, .b true, .b true, .b true, .b true, .b true, .b true, .b true, .b true, .b true, .b true, .b true, .b true, .b true, .b true, .b false] (by kernel_rfl) (ya (pT h6x) (yt (yt (yt (yt (yt (ya (pT h7x) (yt (yt (yt (yt (ya (pT h8x) (yt (ya (pT h9x) (yt (yt (yt (yt (yt (yt (yt (ya (pT h10x) (yt (ya (pT h11x) (yt (ya (pNE h12x) yz))))))))))))))))))))))))))
/-! 47 -/
inductive Rf47 where
  | r0 (res : Int)
def f47 (N : Nat) (a0n : Nat) (a1 : Int) (a2 : Int) (h0 : List Int) : Option Rf47 :=
 (match lf47_2 N a0n a1 a2 h0 N (0 : Int) with
 | none => none
 | some (.e0 s7l13) =>
  some (.r0 s7l13))
def rf47 (a0n : Nat) (a0nl : Bool) (a1 : Int) (a2 : Int) (h0rw : Bool) (h0 : List Int) : Option Rf47 → Option (AV × Heap)
  | none => none
  | some (.r0 res) => some ((AV.int IntKind.i64 res), [(Blk.dyn h0rw 5 [(Col.ints IntKind.u8 h0)])])
theorem ef47 (N : Nat) (a0n : Nat) (a0nl : Bool) (a1 : Int) (a2 : Int) (h0rw : Bool) (h0 : List Int) : rf47 a0n a0nl a1 a2 h0rw h0 (f47 N a0n a1 a2 h0) = sem47 N [(AV.slice 0 0 0 a0n 1 a0nl true), (AV.int IntKind.i64 a1), (AV.int IntKind.i64 a2)] [(Blk.dyn h0rw 5 [(Col.ints IntKind.u8 h0)])] := by
  unfold f47
  cases ho13 : lf47_2 N a0n a1 a2 h0 N (0 : Int) with
  | none => exact finF (ctx47 N) Try.f47 [.out (qlf47_2 a0n a0nl a1 a2 h0rw h0 none)] (by kernel_rfl) (ya (ys (elf47_2 N a0n a0nl a1 a2 h0rw h0 N (0 : Int)) ho13) yz)
  | some o =>
    cases o with
    | e0 s7l13 =>
      dsimp only
      exact finF (ctx47 N) Try.f47 [.out (qlf47_2 a0n a0nl a1 a2 h0rw h0 (some (.e0 s7l13)))] (by kernel_rfl) (ya (ys (elf47_2 N a0n a0nl a1 a2 h0rw h0 N (0 : Int)) ho13) yz)
/-! 26, loop 8 -/
inductive Qlf26_8 where
  | e0 (h2_1 : Int) (h2_2 : Int)
def slf26_8 (N : Nat) (a0n : Nat) (h0 : List Int) (s5k5 : Int) (n : Nat) (go : Int → Int → Int → Option Qlf26_8) (s7k8 : Int) (h2_1k8 : Int) (h2_2k8 : Int) : Option Qlf26_8 :=
 if (s7k8 ≤ (if ((1024 : Int) < s5k5) then (1024 : Int) else s5k5)) then
  if (h2_1k8 < (258 : Int)) then
   (match f47 N a0n s5k5 s7k8 h0 with
   | none => none
   | some (.r0 resc10) =>
    if (resc10 > h2_1k8) then
     go (IntKind.wrap IntKind.i64 (s7k8 + (1 : Int))) resc10 s7k8
    else
    go (IntKind.wrap IntKind.i64 (s7k8 + (1 : Int))) h2_1k8 h2_2k8)
  else
   some (.e0 h2_1k8 h2_2k8)
 else
  some (.e0 h2_1k8 h2_2k8)
def lf26_8 (N : Nat) (a0n : Nat) (h0 : List Int) (s5k5 : Int) : Nat → Int → Int → Int → Option Qlf26_8
  | 0, _, _, _ => none
  | n + 1, s7k8, h2_1k8, h2_2k8 => slf26_8 N a0n h0 s5k5 n (lf26_8 N a0n h0 s5k5 n) s7k8 h2_1k8 h2_2k8
def qlf26_8 (a0n : Nat) (a0nl : Bool) (h0rw : Bool) (h0 : List Int) (s4nlk5 : Bool) (s5k5 : Int) (h1_0k5 : List Int) (h1_1k5 : List Int) (h1_2k5 : List Int) : Option Qlf26_8 → Out
  | none => none
  | some (.e0 h2_1 h2_2) => some ((XT.exit 2), (St.mk [(0, (AV.slice 0 0 0 a0n 1 a0nl true)), (4, (AV.slice 1 0 0 (List.length h1_0k5) 3 s4nlk5 true)), (5, (AV.int IntKind.i64 s5k5)), (6, (AV.ptr 2 0 0 1))] [(Blk.dyn h0rw 5 [(Col.ints IntKind.u8 h0)]), (Blk.dyn true 62 [(Col.ints IntKind.i64 h1_0k5), (Col.ints IntKind.i64 h1_1k5), (Col.ints IntKind.i64 h1_2k5)]), (Blk.segs true 62 [(Seg.cell (AV.int IntKind.i64 (0 : Int))), (Seg.cell (AV.int IntKind.i64 h2_1)), (Seg.cell (AV.int IntKind.i64 h2_2))])]))
theorem elf26_8 (N : Nat) (a0n : Nat) (a0nl : Bool) (h0rw : Bool) (h0 : List Int) (s4nlk5 : Bool) (s5k5 : Int) (h1_0k5 : List Int) (h1_1k5 : List Int) (h1_2k5 : List Int) : ∀ (n : Nat) (s7k8 : Int) (h2_1k8 : Int) (h2_2k8 : Int), qlf26_8 a0n a0nl h0rw h0 s4nlk5 s5k5 h1_0k5 h1_1k5 h1_2k5 (lf26_8 N a0n h0 s5k5 n s7k8 h2_1k8 h2_2k8) = lp (ctx26 N) 1 Try.f26 8 n (St.mk [(0, (AV.slice 0 0 0 a0n 1 a0nl true)), (4, (AV.slice 1 0 0 (List.length h1_0k5) 3 s4nlk5 true)), (5, (AV.int IntKind.i64 s5k5)), (6, (AV.ptr 2 0 0 1)), (7, (AV.int IntKind.i64 s7k8))] [(Blk.dyn h0rw 5 [(Col.ints IntKind.u8 h0)]), (Blk.dyn true 62 [(Col.ints IntKind.i64 h1_0k5), (Col.ints IntKind.i64 h1_1k5), (Col.ints IntKind.i64 h1_2k5)]), (Blk.segs true 62 [(Seg.cell (AV.int IntKind.i64 (0 : Int))), (Seg.cell (AV.int IntKind.i64 h2_1k8)), (Seg.cell (AV.int IntKind.i64 h2_2k8))])]) := by
  intro n
  induction n with
  | zero => intros; kernel_rfl
  | succ n ih =>
    intro s7k8 h2_1k8 h2_2k8
    rw [lf26_8]
    unfold slf26_8
    refine br (p := (s7k8 ≤ (if ((1024 : Int) < s5k5) then (1024 : Int) else s5k5))) (fun h8x => ?_) (fun h8x => finL (ctx26 N) 1 Try.f26 8 n [.b false, .b false, .b false, .b false] (by kernel_rfl) (ya (pF h8x) (yf (yf (yf yz)))))
    refine br (p := (h2_1k8 < (258 : Int))) (fun h9x => ?_) (fun h9x => finL (ctx26 N) 1 Try.f26 8 n [.b true, .b true, .b true, .b false] (by kernel_rfl) (ya (pT h8x) (yt (yt (ya (pF h9x) yz)))))
    cases hc10 : f47 N a0n s5k5 s7k8 h0 with
    | none => exact finL (ctx26 N) 1 Try.f26 8 n [.b true, .b true, .b true, .b true, .call (rf47 a0n a0nl s5k5 s7k8 h0rw h0 none)] (by kernel_rfl) (ya (pT h8x) (yt (yt (ya (pT h9x) (ya (ys (ef47 N a0n a0nl s5k5 s7k8 h0rw h0) hc10) yz)))))
    | some o =>
      cases o with
      | r0 resc10 =>
        dsimp only
        refine br (p := (resc10 > h2_1k8)) (fun h11x => (ih (IntKind.wrap IntKind.i64 (s7k8 + (1 : Int))) resc10 s7k8).trans (finL (ctx26 N) 1 Try.f26 8 n [.b true, .b true, .b true, .b true, .call (rf47 a0n a0nl s5k5 s7k8 h0rw h0 (some (.r0 resc10))), .b true] (by kernel_rfl) (ya (pT h8x) (yt (yt (ya (pT h9x) (ya (ys (ef47 N a0n a0nl s5k5 s7k8 h0rw h0) hc10) (ya (pT h11x) yz)))))))) (fun h11x => ?_)
        exact (ih (IntKind.wrap IntKind.i64 (s7k8 + (1 : Int))) h2_1k8 h2_2k8).trans (finL (ctx26 N) 1 Try.f26 8 n [.b true, .b true, .b true, .b true, .call (rf47 a0n a0nl s5k5 s7k8 h0rw h0 (some (.r0 resc10))), .b false] (by kernel_rfl) (ya (pT h8x) (yt (yt (ya (pT h9x) (ya (ys (ef47 N a0n a0nl s5k5 s7k8 h0rw h0) hc10) (ya (pF h11x) yz)))))))
/-! 26, loop 5 -/
inductive Qlf26_5 where
  | e0 (s4nl : Bool) (h1_0 : List Int) (h1_1 : List Int) (h1_2 : List Int)
def slf26_5 (N : Nat) (a0n : Nat) (h0 : List Int) (n : Nat) (go : Bool → Int → List Int → List Int → List Int → Option Qlf26_5) (s4nlk5 : Bool) (s5k5 : Int) (h1_0k5 : List Int) (h1_1k5 : List Int) (h1_2k5 : List Int) : Option Qlf26_5 :=
 if (s5k5 < ((a0n : Nat) : Int)) then
  (match lf26_8 N a0n h0 s5k5 N (1 : Int) (0 : Int) (0 : Int) with
  | none => none
  | some (.e0 h2_1l12 h2_2l12) =>
   if (h2_1l12 < (3 : Int)) then
    if (((0 : Int) ≤ s5k5) ∧ ((Int.toNat s5k5) < a0n)) then
     if ((0 + (Int.toNat s5k5)) < (List.length h0)) then
      if (((List.length h1_0k5) = (List.length h1_0k5)) ∧ (((List.length h1_0k5) + (List.length [(IntKind.wrap IntKind.i64 (List.getD h0 (0 + (Int.toNat s5k5)) (0 : Int)))])) ≤ 1099511627776)) then
       go false (IntKind.wrap IntKind.i64 (s5k5 + (1 : Int))) (h1_0k5 ++ [(IntKind.wrap IntKind.i64 (List.getD h0 (0 + (Int.toNat s5k5)) (0 : Int)))]) (h1_1k5 ++ [(0 : Int)]) (h1_2k5 ++ [(0 : Int)])
      else
      none
     else
      none
    else
     none
   else
    if (((List.length h1_0k5) = (List.length h1_0k5)) ∧ (((List.length h1_0k5) + 1) ≤ 1099511627776)) then
     go false (IntKind.wrap IntKind.i64 (s5k5 + (if ((1 : Int) > h2_1l12) then (1 : Int) else h2_1l12))) (h1_0k5 ++ [(0 : Int)]) (h1_1k5 ++ [h2_1l12]) (h1_2k5 ++ [h2_2l12])
    else
    none)
 else
  some (.e0 s4nlk5 h1_0k5 h1_1k5 h1_2k5)
def lf26_5 (N : Nat) (a0n : Nat) (h0 : List Int) : Nat → Bool → Int → List Int → List Int → List Int → Option Qlf26_5
  | 0, _, _, _, _, _ => none
  | n + 1, s4nlk5, s5k5, h1_0k5, h1_1k5, h1_2k5 => slf26_5 N a0n h0 n (lf26_5 N a0n h0 n) s4nlk5 s5k5 h1_0k5 h1_1k5 h1_2k5
def qlf26_5 (a0n : Nat) (a0nl : Bool) (h0rw : Bool) (h0 : List Int) : Option Qlf26_5 → Out
  | none => none
  | some (.e0 s4nl h1_0 h1_1 h1_2) => some ((XT.exit 0), (St.mk [(4, (AV.slice 1 0 0 (List.length h1_0) 3 s4nl true))] [(Blk.dyn h0rw 5 [(Col.ints IntKind.u8 h0)]), (Blk.dyn true 62 [(Col.ints IntKind.i64 h1_0), (Col.ints IntKind.i64 h1_1), (Col.ints IntKind.i64 h1_2)])]))
theorem elf26_5 (N : Nat) (a0n : Nat) (a0nl : Bool) (h0rw : Bool) (h0 : List Int) : ∀ (n : Nat) (s4nlk5 : Bool) (s5k5 : Int) (h1_0k5 : List Int) (h1_1k5 : List Int) (h1_2k5 : List Int), qlf26_5 a0n a0nl h0rw h0 (lf26_5 N a0n h0 n s4nlk5 s5k5 h1_0k5 h1_1k5 h1_2k5) = lp (ctx26 N) 1 Try.f26 5 n (St.mk [(0, (AV.slice 0 0 0 a0n 1 a0nl true)), (4, (AV.slice 1 0 0 (List.length h1_0k5) 3 s4nlk5 true)), (5, (AV.int IntKind.i64 s5k5))] [(Blk.dyn h0rw 5 [(Col.ints IntKind.u8 h0)]), (Blk.dyn true 62 [(Col.ints IntKind.i64 h1_0k5), (Col.ints IntKind.i64 h1_1k5), (Col.ints IntKind.i64 h1_2k5)])]) := by
  intro n
  induction n with
  | zero => intros; kernel_rfl
  | succ n ih =>
    intro s4nlk5 s5k5 h1_0k5 h1_1k5 h1_2k5
    rw [lf26_5]
    unfold slf26_5
    refine br (p := (s5k5 < ((a0n : Nat) : Int))) (fun h4x => ?_) (fun h4x => finL (ctx26 N) 1 Try.f26 5 n [.b false] (by kernel_rfl) (ya (pF h4x) yz))
    cases ho12 : lf26_8 N a0n h0 s5k5 N (1 : Int) (0 : Int) (0 : Int) with
    | none => exact finL (ctx26 N) 1 Try.f26 5 n [.b true, .out (qlf26_8 a0n a0nl h0rw h0 s4nlk5 s5k5 h1_0k5 h1_1k5 h1_2k5 none)] (by kernel_rfl) (ya (pT h4x) (ya (ys (elf26_8 N a0n a0nl h0rw h0 s4nlk5 s5k5 h1_0k5 h1_1k5 h1_2k5 N (1 : Int) (0 : Int) (0 : Int)) ho12) yz))
    | some o =>
      cases o with
      | e0 h2_1l12 h2_2l12 =>
        dsimp only
        refine br (p := (h2_1l12 < (3 : Int))) (fun h13x => ?_) (fun h13x => ?_)
        · skip
          refine br (p := (((0 : Int) ≤ s5k5) ∧ ((Int.toNat s5k5) < a0n))) (fun h14x => ?_) (fun h14x => finL (ctx26 N) 1 Try.f26 5 n [.b true, .out (qlf26_8 a0n a0nl h0rw h0 s4nlk5 s5k5 h1_0k5 h1_1k5 h1_2k5 (some (.e0 h2_1l12 h2_2l12))), .b true, .b false] (by kernel_rfl) (ya (pT h4x) (ya (ys (elf26_8 N a0n a0nl h0rw h0 s4nlk5 s5k5 h1_0k5 h1_1k5 h1_2k5 N (1 : Int) (0 : Int) (0 : Int)) ho12) (ya (pT h13x) (ya (pF h14x) yz)))))
          refine br (p := ((0 + (Int.toNat s5k5)) < (List.length h0))) (fun h15x => ?_) (fun h15x => finL (ctx26 N) 1 Try.f26 5 n [.b true, .out (qlf26_8 a0n a0nl h0rw h0 s4nlk5 s5k5 h1_0k5 h1_1k5 h1_2k5 (some (.e0 h2_1l12 h2_2l12))), .b true, .b true, .b false] (by kernel_rfl) (ya (pT h4x) (ya (ys (elf26_8 N a0n a0nl h0rw h0 s4nlk5 s5k5 h1_0k5 h1_1k5 h1_2k5 N (1 : Int) (0 : Int) (0 : Int)) ho12) (ya (pT h13x) (ya (pT h14x) (ya (pF h15x) yz))))))
          refine br (p := (((List.length h1_0k5) = (List.length h1_0k5)) ∧ (((List.length h1_0k5) + (List.length [(IntKind.wrap IntKind.i64 (List.getD h0 (0 + (Int.toNat s5k5)) (0 : Int)))])) ≤ 1099511627776))) (fun h16x => (ih false (IntKind.wrap IntKind.i64 (s5k5 + (1 : Int))) (h1_0k5 ++ [(IntKind.wrap IntKind.i64 (List.getD h0 (0 + (Int.toNat s5k5)) (0 : Int)))]) (h1_1k5 ++ [(0 : Int)]) (h1_2k5 ++ [(0 : Int)])).trans (finL (ctx26 N) 1 Try.f26 5 n [.b true, .out (qlf26_8 a0n a0nl h0rw h0 s4nlk5 s5k5 h1_0k5 h1_1k5 h1_2k5 (some (.e0 h2_1l12 h2_2l12))), .b true, .b true, .b true, .b true, .b true] (by kernel_rfl) (ya (pT h4x) (ya (ys (elf26_8 N a0n a0nl h0rw h0 s4nlk5 s5k5 h1_0k5 h1_1k5 h1_2k5 N (1 : Int) (0 : Int) (0 : Int)) ho12) (ya (pT h13x) (ya (pT h14x) (ya (pT h15x) (yt (ya (pT h16x) yz))))))))) (fun h16x => ?_)
          exact finL (ctx26 N) 1 Try.f26 5 n [.b true, .out (qlf26_8 a0n a0nl h0rw h0 s4nlk5 s5k5 h1_0k5 h1_1k5 h1_2k5 (some (.e0 h2_1l12 h2_2l12))), .b true, .b true, .b true, .b true, .b false] (by kernel_rfl) (ya (pT h4x) (ya (ys (elf26_8 N a0n a0nl h0rw h0 s4nlk5 s5k5 h1_0k5 h1_1k5 h1_2k5 N (1 : Int) (0 : Int) (0 : Int)) ho12) (ya (pT h13x) (ya (pT h14x) (ya (pT h15x) (yt (ya (pF h16x) yz)))))))
        · skip
          refine br (p := (((List.length h1_0k5) = (List.length h1_0k5)) ∧ (((List.length h1_0k5) + 1) ≤ 1099511627776))) (fun h17x => (ih false (IntKind.wrap IntKind.i64 (s5k5 + (if ((1 : Int) > h2_1l12) then (1 : Int) else h2_1l12))) (h1_0k5 ++ [(0 : Int)]) (h1_1k5 ++ [h2_1l12]) (h1_2k5 ++ [h2_2l12])).trans (finL (ctx26 N) 1 Try.f26 5 n [.b true, .out (qlf26_8 a0n a0nl h0rw h0 s4nlk5 s5k5 h1_0k5 h1_1k5 h1_2k5 (some (.e0 h2_1l12 h2_2l12))), .b false, .b true, .b true] (by kernel_rfl) (ya (pT h4x) (ya (ys (elf26_8 N a0n a0nl h0rw h0 s4nlk5 s5k5 h1_0k5 h1_1k5 h1_2k5 N (1 : Int) (0 : Int) (0 : Int)) ho12) (ya (pF h13x) (yt (ya (pT h17x) yz))))))) (fun h17x => ?_)
          exact finL (ctx26 N) 1 Try.f26 5 n [.b true, .out (qlf26_8 a0n a0nl h0rw h0 s4nlk5 s5k5 h1_0k5 h1_1k5 h1_2k5 (some (.e0 h2_1l12 h2_2l12))), .b false, .b true, .b false] (by kernel_rfl) (ya (pT h4x) (ya (ys (elf26_8 N a0n a0nl h0rw h0 s4nlk5 s5k5 h1_0k5 h1_1k5 h1_2k5 N (1 : Int) (0 : Int) (0 : Int)) ho12) (ya (pF h13x) (yt (ya (pF h17x) yz)))))
/-! 26 -/
inductive Rf26 where
  | r0 (res_0nl : Bool) (res_1 : Int) (h1_0 : List Int) (h1_1 : List Int) (h1_2 : List Int)
def f26 (N : Nat) (a0n : Nat) (h0 : List Int) : Option Rf26 :=
 if (((a0n : Nat) : Int) > (1048576 : Int)) then
  some (.r0 true (2 : Int) ([] : List Int) ([] : List Int) ([] : List Int))
 else
 (match lf26_5 N a0n h0 N true (0 : Int) ([] : List Int) ([] : List Int) ([] : List Int) with
 | none => none
 | some (.e0 s4nll18 h1_0l18 h1_1l18 h1_2l18) =>
  some (.r0 s4nll18 (0 : Int) h1_0l18 h1_1l18 h1_2l18))
def rf26 (a0n : Nat) (a0nl : Bool) (h0rw : Bool) (h0 : List Int) : Option Rf26 → Option (AV × Heap)
  | none => none
  | some (.r0 res_0nl res_1 h1_0 h1_1 h1_2) => some ((AV.tuple [(AV.slice 1 0 0 (List.length h1_0) 3 res_0nl true), (AV.int IntKind.i64 res_1)]), [(Blk.dyn h0rw 5 [(Col.ints IntKind.u8 h0)]), (Blk.dyn true 62 [(Col.ints IntKind.i64 h1_0), (Col.ints IntKind.i64 h1_1), (Col.ints IntKind.i64 h1_2)])])
theorem ef26 (N : Nat) (a0n : Nat) (a0nl : Bool) (h0rw : Bool) (h0 : List Int) : rf26 a0n a0nl h0rw h0 (f26 N a0n h0) = sem26 N [(AV.slice 0 0 0 a0n 1 a0nl true)] [(Blk.dyn h0rw 5 [(Col.ints IntKind.u8 h0)])] := by
  unfold f26
  refine br (p := (((a0n : Nat) : Int) > (1048576 : Int))) (fun h0x => finF (ctx26 N) Try.f26 [.b true] (by kernel_rfl) (ya (pT h0x) yz)) (fun h0x => ?_)
  cases ho18 : lf26_5 N a0n h0 N true (0 : Int) ([] : List Int) ([] : List Int) ([] : List Int) with
  | none => exact finF (ctx26 N) Try.f26 [.b false, .out (qlf26_5 a0n a0nl h0rw h0 none)] (by kernel_rfl) (ya (pF h0x) (ya (ys (elf26_5 N a0n a0nl h0rw h0 N true (0 : Int) ([] : List Int) ([] : List Int) ([] : List Int)) ho18) yz))
  | some o =>
    cases o with
    | e0 s4nll18 h1_0l18 h1_1l18 h1_2l18 =>
      dsimp only
      exact finF (ctx26 N) Try.f26 [.b false, .out (qlf26_5 a0n a0nl h0rw h0 (some (.e0 s4nll18 h1_0l18 h1_1l18 h1_2l18)))] (by kernel_rfl) (ya (pF h0x) (ya (ys (elf26_5 N a0n a0nl h0rw h0 N true (0 : Int) ([] : List Int) ([] : List Int) ([] : List Int)) ho18) yz))
/-! 51 -/
inductive Rf51 where
  | r0 (res : Bool)
def f51 (N : Nat) (a0_0 : Int) (a0_1 : Int) (a0_2 : Int) : Option Rf51 :=
 if (a0_1 = (0 : Int)) then
  if (a0_2 = (0 : Int)) then
   some (.r0 ((Int.fdiv a0_0 (256 : Int)) == (0 : Int)))
  else
   some (.r0 false)
 else
  if (a0_0 = (0 : Int)) then
   if (a0_1 ≥ (3 : Int)) then
    if (a0_1 ≤ (258 : Int)) then
     if (a0_2 ≥ (1 : Int)) then
      some (.r0 (Decidable.decide (a0_2 ≤ (32768 : Int))))
     else
      some (.r0 false)
    else
     some (.r0 false)
   else
    some (.r0 false)
  else
   some (.r0 false)
def rf51 (a0_0 : Int) (a0_1 : Int) (a0_2 : Int) : Option Rf51 → Option (AV × Heap)
  | none => none
  | some (.r0 res) => some ((AV.bool res), ([] : List Blk))
theorem ef51 (N : Nat) (a0_0 : Int) (a0_1 : Int) (a0_2 : Int) : rf51 a0_0 a0_1 a0_2 (f51 N a0_0 a0_1 a0_2) = sem51 N [(AV.agg [(Seg.cell (AV.int IntKind.i64 a0_0)), (Seg.cell (AV.int IntKind.i64 a0_1)), (Seg.cell (AV.int IntKind.i64 a0_2))])] ([] : List Blk) := by
  unfold f51
  refine br (p := (a0_1 = (0 : Int))) (fun h0x => ?_) (fun h0x => ?_)
  · skip
    refine br (p := (a0_2 = (0 : Int))) (fun h1x => finF (ctx51 N) Try.f51 [.b true, .b true, .b true, .b true, .b false, .b true] (by kernel_rfl) (ya (pE h0x) (ya (pE h1x) (yt (yt (yf (yt yz))))))) (fun h1x => ?_)
    exact finF (ctx51 N) Try.f51 [.b true, .b false, .b false, .b false, .b false] (by kernel_rfl) (ya (pE h0x) (ya (pNE h1x) (yf (yf (yf yz)))))
  · skip
    refine br (p := (a0_0 = (0 : Int))) (fun h2x => ?_) (fun h2x => finF (ctx51 N) Try.f51 [.b false, .b false, .b false, .b false, .b false, .b false, .b false, .b false, .b false, .b false, .b false, .b false, .b false] (by kernel_rfl) (ya (pNE h0x) (ya (pNE h2x) (yf (yf (yf (yf (yf (yf (yf (yf (yf (yf (yf yz))))))))))))))
    refine br (p := (a0_1 ≥ (3 : Int))) (fun h3x => ?_) (fun h3x => finF (ctx51 N) Try.f51 [.b false, .b true, .b true, .b true, .b false, .b false, .b false, .b false, .b false, .b false, .b false, .b false, .b false] (by kernel_rfl) (ya (pNE h0x) (ya (pE h2x) (yt (yt (ya (pF h3x) (yf (yf (yf (yf (yf (yf (yf (yf yz))))))))))))))
    refine br (p := (a0_1 ≤ (258 : Int))) (fun h4x => ?_) (fun h4x => finF (ctx51 N) Try.f51 [.b false, .b true, .b true, .b true, .b true, .b true, .b true, .b false, .b false, .b false, .b false, .b false, .b false] (by kernel_rfl) (ya (pNE h0x) (ya (pE h2x) (yt (yt (ya (pT h3x) (yt (yt (ya (pF h4x) (yf (yf (yf (yf (yf yz))))))))))))))
    refine br (p := (a0_2 ≥ (1 : Int))) (fun h5x => finF (ctx51 N) Try.f51 [.b false, .b true, .b true, .b true, .b true, .b true, .b true, .b true, .b true, .b true, .b true, .b true, .b true] (by kernel_rfl) (ya (pNE h0x) (ya (pE h2x) (yt (yt (ya (pT h3x) (yt (yt (ya (pT h4x) (yt (yt (ya (pT h5x) (yt (yt yz)))))))))))))) (fun h5x => ?_)
    exact finF (ctx51 N) Try.f51 [.b false, .b true, .b true, .b true, .b true, .b true, .b true, .b true, .b true, .b true, .b false, .b false, .b false] (by kernel_rfl) (ya (pNE h0x) (ya (pE h2x) (yt (yt (ya (pT h3x) (yt (yt (ya (pT h4x) (yt (yt (ya (pF h5x) (yf (yf yz)))))))))))))
/-! 50 -/
inductive Rf50 where
  | r0 (res : Bool)
def f50 (N : Nat) (a0_0 : Int) (a0_1 : Int) (a0_2 : Int) : Option Rf50 :=
 (match f51 N a0_0 a0_1 a0_2 with
 | none => none
 | some (.r0 resc0) =>
  some (.r0 (!resc0)))
def rf50 (a0_0 : Int) (a0_1 : Int) (a0_2 : Int) : Option Rf50 → Option (AV × Heap)
  | none => none
  | some (.r0 res) => some ((AV.bool res), ([] : List Blk))
theorem ef50 (N : Nat) (a0_0 : Int) (a0_1 : Int) (a0_2 : Int) : rf50 a0_0 a0_1 a0_2 (f50 N a0_0 a0_1 a0_2) = sem50 N [(AV.agg [(Seg.cell (AV.int IntKind.i64 a0_0)), (Seg.cell (AV.int IntKind.i64 a0_1)), (Seg.cell (AV.int IntKind.i64 a0_2))])] ([] : List Blk) := by
  unfold f50
  cases hc0 : f51 N a0_0 a0_1 a0_2 with
  | none => exact finF (ctx50 N) Try.f50 [.call (rf51 a0_0 a0_1 a0_2 none)] (by kernel_rfl) (ya (ys (ef51 N a0_0 a0_1 a0_2) hc0) yz)
  | some o =>
    cases o with
    | r0 resc0 =>
      dsimp only
      exact finF (ctx50 N) Try.f50 [.call (rf51 a0_0 a0_1 a0_2 (some (.r0 resc0)))] (by kernel_rfl) (ya (ys (ef51 N a0_0 a0_1 a0_2) hc0) yz)
/-! 64, loop 2 -/
inductive Qlf64_2 where
  | e0 (s4 : Int)
  | e1
def slf64_2 (N : Nat) (a0n : Nat) (h0_0 : List Int) (h0_1 : List Int) (h0_2 : List Int) (n : Nat) (go : Int → Option Qlf64_2) (s8k2 : Int) : Option Qlf64_2 :=
 if (s8k2 < ((a0n : Nat) : Int)) then
  if (((0 : Int) ≤ s8k2) ∧ ((Int.toNat s8k2) < a0n)) then
   if ((0 + (Int.toNat s8k2)) < (List.length h0_0)) then
    (match f50 N (List.getD h0_0 (0 + (Int.toNat s8k2)) (0 : Int)) (List.getD h0_1 (0 + (Int.toNat s8k2)) (0 : Int)) (List.getD h0_2 (0 + (Int.toNat s8k2)) (0 : Int)) with
    | none => none
    | some (.r0 resc7) =>
     if (resc7 = true) then
      some (.e0 s8k2)
     else
     go (IntKind.wrap IntKind.i64 (s8k2 + (1 : Int))))
   else
    none
  else
   none
 else
  some .e1
def lf64_2 (N : Nat) (a0n : Nat) (h0_0 : List Int) (h0_1 : List Int) (h0_2 : List Int) : Nat → Int → Option Qlf64_2
  | 0, _ => none
  | n + 1, s8k2 => slf64_2 N a0n h0_0 h0_1 h0_2 n (lf64_2 N a0n h0_0 h0_1 h0_2 n) s8k2
def qlf64_2 (a0n : Nat) (a0nl : Bool) (h0rw : Bool) (h0_0 : List Int) (h0_1 : List Int) (h0_2 : List Int) : Option Qlf64_2 → Out
  | none => none
  | some (.e0 s4) => some (XT.ret, (St.mk [(4, (AV.int IntKind.i64 s4))] [(Blk.dyn h0rw 62 [(Col.ints IntKind.i64 h0_0), (Col.ints IntKind.i64 h0_1), (Col.ints IntKind.i64 h0_2)])]))
  | some .e1 => some ((XT.exit 0), (St.mk ([] : List (Nat × AV)) [(Blk.dyn h0rw 62 [(Col.ints IntKind.i64 h0_0), (Col.ints IntKind.i64 h0_1), (Col.ints IntKind.i64 h0_2)])]))
theorem elf64_2 (N : Nat) (a0n : Nat) (a0nl : Bool) (h0rw : Bool) (h0_0 : List Int) (h0_1 : List Int) (h0_2 : List Int) : ∀ (n : Nat) (s8k2 : Int), qlf64_2 a0n a0nl h0rw h0_0 h0_1 h0_2 (lf64_2 N a0n h0_0 h0_1 h0_2 n s8k2) = lp (ctx64 N) 1 Try.f64 2 n (St.mk [(0, (AV.slice 0 0 0 a0n 3 a0nl true)), (1, (AV.func 50 ([] : List AV) ([] : List AV))), (7, (AV.int IntKind.i64 ((a0n : Nat) : Int))), (8, (AV.int IntKind.i64 s8k2))] [(Blk.dyn h0rw 62 [(Col.ints IntKind.i64 h0_0), (Col.ints IntKind.i64 h0_1), (Col.ints IntKind.i64 h0_2)])]) := by
  intro n
  induction n with
  | zero => intros; kernel_rfl
  | succ n ih =>
    intro s8k2
    rw [lf64_2]
    unfold slf64_2
    refine br (p := (s8k2 < ((a0n : Nat) : Int))) (fun h4x => ?_) (fun h4x => finL (ctx64 N) 1 Try.f64 2 n [.b false] (by kernel_rfl) (ya (pF h4x) yz))
    refine br (p := (((0 : Int) ≤ s8k2) ∧ ((Int.toNat s8k2) < a0n))) (fun h5x => ?_) (fun h5x => finL (ctx64 N) 1 Try.f64 2 n [.b true, .b false] (by kernel_rfl) (ya (pT h4x) (ya (pF h5x) yz)))
    refine br (p := ((0 + (Int.toNat s8k2)) < (List.length h0_0))) (fun h6x => ?_) (fun h6x => finL (ctx64 N) 1 Try.f64 2 n [.b true, .b true, .b false] (by kernel_rfl) (ya (pT h4x) (ya (pT h5x) (ya (pF h6x) yz))))
    cases hc7 : f50 N (List.getD h0_0 (0 + (Int.toNat s8k2)) (0 : Int)) (List.getD h0_1 (0 + (Int.toNat s8k2)) (0 : Int)) (List.getD h0_2 (0 + (Int.toNat s8k2)) (0 : Int)) with
    | none => exact finL (ctx64 N) 1 Try.f64 2 n [.b true, .b true, .b true, .call (rf50 (List.getD h0_0 (0 + (Int.toNat s8k2)) (0 : Int)) (List.getD h0_1 (0 + (Int.toNat s8k2)) (0 : Int)) (List.getD h0_2 (0 + (Int.toNat s8k2)) (0 : Int)) none)] (by kernel_rfl) (ya (pT h4x) (ya (pT h5x) (ya (pT h6x) (ya (ys (ef50 N (List.getD h0_0 (0 + (Int.toNat s8k2)) (0 : Int)) (List.getD h0_1 (0 + (Int.toNat s8k2)) (0 : Int)) (List.getD h0_2 (0 + (Int.toNat s8k2)) (0 : Int))) hc7) yz))))
    | some o =>
      cases o with
      | r0 resc7 =>
        dsimp only
        refine br (p := (resc7 = true)) (fun h8x => finL (ctx64 N) 1 Try.f64 2 n [.b true, .b true, .b true, .call (rf50 (List.getD h0_0 (0 + (Int.toNat s8k2)) (0 : Int)) (List.getD h0_1 (0 + (Int.toNat s8k2)) (0 : Int)) (List.getD h0_2 (0 + (Int.toNat s8k2)) (0 : Int)) (some (.r0 resc7))), .b true] (by kernel_rfl) (ya (pT h4x) (ya (pT h5x) (ya (pT h6x) (ya (ys (ef50 N (List.getD h0_0 (0 + (Int.toNat s8k2)) (0 : Int)) (List.getD h0_1 (0 + (Int.toNat s8k2)) (0 : Int)) (List.getD h0_2 (0 + (Int.toNat s8k2)) (0 : Int))) hc7) (ya h8x yz)))))) (fun h8x => ?_)
        exact (ih (IntKind.wrap IntKind.i64 (s8k2 + (1 : Int)))).trans (finL (ctx64 N) 1 Try.f64 2 n [.b true, .b true, .b true, .call (rf50 (List.getD h0_0 (0 + (Int.toNat s8k2)) (0 : Int)) (List.getD h0_1 (0 + (Int.toNat s8k2)) (0 : Int)) (List.getD h0_2 (0 + (Int.toNat s8k2)) (0 : Int)) (some (.r0 resc7))), .b false] (by kernel_rfl) (ya (pT h4x) (ya (pT h5x) (ya (pT h6x) (ya (ys (ef50 N (List.getD h0_0 (0 + (Int.toNat s8k2)) (0 : Int)) (List.getD h0_1 (0 + (Int.toNat s8k2)) (0 : Int)) (List.getD h0_2 (0 + (Int.toNat s8k2)) (0 : Int))) hc7) (ya (pNB h8x) yz))))))
/-! 64 -/
inductive Rf64 where
  | r0 (res : Int)
def f64 (N : Nat) (a0n : Nat) (h0_0 : List Int) (h0_1 : List Int) (h0_2 : List Int) : Option Rf64 :=
 (match lf64_2 N a0n h0_0 h0_1 h0_2 N (0 : Int) with
 | none => none
 | some (.e0 s4l9) =>
  some (.r0 s4l9)
 | some .e1 =>
  some (.r0 (-(1 : Int) : Int)))
def rf64 (a0n : Nat) (a0nl : Bool) (h0rw : Bool) (h0_0 : List Int) (h0_1 : List Int) (h0_2 : List Int) : Option Rf64 → Option (AV × Heap)
  | none => none
  | some (.r0 res) => some ((AV.int IntKind.i64 res), [(Blk.dyn h0rw 62 [(Col.ints IntKind.i64 h0_0), (Col.ints IntKind.i64 h0_1), (Col.ints IntKind.i64 h0_2)])])
theorem ef64 (N : Nat) (a0n : Nat) (a0nl : Bool) (h0rw : Bool) (h0_0 : List Int) (h0_1 : List Int) (h0_2 : List Int) : rf64 a0n a0nl h0rw h0_0 h0_1 h0_2 (f64 N a0n h0_0 h0_1 h0_2) = sem64 N [(AV.slice 0 0 0 a0n 3 a0nl true), (AV.func 50 ([] : List AV) ([] : List AV))] [(Blk.dyn h0rw 62 [(Col.ints IntKind.i64 h0_0), (Col.ints IntKind.i64 h0_1), (Col.ints IntKind.i64 h0_2)])] := by
  unfold f64
  cases ho9 : lf64_2 N a0n h0_0 h0_1 h0_2 N (0 : Int) with
  | none => exact finF (ctx64 N) Try.f64 [.out (qlf64_2 a0n a0nl h0rw h0_0 h0_1 h0_2 none)] (by kernel_rfl) (ya (ys (elf64_2 N a0n a0nl h0rw h0_0 h0_1 h0_2 N (0 : Int)) ho9) yz)
  | some o =>
    cases o with
    | e0 s4l9 =>
      dsimp only
      exact finF (ctx64 N) Try.f64 [.out (qlf64_2 a0n a0nl h0rw h0_0 h0_1 h0_2 (some (.e0 s4l9)))] (by kernel_rfl) (ya (ys (elf64_2 N a0n a0nl h0rw h0_0 h0_1 h0_2 N (0 : Int)) ho9) yz)
    | e1 =>
      dsimp only
      exact finF (ctx64 N) Try.f64 [.out (qlf64_2 a0n a0nl h0rw h0_0 h0_1 h0_2 (some .e1))] (by kernel_rfl) (ya (ys (elf64_2 N a0n a0nl h0rw h0_0 h0_1 h0_2 N (0 : Int)) ho9) yz)
/-! 49 -/
inductive Rf49 where
  | r0 (res : Bool)
def f49 (N : Nat) (a0n : Nat) (h0_0 : List Int) (h0_1 : List Int) (h0_2 : List Int) : Option Rf49 :=
 (match f64 N a0n h0_0 h0_1 h0_2 with
 | none => none
 | some (.r0 resc0) =>
  some (.r0 (Decidable.decide (resc0 ≥ (0 : Int)))))
def rf49 (a0n : Nat) (a0nl : Bool) (h0rw : Bool) (h0_0 : List Int) (h0_1 : List Int) (h0_2 : List Int) : Option Rf49 → Option (AV × Heap)
  | none => none
  | some (.r0 res) => some ((AV.bool res), [(Blk.dyn h0rw 62 [(Col.ints IntKind.i64 h0_0), (Col.ints IntKind.i64 h0_1), (Col.ints IntKind.i64 h0_2)])])
theorem ef49 (N : Nat) (a0n : Nat) (a0nl : Bool) (h0rw : Bool) (h0_0 : List Int) (h0_1 : List Int) (h0_2 : List Int) : rf49 a0n a0nl h0rw h0_0 h0_1 h0_2 (f49 N a0n h0_0 h0_1 h0_2) = sem49 N [(AV.slice 0 0 0 a0n 3 a0nl true), (AV.func 50 ([] : List AV) ([] : List AV))] [(Blk.dyn h0rw 62 [(Col.ints IntKind.i64 h0_0), (Col.ints IntKind.i64 h0_1), (Col.ints IntKind.i64 h0_2)])] := by
  unfold f49
  cases hc0 : f64 N a0n h0_0 h0_1 h0_2 with
  | none => exact finF (ctx49 N) Try.f49 [.call (rf64 a0n a0nl h0rw h0_0 h0_1 h0_2 none)] (by kernel_rfl) (ya (ys (ef64 N a0n a0nl h0rw h0_0 h0_1 h0_2) hc0) yz)
  | some o =>
    cases o with
    | r0 resc0 =>
      dsimp only
      exact finF (ctx49 N) Try.f49 [.call (rf64 a0n a0nl h0rw h0_0 h0_1 h0_2 (some (.r0 resc0)))] (by kernel_rfl) (ya (ys (ef64 N a0n a0nl h0rw h0_0 h0_1 h0_2) hc0) yz)
/-! 71 -/
inductive Rf71 where
  | r0
def f71 (N : Nat) : Option Rf71 :=
 some .r0
def rf71 (a0 : Int) (a1 : Int) : Option Rf71 → Option (AV × Heap)
  | none => none
  | some .r0 => some ((AV.tuple [(AV.int IntKind.u64 (IntKind.wrap IntKind.u64 ((IntKind.wrap IntKind.u64 ((IntKind.wrap IntKind.u64 ((Int.fdiv a0 (4294967296 : Int)) * (Int.fdiv a1 (4294967296 : Int)))) + (Int.fdiv (IntKind.wrap IntKind.u64 ((IntKind.wrap IntKind.u64 ((Int.fdiv a0 (4294967296 : Int)) * (Go.Abs.bits IntKind.u64 (fun z5_0 z5_1 => (z5_0 &&& z5_1)) a1 (4294967295 : Int)))) + (Int.fdiv (IntKind.wrap IntKind.u64 ((Go.Abs.bits IntKind.u64 (fun z5_0 z5_1 => (z5_0 &&& z5_1)) a0 (4294967295 : Int)) * (Go.Abs.bits IntKind.u64 (fun z5_0 z5_1 => (z5_0 &&& z5_1)) a1 (4294967295 : Int)))) (4294967296 : Int)))) (4294967296 : Int)))) + (Int.fdiv (IntKind.wrap IntKind.u64 ((Go.Abs.bits IntKind.u64 (fun z5_0 z5_1 => (z5_0 &&& z5_1)) (IntKind.wrap IntKind.u64 ((IntKind.wrap IntKind.u64 ((Int.fdiv a0 (4294967296 : Int)) * (Go.Abs.bits IntKind.u64 (fun z5_0 z5_1 => (z5_0 &&& z5_1)) a1 (4294967295 : Int)))) + (Int.fdiv (IntKind.wrap IntKind.u64 ((Go.Abs.bits IntKind.u64 (fun z5_0 z5_1 => (z5_0 &&& z5_1)) a0 (4294967295 : Int)) * (Go.Abs.bits IntKind.u64 (fun z5_0 z5_1 => (z5_0 &&& z5_1)) a1 (4294967295 : Int)))) (4294967296 : Int)))) (4294967295 : Int)) + (IntKind.wrap IntKind.u64 ((Go.Abs.bits IntKind.u64 (fun z5_0 z5_1 => (z5_0 &&& z5_1)) a0 (4294967295 : Int)) * (Int.fdiv a1 (4294967296 : Int)))))) (4294967296 : Int))))), (AV.int IntKind.u64 (IntKind.wrap IntKind.u64 (a0 * a1)))]), ([] : List Blk))
theorem ef71 (N : Nat) (a0 : Int) (a1 : Int) : rf71 a0 a1 (f71 N) = sem71 N [(AV.int IntKind.u64 a0), (AV.int IntKind.u64 a1)] ([] : List Blk) := by
  unfold f71
  exact finF (ctx71 N) Try.f71 [.b false, .b false, .b false, .b false, .b false] (by kernel_rfl) (yf (yf (yf (yf (yf yz)))))
/-! 65 -/
inductive Rf65 where
  | r0
def f65 (N : Nat) : Option Rf65 :=
 (match f71 N with
 | none => none
 | some .r0 =>
  some .r0)
def rf65 (a0 : Int) (a1 : Int) : Option Rf65 → Option (AV × Heap)
  | none => none
  | some .r0 => some ((AV.tuple [(AV.int IntKind.u64 (IntKind.wrap IntKind.u64 ((IntKind.wrap IntKind.u64 ((IntKind.wrap IntKind.u64 ((Int.fdiv a0 (4294967296 : Int)) * (Int.fdiv a1 (4294967296 : Int)))) + (Int.fdiv (IntKind.wrap IntKind.u64 ((IntKind.wrap IntKind.u64 ((Int.fdiv a0 (4294967296 : Int)) * (Go.Abs.bits IntKind.u64 (fun z5_0 z5_1 => (z5_0 &&& z5_1)) a1 (4294967295 : Int)))) + (Int.fdiv (IntKind.wrap IntKind.u64 ((Go.Abs.bits IntKind.u64 (fun z5_0 z5_1 => (z5_0 &&& z5_1)) a0 (4294967295 : Int)) * (Go.Abs.bits IntKind.u64 (fun z5_0 z5_1 => (z5_0 &&& z5_1)) a1 (4294967295 : Int)))) (4294967296 : Int)))) (4294967296 : Int)))) + (Int.fdiv (IntKind.wrap IntKind.u64 ((Go.Abs.bits IntKind.u64 (fun z5_0 z5_1 => (z5_0 &&& z5_1)) (IntKind.wrap IntKind.u64 ((IntKind.wrap IntKind.u64 ((Int.fdiv a0 (4294967296 : Int)) * (Go.Abs.bits IntKind.u64 (fun z5_0 z5_1 => (z5_0 &&& z5_1)) a1 (4294967295 : Int)))) + (Int.fdiv (IntKind.wrap IntKind.u64 ((Go.Abs.bits IntKind.u64 (fun z5_0 z5_1 => (z5_0 &&& z5_1)) a0 (4294967295 : Int)) * (Go.Abs.bits IntKind.u64 (fun z5_0 z5_1 => (z5_0 &&& z5_1)) a1 (4294967295 : Int)))) (4294967296 : Int)))) (4294967295 : Int)) + (IntKind.wrap IntKind.u64 ((Go.Abs.bits IntKind.u64 (fun z5_0 z5_1 => (z5_0 &&& z5_1)) a0 (4294967295 : Int)) * (Int.fdiv a1 (4294967296 : Int)))))) (4294967296 : Int))))), (AV.int IntKind.u64 (IntKind.wrap IntKind.u64 (a0 * a1)))]), ([] : List Blk))
theorem ef65 (N : Nat) (a0 : Int) (a1 : Int) : rf65 a0 a1 (f65 N) = sem65 N [(AV.int IntKind.u64 a0), (AV.int IntKind.u64 a1)] ([] : List Blk) := by
  unfold f65
  cases hc0 : f71 N with
  | none => exact finF (ctx65 N) Try.f65 [.b false, .call (rf71 a0 a1 none)] (by kernel_rfl) (yf (ya (ys (ef71 N a0 a1) hc0) yz))
  | some o =>
    cases o with
    | r0 =>
      dsimp only
      exact finF (ctx65 N) Try.f65 [.b false, .call (rf71 a0 a1 (some .r0))] (by kernel_rfl) (yf (ya (ys (ef71 N a0 a1) hc0) yz))
/-! 52, loop 8 -/
inductive Qlf52_8 where
  | e0 (h1 : List Int)
def slf52_8 (N : Nat) (a0n : Nat) (a1 : Int) (n : Nat) (go : Int → List Int → Option Qlf52_8) (s8k8 : Int) (h1k8 : List Int) : Option Qlf52_8 :=
 if (s8k8 < (((Int.toNat (IntKind.wrap IntKind.i64 (IntKind.wrap IntKind.u64 ((IntKind.wrap IntKind.u64 ((a0n : Nat) : Int)) * (IntKind.wrap IntKind.u64 a1))))) : Nat) : Int)) then
  if (((0 : Int) ≤ s8k8) ∧ ((Int.toNat s8k8) ≤ (Int.toNat (IntKind.wrap IntKind.i64 (IntKind.wrap IntKind.u64 ((IntKind.wrap IntKind.u64 ((a0n : Nat) : Int)) * (IntKind.wrap IntKind.u64 a1))))))) then
   if ((0 + (Min.min ((Int.toNat s8k8) - 0) ((Int.toNat (IntKind.wrap IntKind.i64 (IntKind.wrap IntKind.u64 ((IntKind.wrap IntKind.u64 ((a0n : Nat) : Int)) * (IntKind.wrap IntKind.u64 a1))))) - (Int.toNat s8k8)))) ≤ (List.length h1k8)) then
    if ((((0 + (Int.toNat s8k8)) + ((Int.toNat (IntKind.wrap IntKind.i64 (IntKind.wrap IntKind.u64 ((IntKind.wrap IntKind.u64 ((a0n : Nat) : Int)) * (IntKind.wrap IntKind.u64 a1))))) - (Int.toNat s8k8))) ≤ (List.length h1k8)) ∧ ((List.length (List.take (Min.min ((Int.toNat s8k8) - 0) ((Int.toNat (IntKind.wrap IntKind.i64 (IntKind.wrap IntKind.u64 ((IntKind.wrap IntKind.u64 ((a0n : Nat) : Int)) * (IntKind.wrap IntKind.u64 a1))))) - (Int.toNat s8k8))) (List.drop 0 h1k8))) = (Min.min ((Int.toNat s8k8) - 0) ((Int.toNat (IntKind.wrap IntKind.i64 (IntKind.wrap IntKind.u64 ((IntKind.wrap IntKind.u64 ((a0n : Nat) : Int)) * (IntKind.wrap IntKind.u64 a1))))) - (Int.toNat s8k8))))) then
     go (IntKind.wrap IntKind.i64 (s8k8 + (((Min.min ((Int.toNat s8k8) - 0) ((Int.toNat (IntKind.wrap IntKind.i64 (IntKind.wrap IntKind.u64 ((IntKind.wrap IntKind.u64 ((a0n : Nat) : Int)) * (IntKind.wrap IntKind.u64 a1))))) - (Int.toNat s8k8))) : Nat) : Int))) (((List.take (0 + (Int.toNat s8k8)) h1k8) ++ (List.take (Min.min ((Int.toNat s8k8) - 0) ((Int.toNat (IntKind.wrap IntKind.i64 (IntKind.wrap IntKind.u64 ((IntKind.wrap IntKind.u64 ((a0n : Nat) : Int)) * (IntKind.wrap IntKind.u64 a1))))) - (Int.toNat s8k8))) (List.drop 0 h1k8))) ++ (List.drop ((0 + (Int.toNat s8k8)) + (List.length (List.take (Min.min ((Int.toNat s8k8) - 0) ((Int.toNat (IntKind.wrap IntKind.i64 (IntKind.wrap IntKind.u64 ((IntKind.wrap IntKind.u64 ((a0n : Nat) : Int)) * (IntKind.wrap IntKind.u64 a1))))) - (Int.toNat s8k8))) (List.drop 0 h1k8)))) h1k8))
    else
    none
   else
    none
  else
   none
 else
  some (.e0 h1k8)
def lf52_8 (N : Nat) (a0n : Nat) (a1 : Int) : Nat → Int → List Int → Option Qlf52_8
  | 0, _, _ => none
  | n + 1, s8k8, h1k8 => slf52_8 N a0n a1 n (lf52_8 N a0n a1 n) s8k8 h1k8
def qlf52_8 (a0n : Nat) (a1 : Int) (h0rw : Bool) (h0 : List Int) : Option Qlf52_8 → Out
  | none => none
  | some (.e0 h1) => some ((XT.exit 0), (St.mk [(7, (AV.slice 1 0 0 (Int.toNat (IntKind.wrap IntKind.i64 (IntKind.wrap IntKind.u64 ((IntKind.wrap IntKind.u64 ((a0n : Nat) : Int)) * (IntKind.wrap IntKind.u64 a1))))) 1 false true))] [(Blk.dyn h0rw 3 [(Col.ints IntKind.i64 h0)]), (Blk.dyn true 3 [(Col.ints IntKind.i64 h1)])]))
theorem elf52_8 (N : Nat) (a0n : Nat) (a1 : Int) (h0rw : Bool) (h0 : List Int) : ∀ (n : Nat) (s8k8 : Int) (h1k8 : List Int), qlf52_8 a0n a1 h0rw h0 (lf52_8 N a0n a1 n s8k8 h1k8) = lp (ctx52 N) 1 Try.f52 8 n (St.mk [(7, (AV.slice 1 0 0 (Int.toNat (IntKind.wrap IntKind.i64 (IntKind.wrap IntKind.u64 ((IntKind.wrap IntKind.u64 ((a0n : Nat) : Int)) * (IntKind.wrap IntKind.u64 a1))))) 1 false true)), (8, (AV.int IntKind.i64 s8k8))] [(Blk.dyn h0rw 3 [(Col.ints IntKind.i64 h0)]), (Blk.dyn true 3 [(Col.ints IntKind.i64 h1k8)])]) := by
  intro n
  induction n with
  | zero => intros; kernel_rfl
  | succ n ih =>
    intro s8k8 h1k8
    rw [lf52_8]
    unfold slf52_8
    refine br (p := (s8k8 < (((Int.toNat (IntKind.wrap IntKind.i64 (IntKind.wrap IntKind.u64 ((IntKind.wrap IntKind.u64 ((a0n : Nat) : Int)) * (IntKind.wrap IntKind.u64 a1))))) : Nat) : Int))) (fun h10x => ?_) (fun h10x => finL (ctx52 N) 1 Try.f52 8 n [.b false] (by kernel_rfl) (ya (pF h10x) yz))
    refine br (p := (((0 : Int) ≤ s8k8) ∧ ((Int.toNat s8k8) ≤ (Int.toNat (IntKind.wrap IntKind.i64 (IntKind.wrap IntKind.u64 ((IntKind.wrap IntKind.u64 ((a0n : Nat) : Int)) * (IntKind.wrap IntKind.u64 a1)))))))) (fun h11x => ?_) (fun h11x => finL (ctx52 N) 1 Try.f52 8 n [.b true, .b false] (by kernel_rfl) (ya (pT h10x) (ya (pF h11x) yz)))
    refine br (p := ((0 + (Min.min ((Int.toNat s8k8) - 0) ((Int.toNat (IntKind.wrap IntKind.i64 (IntKind.wrap IntKind.u64 ((IntKind.wrap IntKind.u64 ((a0n : Nat) : Int)) * (IntKind.wrap IntKind.u64 a1))))) - (Int.toNat s8k8)))) ≤ (List.length h1k8))) (fun h12x => ?_) (fun h12x => finL (ctx52 N) 1 Try.f52 8 n [.b true, .b true, .b true, .b false] (by kernel_rfl) (ya (pT h10x) (ya (pT h11x) (ya (pT h11x) (ya (pF h12x) yz)))))
    refine br (p := ((((0 + (Int.toNat s8k8)) + ((Int.toNat (IntKind.wrap IntKind.i64 (IntKind.wrap IntKind.u64 ((IntKind.wrap IntKind.u64 ((a0n : Nat) : Int)) * (IntKind.wrap IntKind.u64 a1))))) - (Int.toNat s8k8))) ≤ (List.length h1k8)) ∧ ((List.length (List.take (Min.min ((Int.toNat s8k8) - 0) ((Int.toNat (IntKind.wrap IntKind.i64 (IntKind.wrap IntKind.u64 ((IntKind.wrap IntKind.u64 ((a0n : Nat) : Int)) * (IntKind.wrap IntKind.u64 a1))))) - (Int.toNat s8k8))) (List.drop 0 h1k8))) = (Min.min ((Int.toNat s8k8) - 0) ((Int.toNat (IntKind.wrap IntKind.i64 (IntKind.wrap IntKind.u64 ((IntKind.wrap IntKind.u64 ((a0n : Nat) : Int)) * (IntKind.wrap IntKind.u64 a1))))) - (Int.toNat s8k8)))))) (fun h13x => (ih (IntKind.wrap IntKind.i64 (s8k8 + (((Min.min ((Int.toNat s8k8) - 0) ((Int.toNat (IntKind.wrap IntKind.i64 (IntKind.wrap IntKind.u64 ((IntKind.wrap IntKind.u64 ((a0n : Nat) : Int)) * (IntKind.wrap IntKind.u64 a1))))) - (Int.toNat s8k8))) : Nat) : Int))) (((List.take (0 + (Int.toNat s8k8)) h1k8) ++ (List.take (Min.min ((Int.toNat s8k8) - 0) ((Int.toNat (IntKind.wrap IntKind.i64 (IntKind.wrap IntKind.u64 ((IntKind.wrap IntKind.u64 ((a0n : Nat) : Int)) * (IntKind.wrap IntKind.u64 a1))))) - (Int.toNat s8k8))) (List.drop 0 h1k8))) ++ (List.drop ((0 + (Int.toNat s8k8)) + (List.length (List.take (Min.min ((Int.toNat s8k8) - 0) ((Int.toNat (IntKind.wrap IntKind.i64 (IntKind.wrap IntKind.u64 ((IntKind.wrap IntKind.u64 ((a0n : Nat) : Int)) * (IntKind.wrap IntKind.u64 a1))))) - (Int.toNat s8k8))) (List.drop 0 h1k8)))) h1k8))).trans (finL (ctx52 N) 1 Try.f52 8 n [.b true, .b true, .b true, .b true, .b true] (by kernel_rfl) (ya (pT h10x) (ya (pT h11x) (ya (pT h11x) (ya (pT h12x) (ya (pT h13x) yz))))))) (fun h13x => ?_)
    exact finL (ctx52 N) 1 Try.f52 8 n [.b true, .b true, .b true, .b true, .b false] (by kernel_rfl) (ya (pT h10x) (ya (pT h11x) (ya (pT h11x) (ya (pT h12x) (ya (pF h13x) yz)))))
/-! 52 -/
inductive Rf52 where
  | r0 (h1 : List Int)
def f52 (N : Nat) (a0n : Nat) (a1 : Int) (h0 : List Int) : Option Rf52 :=
 if (a1 < (0 : Int)) then
  none
 else
 (match f65 N with
 | none => none
 | some .r0 =>
  if ((IntKind.wrap IntKind.u64 ((IntKind.wrap IntKind.u64 ((IntKind.wrap IntKind.u64 ((Int.fdiv (IntKind.wrap IntKind.u64 ((a0n : Nat) : Int)) (4294967296 : Int)) * (Int.fdiv (IntKind.wrap IntKind.u64 a1) (4294967296 : Int)))) + (Int.fdiv (IntKind.wrap IntKind.u64 ((IntKind.wrap IntKind.u64 ((Int.fdiv (IntKind.wrap IntKind.u64 ((a0n : Nat) : Int)) (4294967296 : Int)) * (Go.Abs.bits IntKind.u64 (fun z9_0 z9_1 => (z9_0 &&& z9_1)) (IntKind.wrap IntKind.u64 a1) (4294967295 : Int)))) + (Int.fdiv (IntKind.wrap IntKind.u64 ((Go.Abs.bits IntKind.u64 (fun z9_0 z9_1 => (z9_0 &&& z9_1)) (IntKind.wrap IntKind.u64 ((a0n : Nat) : Int)) (4294967295 : Int)) * (Go.Abs.bits IntKind.u64 (fun z9_0 z9_1 => (z9_0 &&& z9_1)) (IntKind.wrap IntKind.u64 a1) (4294967295 : Int)))) (4294967296 : Int)))) (4294967296 : Int)))) + (Int.fdiv (IntKind.wrap IntKind.u64 ((Go.Abs.bits IntKind.u64 (fun z9_0 z9_1 => (z9_0 &&& z9_1)) (IntKind.wrap IntKind.u64 ((IntKind.wrap IntKind.u64 ((Int.fdiv (IntKind.wrap IntKind.u64 ((a0n : Nat) : Int)) (4294967296 : Int)) * (Go.Abs.bits IntKind.u64 (fun z9_0 z9_1 => (z9_0 &&& z9_1)) (IntKind.wrap IntKind.u64 a1) (4294967295 : Int)))) + (Int.fdiv (IntKind.wrap IntKind.u64 ((Go.Abs.bits IntKind.u64 (fun z9_0 z9_1 => (z9_0 &&& z9_1)) (IntKind.wrap IntKind.u64 ((a0n : Nat) : Int)) (4294967295 : Int)) * (Go.Abs.bits IntKind.u64 (fun z9_0 z9_1 => (z9_0 &&& z9_1)) (IntKind.wrap IntKind.u64 a1) (4294967295 : Int)))) (4294967296 : Int)))) (4294967295 : Int)) + (IntKind.wrap IntKind.u64 ((Go.Abs.bits IntKind.u64 (fun z9_0 z9_1 => (z9_0 &&& z9_1)) (IntKind.wrap IntKind.u64 ((a0n : Nat) : Int)) (4294967295 : Int)) * (Int.fdiv (IntKind.wrap IntKind.u64 a1) (4294967296 : Int)))))) (4294967296 : Int)))) > (0 : Int)) then
   none
  else
   if ((IntKind.wrap IntKind.u64 ((IntKind.wrap IntKind.u64 ((a0n : Nat) : Int)) * (IntKind.wrap IntKind.u64 a1))) > (9223372036854775807 : Int)) then
    none
   else
   if (((0 : Int) ≤ (IntKind.wrap IntKind.i64 (IntKind.wrap IntKind.u64 ((IntKind.wrap IntKind.u64 ((a0n : Nat) : Int)) * (IntKind.wrap IntKind.u64 a1))))) ∧ (((IntKind.wrap IntKind.i64 (IntKind.wrap IntKind.u64 ((IntKind.wrap IntKind.u64 ((a0n : Nat) : Int)) * (IntKind.wrap IntKind.u64 a1)))) ≤ (IntKind.wrap IntKind.i64 (IntKind.wrap IntKind.u64 ((IntKind.wrap IntKind.u64 ((a0n : Nat) : Int)) * (IntKind.wrap IntKind.u64 a1))))) ∧ ((IntKind.wrap IntKind.i64 (IntKind.wrap IntKind.u64 ((IntKind.wrap IntKind.u64 ((a0n : Nat) : Int)) * (IntKind.wrap IntKind.u64 a1)))) ≤ (1099511627776 : Int)))) then
    if ((0 + (Min.min a0n (Int.toNat (IntKind.wrap IntKind.i64 (IntKind.wrap IntKind.u64 ((IntKind.wrap IntKind.u64 ((a0n : Nat) : Int)) * (IntKind.wrap IntKind.u64 a1))))))) ≤ (List.length h0)) then
     if (((0 + (Int.toNat (IntKind.wrap IntKind.i64 (IntKind.wrap IntKind.u64 ((IntKind.wrap IntKind.u64 ((a0n : Nat) : Int)) * (IntKind.wrap IntKind.u64 a1)))))) ≤ (List.length (List.replicate (Int.toNat (IntKind.wrap IntKind.i64 (IntKind.wrap IntKind.u64 ((IntKind.wrap IntKind.u64 ((a0n : Nat) : Int)) * (IntKind.wrap IntKind.u64 a1))))) (0 : Int)))) ∧ ((List.length (List.take (Min.min a0n (Int.toNat (IntKind.wrap IntKind.i64 (IntKind.wrap IntKind.u64 ((IntKind.wrap IntKind.u64 ((a0n : Nat) : Int)) * (IntKind.wrap IntKind.u64 a1)))))) (List.drop 0 h0))) = (Min.min a0n (Int.toNat (IntKind.wrap IntKind.i64 (IntKind.wrap IntKind.u64 ((IntKind.wrap IntKind.u64 ((a0n : Nat) : Int)) * (IntKind.wrap IntKind.u64 a1)))))))) then
      (match lf52_8 N a0n a1 N (((Min.min a0n (Int.toNat (IntKind.wrap IntKind.i64 (IntKind.wrap IntKind.u64 ((IntKind.wrap IntKind.u64 ((a0n : Nat) : Int)) * (IntKind.wrap IntKind.u64 a1)))))) : Nat) : Int) (((List.take 0 (List.replicate (Int.toNat (IntKind.wrap IntKind.i64 (IntKind.wrap IntKind.u64 ((IntKind.wrap IntKind.u64 ((a0n : Nat) : Int)) * (IntKind.wrap IntKind.u64 a1))))) (0 : Int))) ++ (List.take (Min.min a0n (Int.toNat (IntKind.wrap IntKind.i64 (IntKind.wrap IntKind.u64 ((IntKind.wrap IntKind.u64 ((a0n : Nat) : Int)) * (IntKind.wrap IntKind.u64 a1)))))) (List.drop 0 h0))) ++ (List.drop (0 + (List.length (List.take (Min.min a0n (Int.toNat (IntKind.wrap IntKind.i64 (IntKind.wrap IntKind.u64 ((IntKind.wrap IntKind.u64 ((a0n : Nat) : Int)) * (IntKind.wrap IntKind.u64 a1)))))) (List.drop 0 h0)))) (List.replicate (Int.toNat (IntKind.wrap IntKind.i64 (IntKind.wrap IntKind.u64 ((IntKind.wrap IntKind.u64 ((a0n : Nat) : Int)) * (IntKind.wrap IntKind.u64 a1))))) (0 : Int)))) with
      | none => none
      | some (.e0 h1l14) =>
       some (.r0 h1l14))
     else
      none
    else
     none
   else
    none)
def rf52 (a0n : Nat) (a0nl : Bool) (a1 : Int) (h0rw : Bool) (h0 : List Int) : Option Rf52 → Option (AV × Heap)
  | none => none
  | some (.r0 h1) => some ((AV.slice 1 0 0 (Int.toNat (IntKind.wrap IntKind.i64 (IntKind.wrap IntKind.u64 ((IntKind.wrap IntKind.u64 ((a0n : Nat) : Int)) * (IntKind.wrap IntKind.u64 a1))))) 1 false true), [(Blk.dyn h0rw 3 [(Col.ints IntKind.i64 h0)]), (Blk.dyn true 3 [(Col.ints IntKind.i64 h1)])])
theorem ef52 (N : Nat) (a0n : Nat) (a0nl : Bool) (a1 : Int) (h0rw : Bool) (h0 : List Int) : rf52 a0n a0nl a1 h0rw h0 (f52 N a0n a1 h0) = sem52 N [(AV.slice 0 0 0 a0n 1 a0nl true), (AV.int IntKind.i64 a1)] [(Blk.dyn h0rw 3 [(Col.ints IntKind.i64 h0)])] := by
  unfold f52
  refine br (p := (a1 < (0 : Int))) (fun h0x => finF (ctx52 N) Try.f52 [.b true] (by kernel_rfl) (ya (pT h0x) yz)) (fun h0x => ?_)
  cases hc1 : f65 N with
  | none => exact finF (ctx52 N) Try.f52 [.b false, .call (rf65 (IntKind.wrap IntKind.u64 ((a0n : Nat) : Int)) (IntKind.wrap IntKind.u64 a1) none)] (by kernel_rfl) (ya (pF h0x) (ya (ys (ef65 N (IntKind.wrap IntKind.u64 ((a0n : Nat) : Int)) (IntKind.wrap IntKind.u64 a1)) hc1) yz))
  | some o =>
    cases o with
    | r0 =>
      dsimp only
      refine br (p := ((IntKind.wrap IntKind.u64 ((IntKind.wrap IntKind.u64 ((IntKind.wrap IntKind.u64 ((Int.fdiv (IntKind.wrap IntKind.u64 ((a0n : Nat) : Int)) (4294967296 : Int)) * (Int.fdiv (IntKind.wrap IntKind.u64 a1) (4294967296 : Int)))) + (Int.fdiv (IntKind.wrap IntKind.u64 ((IntKind.wrap IntKind.u64 ((Int.fdiv (IntKind.wrap IntKind.u64 ((a0n : Nat) : Int)) (4294967296 : Int)) * (Go.Abs.bits IntKind.u64 (fun z9_0 z9_1 => (z9_0 &&& z9_1)) (IntKind.wrap IntKind.u64 a1) (4294967295 : Int)))) + (Int.fdiv (IntKind.wrap IntKind.u64 ((Go.Abs.bits IntKind.u64 (fun z9_0 z9_1 => (z9_0 &&& z9_1)) (IntKind.wrap IntKind.u64 ((a0n : Nat) : Int)) (4294967295 : Int)) * (Go.Abs.bits IntKind.u64 (fun z9_0 z9_1 => (z9_0 &&& z9_1)) (IntKind.wrap IntKind.u64 a1) (4294967295 : Int)))) (4294967296 : Int)))) (4294967296 : Int)))) + (Int.fdiv (IntKind.wrap IntKind.u64 ((Go.Abs.bits IntKind.u64 (fun z9_0 z9_1 => (z9_0 &&& z9_1)) (IntKind.wrap IntKind.u64 ((IntKind.wrap IntKind.u64 ((Int.fdiv (IntKind.wrap IntKind.u64 ((a0n : Nat) : Int)) (4294967296 : Int)) * (Go.Abs.bits IntKind.u64 (fun z9_0 z9_1 => (z9_0 &&& z9_1)) (IntKind.wrap IntKind.u64 a1) (4294967295 : Int)))) + (Int.fdiv (IntKind.wrap IntKind.u64 ((Go.Abs.bits IntKind.u64 (fun z9_0 z9_1 => (z9_0 &&& z9_1)) (IntKind.wrap IntKind.u64 ((a0n : Nat) : Int)) (4294967295 : Int)) * (Go.Abs.bits IntKind.u64 (fun z9_0 z9_1 => (z9_0 &&& z9_1)) (IntKind.wrap IntKind.u64 a1) (4294967295 : Int)))) (4294967296 : Int)))) (4294967295 : Int)) + (IntKind.wrap IntKind.u64 ((Go.Abs.bits IntKind.u64 (fun z9_0 z9_1 => (z9_0 &&& z9_1)) (IntKind.wrap IntKind.u64 ((a0n : Nat) : Int)) (4294967295 : Int)) * (Int.fdiv (IntKind.wrap IntKind.u64 a1) (4294967296 : Int)))))) (4294967296 : Int)))) > (0 : Int))) (fun h2x => finF (ctx52 N) Try.f52 [.b false, .call (rf65 (IntKind.wrap IntKind.u64 ((a0n : Nat) : Int)) (IntKind.wrap IntKind.u64 a1) (some .r0)), .b true, .b true, .b true] (by kernel_rfl) (ya (pF h0x) (ya (ys (ef65 N (IntKind.wrap IntKind.u64 ((a0n : Nat) : Int)) (IntKind.wrap IntKind.u64 a1)) hc1) (ya (pT h2x) (yt (yt yz)))))) (fun h2x => ?_)
      refine br (p := ((IntKind.wrap IntKind.u64 ((IntKind.wrap IntKind.u64 ((a0n : Nat) : Int)) * (IntKind.wrap IntKind.u64 a1))) > (9223372036854775807 : Int))) (fun h3x => finF (ctx52 N) Try.f52 [.b false, .call (rf65 (IntKind.wrap IntKind.u64 ((a0n : Nat) : Int)) (IntKind.wrap IntKind.u64 a1) (some .r0)), .b false, .b false, .b true] (by kernel_rfl) (ya (pF h0x) (ya (ys (ef65 N (IntKind.wrap IntKind.u64 ((a0n : Nat) : Int)) (IntKind.wrap IntKind.u64 a1)) hc1) (ya (pF h2x) (yf (ya (pT h3x) yz)))))) (fun h3x => ?_)
      refine br (p := (((0 : Int) ≤ (IntKind.wrap IntKind.i64 (IntKind.wrap IntKind.u64 ((IntKind.wrap IntKind.u64 ((a0n : Nat) : Int)) * (IntKind.wrap IntKind.u64 a1))))) ∧ (((IntKind.wrap IntKind.i64 (IntKind.wrap IntKind.u64 ((IntKind.wrap IntKind.u64 ((a0n : Nat) : Int)) * (IntKind.wrap IntKind.u64 a1)))) ≤ (IntKind.wrap IntKind.i64 (IntKind.wrap IntKind.u64 ((IntKind.wrap IntKind.u64 ((a0n : Nat) : Int)) * (IntKind.wrap IntKind.u64 a1))))) ∧ ((IntKind.wrap IntKind.i64 (IntKind.wrap IntKind.u64 ((IntKind.wrap IntKind.u64 ((a0n : Nat) : Int)) * (IntKind.wrap IntKind.u64 a1)))) ≤ (1099511627776 : Int))))) (fun h4x => ?_) (fun h4x => finF (ctx52 N) Try.f52 [.b false, .call (rf65 (IntKind.wrap IntKind.u64 ((a0n : Nat) : Int)) (IntKind.wrap IntKind.u64 a1) (some .r0)), .b false, .b false, .b false, .b false] (by kernel_rfl) (ya (pF h0x) (ya (ys (ef65 N (IntKind.wrap IntKind.u64 ((a0n : Nat) : Int)) (IntKind.wrap IntKind.u64 a1)) hc1) (ya (pF h2x) (yf (ya (pF h3x) (ya (pF h4x) yz)))))))
      refine br (p := ((0 + (Min.min a0n (Int.toNat (IntKind.wrap IntKind.i64 (IntKind.wrap IntKind.u64 ((IntKind.wrap IntKind.u64 ((a0n : Nat) : Int)) * (IntKind.wrap IntKind.u64 a1))))))) ≤ (List.length h0))) (fun h5x => ?_) (fun h5x => finF (ctx52 N) Try.f52 [.b false, .call (rf65 (IntKind.wrap IntKind.u64 ((a0n : Nat) : Int)) (IntKind.wrap IntKind.u64 a1) (some .r0)), .b false, .b false, .b false, .b true, .b false] (by kernel_rfl) (ya (pF h0x) (ya (ys (ef65 N (IntKind.wrap IntKind.u64 ((a0n : Nat) : Int)) (IntKind.wrap IntKind.u64 a1)) hc1) (ya (pF h2x) (yf (ya (pF h3x) (ya (pT h4x) (ya (pF h5x) yz))))))))
      refine br (p := (((0 + (Int.toNat (IntKind.wrap IntKind.i64 (IntKind.wrap IntKind.u64 ((IntKind.wrap IntKind.u64 ((a0n : Nat) : Int)) * (IntKind.wrap IntKind.u64 a1)))))) ≤ (List.length (List.replicate (Int.toNat (IntKind.wrap IntKind.i64 (IntKind.wrap IntKind.u64 ((IntKind.wrap IntKind.u64 ((a0n : Nat) : Int)) * (IntKind.wrap IntKind.u64 a1))))) (0 : Int)))) ∧ ((List.length (List.take (Min.min a0n (Int.toNat (IntKind.wrap IntKind.i64 (IntKind.wrap IntKind.u64 ((IntKind.wrap IntKind.u64 ((a0n : Nat) : Int)) * (IntKind.wrap IntKind.u64 a1)))))) (List.drop 0 h0))) = (Min.min a0n (Int.toNat (IntKind.wrap IntKind.i64 (IntKind.wrap IntKind.u64 ((IntKind.wrap IntKind.u64 ((a0n : Nat) : Int)) * (IntKind.wrap IntKind.u64 a1))))))))) (fun h6x => ?_) (fun h6x => finF (ctx52 N) Try.f52 [.b false, .call (rf65 (IntKind.wrap IntKind.u64 ((a0n : Nat) : Int)) (IntKind.wrap IntKind.u64 a1) (some .r0)), .b false, .b false, .b false, .b true, .b true, .b false] (by kernel_rfl) (ya (pF h0x) (ya (ys (ef65 N (IntKind.wrap IntKind.u64 ((a0n : Nat) : Int)) (IntKind.wrap IntKind.u64 a1)) hc1) (ya (pF h2x) (yf (ya (pF h3x) (ya (pT h4x) (ya (pT h5x) (ya (pF h6x) yz)))))))))
      cases ho14 : lf52_8 N a0n a1 N (((Min.min a0n (Int.toNat (IntKind.wrap IntKind.i64 (IntKind.wrap IntKind.u64 ((IntKind.wrap IntKind.u64 ((a0n : Nat) : Int)) * (IntKind.wrap IntKind.u64 a1)))))) : Nat) : Int) (((List.take 0 (List.replicate (Int.toNat (IntKind.wrap IntKind.i64 (IntKind.wrap IntKind.u64 ((IntKind.wrap IntKind.u64 ((a0n : Nat) : Int)) * (IntKind.wrap IntKind.u64 a1))))) (0 : Int))) ++ (List.take (Min.min a0n (Int.toNat (IntKind.wrap IntKind.i64 (IntKind.wrap IntKind.u64 ((IntKind.wrap IntKind.u64 ((a0n : Nat) : Int)) * (IntKind.wrap IntKind.u64 a1)))))) (List.drop 0 h0))) ++ (List.drop (0 + (List.length (List.take (Min.min a0n (Int.toNat (IntKind.wrap IntKind.i64 (IntKind.wrap IntKind.u64 ((IntKind.wrap IntKind.u64 ((a0n : Nat) : Int)) * (IntKind.wrap IntKind.u64 a1)))))) (List.drop 0 h0)))) (List.replicate (Int.toNat (IntKind.wrap IntKind.i64 (IntKind.wrap IntKind.u64 ((IntKind.wrap IntKind.u64 ((a0n : Nat) : Int)) * (IntKind.wrap IntKind.u64 a1))))) (0 : Int)))) with
      | none => exact finF (ctx52 N) Try.f52 [.b false, .call (rf65 (IntKind.wrap IntKind.u64 ((a0n : Nat) : Int)) (IntKind.wrap IntKind.u64 a1) (some .r0)), .b false, .b false, .b false, .b true, .b true, .b true, .out (qlf52_8 a0n a1 h0rw h0 none)] (by kernel_rfl) (ya (pF h0x) (ya (ys (ef65 N (IntKind.wrap IntKind.u64 ((a0n : Nat) : Int)) (IntKind.wrap IntKind.u64 a1)) hc1) (ya (pF h2x) (yf (ya (pF h3x) (ya (pT h4x) (ya (pT h5x) (ya (pT h6x) (ya (ys (elf52_8 N a0n a1 h0rw h0 N (((Min.min a0n (Int.toNat (IntKind.wrap IntKind.i64 (IntKind.wrap IntKind.u64 ((IntKind.wrap IntKind.u64 ((a0n : Nat) : Int)) * (IntKind.wrap IntKind.u64 a1)))))) : Nat) : Int) (((List.take 0 (List.replicate (Int.toNat (IntKind.wrap IntKind.i64 (IntKind.wrap IntKind.u64 ((IntKind.wrap IntKind.u64 ((a0n : Nat) : Int)) * (IntKind.wrap IntKind.u64 a1))))) (0 : Int))) ++ (List.take (Min.min a0n (Int.toNat (IntKind.wrap IntKind.i64 (IntKind.wrap IntKind.u64 ((IntKind.wrap IntKind.u64 ((a0n : Nat) : Int)) * (IntKind.wrap IntKind.u64 a1)))))) (List.drop 0 h0))) ++ (List.drop (0 + (List.length (List.take (Min.min a0n (Int.toNat (IntKind.wrap IntKind.i64 (IntKind.wrap IntKind.u64 ((IntKind.wrap IntKind.u64 ((a0n : Nat) : Int)) * (IntKind.wrap IntKind.u64 a1)))))) (List.drop 0 h0)))) (List.replicate (Int.toNat (IntKind.wrap IntKind.i64 (IntKind.wrap IntKind.u64 ((IntKind.wrap IntKind.u64 ((a0n : Nat) : Int)) * (IntKind.wrap IntKind.u64 a1))))) (0 : Int))))) ho14) yz)))))))))
      | some o =>
        cases o with
        | e0 h1l14 =>
          dsimp only
          exact finF (ctx52 N) Try.f52 [.b false, .call (rf65 (IntKind.wrap IntKind.u64 ((a0n : Nat) : Int)) (IntKind.wrap IntKind.u64 a1) (some .r0)), .b false, .b false, .b false, .b true, .b true, .b true, .out (qlf52_8 a0n a1 h0rw h0 (some (.e0 h1l14)))] (by kernel_rfl) (ya (pF h0x) (ya (ys (ef65 N (IntKind.wrap IntKind.u64 ((a0n : Nat) : Int)) (IntKind.wrap IntKind.u64 a1)) hc1) (ya (pF h2x) (yf (ya (pF h3x) (ya (pT h4x) (ya (pT h5x) (ya (pT h6x) (ya (ys (elf52_8 N a0n a1 h0rw h0 N (((Min.min a0n (Int.toNat (IntKind.wrap IntKind.i64 (IntKind.wrap IntKind.u64 ((IntKind.wrap IntKind.u64 ((a0n : Nat) : Int)) * (IntKind.wrap IntKind.u64 a1)))))) : Nat) : Int) (((List.take 0 (List.replicate (Int.toNat (IntKind.wrap IntKind.i64 (IntKind.wrap IntKind.u64 ((IntKind.wrap IntKind.u64 ((a0n : Nat) : Int)) * (IntKind.wrap IntKind.u64 a1))))) (0 : Int))) ++ (List.take (Min.min a0n (Int.toNat (IntKind.wrap IntKind.i64 (IntKind.wrap IntKind.u64 ((IntKind.wrap IntKind.u64 ((a0n : Nat) : Int)) * (IntKind.wrap IntKind.u64 a1)))))) (List.drop 0 h0))) ++ (List.drop (0 + (List.length (List.take (Min.min a0n (Int.toNat (IntKind.wrap IntKind.i64 (IntKind.wrap IntKind.u64 ((IntKind.wrap IntKind.u64 ((a0n : Nat) : Int)) * (IntKind.wrap IntKind.u64 a1)))))) (List.drop 0 h0)))) (List.replicate (Int.toNat (IntKind.wrap IntKind.i64 (IntKind.wrap IntKind.u64 ((IntKind.wrap IntKind.u64 ((a0n : Nat) : Int)) * (IntKind.wrap IntKind.u64 a1))))) (0 : Int))))) ho14) yz)))))))))
/-! 38, loop 3 -/
inductive Qlf38_3 where
  | e0 (h0 : List Int)
def slf38_3 (N : Nat) (n : Nat) (go : Int → List Int → Option Qlf38_3) (s2k3 : Int) (h0k3 : List Int) : Option Qlf38_3 :=
 if (s2k3 < (280 : Int)) then
  if (((0 : Int) ≤ s2k3) ∧ ((Int.toNat s2k3) < 288)) then
   if ((0 + (Int.toNat s2k3)) < (List.length h0k3)) then
    if (s2k3 > (255 : Int)) then
     if ((0 + (Int.toNat s2k3)) < (List.length (List.set h0k3 (0 + (Int.toNat s2k3)) (9 : Int)))) then
      go (IntKind.wrap IntKind.i64 (s2k3 + (1 : Int))) (List.set (List.set h0k3 (0 + (Int.toNat s2k3)) (9 : Int)) (0 + (Int.toNat s2k3)) (7 : Int))
     else
     none
    else
     go (IntKind.wrap IntKind.i64 (s2k3 + (1 : Int))) (List.set h0k3 (0 + (Int.toNat s2k3)) (9 : Int))
   else
    none
  else
   none
 else
  some (.e0 h0k3)
def lf38_3 (N : Nat) : Nat → Int → List Int → Option Qlf38_3
  | 0, _, _ => none
  | n + 1, s2k3, h0k3 => slf38_3 N n (lf38_3 N n) s2k3 h0k3
def qlf38_3 : Option Qlf38_3 → Out
  | none => none
  | some (.e0 h0) => some ((XT.exit 0), (St.mk [(1, (AV.slice 0 0 0 288 1 false true))] [(Blk.dyn true 3 [(Col.ints IntKind.i64 h0)])]))
theorem elf38_3 (N : Nat) : ∀ (n : Nat) (s2k3 : Int) (h0k3 : List Int), qlf38_3 (lf38_3 N n s2k3 h0k3) = lp (ctx38 N) 0 Try.f38 3 n (St.mk [(1, (AV.slice 0 0 0 288 1 false true)), (2, (AV.int IntKind.i64 s2k3))] [(Blk.dyn true 3 [(Col.ints IntKind.i64 h0k3)])]) := by
  intro n
  induction n with
  | zero => intros; kernel_rfl
  | succ n ih =>
    intro s2k3 h0k3
    rw [lf38_3]
    unfold slf38_3
    refine br (p := (s2k3 < (280 : Int))) (fun h2x => ?_) (fun h2x => finL (ctx38 N) 0 Try.f38 3 n [.b false] (by kernel_rfl) (ya (pF h2x) yz))
    refine br (p := (((0 : Int) ≤ s2k3) ∧ ((Int.toNat s2k3) < 288))) (fun h3x => ?_) (fun h3x => finL (ctx38 N) 0 Try.f38 3 n [.b true, .b false] (by kernel_rfl) (ya (pT h2x) (ya (pF h3x) yz)))
    refine br (p := ((0 + (Int.toNat s2k3)) < (List.length h0k3))) (fun h4x => ?_) (fun h4x => finL (ctx38 N) 0 Try.f38 3 n [.b true, .b true, .b false] (by kernel_rfl) (ya (pT h2x) (ya (pT h3x) (ya (pF h4x) yz))))
    refine br (p := (s2k3 > (255 : Int))) (fun h5x => ?_) (fun h5x => (ih (IntKind.wrap IntKind.i64 (s2k3 + (1 : Int))) (List.set h0k3 (0 + (Int.toNat s2k3)) (9 : Int))).trans (finL (ctx38 N) 0 Try.f38 3 n [.b true, .b true, .b true, .b false] (by kernel_rfl) (ya (pT h2x) (ya (pT h3x) (ya (pT h4x) (ya (pF h5x) yz))))))
    refine br (p := ((0 + (Int.toNat s2k3)) < (List.length (List.set h0k3 (0 + (Int.toNat s2k3)) (9 : Int))))) (fun h6x => (ih (IntKind.wrap IntKind.i64 (s2k3 + (1 : Int))) (List.set (List.set h0k3 (0 + (Int.toNat s2k3)) (9 : Int)) (0 + (Int.toNat s2k3)) (7 : Int))).trans (finL (ctx38 N) 0 Try.f38 3 n [.b true, .b true, .b true, .b true, .b true, .b true] (by kernel_rfl) (ya (pT h2x) (ya (pT h3x) (ya (pT h4x) (ya (pT h5x) (ya (pT h3x) (ya (pT h6x) yz)))))))) (fun h6x => ?_)
    exact finL (ctx38 N) 0 Try.f38 3 n [.b true, .b true, .b true, .b true, .b true, .b false] (by kernel_rfl) (ya (pT h2x) (ya (pT h3x) (ya (pT h4x) (ya (pT h5x) (ya (pT h3x) (ya (pF h6x) yz))))))
/-! 38 -/
inductive Rf38 where
  | r0 (h0 : List Int)
def f38 (N : Nat) : Option Rf38 :=
 (match f52 N 1 (288 : Int) [(8 : Int)] with
 | none => none
 | some (.r0 h1c0) =>
  (match lf38_3 N N (144 : Int) h1c0 with
  | none => none
  | some (.e0 h0l7) =>
   some (.r0 h0l7)))
def rf38 : Option Rf38 → Option (AV × Heap)
  | none => none
  | some (.r0 h0) => some ((AV.slice 0 0 0 288 1 false true), [(Blk.dyn true 3 [(Col.ints IntKind.i64 h0)])])
theorem ef38 (N : Nat) : rf38 (f38 N) = sem38 N ([] : List AV) ([] : List Blk) := by
  unfold f38
  cases hc0 : f52 N 1 (288 : Int) [(8 : Int)] with
  | none => exact finF (ctx38 N) Try.f38 [.call (rf52 1 false (288 : Int) true [(8 : Int)] none)] (by kernel_rfl) (ya (ys (ef52 N 1 false (288 : Int) true [(8 : Int)]) hc0) yz)
  | some o =>
    cases o with
    | r0 h1c0 =>
      dsimp only
      cases ho7 : lf38_3 N N (144 : Int) h1c0 with
      | none => exact finF (ctx38 N) Try.f38 [.call (rf52 1 false (288 : Int) true [(8 : Int)] (some (.r0 h1c0))), .out (qlf38_3 none)] (by kernel_rfl) (ya (ys (ef52 N 1 false (288 : Int) true [(8 : Int)]) hc0) (ya (ys (elf38_3 N N (144 : Int) h1c0) ho7) yz))
      | some o =>
        cases o with
        | e0 h0l7 =>
          dsimp only
          exact finF (ctx38 N) Try.f38 [.call (rf52 1 false (288 : Int) true [(8 : Int)] (some (.r0 h1c0))), .out (qlf38_3 (some (.e0 h0l7)))] (by kernel_rfl) (ya (ys (ef52 N 1 false (288 : Int) true [(8 : Int)]) hc0) (ya (ys (elf38_3 N N (144 : Int) h1c0) ho7) yz))
/-! 54, loop 4 -/
inductive Qlf54_4 where
  | e0 (h0_0 : List Int) (h0_1 : List Int) (h0_2 : List Int)
def slf54_4 (N : Nat) (n : Nat) (go : Int → Int → List Int → List Int → List Int → Option Qlf54_4) (s2k4 : Int) (s3k4 : Int) (h0_0k4 : List Int) (h0_1k4 : List Int) (h0_2k4 : List Int) : Option Qlf54_4 :=
 if (s3k4 < (285 : Int)) then
  if (((List.length h0_0k4) = (List.length h0_0k4)) ∧ (((List.length h0_0k4) + (List.length [s3k4])) ≤ 1099511627776)) then
   if ((if ((0 : Int) > (IntKind.wrap IntKind.i64 (Int.tdiv (IntKind.wrap IntKind.i64 (s3k4 - (261 : Int))) (4 : Int)))) then (0 : Int) else (IntKind.wrap IntKind.i64 (Int.tdiv (IntKind.wrap IntKind.i64 (s3k4 - (261 : Int))) (4 : Int)))) < (0 : Int)) then
    none
   else
   go (IntKind.wrap IntKind.i64 (s2k4 + (IntKind.wrap IntKind.i64 ((1 : Int) * ((2 : Int) ^ (Min.min (Int.toNat (if ((0 : Int) > (IntKind.wrap IntKind.i64 (Int.tdiv (IntKind.wrap IntKind.i64 (s3k4 - (261 : Int))) (4 : Int)))) then (0 : Int) else (IntKind.wrap IntKind.i64 (Int.tdiv (IntKind.wrap IntKind.i64 (s3k4 - (261 : Int))) (4 : Int))))) 64)))))) (IntKind.wrap IntKind.i64 (s3k4 + (1 : Int))) (h0_0k4 ++ [s3k4]) (h0_1k4 ++ [s2k4]) (h0_2k4 ++ [(if ((0 : Int) > (IntKind.wrap IntKind.i64 (Int.tdiv (IntKind.wrap IntKind.i64 (s3k4 - (261 : Int))) (4 : Int)))) then (0 : Int) else (IntKind.wrap IntKind.i64 (Int.tdiv (IntKind.wrap IntKind.i64 (s3k4 - (261 : Int))) (4 : Int))))])
  else
   none
 else
  some (.e0 h0_0k4 h0_1k4 h0_2k4)
def lf54_4 (N : Nat) : Nat → Int → Int → List Int → List Int → List Int → Option Qlf54_4
  | 0, _, _, _, _, _ => none
  | n + 1, s2k4, s3k4, h0_0k4, h0_1k4, h0_2k4 => slf54_4 N n (lf54_4 N n) s2k4 s3k4 h0_0k4 h0_1k4 h0_2k4
def qlf54_4 : Option Qlf54_4 → Out
  | none => none
  | some (.e0 h0_0 h0_1 h0_2) => some ((XT.exit 0), (St.mk [(1, (AV.slice 0 0 0 (List.length h0_0) 3 false true))] [(Blk.dyn true 89 [(Col.ints IntKind.i64 h0_0), (Col.ints IntKind.i64 h0_1), (Col.ints IntKind.i64 h0_2)])]))
theorem elf54_4 (N : Nat) : ∀ (n : Nat) (s2k4 : Int) (s3k4 : Int) (h0_0k4 : List Int) (h0_1k4 : List Int) (h0_2k4 : List Int), qlf54_4 (lf54_4 N n s2k4 s3k4 h0_0k4 h0_1k4 h0_2k4) = lp (ctx54 N) 0 Try.f54 4 n (St.mk [(1, (AV.slice 0 0 0 (List.length h0_0k4) 3 false true)), (2, (AV.int IntKind.i64 s2k4)), (3, (AV.int IntKind.i64 s3k4))] [(Blk.dyn true 89 [(Col.ints IntKind.i64 h0_0k4), (Col.ints IntKind.i64 h0_1k4), (Col.ints IntKind.i64 h0_2k4)])]) := by
  intro n
  induction n with
  | zero => intros; kernel_rfl
  | succ n ih =>
    intro s2k4 s3k4 h0_0k4 h0_1k4 h0_2k4
    rw [lf54_4]
    unfold slf54_4
    refine br (p := (s3k4 < (285 : Int))) (fun h0x => ?_) (fun h0x => finL (ctx54 N) 0 Try.f54 4 n [.b false] (by kernel_rfl) (ya (pF h0x) yz))
    refine br (p := (((List.length h0_0k4) = (List.length h0_0k4)) ∧ (((List.length h0_0k4) + (List.length [s3k4])) ≤ 1099511627776))) (fun h1x => ?_) (fun h1x => finL (ctx54 N) 0 Try.f54 4 n [.b true, .b false, .b true, .b false] (by kernel_rfl) (ya (pT h0x) (yf (yt (ya (pF h1x) yz)))))
    refine br (p := ((if ((0 : Int) > (IntKind.wrap IntKind.i64 (Int.tdiv (IntKind.wrap IntKind.i64 (s3k4 - (261 : Int))) (4 : Int)))) then (0 : Int) else (IntKind.wrap IntKind.i64 (Int.tdiv (IntKind.wrap IntKind.i64 (s3k4 - (261 : Int))) (4 : Int)))) < (0 : Int))) (fun h2x => finL (ctx54 N) 0 Try.f54 4 n [.b true, .b false, .b true, .b true, .b true] (by kernel_rfl) (ya (pT h0x) (yf (yt (ya (pT h1x) (ya (pT h2x) yz)))))) (fun h2x => ?_)
    exact (ih (IntKind.wrap IntKind.i64 (s2k4 + (IntKind.wrap IntKind.i64 ((1 : Int) * ((2 : Int) ^ (Min.min (Int.toNat (if ((0 : Int) > (IntKind.wrap IntKind.i64 (Int.tdiv (IntKind.wrap IntKind.i64 (s3k4 - (261 : Int))) (4 : Int)))) then (0 : Int) else (IntKind.wrap IntKind.i64 (Int.tdiv (IntKind.wrap IntKind.i64 (s3k4 - (261 : Int))) (4 : Int))))) 64)))))) (IntKind.wrap IntKind.i64 (s3k4 + (1 : Int))) (h0_0k4 ++ [s3k4]) (h0_1k4 ++ [s2k4]) (h0_2k4 ++ [(if ((0 : Int) > (IntKind.wrap IntKind.i64 (Int.tdiv (IntKind.wrap IntKind.i64 (s3k4 - (261 : Int))) (4 : Int)))) then (0 : Int) else (IntKind.wrap IntKind.i64 (Int.tdiv (IntKind.wrap IntKind.i64 (s3k4 - (261 : Int))) (4 : Int))))])).trans (finL (ctx54 N) 0 Try.f54 4 n [.b true, .b false, .b true, .b true, .b false] (by kernel_rfl) (ya (pT h0x) (yf (yt (ya (pT h1x) (ya (pF h2x) yz))))))
/-! 54 -/
inductive Rf54 where
  | r0 (h0_0 : List Int) (h0_1 : List Int) (h0_2 : List Int)
def f54 (N : Nat) : Option Rf54 :=
 (match lf54_4 N N (3 : Int) (257 : Int) ([] : List Int) ([] : List Int) ([] : List Int) with
 | none => none
 | some (.e0 h0_0l3 h0_1l3 h0_2l3) =>
  if (((List.length h0_0l3) = (List.length h0_0l3)) ∧ (((List.length h0_0l3) + 1) ≤ 1099511627776)) then
   some (.r0 (h0_0l3 ++ [(285 : Int)]) (h0_1l3 ++ [(258 : Int)]) (h0_2l3 ++ [(0 : Int)]))
  else
  none)
def rf54 : Option Rf54 → Option (AV × Heap)
  | none => none
  | some (.r0 h0_0 h0_1 h0_2) => some ((AV.slice 0 0 0 (List.length h0_0) 3 false true), [(Blk.dyn true 89 [(Col.ints IntKind.i64 h0_0), (Col.ints IntKind.i64 h0_1), (Col.ints IntKind.i64 h0_2)])])
theorem ef54 (N : Nat) : rf54 (f54 N) = sem54 N ([] : List AV) ([] : List Blk) := by
  unfold f54
  cases ho3 : lf54_4 N N (3 : Int) (257 : Int) ([] : List Int) ([] : List Int) ([] : List Int) with
  | none => exact finF (ctx54 N) Try.f54 [.out (qlf54_4 none)] (by kernel_rfl) (ya (ys (elf54_4 N N (3 : Int) (257 : Int) ([] : List Int) ([] : List Int) ([] : List Int)) ho3) yz)
  | some o =>
    cases o with
    | e0 h0_0l3 h0_1l3 h0_2l3 =>
      dsimp only
      refine br (p := (((List.length h0_0l3) = (List.length h0_0l3)) ∧ (((List.length h0_0l3) + 1) ≤ 1099511627776))) (fun h4x => finF (ctx54 N) Try.f54 [.out (qlf54_4 (some (.e0 h0_0l3 h0_1l3 h0_2l3))), .b true, .b true] (by kernel_rfl) (ya (ys (elf54_4 N N (3 : Int) (257 : Int) ([] : List Int) ([] : List Int) ([] : List Int)) ho3) (yt (ya (pT h4x) yz)))) (fun h4x => ?_)
      exact finF (ctx54 N) Try.f54 [.out (qlf54_4 (some (.e0 h0_0l3 h0_1l3 h0_2l3))), .b true, .b false] (by kernel_rfl) (ya (ys (elf54_4 N N (3 : Int) (257 : Int) ([] : List Int) ([] : List Int) ([] : List Int)) ho3) (yt (ya (pF h4x) yz)))
/-! 55, loop 4 -/
inductive Qlf55_4 where
  | e0 (h0_0 : List Int) (h0_1 : List Int) (h0_2 : List Int)
def slf55_4 (N : Nat) (n : Nat) (go : Int → Int → List Int → List Int → List Int → Option Qlf55_4) (s2k4 : Int) (s6k4 : Int) (h0_0k4 : List Int) (h0_1k4 : List Int) (h0_2k4 : List Int) : Option Qlf55_4 :=
 if (s6k4 < (30 : Int)) then
  if (((List.length h0_0k4) = (List.length h0_0k4)) ∧ (((List.length h0_0k4) + (List.length [s6k4])) ≤ 1099511627776)) then
   if ((if ((0 : Int) > (IntKind.wrap IntKind.i64 (Int.tdiv (IntKind.wrap IntKind.i64 (s6k4 - (2 : Int))) (2 : Int)))) then (0 : Int) else (IntKind.wrap IntKind.i64 (Int.tdiv (IntKind.wrap IntKind.i64 (s6k4 - (2 : Int))) (2 : Int)))) < (0 : Int)) then
    none
   else
   go (IntKind.wrap IntKind.i64 (s2k4 + (IntKind.wrap IntKind.i64 ((1 : Int) * ((2 : Int) ^ (Min.min (Int.toNat (if ((0 : Int) > (IntKind.wrap IntKind.i64 (Int.tdiv (IntKind.wrap IntKind.i64 (s6k4 - (2 : Int))) (2 : Int)))) then (0 : Int) else (IntKind.wrap IntKind.i64 (Int.tdiv (IntKind.wrap IntKind.i64 (s6k4 - (2 : Int))) (2 : Int))))) 64)))))) (IntKind.wrap IntKind.i64 (s6k4 + (1 : Int))) (h0_0k4 ++ [s6k4]) (h0_1k4 ++ [s2k4]) (h0_2k4 ++ [(if ((0 : Int) > (IntKind.wrap IntKind.i64 (Int.tdiv (IntKind.wrap IntKind.i64 (s6k4 - (2 : Int))) (2 : Int)))) then (0 : Int) else (IntKind.wrap IntKind.i64 (Int.tdiv (IntKind.wrap IntKind.i64 (s6k4 - (2 : Int))) (2 : Int))))])
  else
   none
 else
  some (.e0 h0_0k4 h0_1k4 h0_2k4)
def lf55_4 (N : Nat) : Nat → Int → Int → List Int → List Int → List Int → Option Qlf55_4
  | 0, _, _, _, _, _ => none
  | n + 1, s2k4, s6k4, h0_0k4, h0_1k4, h0_2k4 => slf55_4 N n (lf55_4 N n) s2k4 s6k4 h0_0k4 h0_1k4 h0_2k4
def qlf55_4 : Option Qlf55_4 → Out
  | none => none
  | some (.e0 h0_0 h0_1 h0_2) => some ((XT.exit 0), (St.mk [(1, (AV.slice 0 0 0 (List.length h0_0) 3 false true))] [(Blk.dyn true 89 [(Col.ints IntKind.i64 h0_0), (Col.ints IntKind.i64 h0_1), (Col.ints IntKind.i64 h0_2)])]))
theorem elf55_4 (N : Nat) : ∀ (n : Nat) (s2k4 : Int) (s6k4 : Int) (h0_0k4 : List Int) (h0_1k4 : List Int) (h0_2k4 : List Int), qlf55_4 (lf55_4 N n s2k4 s6k4 h0_0k4 h0_1k4 h0_2k4) = lp (ctx55 N) 0 Try.f55 4 n (St.mk [(1, (AV.slice 0 0 0 (List.length h0_0k4) 3 false true)), (2, (AV.int IntKind.i64 s2k4)), (6, (AV.int IntKind.i64 s6k4))] [(Blk.dyn true 89 [(Col.ints IntKind.i64 h0_0k4), (Col.ints IntKind.i64 h0_1k4), (Col.ints IntKind.i64 h0_2k4)])]) := by
  intro n
  induction n with
  | zero => intros; kernel_rfl
  | succ n ih =>
    intro s2k4 s6k4 h0_0k4 h0_1k4 h0_2k4
    rw [lf55_4]
    unfold slf55_4
    refine br (p := (s6k4 < (30 : Int))) (fun h0x => ?_) (fun h0x => finL (ctx55 N) 0 Try.f55 4 n [.b false] (by kernel_rfl) (ya (pF h0x) yz))
    refine br (p := (((List.length h0_0k4) = (List.length h0_0k4)) ∧ (((List.length h0_0k4) + (List.length [s6k4])) ≤ 1099511627776))) (fun h1x => ?_) (fun h1x => finL (ctx55 N) 0 Try.f55 4 n [.b true, .b false, .b true, .b false] (by kernel_rfl) (ya (pT h0x) (yf (yt (ya (pF h1x) yz)))))
    refine br (p := ((if ((0 : Int) > (IntKind.wrap IntKind.i64 (Int.tdiv (IntKind.wrap IntKind.i64 (s6k4 - (2 : Int))) (2 : Int)))) then (0 : Int) else (IntKind.wrap IntKind.i64 (Int.tdiv (IntKind.wrap IntKind.i64 (s6k4 - (2 : Int))) (2 : Int)))) < (0 : Int))) (fun h2x => finL (ctx55 N) 0 Try.f55 4 n [.b true, .b false, .b true, .b true, .b true] (by kernel_rfl) (ya (pT h0x) (yf (yt (ya (pT h1x) (ya (pT h2x) yz)))))) (fun h2x => ?_)
    exact (ih (IntKind.wrap IntKind.i64 (s2k4 + (IntKind.wrap IntKind.i64 ((1 : Int) * ((2 : Int) ^ (Min.min (Int.toNat (if ((0 : Int) > (IntKind.wrap IntKind.i64 (Int.tdiv (IntKind.wrap IntKind.i64 (s6k4 - (2 : Int))) (2 : Int)))) then (0 : Int) else (IntKind.wrap IntKind.i64 (Int.tdiv (IntKind.wrap IntKind.i64 (s6k4 - (2 : Int))) (2 : Int))))) 64)))))) (IntKind.wrap IntKind.i64 (s6k4 + (1 : Int))) (h0_0k4 ++ [s6k4]) (h0_1k4 ++ [s2k4]) (h0_2k4 ++ [(if ((0 : Int) > (IntKind.wrap IntKind.i64 (Int.tdiv (IntKind.wrap IntKind.i64 (s6k4 - (2 : Int))) (2 : Int)))) then (0 : Int) else (IntKind.wrap IntKind.i64 (Int.tdiv (IntKind.wrap IntKind.i64 (s6k4 - (2 : Int))) (2 : Int))))])).trans (finL (ctx55 N) 0 Try.f55 4 n [.b true, .b false, .b true, .b true, .b false] (by kernel_rfl) (ya (pT h0x) (yf (yt (ya (pT h1x) (ya (pF h2x) yz))))))
/-! 55 -/
inductive Rf55 where
  | r0 (h0_0 : List Int) (h0_1 : List Int) (h0_2 : List Int)
def f55 (N : Nat) : Option Rf55 :=
 (match lf55_4 N N (1 : Int) (0 : Int) ([] : List Int) ([] : List Int) ([] : List Int) with
 | none => none
 | some (.e0 h0_0l3 h0_1l3 h0_2l3) =>
  some (.r0 h0_0l3 h0_1l3 h0_2l3))
def rf55 : Option Rf55 → Option (AV × Heap)
  | none => none
  | some (.r0 h0_0 h0_1 h0_2) => some ((AV.slice 0 0 0 (List.length h0_0) 3 false true), [(Blk.dyn true 89 [(Col.ints IntKind.i64 h0_0), (Col.ints IntKind.i64 h0_1), (Col.ints IntKind.i64 h0_2)])])
theorem ef55 (N : Nat) : rf55 (f55 N) = sem55 N ([] : List AV) ([] : List Blk) := by
  unfold f55
  cases ho3 : lf55_4 N N (1 : Int) (0 : Int) ([] : List Int) ([] : List Int) ([] : List Int) with
  | none => exact finF (ctx55 N) Try.f55 [.out (qlf55_4 none)] (by kernel_rfl) (ya (ys (elf55_4 N N (1 : Int) (0 : Int) ([] : List Int) ([] : List Int) ([] : List Int)) ho3) yz)
  | some o =>
    cases o with
    | e0 h0_0l3 h0_1l3 h0_2l3 =>
      dsimp only
      exact finF (ctx55 N) Try.f55 [.out (qlf55_4 (some (.e0 h0_0l3 h0_1l3 h0_2l3)))] (by kernel_rfl) (ya (ys (elf55_4 N N (1 : Int) (0 : Int) ([] : List Int) ([] : List Int) ([] : List Int)) ho3) yz)
/-! 15 -/
inductive Rf15v1 where
  | r0
def f15v1 (N : Nat) : Option Rf15v1 :=
 some .r0
def rf15v1 (a2 : Int) (h0_0n : Nat) (h0_0nl : Bool) (h0_1 : Int) (h0_2 : Int) (h1 : List Int) : Option Rf15v1 → Option (AV × Heap)
  | none => none
  | some .r0 => some ((AV.int IntKind.i64 (3 : Int)), [(Blk.segs true 72 [(Seg.cell (AV.slice 1 0 0 h0_0n 1 h0_0nl true)), (Seg.cell (AV.int IntKind.i64 h0_1)), (Seg.cell (AV.int IntKind.i64 h0_2))]), (Blk.dyn true 5 [(Col.ints IntKind.u8 h1)])])
theorem ef15v1 (N : Nat) (a2 : Int) (h0_0n : Nat) (h0_0nl : Bool) (h0_1 : Int) (h0_2 : Int) (h1 : List Int) : rf15v1 a2 h0_0n h0_0nl h0_1 h0_2 h1 (f15v1 N) = sem15 N [AV.nilptr, (AV.ptr 0 0 0 1), (AV.int IntKind.i64 a2)] [(Blk.segs true 72 [(Seg.cell (AV.slice 1 0 0 h0_0n 1 h0_0nl true)), (Seg.cell (AV.int IntKind.i64 h0_1)), (Seg.cell (AV.int IntKind.i64 h0_2))]), (Blk.dyn true 5 [(Col.ints IntKind.u8 h1)])] := by
  unfold f15v1
  exact finF (ctx15 N) Try.f15 [.b true, .b true, .b true] (by kernel_rfl) (yt (yt (yt yz)))
/-! 53, loop 1 -/
inductive Qlf53_1 where
  | e0 (s7 : Int)
def slf53_1 (N : Nat) (a1n : Nat) (a2 : Int) (h0_0 : List Int) (h0_1 : List Int) (n : Nat) (go : Int → Option Qlf53_1) (s7k1 : Int) : Option Qlf53_1 :=
 if (((0 : Int) ≤ s7k1) ∧ ((Int.toNat s7k1) < a1n)) then
  if ((0 + (Int.toNat s7k1)) < (List.length h0_0)) then
   if ((List.getD h0_1 (0 + (Int.toNat s7k1)) (0 : Int)) > a2) then
    go (IntKind.wrap IntKind.i64 (s7k1 - (1 : Int)))
   else
   some (.e0 s7k1)
  else
   none
 else
  none
def lf53_1 (N : Nat) (a1n : Nat) (a2 : Int) (h0_0 : List Int) (h0_1 : List Int) : Nat → Int → Option Qlf53_1
  | 0, _ => none
  | n + 1, s7k1 => slf53_1 N a1n a2 h0_0 h0_1 n (lf53_1 N a1n a2 h0_0 h0_1 n) s7k1
def qlf53_1 (a1n : Nat) (a1nl : Bool) (a2 : Int) (h0_0 : List Int) (h0_1 : List Int) (h0_2 : List Int) (h2_0n : Nat) (h2_0nl : Bool) (h2_1 : Int) (h2_2 : Int) (h3 : List Int) : Option Qlf53_1 → Out
  | none => none
  | some (.e0 s7) => some ((XT.exit 0), (St.mk [(0, AV.nilptr), (1, (AV.slice 0 0 0 a1n 3 a1nl true)), (2, (AV.int IntKind.i64 a2)), (3, (AV.ptr 1 0 0 1)), (7, (AV.int IntKind.i64 s7))] [(Blk.dyn true 89 [(Col.ints IntKind.i64 h0_0), (Col.ints IntKind.i64 h0_1), (Col.ints IntKind.i64 h0_2)]), (Blk.segs true 27 [(Seg.cell (AV.ptr 2 0 0 1))]), (Blk.segs true 72 [(Seg.cell (AV.slice 3 0 0 h2_0n 1 h2_0nl true)), (Seg.cell (AV.int IntKind.i64 h2_1)), (Seg.cell (AV.int IntKind.i64 h2_2))]), (Blk.dyn true 5 [(Col.ints IntKind.u8 h3)])]))
theorem elf53_1 (N : Nat) (a1n : Nat) (a1nl : Bool) (a2 : Int) (h0_0 : List Int) (h0_1 : List Int) (h0_2 : List Int) (h2_0n : Nat) (h2_0nl : Bool) (h2_1 : Int) (h2_2 : Int) (h3 : List Int) : ∀ (n : Nat) (s7k1 : Int), qlf53_1 a1n a1nl a2 h0_0 h0_1 h0_2 h2_0n h2_0nl h2_1 h2_2 h3 (lf53_1 N a1n a2 h0_0 h0_1 n s7k1) = lp (ctx53 N) 4 Try.f53 1 n (St.mk [(0, AV.nilptr), (1, (AV.slice 0 0 0 a1n 3 a1nl true)), (2, (AV.int IntKind.i64 a2)), (3, (AV.ptr 1 0 0 1)), (7, (AV.int IntKind.i64 s7k1))] [(Blk.dyn true 89 [(Col.ints IntKind.i64 h0_0), (Col.ints IntKind.i64 h0_1), (Col.ints IntKind.i64 h0_2)]), (Blk.segs true 27 [(Seg.cell (AV.ptr 2 0 0 1))]), (Blk.segs true 72 [(Seg.cell (AV.slice 3 0 0 h2_0n 1 h2_0nl true)), (Seg.cell (AV.int IntKind.i64 h2_1)), (Seg.cell (AV.int IntKind.i64 h2_2))]), (Blk.dyn true 5 [(Col.ints IntKind.u8 h3)])]) := by
  intro n
  induction n with
  | zero => intros; kernel_rfl
  | succ n ih =>
    intro s7k1
    rw [lf53_1]
    unfold slf53_1
    refine br (p := (((0 : Int) ≤ s7k1) ∧ ((Int.toNat s7k1) < a1n))) (fun h3x => ?_) (fun h3x => finL (ctx53 N) 4 Try.f53 1 n [.b false] (by kernel_rfl) (ya (pF h3x) yz))
    refine br (p := ((0 + (Int.toNat s7k1)) < (List.length h0_0))) (fun h4x => ?_) (fun h4x => finL (ctx53 N) 4 Try.f53 1 n [.b true, .b false] (by kernel_rfl) (ya (pT h3x) (ya (pF h4x) yz)))
    refine br (p := ((List.getD h0_1 (0 + (Int.toNat s7k1)) (0 : Int)) > a2)) (fun h5x => (ih (IntKind.wrap IntKind.i64 (s7k1 - (1 : Int)))).trans (finL (ctx53 N) 4 Try.f53 1 n [.b true, .b true, .b true] (by kernel_rfl) (ya (pT h3x) (ya (pT h4x) (ya (pT h5x) yz))))) (fun h5x => ?_)
    exact finL (ctx53 N) 4 Try.f53 1 n [.b true, .b true, .b false] (by kernel_rfl) (ya (pT h3x) (ya (pT h4x) (ya (pF h5x) yz)))
/-! 53 -/
inductive Rf53 where
  | r0 (h2_1 : Int) (h2_2 : Int)
  | r1 (h2_1 : Int) (h2_2 : Int) (h4 : List Int)
def f53 (N : Nat) (a1n : Nat) (a2 : Int) (h0_0 : List Int) (h0_1 : List Int) (h0_2 : List Int) (h2_0n : Nat) (h2_1 : Int) (h2_2 : Int) (h3 : List Int) : Option Rf53 :=
 (match lf53_1 N a1n a2 h0_0 h0_1 N (IntKind.wrap IntKind.i64 (((a1n : Nat) : Int) - (1 : Int))) with
 | none => none
 | some (.e0 s7l6) =>
  if (((0 : Int) ≤ s7l6) ∧ ((Int.toNat s7l6) < a1n)) then
   if ((0 + (Int.toNat s7l6)) < (List.length h0_0)) then
    (match f15v1 N with
    | none => none
    | some .r0 =>
     (match f41 N (IntKind.wrap IntKind.i64 (a2 - (List.getD h0_1 (0 + (Int.toNat s7l6)) (0 : Int)))) (List.getD h0_2 (0 + (Int.toNat s7l6)) (0 : Int)) h2_0n h2_1 h2_2 h3 with
     | none => none
     | some (.r0 resc10 h0_1c10 h0_2c10) =>
      some (.r0 h0_1c10 h0_2c10)
     | some (.r1 h0_1c10 h0_2c10 h2c10) =>
      some (.r1 h0_1c10 h0_2c10 h2c10)))
   else
    none
  else
   none)
def rf53 (a1n : Nat) (a1nl : Bool) (a2 : Int) (h0_0 : List Int) (h0_1 : List Int) (h0_2 : List Int) (h2_0n : Nat) (h2_0nl : Bool) (h2_1 : Int) (h2_2 : Int) (h3 : List Int) : Option Rf53 → Option (AV × Heap)
  | none => none
  | some (.r0 h2_1 h2_2) => some ((AV.tuple ([] : List AV)), [(Blk.dyn true 89 [(Col.ints IntKind.i64 h0_0), (Col.ints IntKind.i64 h0_1), (Col.ints IntKind.i64 h0_2)]), (Blk.segs true 27 [(Seg.cell (AV.ptr 2 0 0 1))]), (Blk.segs true 72 [(Seg.cell (AV.slice 3 0 0 h2_0n 1 h2_0nl true)), (Seg.cell (AV.int IntKind.i64 h2_1)), (Seg.cell (AV.int IntKind.i64 h2_2))]), (Blk.dyn true 5 [(Col.ints IntKind.u8 h3)])])
  | some (.r1 h2_1 h2_2 h4) => some ((AV.tuple ([] : List AV)), [(Blk.dyn true 89 [(Col.ints IntKind.i64 h0_0), (Col.ints IntKind.i64 h0_1), (Col.ints IntKind.i64 h0_2)]), (Blk.segs true 27 [(Seg.cell (AV.ptr 2 0 0 1))]), (Blk.segs true 72 [(Seg.cell (AV.slice 4 0 0 (List.length h4) 1 false true)), (Seg.cell (AV.int IntKind.i64 h2_1)), (Seg.cell (AV.int IntKind.i64 h2_2))]), Blk.dead, (Blk.dyn true 5 [(Col.ints IntKind.u8 h4)])])
theorem ef53 (N : Nat) (a1n : Nat) (a1nl : Bool) (a2 : Int) (h0_0 : List Int) (h0_1 : List Int) (h0_2 : List Int) (h2_0n : Nat) (h2_0nl : Bool) (h2_1 : Int) (h2_2 : Int) (h3 : List Int) : rf53 a1n a1nl a2 h0_0 h0_1 h0_2 h2_0n h2_0nl h2_1 h2_2 h3 (f53 N a1n a2 h0_0 h0_1 h0_2 h2_0n h2_1 h2_2 h3) = sem53 N [AV.nilptr, (AV.slice 0 0 0 a1n 3 a1nl true), (AV.int IntKind.i64 a2), (AV.ptr 1 0 0 1)] [(Blk.dyn true 89 [(Col.ints IntKind.i64 h0_0), (Col.ints IntKind.i64 h0_1), (Col.ints IntKind.i64 h0_2)]), (Blk.segs true 27 [(Seg.cell (AV.ptr 2 0 0 1))]), (Blk.segs true 72 [(Seg.cell (AV.slice 3 0 0 h2_0n 1 h2_0nl true)), (Seg.cell (AV.int IntKind.i64 h2_1)), (Seg.cell (AV.int IntKind.i64 h2_2))]), (Blk.dyn true 5 [(Col.ints IntKind.u8 h3)])] := by
  unfold f53
  cases ho6 : lf53_1 N a1n a2 h0_0 h0_1 N (IntKind.wrap IntKind.i64 (((a1n : Nat) : Int) - (1 : Int))) with
  | none => exact finF (ctx53 N) Try.f53 [.out (qlf53_1 a1n a1nl a2 h0_0 h0_1 h0_2 h2_0n h2_0nl h2_1 h2_2 h3 none)] (by kernel_rfl) (ya (ys (elf53_1 N a1n a1nl a2 h0_0 h0_1 h0_2 h2_0n h2_0nl h2_1 h2_2 h3 N (IntKind.wrap IntKind.i64 (((a1n : Nat) : Int) - (1 : Int)))) ho6) yz)
  | some o =>
    cases o with
    | e0 s7l6 =>
      dsimp only
      refine br (p := (((0 : Int) ≤ s7l6) ∧ ((Int.toNat s7l6) < a1n))) (fun h7x => ?_) (fun h7x => finF (ctx53 N) Try.f53 [.out (qlf53_1 a1n a1nl a2 h0_0 h0_1 h0_2 h2_0n h2_0nl h2_1 h2_2 h3 (some (.e0 s7l6))), .b false] (by kernel_rfl) (ya (ys (elf53_1 N a1n a1nl a2 h0_0 h0_1 h0_2 h2_0n h2_0nl h2_1 h2_2 h3 N (IntKind.wrap IntKind.i64 (((a1n : Nat) : Int) - (1 : Int)))) ho6) (ya (pF h7x) yz)))
      refine br (p := ((0 + (Int.toNat s7l6)) < (List.length h0_0))) (fun h8x => ?_) (fun h8x => finF (ctx53 N) Try.f53 [.out (qlf53_1 a1n a1nl a2 h0_0 h0_1 h0_2 h2_0n h2_0nl h2_1 h2_2 h3 (some (.e0 s7l6))), .b true, .b false] (by kernel_rfl) (ya (ys (elf53_1 N a1n a1nl a2 h0_0 h0_1 h0_2 h2_0n h2_0nl h2_1 h2_2 h3 N (IntKind.wrap IntKind.i64 (((a1n : Nat) : Int) - (1 : Int)))) ho6) (ya (pT h7x) (ya (pF h8x) yz))))
      cases hc9 : f15v1 N with
      | none => exact finF (ctx53 N) Try.f53 [.out (qlf53_1 a1n a1nl a2 h0_0 h0_1 h0_2 h2_0n h2_0nl h2_1 h2_2 h3 (some (.e0 s7l6))), .b true, .b true, .call (rf15v1 (List.getD h0_0 (0 + (Int.toNat s7l6)) (0 : Int)) h2_0n h2_0nl h2_1 h2_2 h3 none)] (by kernel_rfl) (ya (ys (elf53_1 N a1n a1nl a2 h0_0 h0_1 h0_2 h2_0n h2_0nl h2_1 h2_2 h3 N (IntKind.wrap IntKind.i64 (((a1n : Nat) : Int) - (1 : Int)))) ho6) (ya (pT h7x) (ya (pT h8x) (ya (ys (ef15v1 N (List.getD h0_0 (0 + (Int.toNat s7l6)) (0 : Int)) h2_0n h2_0nl h2_1 h2_2 h3) hc9) yz))))
      | some o =>
        cases o with
        | r0 =>
          dsimp only
          cases hc10 : f41 N (IntKind.wrap IntKind.i64 (a2 - (List.getD h0_1 (0 + (Int.toNat s7l6)) (0 : Int)))) (List.getD h0_2 (0 + (Int.toNat s7l6)) (0 : Int)) h2_0n h2_1 h2_2 h3 with
          | none => exact finF (ctx53 N) Try.f53 [.out (qlf53_1 a1n a1nl a2 h0_0 h0_1 h0_2 h2_0n h2_0nl h2_1 h2_2 h3 (some (.e0 s7l6))), .b true, .b true, .call (rf15v1 (List.getD h0_0 (0 + (Int.toNat s7l6)) (0 : Int)) h2_0n h2_0nl h2_1 h2_2 h3 (some .r0)), .b true, .b true, .b true, .b true, .call (rf41 (IntKind.wrap IntKind.i64 (a2 - (List.getD h0_1 (0 + (Int.toNat s7l6)) (0 : Int)))) (List.getD h0_2 (0 + (Int.toNat s7l6)) (0 : Int)) h2_0n h2_0nl h2_1 h2_2 h3 none)] (by kernel_rfl) (ya (ys (elf53_1 N a1n a1nl a2 h0_0 h0_1 h0_2 h2_0n h2_0nl h2_1 h2_2 h3 N (IntKind.wrap IntKind.i64 (((a1n : Nat) : Int) - (1 : Int)))) ho6) (ya (pT h7x) (ya (pT h8x) (ya (ys (ef15v1 N (List.getD h0_0 (0 + (Int.toNat s7l6)) (0 : Int)) h2_0n h2_0nl h2_1 h2_2 h3) hc9) (ya (pT h7x) (ya (pT h8x) (ya (pT h7x) (ya (pT h8x) (ya (ys (ef41 N (IntKind.wrap IntKind.i64 (a2 - (List.getD h0_1 (0 + (Int.toNat s7l6)) (0 : Int)))) (List.getD h0_2 (0 + (Int.toNat s7l6)) (0 : Int)) h2_0n h2_0nl h2_1 h2_2 h3) hc10) yz)))))))))
          | some o =>
            cases o with
            | r0 resc10 h0_1c10 h0_2c10 =>
              dsimp only
              exact finF (ctx53 N) Try.f53 [.out (qlf53_1 a1n a1nl a2 h0_0 h0_1 h0_2 h2_0n h2_0nl h2_1 h2_2 h3 (some (.e0 s7l6))), .b true, .b true, .call (rf15v1 (List.getD h0_0 (0 + (Int.toNat s7l6)) (0 : Int)) h2_0n h2_0nl h2_1 h2_2 h3 (some .r0)), .b true, .b true, .b true, .b true, .call (rf41 (IntKind.wrap IntKind.i64 (a2 - (List.getD h0_1 (0 + (Int.toNat s7l6)) (0 : Int)))) (List.getD h0_2 (0 + (Int.toNat s7l6)) (0 : Int)) h2_0n h2_0nl h2_1 h2_2 h3 (some (.r0 resc10 h0_1c10 h0_2c10)))] (by kernel_rfl) (ya (ys (elf53_1 N a1n a1nl a2 h0_0 h0_1 h0_2 h2_0n h2_0nl h2_1 h2_2 h3 N (IntKind.wrap IntKind.i64 (((a1n : Nat) : Int) - (1 : Int)))) ho6) (ya (pT h7x) (ya (pT h8x) (ya (ys (ef15v1 N (List.getD h0_0 (0 + (Int.toNat s7l6)) (0 : Int)) h2_0n h2_0nl h2_1 h2_2 h3) hc9) (ya (pT h7x) (ya (pT h8x) (ya (pT h7x) (ya (pT h8x) (ya (ys (ef41 N (IntKind.wrap IntKind.i64 (a2 - (List.getD h0_1 (0 + (Int.toNat s7l6)) (0 : Int)))) (List.getD h0_2 (0 + (Int.toNat s7l6)) (0 : Int)) h2_0n h2_0nl h2_1 h2_2 h3) hc10) yz)))))))))
            | r1 h0_1c10 h0_2c10 h2c10 =>
              dsimp only
              exact finF (ctx53 N) Try.f53 [.out (qlf53_1 a1n a1nl a2 h0_0 h0_1 h0_2 h2_0n h2_0nl h2_1 h2_2 h3 (some (.e0 s7l6))), .b true, .b true, .call (rf15v1 (List.getD h0_0 (0 + (Int.toNat s7l6)) (0 : Int)) h2_0n h2_0nl h2_1 h2_2 h3 (some .r0)), .b true, .b true, .b true, .b true, .call (rf41 (IntKind.wrap IntKind.i64 (a2 - (List.getD h0_1 (0 + (Int.toNat s7l6)) (0 : Int)))) (List.getD h0_2 (0 + (Int.toNat s7l6)) (0 : Int)) h2_0n h2_0nl h2_1 h2_2 h3 (some (.r1 h0_1c10 h0_2c10 h2c10)))] (by kernel_rfl) (ya (ys (elf53_1 N a1n a1nl a2 h0_0 h0_1 h0_2 h2_0n h2_0nl h2_1 h2_2 h3 N (IntKind.wrap IntKind.i64 (((a1n : Nat) : Int) - (1 : Int)))) ho6) (ya (pT h7x) (ya (pT h8x) (ya (ys (ef15v1 N (List.getD h0_0 (0 + (Int.toNat s7l6)) (0 : Int)) h2_0n h2_0nl h2_1 h2_2 h3) hc9) (ya (pT h7x) (ya (pT h8x) (ya (pT h7x) (ya (pT h8x) (ya (ys (ef41 N (IntKind.wrap IntKind.i64 (a2 - (List.getD h0_1 (0 + (Int.toNat s7l6)) (0 : Int)))) (List.getD h0_2 (0 + (Int.toNat s7l6)) (0 : Int)) h2_0n h2_0nl h2_1 h2_2 h3) hc10) yz)))))))))
/-! 53, loop 1 -/
inductive Qlf53v1_1 where
  | e0 (s7 : Int)
def slf53v1_1 (N : Nat) (a1n : Nat) (a2 : Int) (h1_0 : List Int) (h1_1 : List Int) (n : Nat) (go : Int → Option Qlf53v1_1) (s7k1 : Int) : Option Qlf53v1_1 :=
 if (((0 : Int) ≤ s7k1) ∧ ((Int.toNat s7k1) < a1n)) then
  if ((0 + (Int.toNat s7k1)) < (List.length h1_0)) then
   if ((List.getD h1_1 (0 + (Int.toNat s7k1)) (0 : Int)) > a2) then
    go (IntKind.wrap IntKind.i64 (s7k1 - (1 : Int)))
   else
   some (.e0 s7k1)
  else
   none
 else
  none
def lf53v1_1 (N : Nat) (a1n : Nat) (a2 : Int) (h1_0 : List Int) (h1_1 : List Int) : Nat → Int → Option Qlf53v1_1
  | 0, _ => none
  | n + 1, s7k1 => slf53v1_1 N a1n a2 h1_0 h1_1 n (lf53v1_1 N a1n a2 h1_0 h1_1 n) s7k1
def qlf53v1_1 (a1n : Nat) (a1nl : Bool) (a2 : Int) (h0_0 : List Int) (h0_1n : Nat) (h0_1nl : Bool) (h0_2n : Nat) (h0_2nl : Bool) (h0_3n : Nat) (h0_3nl : Bool) (h1_0 : List Int) (h1_1 : List Int) (h1_2 : List Int) (h3 : List Int) (h4 : List Int) (h5 : List Int) (h6_0n : Nat) (h6_0nl : Bool) (h6_1 : Int) (h6_2 : Int) (h7 : List Int) : Option Qlf53v1_1 → Out
  | none => none
  | some (.e0 s7) => some ((XT.exit 0), (St.mk [(0, (AV.ptr 0 0 0 1)), (1, (AV.slice 1 0 0 a1n 3 a1nl true)), (2, (AV.int IntKind.i64 a2)), (3, (AV.ptr 2 0 0 1)), (7, (AV.int IntKind.i64 s7))] [(Blk.segs true 70 [(Seg.run IntKind.i64 16 h0_0), (Seg.cell (AV.slice 3 0 0 h0_1n 1 h0_1nl true)), (Seg.cell (AV.slice 4 0 0 h0_2n 1 h0_2nl true)), (Seg.cell (AV.slice 5 0 0 h0_3n 1 h0_3nl true))]), (Blk.dyn true 89 [(Col.ints IntKind.i64 h1_0), (Col.ints IntKind.i64 h1_1), (Col.ints IntKind.i64 h1_2)]), (Blk.segs true 27 [(Seg.cell (AV.ptr 6 0 0 1))]), (Blk.dyn true 3 [(Col.ints IntKind.i64 h3)]), (Blk.dyn true 3 [(Col.ints IntKind.i64 h4)]), (Blk.dyn true 3 [(Col.ints IntKind.i64 h5)]), (Blk.segs true 72 [(Seg.cell (AV.slice 7 0 0 h6_0n 1 h6_0nl true)), (Seg.cell (AV.int IntKind.i64 h6_1)), (Seg.cell (AV.int IntKind.i64 h6_2))]), (Blk.dyn true 5 [(Col.ints IntKind.u8 h7)])]))
theorem elf53v1_1 (N : Nat) (a1n : Nat) (a1nl : Bool) (a2 : Int) (h0_0 : List Int) (h0_1n : Nat) (h0_1nl : Bool) (h0_2n : Nat) (h0_2nl : Bool) (h0_3n : Nat) (h0_3nl : Bool) (h1_0 : List Int) (h1_1 : List Int) (h1_2 : List Int) (h3 : List Int) (h4 : List Int) (h5 : List Int) (h6_0n : Nat) (h6_0nl : Bool) (h6_1 : Int) (h6_2 : Int) (h7 : List Int) : ∀ (n : Nat) (s7k1 : Int), qlf53v1_1 a1n a1nl a2 h0_0 h0_1n h0_1nl h0_2n h0_2nl h0_3n h0_3nl h1_0 h1_1 h1_2 h3 h4 h5 h6_0n h6_0nl h6_1 h6_2 h7 (lf53v1_1 N a1n a2 h1_0 h1_1 n s7k1) = lp (ctx53 N) 8 Try.f53 1 n (St.mk [(0, (AV.ptr 0 0 0 1)), (1, (AV.slice 1 0 0 a1n 3 a1nl true)), (2, (AV.int IntKind.i64 a2)), (3, (AV.ptr 2 0 0 1)), (7, (AV.int IntKind.i64 s7k1))] [(Blk.segs true 70 [(Seg.run IntKind.i64 16 h0_0), (Seg.cell (AV.slice 3 0 0 h0_1n 1 h0_1nl true)), (Seg.cell (AV.slice 4 0 0 h0_2n 1 h0_2nl true)), (Seg.cell (AV.slice 5 0 0 h0_3n 1 h0_3nl true))]), (Blk.dyn true 89 [(Col.ints IntKind.i64 h1_0), (Col.ints IntKind.i64 h1_1), (Col.ints IntKind.i64 h1_2)]), (Blk.segs true 27 [(Seg.cell (AV.ptr 6 0 0 1))]), (Blk.dyn true 3 [(Col.ints IntKind.i64 h3)]), (Blk.dyn true 3 [(Col.ints IntKind.i64 h4)]), (Blk.dyn true 3 [(Col.ints IntKind.i64 h5)]), (Blk.segs true 72 [(Seg.cell (AV.slice 7 0 0 h6_0n 1 h6_0nl true)), (Seg.cell (AV.int IntKind.i64 h6_1)), (Seg.cell (AV.int IntKind.i64 h6_2))]), (Blk.dyn true 5 [(Col.ints IntKind.u8 h7)])]) := by
  intro n
  induction n with
  | zero => intros; kernel_rfl
  | succ n ih =>
    intro s7k1
    rw [lf53v1_1]
    unfold slf53v1_1
    refine br (p := (((0 : Int) ≤ s7k1) ∧ ((Int.toNat s7k1) < a1n))) (fun h3x => ?_) (fun h3x => finL (ctx53 N) 8 Try.f53 1 n [.b false] (by kernel_rfl) (ya (pF h3x) yz))
    refine br (p := ((0 + (Int.toNat s7k1)) < (List.length h1_0))) (fun h4x => ?_) (fun h4x => finL (ctx53 N) 8 Try.f53 1 n [.b true, .b false] (by kernel_rfl) (ya (pT h3x) (ya (pF h4x) yz)))
    refine br (p := ((List.getD h1_1 (0 + (Int.toNat s7k1)) (0 : Int)) > a2)) (fun h5x => (ih (IntKind.wrap IntKind.i64 (s7k1 - (1 : Int)))).trans (finL (ctx53 N) 8 Try.f53 1 n [.b true, .b true, .b true] (by kernel_rfl) (ya (pT h3x) (ya (pT h4x) (ya (pT h5x) yz))))) (fun h5x => ?_)
    exact finL (ctx53 N) 8 Try.f53 1 n [.b true, .b true, .b false] (by kernel_rfl) (ya (pT h3x) (ya (pT h4x) (ya (pF h5x) yz)))
/-! 53 -/
inductive Rf53v1 where
  | r0 (h6_1 : Int) (h6_2 : Int)
  | r1 (h6_1 : Int) (h6_2 : Int) (h8 : List Int)
def f53v1 (N : Nat) (a1n : Nat) (a2 : Int) (h0_1n : Nat) (h0_2n : Nat) (h1_0 : List Int) (h1_1 : List Int) (h1_2 : List Int) (h3 : List Int) (h4 : List Int) (h6_0n : Nat) (h6_1 : Int) (h6_2 : Int) (h7 : List Int) : Option Rf53v1 :=
 (match lf53v1_1 N a1n a2 h1_0 h1_1 N (IntKind.wrap IntKind.i64 (((a1n : Nat) : Int) - (1 : Int))) with
 | none => none
 | some (.e0 s7l6) =>
  if (((0 : Int) ≤ s7l6) ∧ ((Int.toNat s7l6) < a1n)) then
   if ((0 + (Int.toNat s7l6)) < (List.length h1_0)) then
    (match f15 N (List.getD h1_0 (0 + (Int.toNat s7l6)) (0 : Int)) h0_1n h0_2n h6_0n h6_1 h6_2 h3 h4 h7 with
    | none => none
    | some (.r0 resc9 h1_1c9 h1_2c9) =>
     (match f41 N (IntKind.wrap IntKind.i64 (a2 - (List.getD h1_1 (0 + (Int.toNat s7l6)) (0 : Int)))) (List.getD h1_2 (0 + (Int.toNat s7l6)) (0 : Int)) h6_0n h1_1c9 h1_2c9 h7 with
     | none => none
     | some (.r0 resc10 h0_1c10 h0_2c10) =>
      some (.r0 h0_1c10 h0_2c10)
     | some (.r1 h0_1c10 h0_2c10 h2c10) =>
      some (.r1 h0_1c10 h0_2c10 h2c10))
    | some (.r1 resc9 h1_1c9 h1_2c9 h6c9) =>
     (match f41 N (IntKind.wrap IntKind.i64 (a2 - (List.getD h1_1 (0 + (Int.toNat s7l6)) (0 : Int)))) (List.getD h1_2 (0 + (Int.toNat s7l6)) (0 : Int)) (List.length h6c9) h1_1c9 h1_2c9 h6c9 with
     | none => none
     | some (.r0 resc11 h0_1c11 h0_2c11) =>
      some (.r1 h0_1c11 h0_2c11 h6c9)
     | some (.r1 h0_1c11 h0_2c11 h2c11) =>
      some (.r1 h0_1c11 h0_2c11 h2c11)))
   else
    none
  else
   none)
def rf53v1 (a1n : Nat) (a1nl : Bool) (a2 : Int) (h0_0 : List Int) (h0_1n : Nat) (h0_1nl : Bool) (h0_2n : Nat) (h0_2nl : Bool) (h0_3n : Nat) (h0_3nl : Bool) (h1_0 : List Int) (h1_1 : List Int) (h1_2 : List Int) (h3 : List Int) (h4 : List Int) (h5 : List Int) (h6_0n : Nat) (h6_0nl : Bool) (h6_1 : Int) (h6_2 : Int) (h7 : List Int) : Option Rf53v1 → Option (AV × Heap)
  | none => none
  | some (.r0 h6_1 h6_2) => some ((AV.tuple ([] : List AV)), [(Blk.segs true 70 [(Seg.run IntKind.i64 16 h0_0), (Seg.cell (AV.slice 3 0 0 h0_1n 1 h0_1nl true)), (Seg.cell (AV.slice 4 0 0 h0_2n 1 h0_2nl true)), (Seg.cell (AV.slice 5 0 0 h0_3n 1 h0_3nl true))]), (Blk.dyn true 89 [(Col.ints IntKind.i64 h1_0), (Col.ints IntKind.i64 h1_1), (Col.ints IntKind.i64 h1_2)]), (Blk.segs true 27 [(Seg.cell (AV.ptr 6 0 0 1))]), (Blk.dyn true 3 [(Col.ints IntKind.i64 h3)]), (Blk.dyn true 3 [(Col.ints IntKind.i64 h4)]), (Blk.dyn true 3 [(Col.ints IntKind.i64 h5)]), (Blk.segs true 72 [(Seg.cell (AV.slice 7 0 0 h6_0n 1 h6_0nl true)), (Seg.cell (AV.int IntKind.i64 h6_1)), (Seg.cell (AV.int IntKind.i64 h6_2))]), (Blk.dyn true 5 [(Col.ints IntKind.u8 h7)])])
  | some (.r1 h6_1 h6_2 h8) => some ((AV.tuple ([] : List AV)), [(Blk.segs true 70 [(Seg.run IntKind.i64 16 h0_0), (Seg.cell (AV.slice 3 0 0 h0_1n 1 h0_1nl true)), (Seg.cell (AV.slice 4 0 0 h0_2n 1 h0_2nl true)), (Seg.cell (AV.slice 5 0 0 h0_3n 1 h0_3nl true))]), (Blk.dyn true 89 [(Col.ints IntKind.i64 h1_0), (Col.ints IntKind.i64 h1_1), (Col.ints IntKind.i64 h1_2)]), (Blk.segs true 27 [(Seg.cell (AV.ptr 6 0 0 1))]), (Blk.dyn true 3 [(Col.ints IntKind.i64 h3)]), (Blk.dyn true 3 [(Col.ints IntKind.i64 h4)]), (Blk.dyn true 3 [(Col.ints IntKind.i64 h5)]), (Blk.segs true 72 [(Seg.cell (AV.slice 8 0 0 (List.length h8) 1 false true)), (Seg.cell (AV.int IntKind.i64 h6_1)), (Seg.cell (AV.int IntKind.i64 h6_2))]), Blk.dead, (Blk.dyn true 5 [(Col.ints IntKind.u8 h8)])])
theorem ef53v1 (N : Nat) (a1n : Nat) (a1nl : Bool) (a2 : Int) (h0_0 : List Int) (h0_1n : Nat) (h0_1nl : Bool) (h0_2n : Nat) (h0_2nl : Bool) (h0_3n : Nat) (h0_3nl : Bool) (h1_0 : List Int) (h1_1 : List Int) (h1_2 : List Int) (h3 : List Int) (h4 : List Int) (h5 : List Int) (h6_0n : Nat) (h6_0nl : Bool) (h6_1 : Int) (h6_2 : Int) (h7 : List Int) : rf53v1 a1n a1nl a2 h0_0 h0_1n h0_1nl h0_2n h0_2nl h0_3n h0_3nl h1_0 h1_1 h1_2 h3 h4 h5 h6_0n h6_0nl h6_1 h6_2 h7 (f53v1 N a1n a2 h0_1n h0_2n h1_0 h1_1 h1_2 h3 h4 h6_0n h6_1 h6_2 h7) = sem53 N [(AV.ptr 0 0 0 1), (AV.slice 1 0 0 a1n 3 a1nl true), (AV.int IntKind.i64 a2), (AV.ptr 2 0 0 1)] [(Blk.segs true 70 [(Seg.run IntKind.i64 16 h0_0), (Seg.cell (AV.slice 3 0 0 h0_1n 1 h0_1nl true)), (Seg.cell (AV.slice 4 0 0 h0_2n 1 h0_2nl true)), (Seg.cell (AV.slice 5 0 0 h0_3n 1 h0_3nl true))]), (Blk.dyn true 89 [(Col.ints IntKind.i64 h1_0), (Col.ints IntKind.i64 h1_1), (Col.ints IntKind.i64 h1_2)]), (Blk.segs true 27 [(Seg.cell (AV.ptr 6 0 0 1))]), (Blk.dyn true 3 [(Col.ints IntKind.i64 h3)]), (Blk.dyn true 3 [(Col.ints IntKind.i64 h4)]), (Blk.dyn true 3 [(Col.ints IntKind.i64 h5)]), (Blk.segs true 72 [(Seg.cell (AV.slice 7 0 0 h6_0n 1 h6_0nl true)), (Seg.cell (AV.int IntKind.i64 h6_1)), (Seg.cell (AV.int IntKind.i64 h6_2))]), (Blk.dyn true 5 [(Col.ints IntKind.u8 h7)])] := by
  unfold f53v1
  cases ho6 : lf53v1_1 N a1n a2 h1_0 h1_1 N (IntKind.wrap IntKind.i64 (((a1n : Nat) : Int) - (1 : Int))) with
  | none => exact finF (ctx53 N) Try.f53 [.out (qlf53v1_1 a1n a1nl a2 h0_0 h0_1n h0_1nl h0_2n h0_2nl h0_3n h0_3nl h1_0 h1_1 h1_2 h3 h4 h5 h6_0n h6_0nl h6_1 h6_2 h7 none)] (by kernel_rfl) (ya (ys (elf53v1_1 N a1n a1nl a2 h0_0 h0_1n h0_1nl h0_2n h0_2nl h0_3n h0_3nl h1_0 h1_1 h1_2 h3 h4 h5 h6_0n h6_0nl h6_1 h6_2 h7 N (IntKind.wrap IntKind.i64 (((a1n : Nat) : Int) - (1 : Int)))) ho6) yz)
  | some o =>
    cases o with
    | e0 s7l6 =>
      dsimp only
      refine br (p := (((0 : Int) ≤ s7l6) ∧ ((Int.toNat s7l6) < a1n))) (fun h7x => ?_) (fun h7x => finF (ctx53 N) Try.f53 [.out (qlf53v1_1 a1n a1nl a2 h0_0 h0_1n h0_1nl h0_2n h0_2nl h0_3n h0_3nl h1_0 h1_1 h1_2 h3 h4 h5 h6_0n h6_0nl h6_1 h6_2 h7 (some (.e0 s7l6))), .b false] (by kernel_rfl) (ya (ys (elf53v1_1 N a1n a1nl a2 h0_0 h0_1n h0_1nl h0_2n h0_2nl h0_3n h0_3nl h1_0 h1_1 h1_2 h3 h4 h5 h6_0n h6_0nl h6_1 h6_2 h7 N (IntKind.wrap IntKind.i64 (((a1n : Nat) : Int) - (1 : Int)))) ho6) (ya (pF h7x) yz)))
      refine br (p := ((0 + (Int.toNat s7l6)) < (List.length h1_0))) (fun h8x => ?_) (fun h8x => finF (ctx53 N) Try.f53 [.out (qlf53v1_1 a1n a1nl a2 h0_0 h0_1n h0_1nl h0_2n h0_2nl h0_3n h0_3nl h1_0 h1_1 h1_2 h3 h4 h5 h6_0n h6_0nl h6_1 h6_2 h7 (some (.e0 s7l6))), .b true, .b false] (by kernel_rfl) (ya (ys (elf53v1_1 N a1n a1nl a2 h0_0 h0_1n h0_1nl h0_2n h0_2nl h0_3n h0_3nl h1_0 h1_1 h1_2 h3 h4 h5 h6_0n h6_0nl h6_1 h6_2 h7 N (IntKind.wrap IntKind.i64 (((a1n : Nat) : Int) - (1 : Int)))) ho6) (ya (pT h7x) (ya (pF h8x) yz))))
      cases hc9 : f15 N (List.getD h1_0 (0 + (Int.toNat s7l6)) (0 : Int)) h0_1n h0_2n h6_0n h6_1 h6_2 h3 h4 h7 with
      | none => exact finF (ctx53 N) Try.f53 [.out (qlf53v1_1 a1n a1nl a2 h0_0 h0_1n h0_1nl h0_2n h0_2nl h0_3n h0_3nl h1_0 h1_1 h1_2 h3 h4 h5 h6_0n h6_0nl h6_1 h6_2 h7 (some (.e0 s7l6))), .b true, .b true, .call (rf15 (List.getD h1_0 (0 + (Int.toNat s7l6)) (0 : Int)) h0_0 h0_1n h0_1nl h0_2n h0_2nl h0_3n h0_3nl h6_0n h6_0nl h6_1 h6_2 h3 h4 h5 h7 none)] (by kernel_rfl) (ya (ys (elf53v1_1 N a1n a1nl a2 h0_0 h0_1n h0_1nl h0_2n h0_2nl h0_3n h0_3nl h1_0 h1_1 h1_2 h3 h4 h5 h6_0n h6_0nl h6_1 h6_2 h7 N (IntKind.wrap IntKind.i64 (((a1n : Nat) : Int) - (1 : Int)))) ho6) (ya (pT h7x) (ya (pT h8x) (ya (ys (ef15 N (List.getD h1_0 (0 + (Int.toNat s7l6)) (0 : Int)) h0_0 h0_1n h0_1nl h0_2n h0_2nl h0_3n h0_3nl h6_0n h6_0nl h6_1 h6_2 h3 h4 h5 h7) hc9) yz))))
      | some o =>
        cases o with
        | r0 resc9 h1_1c9 h1_2c9 =>
          dsimp only
          cases hc10 : f41 N (IntKind.wrap IntKind.i64 (a2 - (List.getD h1_1 (0 + (Int.toNat s7l6)) (0 : Int)))) (List.getD h1_2 (0 + (Int.toNat s7l6)) (0 : Int)) h6_0n h1_1c9 h1_2c9 h7 with
          | none => exact finF (ctx53 N) Try.f53 [.out (qlf53v1_1 a1n a1nl a2 h0_0 h0_1n h0_1nl h0_2n h0_2nl h0_3n h0_3nl h1_0 h1_1 h1_2 h3 h4 h5 h6_0n h6_0nl h6_1 h6_2 h7 (some (.e0 s7l6))), .b true, .b true, .call (rf15 (List.getD h1_0 (0 + (Int.toNat s7l6)) (0 : Int)) h0_0 h0_1n h0_1nl h0_2n h0_2nl h0_3n h0_3nl h6_0n h6_0nl h6_1 h6_2 h3 h4 h5 h7 (some (.r0 resc9 h1_1c9 h1_2c9))), .b true, .b true, .b true, .b true, .call (rf41 (IntKind.wrap IntKind.i64 (a2 - (List.getD h1_1 (0 + (Int.toNat s7l6)) (0 : Int)))) (List.getD h1_2 (0 + (Int.toNat s7l6)) (0 : Int)) h6_0n h6_0nl h1_1c9 h1_2c9 h7 none)] (by kernel_rfl) (ya (ys (elf53v1_1 N a1n a1nl a2 h0_0 h0_1n h0_1nl h0_2n h0_2nl h0_3n h0_3nl h1_0 h1_1 h1_2 h3 h4 h5 h6_0n h6_0nl h6_1 h6_2 h7 N (IntKind.wrap IntKind.i64 (((a1n : Nat) : Int) - (1 : Int)))) ho6) (ya (pT h7x) (ya (pT h8x) (ya (ys (ef15 N (List.getD h1_0 (0 + (Int.toNat s7l6)) (0 : Int)) h0_0 h0_1n h0_1nl h0_2n h0_2nl h0_3n h0_3nl h6_0n h6_0nl h6_1 h6_2 h3 h4 h5 h7) hc9) (ya (pT h7x) (ya (pT h8x) (ya (pT h7x) (ya (pT h8x) (ya (ys (ef41 N (IntKind.wrap IntKind.i64 (a2 - (List.getD h1_1 (0 + (Int.toNat s7l6)) (0 : Int)))) (List.getD h1_2 (0 + (Int.toNat s7l6)) (0 : Int)) h6_0n h6_0nl h1_1c9 h1_2c9 h7) hc10) yz)))))))))
          | some o =>
            cases o with
            | r0 resc10 h0_1c10 h0_2c10 =>
              dsimp only
              exact finF (ctx53 N) Try.f53 [.out (qlf53v1_1 a1n a1nl a2 h0_0 h0_1n h0_1nl h0_2n h0_2nl h0_3n h0_3nl h1_0 h1_1 h1_2 h3 h4 h5 h6_0n h6_0nl h6_1 h6_2 h7 (some (.e0 s7l6))), .b true, .b true, .call (rf15 (List.getD h1_0 (0 + (Int.toNat s7l6)) (0 : Int)) h0_0 h0_1n h0_1nl h0_2n h0_2nl h0_3n h0_3nl h6_0n h6_0nl h6_1 h6_2 h3 h4 h5 h7 (some (.r0 resc9 h1_1c9 h1_2c9))), .b true, .b true, .b true, .b true, .call (rf41 (IntKind.wrap IntKind.i64 (a2 - (List.getD h1_1 (0 + (Int.toNat s7l6)) (0 : Int)))) (List.getD h1_2 (0 + (Int.toNat s7l6)) (0 : Int)) h6_0n h6_0nl h1_1c9 h1_2c9 h7 (some (.r0 resc10 h0_1c10 h0_2c10)))] (by kernel_rfl) (ya (ys (elf53v1_1 N a1n a1nl a2 h0_0 h0_1n h0_1nl h0_2n h0_2nl h0_3n h0_3nl h1_0 h1_1 h1_2 h3 h4 h5 h6_0n h6_0nl h6_1 h6_2 h7 N (IntKind.wrap IntKind.i64 (((a1n : Nat) : Int) - (1 : Int)))) ho6) (ya (pT h7x) (ya (pT h8x) (ya (ys (ef15 N (List.getD h1_0 (0 + (Int.toNat s7l6)) (0 : Int)) h0_0 h0_1n h0_1nl h0_2n h0_2nl h0_3n h0_3nl h6_0n h6_0nl h6_1 h6_2 h3 h4 h5 h7) hc9) (ya (pT h7x) (ya (pT h8x) (ya (pT h7x) (ya (pT h8x) (ya (ys (ef41 N (IntKind.wrap IntKind.i64 (a2 - (List.getD h1_1 (0 + (Int.toNat s7l6)) (0 : Int)))) (List.getD h1_2 (0 + (Int.toNat s7l6)) (0 : Int)) h6_0n h6_0nl h1_1c9 h1_2c9 h7) hc10) yz)))))))))
            | r1 h0_1c10 h0_2c10 h2c10 =>
              dsimp only
              exact finF (ctx53 N) Try.f53 [.out (qlf53v1_1 a1n a1nl a2 h0_0 h0_1n h0_1nl h0_2n h0_2nl h0_3n h0_3nl h1_0 h1_1 h1_2 h3 h4 h5 h6_0n h6_0nl h6_1 h6_2 h7 (some (.e0 s7l6))), .b true, .b true, .call (rf15 (List.getD h1_0 (0 + (Int.toNat s7l6)) (0 : Int)) h0_0 h0_1n h0_1nl h0_2n h0_2nl h0_3n h0_3nl h6_0n h6_0nl h6_1 h6_2 h3 h4 h5 h7 (some (.r0 resc9 h1_1c9 h1_2c9))), .b true, .b true, .b true, .b true, .call (rf41 (IntKind.wrap IntKind.i64 (a2 - (List.getD h1_1 (0 + (Int.toNat s7l6)) (0 : Int)))) (List.getD h1_2 (0 + (Int.toNat s7l6)) (0 : Int)) h6_0n h6_0nl h1_1c9 h1_2c9 h7 (some (.r1 h0_1c10 h0_2c10 h2c10)))] (by kernel_rfl) (ya (ys (elf53v1_1 N a1n a1nl a2 h0_0 h0_1n h0_1nl h0_2n h0_2nl h0_3n h0_3nl h1_0 h1_1 h1_2 h3 h4 h5 h6_0n h6_0nl h6_1 h6_2 h7 N (IntKind.wrap IntKind.i64 (((a1n : Nat) : Int) - (1 : Int)))) ho6) (ya (pT h7x) (ya (pT h8x) (ya (ys (ef15 N (List.getD h1_0 (0 + (Int.toNat s7l6)) (0 : Int)) h0_0 h0_1n h0_1nl h0_2n h0_2nl h0_3n h0_3nl h6_0n h6_0nl h6_1 h6_2 h3 h4 h5 h7) hc9) (ya (pT h7x) (ya (pT h8x) (ya (pT h7x) (ya (pT h8x) (ya (ys (ef41 N (IntKind.wrap IntKind.i64 (a2 - (List.getD h1_1 (0 + (Int.toNat s7l6)) (0 : Int)))) (List.getD h1_2 (0 + (Int.toNat s7l6)) (0 : Int)) h6_0n h6_0nl h1_1c9 h1_2c9 h7) hc10) yz)))))))))
        | r1 resc9 h1_1c9 h1_2c9 h6c9 =>
          dsimp only
          cases hc11 : f41 N (IntKind.wrap IntKind.i64 (a2 - (List.getD h1_1 (0 + (Int.toNat s7l6)) (0 : Int)))) (List.getD h1_2 (0 + (Int.toNat s7l6)) (0 : Int)) (List.length h6c9) h1_1c9 h1_2c9 h6c9 with
          | none => exact finF (ctx53 N) Try.f53 [.out (qlf53v1_1 a1n a1nl a2 h0_0 h0_1n h0_1nl h0_2n h0_2nl h0_3n h0_3nl h1_0 h1_1 h1_2 h3 h4 h5 h6_0n h6_0nl h6_1 h6_2 h7 (some (.e0 s7l6))), .b true, .b true, .call (rf15 (List.getD h1_0 (0 + (Int.toNat s7l6)) (0 : Int)) h0_0 h0_1n h0_1nl h0_2n h0_2nl h0_3n h0_3nl h6_0n h6_0nl h6_1 h6_2 h3 h4 h5 h7 (some (.r1 resc9 h1_1c9 h1_2c9 h6c9))), .b true, .b true, .b true, .b true, .call (rf41 (IntKind.wrap IntKind.i64 (a2 - (List.getD h1_1 (0 + (Int.toNat s7l6)) (0 : Int)))) (List.getD h1_2 (0 + (Int.toNat s7l6)) (0 : Int)) (List.length h6c9) false h1_1c9 h1_2c9 h6c9 none)] (by kernel_rfl) (ya (ys (elf53v1_1 N a1n a1nl a2 h0_0 h0_1n h0_1nl h0_2n h0_2nl h0_3n h0_3nl h1_0 h1_1 h1_2 h3 h4 h5 h6_0n h6_0nl h6_1 h6_2 h7 N (IntKind.wrap IntKind.i64 (((a1n : Nat) : Int) - (1 : Int)))) ho6) (ya (pT h7x) (ya (pT h8x) (ya (ys (ef15 N (List.getD h1_0 (0 + (Int.toNat s7l6)) (0 : Int)) h0_0 h0_1n h0_1nl h0_2n h0_2nl h0_3n h0_3nl h6_0n h6_0nl h6_1 h6_2 h3 h4 h5 h7) hc9) (ya (pT h7x) (ya (pT h8x) (ya (pT h7x) (ya (pT h8x) (ya (ys (ef41 N (IntKind.wrap IntKind.i64 (a2 - (List.getD h1_1 (0 + (Int.toNat s7l6)) (0 : Int)))) (List.getD h1_2 (0 + (Int.toNat s7l6)) (0 : Int)) (List.length h6c9) false h1_1c9 h1_2c9 h6c9) hc11) yz)))))))))
          | some o =>
            cases o with
            | r0 resc11 h0_1c11 h0_2c11 =>
              dsimp only
              exact finF (ctx53 N) Try.f53 [.out (qlf53v1_1 a1n a1nl a2 h0_0 h0_1n h0_1nl h0_2n h0_2nl h0_3n h0_3nl h1_0 h1_1 h1_2 h3 h4 h5 h6_0n h6_0nl h6_1 h6_2 h7 (some (.e0 s7l6))), .b true, .b true, .call (rf15 (List.getD h1_0 (0 + (Int.toNat s7l6)) (0 : Int)) h0_0 h0_1n h0_1nl h0_2n h0_2nl h0_3n h0_3nl h6_0n h6_0nl h6_1 h6_2 h3 h4 h5 h7 (some (.r1 resc9 h1_1c9 h1_2c9 h6c9))), .b true, .b true, .b true, .b true, .call (rf41 (IntKind.wrap IntKind.i64 (a2 - (List.getD h1_1 (0 + (Int.toNat s7l6)) (0 : Int)))) (List.getD h1_2 (0 + (Int.toNat s7l6)) (0 : Int)) (List.length h6c9) false h1_1c9 h1_2c9 h6c9 (some (.r0 resc11 h0_1c11 h0_2c11)))] (by kernel_rfl) (ya (ys (elf53v1_1 N a1n a1nl a2 h0_0 h0_1n h0_1nl h0_2n h0_2nl h0_3n h0_3nl h1_0 h1_1 h1_2 h3 h4 h5 h6_0n h6_0nl h6_1 h6_2 h7 N (IntKind.wrap IntKind.i64 (((a1n : Nat) : Int) - (1 : Int)))) ho6) (ya (pT h7x) (ya (pT h8x) (ya (ys (ef15 N (List.getD h1_0 (0 + (Int.toNat s7l6)) (0 : Int)) h0_0 h0_1n h0_1nl h0_2n h0_2nl h0_3n h0_3nl h6_0n h6_0nl h6_1 h6_2 h3 h4 h5 h7) hc9) (ya (pT h7x) (ya (pT h8x) (ya (pT h7x) (ya (pT h8x) (ya (ys (ef41 N (IntKind.wrap IntKind.i64 (a2 - (List.getD h1_1 (0 + (Int.toNat s7l6)) (0 : Int)))) (List.getD h1_2 (0 + (Int.toNat s7l6)) (0 : Int)) (List.length h6c9) false h1_1c9 h1_2c9 h6c9) hc11) yz)))))))))
            | r1 h0_1c11 h0_2c11 h2c11 =>
              dsimp only
              exact finF (ctx53 N) Try.f53 [.out (qlf53v1_1 a1n a1nl a2 h0_0 h0_1n h0_1nl h0_2n h0_2nl h0_3n h0_3nl h1_0 h1_1 h1_2 h3 h4 h5 h6_0n h6_0nl h6_1 h6_2 h7 (some (.e0 s7l6))), .b true, .b true, .call (rf15 (List.getD h1_0 (0 + (Int.toNat s7l6)) (0 : Int)) h0_0 h0_1n h0_1nl h0_2n h0_2nl h0_3n h0_3nl h6_0n h6_0nl h6_1 h6_2 h3 h4 h5 h7 (some (.r1 resc9 h1_1c9 h1_2c9 h6c9))), .b true, .b true, .b true, .b true, .call (rf41 (IntKind.wrap IntKind.i64 (a2 - (List.getD h1_1 (0 + (Int.toNat s7l6)) (0 : Int)))) (List.getD h1_2 (0 + (Int.toNat s7l6)) (0 : Int)) (List.length h6c9) false h1_1c9 h1_2c9 h6c9 (some (.r1 h0_1c11 h0_2c11 h2c11)))] (by kernel_rfl) (ya (ys (elf53v1_1 N a1n a1nl a2 h0_0 h0_1n h0_1nl h0_2n h0_2nl h0_3n h0_3nl h1_0 h1_1 h1_2 h3 h4 h5 h6_0n h6_0nl h6_1 h6_2 h7 N (IntKind.wrap IntKind.i64 (((a1n : Nat) : Int) - (1 : Int)))) ho6) (ya (pT h7x) (ya (pT h8x) (ya (ys (ef15 N (List.getD h1_0 (0 + (Int.toNat s7l6)) (0 : Int)) h0_0 h0_1n h0_1nl h0_2n h0_2nl h0_3n h0_3nl h6_0n h6_0nl h6_1 h6_2 h3 h4 h5 h7) hc9) (ya (pT h7x) (ya (pT h8x) (ya (pT h7x) (ya (pT h8x) (ya (ys (ef41 N (IntKind.wrap IntKind.i64 (a2 - (List.getD h1_1 (0 + (Int.toNat s7l6)) (0 : Int)))) (List.getD h1_2 (0 + (Int.toNat s7l6)) (0 : Int)) (List.length h6c9) false h1_1c9 h1_2c9 h6c9) hc11) yz)))))))))
end
end Go.Proofs.Ytnkjpkfijafkgaa
